/- Part 3 of the proof. -/
import Derived.Test.YthjenkmbbnjcnaaPf2
set_option linter.unusedVariables false
set_option linter.unusedSimpArgs false
set_option linter.constructorNameAsVariable false
set_option maxRecDepth 8000
set_option maxHeartbeats 8000000
namespace Go.Proofs.Ythjenkmbbnjcnaa
open Go Go.RowKit
def BM (n:Nat) (a0:List Int) (a1:Int):Option (List Int) :=
lt (lenI a0) fun v1 =>
bn (iter n (fun (y2:Int) =>
bn (lt (gtI y2 0) fun v6 =>
ite' v6 (lt (subI .i64 y2 1) fun v7 =>
bn (nth a0 v7) fun v8 =>
lt (geI v8 a1) fun v9 =>
some (v9)) (some (false))) fun (y5:Bool) =>
lt (y5) fun v10 =>
ite' v10 (lt (subI .i64 y2 1) fun v11 =>
some (.inl v11)) (some (.inr y2))) v1) fun (y3:Int) =>
bn (lt (ltI a1 0) fun v13 =>
ite' v13 (some (true)) (lt (gtI a1 16384) fun v14 =>
ite' v14 (some (true)) (lt (lenI a0) fun v15 =>
lt (ltI y3 v15) fun v16 =>
ite' v16 (bn (nth a0 y3) fun v17 =>
lt (eqI v17 a1) fun v18 =>
some (v18)) (some (false))))) fun (y12:Bool) =>
lt (y12) fun v19 =>
ite' v19 (some a0) (bn (segh a0 y3) fun v20 =>
chk (room v20.length 8) <|
chk (room (v20.length+1) 8) <|
lt (v20++[a1]) fun v24 =>
bn (segl a0 y3) fun v25 =>
chk (room (v24.length+v25.length) 8) <|
lt (v24++v25) fun v28 =>
chk (room v28.length 1) <|
some v28)
theorem CJ {n:Nat} {a0:List Int} {a1:Int} {r:List Int} (h:BM n a0 a1=some r):Sound Try.prog 56 [.l (.d false 1 (encI a0)),.l (.s (.int .i64 a1))] [] (.l (.d false 1 (encI r))) []:=by
 unfold BM at h
 refine Sound.of_aw (fn:=Try.f56) (c:=_) Try.func56 rfl (by simp[Try.f56]) fun cx hG hnb=>?_
 rw[show Try.f56.ntmps=57 from rfl]
 have hn0:cx.nb=0:=hnb
 simp only[As,initTm,List.map_cons,List.map_nil]
 apply AW.step
 ·simp
  intros;rfl
 replace h:=ltE h;obtain⟨v1,e1,h⟩:=h
 apply AW.step
 ·simp[Ak e1]
  intros;rfl
 refine AW.seq ?_
 refine AW.block ?_
 replace h:=bnE h;obtain⟨y3,g3,h⟩:=h
 refine AW.iterP g3 (mk:=fun gh ls q=>(⟨[(0,.l (.d false 1 (encI a0))),(1,.l (.s (.int .i64 a1))),(5,.l (.s (.int .i64 q)))],[],57,gh,ls⟩:St)) (N:=fun gh ls=>(xP 0 (cx:=cx) (fun q=>(⟨[(0,.l (.d false 1 (encI a0))),(1,.l (.s (.int .i64 a1))),(5,.l (.s (.int .i64 q)))],[],57,gh,ls⟩:St)))) ?_ noX ?_ ?_
 ·refine Weak.mixN [] hn0 (by decide) ?_ ?_ rfl
  all_goals first|(simp[Ab,Ac,pickOb];done)|rfl
 ·clear h;intro y2 y4 h
  refine AW.seq ?_
  replace h:=bnE h;obtain⟨y5,g5,h⟩:=h
  refine AW.flow (p:=fun gh ls=>(nP (cx:=cx) (fun q=>(⟨[(0,.l (.d false 1 (encI a0))),(1,.l (.s (.int .i64 a1))),(5,.l (.s (.int .i64 y2))),(19,.l (.s (.bool q)))],[],57,gh,ls⟩:St))) y5) ?_ ?_
  ·replace h:=g5;clear g5
   replace h:=ltE h;obtain⟨v6,e6,h⟩:=h
   cases v6 with
   |true =>
    replace h:=iteT rfl h
    replace h:=ltE h;obtain⟨v7,e7,h⟩:=h
    replace h:=bnE h;obtain⟨v8,e8,h⟩:=h
    replace h:=ltE h;obtain⟨v9,e9,h⟩:=h
    apply AW.last
    ·simp[← e6,← e7,Aa e8,← e9]
     intros;rfl
    obtain rfl:=oi h
    refine nP_i ?_
    refine Weak.mixN [] hn0 (by decide) ?_ ?_ rfl
    all_goals first|(simp[Ab,Ac,pickOb];done)|rfl
   |false =>
    replace h:=iteF rfl h
    apply AW.last
    ·simp[← e6]
     intros;rfl
    obtain rfl:=oi h
    refine nP_i ?_
    refine Weak.mixN [] hn0 (by decide) ?_ ?_ rfl
    all_goals first|(simp[Ab,Ac,pickOb];done)|rfl
  ·rintro e s hp
   obtain⟨rfl,hw⟩:=hp
   refine⟨_,hw,?_⟩
   try simp only[nm]
   replace h:=ltE h;obtain⟨v10,e10,h⟩:=h
   rw[← e10]
   cases v10 with
   |true =>
    replace h:=iteT rfl h
    refine AW.cond_true (by simp) ?_
    refine AW.skip ?_
    try simp only[nm]
    refine AW.block ?_
    replace h:=ltE h;obtain⟨v11,e11,h⟩:=h
    apply AW.last
    ·simp[← e11]
     intros;rfl
    obtain rfl:=oi h
    refine nP_i ?_
    refine Weak.mixN [] hn0 (by decide) ?_ ?_ rfl
    all_goals first|(simp[Ab,Ac,pickOb];done)|rfl
   |false =>
    replace h:=iteF rfl h
    refine AW.cond_false (by simp) ?_
    refine AW.exit ?_
    try simp only[nm]
    obtain rfl:=oi h
    refine xP_i ?_
    refine Weak.mixN [] hn0 (by decide) ?_ ?_ rfl
    all_goals first|(simp[Ab,Ac,pickOb];done)|rfl
 ·rintro e s hp
  obtain⟨rfl,hw⟩:=hp
  refine⟨_,hw,?_⟩
  try simp only[nm]
  refine AW.seq ?_
  replace h:=bnE h;obtain⟨y12,g12,h⟩:=h
  refine AW.flow (p:=fun gh ls=>(nP (cx:=cx) (fun q=>(⟨[(0,.l (.d false 1 (encI a0))),(1,.l (.s (.int .i64 a1))),(5,.l (.s (.int .i64 y3))),(41,.l (.s (.bool q)))],[],57,gh,ls⟩:St))) y12) ?_ ?_
  ·replace h:=g12;clear g12
   replace h:=ltE h;obtain⟨v13,e13,h⟩:=h
   cases v13 with
   |true =>
    replace h:=iteT rfl h
    apply AW.last
    ·simp[← e13]
     intros;rfl
    obtain rfl:=oi h
    refine nP_i ?_
    refine Weak.mixN [] hn0 (by decide) ?_ ?_ rfl
    all_goals first|(simp[Ab,Ac,pickOb];done)|rfl
   |false =>
    replace h:=iteF rfl h
    replace h:=ltE h;obtain⟨v14,e14,h⟩:=h
    cases v14 with
    |true =>
     replace h:=iteT rfl h
     apply AW.last
     ·simp[← e13,← e14]
      intros;rfl
     obtain rfl:=oi h
     refine nP_i ?_
     refine Weak.mixN [] hn0 (by decide) ?_ ?_ rfl
     all_goals first|(simp[Ab,Ac,pickOb];done)|rfl
    |false =>
     replace h:=iteF rfl h
     replace h:=ltE h;obtain⟨v15,e15,h⟩:=h
     replace h:=ltE h;obtain⟨v16,e16,h⟩:=h
     cases v16 with
     |true =>
      replace h:=iteT rfl h
      replace h:=bnE h;obtain⟨v17,e17,h⟩:=h
      replace h:=ltE h;obtain⟨v18,e18,h⟩:=h
      apply AW.last
      ·simp[← e13,← e14,Ak e15,← e16,Aa e17,← e18]
       intros;rfl
      obtain rfl:=oi h
      refine nP_i ?_
      refine Weak.mixN [] hn0 (by decide) ?_ ?_ rfl
      all_goals first|(simp[Ab,Ac,pickOb];done)|rfl
     |false =>
      replace h:=iteF rfl h
      apply AW.last
      ·simp[← e13,← e14,Ak e15,← e16]
       intros;rfl
      obtain rfl:=oi h
      refine nP_i ?_
      refine Weak.mixN [] hn0 (by decide) ?_ ?_ rfl
      all_goals first|(simp[Ab,Ac,pickOb];done)|rfl
  ·rintro e s hp
   obtain⟨rfl,hw⟩:=hp
   refine⟨_,hw,?_⟩
   try simp only[nm]
   replace h:=ltE h;obtain⟨v19,e19,h⟩:=h
   rw[← e19]
   cases v19 with
   |true =>
    replace h:=iteT rfl h
    refine AW.cond_true (by simp) ?_
    apply AW.step
    ·simp
     intros;rfl
    obtain rfl:=oi h
    refine AW.ret ?_
    refine Left.plain hnb (by simp[Try.f56,resV,resC,comp];rfl) rfl rfl ?_
    simp
   |false =>
    replace h:=iteF rfl h
    refine AW.cond_false (by simp) ?_
    refine AW.skip ?_
    try simp only[nm]
    replace h:=bnE h;obtain⟨v20,e20,h⟩:=h
    have f21:=I0 e20
    try simp at f21
    replace h:=chkE h;obtain⟨e22,h⟩:=h
    apply AW.step
    ·simp[f21]
     intros
     refine Bu ?_
     try simp[f21]
     intros
     refine Bt (acc:=[]) (ys:=encI v20) (cap:=none) (k:=v20.length) EU Fr (by simp) (by rw[JL];simp) (by simp) (by simp) (by simp) (by first|(simp;done)|simpa using (Aw e22).1) ?_
     try simp[f21]
     intros;rfl
    replace h:=chkE h;obtain⟨e23,h⟩:=h
    replace h:=ltE h;obtain⟨v24,e24,h⟩:=h
    apply AW.step
    ·simp[← BC,← e24,Ar e24]
     intros
     refine Bu ?_
     try simp[← BC,← e24,Ar e24]
     intros
     refine Bt (acc:=encI v20) (ys:=encI [a1]) (cap:=none) (k:=1) EU Fr (by simp) (by simp[encI,lvs]) (Cn _) (by simp) (by simp) (by first|(simp;done)|simpa using (Aw e23).1) ?_
     try simp[← BC,← e24,Ar e24]
     intros;rfl
    replace h:=bnE h;obtain⟨v25,e25,h⟩:=h
    have f26:=IZ e25
    try simp at f26
    replace h:=chkE h;obtain⟨e27,h⟩:=h
    replace h:=ltE h;obtain⟨v28,e28,h⟩:=h
    apply AW.step
    ·simp[f26,← BC,← e28,H9 e28]
     intros
     refine Bt (acc:=encI v24) (ys:=encI v25) (cap:=none) (k:=v25.length) EU Fr (by simp) (by rw[JL];simp) (Cn _) (by simp) (by simp) (by first|(simp;done)|simpa using (Aw e27).1) ?_
     try simp[f26,← BC,← e28,H9 e28]
     intros;rfl
    replace h:=chkE h;obtain⟨e29,h⟩:=h
    refine AW.frzRow 4 (ty:=3) (cap:=none) (sz:=1) (es:=encI v28) (by simp) (by omega) (Cn _) (by first|exact (Aw e29).2|simpa using (Aw e29).2|simp) (by simp[Tm.frz,AV.frz,LV.frz];rfl) (by simp[Ob.frz,LV.frz];rfl) rfl ?_
    obtain rfl:=oi h
    refine AW.ret ?_
    refine Left.plain hnb (by simp[Try.f56,resV,resC,comp];rfl) rfl rfl ?_
    simp
theorem Cs:Enters Try.prog 56:=enters Try.func56 (by kernel_rfl) rfl
def Dz (n:Nat) (a0:List Span) (a1:List Span):Option (List Int) :=
chk (room 2 1) <|
bn (iter n (fun (y1:List Int×Int) =>
lt (lenI a0) fun v5 =>
lt (lenI a1) fun v6 =>
lt (addI .i64 v5 v6) fun v7 =>
lt (ltI y1.2 v7) fun v8 =>
ite' v8 (bn (bn (lt (ltI y1.2 v5) fun v11 =>
ite' v11 (bn (nth a0 y1.2) fun v12 =>
some (v12)) (lt (subI .i64 y1.2 v5) fun v13 =>
bn (nth a1 v13) fun v14 =>
some (v14))) fun (y10:Span) =>
bn (lt (leI y10.frm y10.to) fun v16 =>
ite' v16 (bn (BM n y1.1 y10.frm) fun v17 =>
some (v17)) (some (y1.1))) fun (y15:List Int) =>
bn (lt (leI y10.frm y10.to) fun v19 =>
ite' v19 (lt (ltI y10.to 16384) fun v20 =>
some (v20)) (some (false))) fun (y18:Bool) =>
lt (y18) fun v21 =>
ite' v21 (lt (addI .i64 y10.to 1) fun v22 =>
bn (BM n y15 v22) fun v23 =>
some (v23)) (some (y15))) fun (y9:List Int) =>
lt (addI .i64 y1.2 1) fun v24 =>
some (.inl (y9,v24))) (some (.inr y1.1))) ([0,16384],0)) fun (y2:List Int) =>
some y2
theorem Iv {n:Nat} {a0:List Span} {a1:List Span} {r:List Int} (h:Dz n a0 a1=some r):Sound Try.prog 50 [.l (.d false 2 (encSpan a0)),.l (.d false 2 (encSpan a1))] [] (.l (.d false 1 (encI r))) []:=by
 unfold Dz at h
 refine Sound.of_aw (fn:=Try.f50) (c:=_) Try.func50 rfl (by simp[Try.f50]) fun cx hG hnb=>?_
 rw[show Try.f50.ntmps=59 from rfl]
 have hn0:cx.nb=0:=hnb
 simp only[As,initTm,List.map_cons,List.map_nil]
 apply AW.step
 ·simp
  intros;rfl
 apply AW.step
 ·simp
  intros
  refine Bu ?_
  try simp
  intros;rfl
 refine AW.seq ?_
 apply AW.step
 ·simp
  intros;rfl
 refine AW.block ?_
 replace h:=chkE h;obtain⟨e3,h⟩:=h
 replace h:=bnE h;obtain⟨y2,g2,h⟩:=h
 refine AW.iterP g2 (mk:=fun gh ls q=>(⟨[(0,.l (.d false 2 (encSpan a0))),(1,.l (.d false 2 (encSpan a1))),(5,.l (.d false 1 (encI q.1))),(6,.l (.s (.int .i64 q.2)))],[],59,gh,ls⟩:St)) (N:=fun gh ls=>(xP 0 (cx:=cx) (fun q=>(⟨[(5,.l (.d false 1 (encI q)))],[],59,gh,ls⟩:St)))) ?_ noX ?_ ?_
 ·refine W.frzRow 0 (ty:=3) (cap:=none) (sz:=1) (es:=encI [0,16384]) (by simp[encI,lvs]) (by omega) (Cn _) (by first|exact (Aw e3).2|simpa using (Aw e3).2|simp) (by simp[Tm.frz,AV.frz,LV.frz,(show List.take 2 (encI [0,16384])=encI [0,16384] from rfl)];rfl) (by simp[Ob.frz,LV.frz,(show List.take 2 (encI [0,16384])=encI [0,16384] from rfl)];rfl) rfl ?_
  refine Weak.mixN [] hn0 (by decide) ?_ ?_ rfl
  all_goals first|(simp[Ab,Ac,pickOb];done)|rfl
 ·clear h;intro y1 y4 h
  refine AW.seq ?_
  replace h:=ltE h;obtain⟨v5,e5,h⟩:=h
  replace h:=ltE h;obtain⟨v6,e6,h⟩:=h
  replace h:=ltE h;obtain⟨v7,e7,h⟩:=h
  replace h:=ltE h;obtain⟨v8,e8,h⟩:=h
  apply AW.step
  ·simp[Ak e5,Ak e6,← e7,← e8]
   intros;rfl
  cases v8 with
  |true =>
   replace h:=iteT rfl h
   refine AW.cond_true (by simp) ?_
   refine AW.skip ?_
   try simp only[nm]
   replace h:=bnE h;obtain⟨y9,g9,h⟩:=h
   refine AW.flow (p:=fun gh ls=>(nP (cx:=cx) (fun q=>(⟨[(0,.l (.d false 2 (encSpan a0))),(1,.l (.d false 2 (encSpan a1))),(5,.l (.d false 1 (encI q))),(6,.l (.s (.int .i64 y1.2)))],[],59,gh,ls⟩:St))) y9) ?_ ?_
   ·replace h:=g9;clear g9
    refine AW.block ?_
    apply AW.step
    ·simp
     intros;rfl
    replace h:=bnE h;obtain⟨y10,g10,h⟩:=h
    refine AW.flow (p:=fun gh ls=>(nP (cx:=cx) (fun q=>(⟨[(0,.l (.d false 2 (encSpan a0))),(1,.l (.d false 2 (encSpan a1))),(5,.l (.d false 1 (encI y1.1))),(6,.l (.s (.int .i64 y1.2))),(7,.l (.p 0 0))],[some ⟨43,2,false,none,[.s (.int .i64 q.frm),.s (.int .i64 q.to)]⟩],59,gh,ls⟩:St))) y10) ?_ ?_
    ·replace h:=g10;clear g10
     replace h:=ltE h;obtain⟨v11,e11,h⟩:=h
     apply AW.step
     ·simp[Ak e5,← e11]
      intros;rfl
     cases v11 with
     |true =>
      replace h:=iteT rfl h
      refine AW.cond_true (by simp) ?_
      replace h:=bnE h;obtain⟨v12,e12,h⟩:=h
      apply AW.last
      ·simp[Aa e12]
       intros;rfl
      obtain rfl:=oi h
      refine nP_i ?_
      refine Weak.mixN [some 0] hn0 (by decide) ?_ ?_ rfl
      all_goals first|(simp[Ab,Ac,pickOb];done)|rfl
     |false =>
      replace h:=iteF rfl h
      refine AW.cond_false (by simp) ?_
      replace h:=ltE h;obtain⟨v13,e13,h⟩:=h
      replace h:=bnE h;obtain⟨v14,e14,h⟩:=h
      apply AW.last
      ·simp[Ak e5,← e13,Aa e14]
       intros;rfl
      obtain rfl:=oi h
      refine nP_i ?_
      refine Weak.mixN [some 0] hn0 (by decide) ?_ ?_ rfl
      all_goals first|(simp[Ab,Ac,pickOb];done)|rfl
    ·rintro e s hp
     obtain⟨rfl,hw⟩:=hp
     refine⟨_,hw,?_⟩
     try simp only[nm]
     replace h:=bnE h;obtain⟨y15,g15,h⟩:=h
     refine AW.flow (p:=fun gh ls=>(nP (cx:=cx) (fun q=>(⟨[(0,.l (.d false 2 (encSpan a0))),(1,.l (.d false 2 (encSpan a1))),(5,.l (.d false 1 (encI q))),(6,.l (.s (.int .i64 y1.2))),(7,.l (.p 0 0))],[some ⟨43,2,false,none,[.s (.int .i64 y10.frm),.s (.int .i64 y10.to)]⟩],59,gh,ls⟩:St))) y15) ?_ ?_
     ·replace h:=g15;clear g15
      replace h:=ltE h;obtain⟨v16,e16,h⟩:=h
      apply AW.step
      ·simp[← e16]
       intros;rfl
      cases v16 with
      |true =>
       replace h:=iteT rfl h
       refine AW.cond_true (by simp) ?_
       replace h:=bnE h;obtain⟨v17,e17,h⟩:=h
       apply AW.last
       ·simp
        intros
        refine Ah Cs (CJ e17) rfl ⟨.same rfl,.same rfl,trivial⟩ ?_
        try simp
        intros;rfl
       obtain rfl:=oi h
       refine nP_i ?_
       refine Weak.mixN [some 0] hn0 (by decide) ?_ ?_ rfl
       all_goals first|(simp[Ab,Ac,pickOb];done)|rfl
      |false =>
       replace h:=iteF rfl h
       refine AW.cond_false (by simp) ?_
       refine AW.skip ?_
       try simp only[nm]
       obtain rfl:=oi h
       refine nP_i ?_
       refine Weak.mixN [some 0] hn0 (by decide) ?_ ?_ rfl
       all_goals first|(simp[Ab,Ac,pickOb];done)|rfl
     ·rintro e s hp
      obtain⟨rfl,hw⟩:=hp
      refine⟨_,hw,?_⟩
      try simp only[nm]
      replace h:=bnE h;obtain⟨y18,g18,h⟩:=h
      refine AW.flow (p:=fun gh ls=>(nP (cx:=cx) (fun q=>(⟨[(0,.l (.d false 2 (encSpan a0))),(1,.l (.d false 2 (encSpan a1))),(5,.l (.d false 1 (encI y15))),(6,.l (.s (.int .i64 y1.2))),(7,.l (.p 0 0)),(52,.l (.s (.bool q)))],[some ⟨43,2,false,none,[.s (.int .i64 y10.frm),.s (.int .i64 y10.to)]⟩],59,gh,ls⟩:St))) y18) ?_ ?_
      ·replace h:=g18;clear g18
       replace h:=ltE h;obtain⟨v19,e19,h⟩:=h
       cases v19 with
       |true =>
        replace h:=iteT rfl h
        replace h:=ltE h;obtain⟨v20,e20,h⟩:=h
        apply AW.last
        ·simp[← e19,← e20]
         intros;rfl
        obtain rfl:=oi h
        refine nP_i ?_
        refine Weak.mixN [some 0] hn0 (by decide) ?_ ?_ rfl
        all_goals first|(simp[Ab,Ac,pickOb];done)|rfl
       |false =>
        replace h:=iteF rfl h
        apply AW.last
        ·simp[← e19]
         intros;rfl
        obtain rfl:=oi h
        refine nP_i ?_
        refine Weak.mixN [some 0] hn0 (by decide) ?_ ?_ rfl
        all_goals first|(simp[Ab,Ac,pickOb];done)|rfl
      ·rintro e s hp
       obtain⟨rfl,hw⟩:=hp
       refine⟨_,hw,?_⟩
       try simp only[nm]
       replace h:=ltE h;obtain⟨v21,e21,h⟩:=h
       rw[← e21]
       cases v21 with
       |true =>
        replace h:=iteT rfl h
        refine AW.cond_true (by simp) ?_
        replace h:=ltE h;obtain⟨v22,e22,h⟩:=h
        replace h:=bnE h;obtain⟨v23,e23,h⟩:=h
        apply AW.last
        ·simp[← e22]
         intros
         refine Ah Cs (CJ e23) rfl ⟨.same rfl,.same rfl,trivial⟩ ?_
         try simp[← e22]
         intros;rfl
        obtain rfl:=oi h
        refine nP_i ?_
        refine Weak.mixN [] hn0 (by decide) ?_ ?_ rfl
        all_goals first|(simp[Ab,Ac,pickOb];done)|rfl
       |false =>
        replace h:=iteF rfl h
        refine AW.cond_false (by simp) ?_
        refine AW.skip ?_
        try simp only[nm]
        obtain rfl:=oi h
        refine nP_i ?_
        refine Weak.mixN [] hn0 (by decide) ?_ ?_ rfl
        all_goals first|(simp[Ab,Ac,pickOb];done)|rfl
   ·rintro e s hp
    obtain⟨rfl,hw⟩:=hp
    refine⟨_,hw,?_⟩
    try simp only[nm]
    replace h:=ltE h;obtain⟨v24,e24,h⟩:=h
    apply AW.last
    ·simp[← e24]
     intros;rfl
    obtain rfl:=oi h
    refine nP_i ?_
    refine Weak.mixN [] hn0 (by decide) ?_ ?_ rfl
    all_goals first|(simp[Ab,Ac,pickOb];done)|rfl
  |false =>
   replace h:=iteF rfl h
   refine AW.cond_false (by simp) ?_
   refine AW.exit ?_
   try simp only[nm]
   obtain rfl:=oi h
   refine xP_i ?_
   refine Weak.mixN [] hn0 (by decide) ?_ ?_ rfl
   all_goals first|(simp[Ab,Ac,pickOb];done)|rfl
 ·rintro e s hp
  obtain⟨rfl,hw⟩:=hp
  refine⟨_,hw,?_⟩
  try simp only[nm]
  apply AW.step
  ·simp
   intros;rfl
  obtain rfl:=oi h
  refine AW.ret ?_
  refine Left.plain hnb (by simp[Try.f50,resV,resC,comp];rfl) rfl rfl ?_
  simp
theorem HR:Enters Try.prog 50:=enters Try.func50 (by kernel_rfl) rfl
def CK (n:Nat) (a0:List Span) (a1:Int):Option Bool :=
bn (iter n (fun (y1:Int) =>
lt (lenI a0) fun v4 =>
lt (ltI y1 v4) fun v5 =>
ite' v5 (bn (lt (geI a1 0) fun v7 =>
ite' v7 (lt (ltI a1 16384) fun v8 =>
ite' v8 (bn (nth a0 y1) fun v9 =>
lt (leI v9.frm a1) fun v10 =>
ite' v10 (lt (leI a1 v9.to) fun v11 =>
some (v11)) (some (false))) (some (false))) (some (false))) fun (y6:Bool) =>
lt (y6) fun v12 =>
ite' v12 (some (.inr (.inr true))) (lt (addI .i64 y1 1) fun v13 =>
some (.inl v13))) (some (.inr (.inl ())))) 0) fun (y2:Unit ⊕ Bool) =>
sm y2 (fun y14=>some false) (fun y15=>some y15)
theorem E3 {n:Nat} {a0:List Span} {a1:Int} {r:Bool} (h:CK n a0 a1=some r):Sound Try.prog 21 [.l (.d false 2 (encSpan a0)),.l (.s (.int .i64 a1))] [] (.l (.s (.bool r))) []:=by
 unfold CK at h
 refine Sound.of_aw (fn:=Try.f21) (c:=_) Try.func21 rfl (by simp[Try.f21]) fun cx hG hnb=>?_
 rw[show Try.f21.ntmps=36 from rfl]
 have hn0:cx.nb=0:=hnb
 simp only[As,initTm,List.map_cons,List.map_nil]
 apply AW.step
 ·simp
  intros;rfl
 refine AW.seq ?_
 apply AW.step
 ·simp
  intros;rfl
 refine AW.block ?_
 replace h:=bnE h;obtain⟨y2,g2,h⟩:=h
 refine AW.iterP g2 (mk:=fun gh ls q=>(⟨[(0,.l (.d false 2 (encSpan a0))),(1,.l (.s (.int .i64 a1))),(5,.l (.s (.int .i64 q)))],[],36,gh,ls⟩:St)) (N:=fun gh ls=>(sp (xP 0 (cx:=cx) (fun _=>(⟨[],[],36,gh,ls⟩:St))) (rP (cx:=cx) (P:=Try.prog) Try.f21 (fun q=>.l (.s (.bool q))) (fun q=>[])))) ?_ (noS noX noR) ?_ ?_
 ·refine Weak.mixN [] hn0 (by decide) ?_ ?_ rfl
  all_goals first|(simp[Ab,Ac,pickOb];done)|rfl
 ·clear h;intro y1 y3 h
  refine AW.seq ?_
  replace h:=ltE h;obtain⟨v4,e4,h⟩:=h
  replace h:=ltE h;obtain⟨v5,e5,h⟩:=h
  apply AW.step
  ·simp[Ak e4,← e5]
   intros;rfl
  cases v5 with
  |true =>
   replace h:=iteT rfl h
   refine AW.cond_true (by simp) ?_
   refine AW.skip ?_
   try simp only[nm]
   refine AW.seq ?_
   refine AW.block ?_
   replace h:=bnE h;obtain⟨y6,g6,h⟩:=h
   refine AW.flow (p:=fun gh ls=>(nP (cx:=cx) (fun q=>(⟨[(0,.l (.d false 2 (encSpan a0))),(1,.l (.s (.int .i64 a1))),(5,.l (.s (.int .i64 y1))),(35,.l (.s (.bool q)))],[],36,gh,ls⟩:St))) y6) ?_ ?_
   ·replace h:=g6;clear g6
    replace h:=ltE h;obtain⟨v7,e7,h⟩:=h
    cases v7 with
    |true =>
     replace h:=iteT rfl h
     replace h:=ltE h;obtain⟨v8,e8,h⟩:=h
     cases v8 with
     |true =>
      replace h:=iteT rfl h
      replace h:=bnE h;obtain⟨v9,e9,h⟩:=h
      replace h:=ltE h;obtain⟨v10,e10,h⟩:=h
      cases v10 with
      |true =>
       replace h:=iteT rfl h
       replace h:=ltE h;obtain⟨v11,e11,h⟩:=h
       apply AW.last
       ·simp[← e7,← e8,Aa e9,← e10,← e11]
        intros;rfl
       obtain rfl:=oi h
       refine nP_i ?_
       refine Weak.mixN [] hn0 (by decide) ?_ ?_ rfl
       all_goals first|(simp[Ab,Ac,pickOb];done)|rfl
      |false =>
       replace h:=iteF rfl h
       apply AW.last
       ·simp[← e7,← e8,Aa e9,← e10]
        intros;rfl
       obtain rfl:=oi h
       refine nP_i ?_
       refine Weak.mixN [] hn0 (by decide) ?_ ?_ rfl
       all_goals first|(simp[Ab,Ac,pickOb];done)|rfl
     |false =>
      replace h:=iteF rfl h
      apply AW.last
      ·simp[← e7,← e8]
       intros;rfl
      obtain rfl:=oi h
      refine nP_i ?_
      refine Weak.mixN [] hn0 (by decide) ?_ ?_ rfl
      all_goals first|(simp[Ab,Ac,pickOb];done)|rfl
    |false =>
     replace h:=iteF rfl h
     apply AW.last
     ·simp[← e7]
      intros;rfl
     obtain rfl:=oi h
     refine nP_i ?_
     refine Weak.mixN [] hn0 (by decide) ?_ ?_ rfl
     all_goals first|(simp[Ab,Ac,pickOb];done)|rfl
   ·rintro e s hp
    obtain⟨rfl,hw⟩:=hp
    refine⟨_,hw,?_⟩
    try simp only[nm]
    replace h:=ltE h;obtain⟨v12,e12,h⟩:=h
    rw[← e12]
    cases v12 with
    |true =>
     replace h:=iteT rfl h
     refine AW.cond_true (by simp) ?_
     apply AW.step
     ·simp
      intros;rfl
     obtain rfl:=oi h
     refine AW.ret ?_
     try simp only[nm]
     refine rP_i ?_
     refine Left.plain hnb (by simp[Try.f21,resV,resC,comp];rfl) rfl rfl ?_
     simp
    |false =>
     replace h:=iteF rfl h
     refine AW.cond_false (by simp) ?_
     refine AW.skip ?_
     try simp only[nm]
     replace h:=ltE h;obtain⟨v13,e13,h⟩:=h
     apply AW.last
     ·simp[← e13]
      intros;rfl
     obtain rfl:=oi h
     refine nP_i ?_
     refine Weak.mixN [] hn0 (by decide) ?_ ?_ rfl
     all_goals first|(simp[Ab,Ac,pickOb];done)|rfl
  |false =>
   replace h:=iteF rfl h
   refine AW.cond_false (by simp) ?_
   refine AW.exit ?_
   try simp only[nm]
   obtain rfl:=oi h
   try simp only[sp_l,sp_r]
   refine xP_i ?_
   refine Weak.mixN [] hn0 (by decide) ?_ ?_ rfl
   all_goals first|(simp[Ab,Ac,pickOb];done)|rfl
 ·rintro e s hp
  rcases y2 with y14|y15
  ·replace h:=smL h
   obtain⟨rfl,hw⟩:=hp
   refine⟨_,hw,?_⟩
   try simp only[nm]
   apply AW.step
   ·simp
    intros;rfl
   obtain rfl:=oi h
   refine AW.ret ?_
   refine Left.plain hnb (by simp[Try.f21,resV,resC,comp];rfl) rfl rfl ?_
   simp
  ·replace h:=smR h
   obtain⟨rfl,hl⟩:=hp
   refine⟨_,Weak.refl _,?_⟩
   obtain rfl:=oi h
   exact hl
theorem EF:Enters Try.prog 21:=enters Try.func21 (by kernel_rfl) rfl
def EG (n:Nat) (a0:Int) (a1:List Span) (a2:List Span):Option (List Span) :=
bn (Dz n a1 a2) fun v1 =>
bn (iter n (fun (y2:Int×List Span) =>
lt (addI .i64 y2.1 1) fun v5 =>
lt (lenI v1) fun v6 =>
lt (ltI v5 v6) fun v7 =>
ite' v7 (bn (bn (nth v1 y2.1) fun v9 =>
bn (CK n a1 v9) fun v10 =>
bn (CK n a2 v9) fun v11 =>
bn (ite' v10 (some ((true,true))) (some ((false,v11)))) fun (y12:Bool×Bool) =>
bn (lt (eqI a0 1) fun v14 =>
ite' v14 (lt (y12.1) fun v15 =>
ite' v15 (lt (notB v11) fun v16 =>
some (v16)) (some (false))) (lt (eqI a0 2) fun v17 =>
ite' v17 (lt (y12.1) fun v18 =>
ite' v18 (some (v11)) (some (false))) (some (y12.2)))) fun (y13:Bool) =>
lt (notB y13) fun v19 =>
ite' v19 (some (y2.2)) (bn (lt (lenI y2.2) fun v21 =>
lt (gtI v21 0) fun v22 =>
ite' v22 (lt (subI .i64 v21 1) fun v23 =>
bn (nth y2.2 v23) fun v24 =>
bn (nth v1 y2.1) fun v26 =>
lt (subI .i64 v26 1) fun v27 =>
lt (eqI v24.to v27) fun v28 =>
some (v28)) (some (false))) fun (y20:Bool) =>
lt (y20) fun v29 =>
ite' v29 (lt (lenI y2.2) fun v30 =>
lt (subI .i64 v30 1) fun v31 =>
lt (addI .i64 y2.1 1) fun v32 =>
bn (nth v1 v32) fun v33 =>
lt (subI .i64 v33 1) fun v34 =>
bn (nth y2.2 v31) fun v35 =>
lt (y2.2.set v31.toNat (⟨v35.frm,v34⟩:Span)) fun v37 =>
some (v37)) (bn (nth v1 y2.1) fun v40 =>
lt (addI .i64 y2.1 1) fun v41 =>
bn (nth v1 v41) fun v42 =>
lt (subI .i64 v42 1) fun v43 =>
chk (room (y2.2.length+1) 16) <|
lt (y2.2++[(⟨v40,v43⟩:Span)]) fun v45 =>
some (v45)))) fun (y8:List Span) =>
lt (addI .i64 y2.1 1) fun v46 =>
some (.inl (v46,y8))) (some (.inr y2.2))) (0,[])) fun (y3:List Span) =>
chk (room y3.length 1) <|
some y3
def DX1t1:List DI:=[⟨[0],[],[(8,none)],false⟩,⟨[0],[0],[(71,some 0)],false⟩,⟨[0],[0,1],[(72,some 1)],false⟩,⟨[0],[0,1,2],[(73,some 2)],false⟩,⟨[0],[0,1,2,3],[(8,none),(74,some 3)],false⟩,⟨[0],[0,1,2,3],[(8,none),(74,some 3)],false⟩,⟨[0],[0,1,2,3,5],[(74,some 3),(76,some 5)],false⟩,⟨[0],[0,1,2,3,5,6],[(74,some 3),(77,some 6)],false⟩,⟨[0],[0,1,2,3,4,5,6,7],[(74,some 3),(75,some 4),(78,some 7)],false⟩,⟨[0],[0,1,2,3,4,5,6,7,8],[(74,some 3),(79,some 8)],false⟩,⟨[0],[0,1,2,3,4,5,6,7,8,9],[(74,some 3),(80,some 9)],false⟩,⟨[0],[0,1,2,3],[(7,none),(74,some 3)],false⟩,⟨[0],[0,1,2,3],[(9,none),(74,some 3)],false⟩,⟨[0],[0,1,2,3,11,12],[(74,some 3),(82,some 11),(83,some 12)],false⟩,⟨[0],[0,1,2,3,11,12,13],[(74,some 3),(84,some 13)],false⟩,⟨[0],[0,1,2,3,11,12,13,14],[(74,some 3),(85,some 14)],false⟩,⟨[],[0,1,2,3,4,5,6,7,8,9,10,11,12,13,14,15],[],false⟩,⟨[],[0,1,2,3,4,5,6,7,8,9,10,11,12,13,14,15,16],[],false⟩,⟨[],[0,1,2,3,4,5,6,7,8,9,10,11,12,13,14,15,16,17],[],false⟩]
theorem Jt {n:Nat} {a0:Int} {a1:List Span} {a2:List Span} {r:List Span} (h:EG n a0 a1 a2=some r):Sound Try.prog 22 [.l (.s (.int .i64 a0)),.l (.d false 2 (encSpan a1)),.l (.d false 2 (encSpan a2))] [] (.l (.d false 2 (encSpan r))) []:=by
 unfold EG at h
 refine Sound.of_aw (fn:=Try.f22) (c:=_) Try.func22 rfl (by simp[Try.f22]) fun cx hG hnb=>?_
 rw[show Try.f22.ntmps=102 from rfl]
 have hn0:cx.nb=0:=hnb
 simp only[As,initTm,List.map_cons,List.map_nil]
 apply AW.step
 ·simp
  intros;rfl
 replace h:=bnE h;obtain⟨v1,e1,h⟩:=h
 apply AW.step
 ·simp
  intros
  refine Ah HR (Iv e1) rfl ⟨.same rfl,.same rfl,trivial⟩ ?_
  try simp
  intros;rfl
 apply AW.step
 ·simp
  intros;rfl
 refine AW.seq ?_
 apply AW.step
 ·simp
  intros;rfl
 refine AW.block ?_
 replace h:=bnE h;obtain⟨y3,g3,h⟩:=h
 refine AW.iterP g3 (mk:=fun gh ls q=>(⟨[(0,.l (.s (.int .i64 a0))),(1,.l (.d false 2 (encSpan a1))),(2,.l (.d false 2 (encSpan a2))),(7,.l (.d false 1 (encI v1))),(8,.l (.r 0 2 0 q.2.length)),(9,.l (.s (.int .i64 q.1)))],[some ⟨43,2,true,none,lvs (encSpan q.2)⟩],102,gh,ls⟩:St)) (N:=fun gh ls=>(xP 0 (cx:=cx) (fun q=>(⟨[(8,.l (.r 0 2 0 q.length))],[some ⟨43,2,true,none,lvs (encSpan q)⟩],102,gh,ls⟩:St)))) ?_ noX ?_ ?_
 ·refine W.nilRow 8 43 2 0 (by simp) rfl rfl ?_
  refine Weak.mixN [some 0] hn0 (by decide) ?_ ?_ rfl
  all_goals first|(simp[Ab,Ac,pickOb];done)|rfl
 ·clear h;intro y2 y4 h
  refine AW.seq ?_
  replace h:=ltE h;obtain⟨v5,e5,h⟩:=h
  replace h:=ltE h;obtain⟨v6,e6,h⟩:=h
  replace h:=ltE h;obtain⟨v7,e7,h⟩:=h
  apply AW.step
  ·simp[← e5,Ak e6,← e7]
   intros;rfl
  cases v7 with
  |true =>
   replace h:=iteT rfl h
   refine AW.cond_true (by simp) ?_
   refine AW.skip ?_
   try simp only[nm]
   replace h:=bnE h;obtain⟨y8,g8,h⟩:=h
   refine AW.flow (p:=fun gh ls=>(nP (cx:=cx) (fun q=>(⟨[(0,.l (.s (.int .i64 a0))),(1,.l (.d false 2 (encSpan a1))),(2,.l (.d false 2 (encSpan a2))),(7,.l (.d false 1 (encI v1))),(8,.l (.r 0 2 0 q.length)),(9,.l (.s (.int .i64 y2.1)))],[some ⟨43,2,true,none,lvs (encSpan q)⟩],102,gh,ls⟩:St))) y8) ?_ ?_
   ·replace h:=g8;clear g8
    refine AW.block ?_
    replace h:=bnE h;obtain⟨v9,e9,h⟩:=h
    replace h:=bnE h;obtain⟨v10,e10,h⟩:=h
    replace h:=bnE h;obtain⟨v11,e11,h⟩:=h
    apply AW.drawnP (V:=[_,_,_,_,_,_,_,_,_,_,_]) mixed [⟨[0],[],[(1,none)],false⟩,⟨[0],[],[(7,none)],false⟩,⟨[0],[],[(9,none)],false⟩,⟨[0],[1,2],[(24,some 1),(25,some 2)],false⟩,⟨[0],[1,2,3],[(26,some 3)],false⟩,⟨[0],[0,1,2,3,4],[(23,some 0),(27,some 4)],false⟩,⟨[0],[],[(2,none)],false⟩,⟨[0],[],[(7,none)],false⟩,⟨[0],[],[(9,none)],false⟩,⟨[0],[7,8],[(30,some 7),(31,some 8)],false⟩,⟨[0],[7,8,9],[(32,some 9)],false⟩,⟨[],[0,1,2,3,4,5,6,7,8,9,10],[],false⟩,⟨[],[0,1,2,3,4,5,6,7,8,9,10,11],[],false⟩,⟨[],[0,1,2,3,4,5,6,7,8,9,10,11,12],[],false⟩] 11 (by kernel_rfl) (by kernel_rfl)
    ·refine⟨?_,?_,?_,?_,?_,?_,?_,?_,?_,?_,?_,trivial⟩
     iterate 5 (· intro tm hr;simp[AllL,rdV] at hr;simp[hr,Aa e9];intros;first|exact KD.mk|exact KD.mkN)
     ·intro tm hr
      simp[AllL,rdV] at hr
      simp[hr,Aa e9]
      intros
      refine Ah EF (E3 e10) rfl ⟨.same rfl,.same rfl,trivial⟩ ?_
      try simp[Aa e9]
      intros;first|exact KD.mk|exact KD.mkN
     iterate 5 (· intro tm hr;simp[AllL,rdV] at hr;simp[hr,Aa e9];intros;first|exact KD.mk|exact KD.mkN)
    ·rfl
    ·simp[tmD,putD,Aa e9];rfl
    ·simp[Aa e9]
     intros
     refine Ah EF (E3 e11) rfl ⟨.same rfl,.same rfl,trivial⟩ ?_
     try simp[Aa e9]
     intros;rfl
    replace h:=bnE h;obtain⟨y12,g12,h⟩:=h
    refine AW.flow (p:=fun gh ls=>(nP (cx:=cx) (fun q=>(⟨[(0,.l (.s (.int .i64 a0))),(1,.l (.d false 2 (encSpan a1))),(2,.l (.d false 2 (encSpan a2))),(7,.l (.d false 1 (encI v1))),(8,.l (.r 0 2 0 y2.2.length)),(9,.l (.s (.int .i64 y2.1))),(10,.l (.s (.bool q.1))),(11,.l (.s (.bool v11))),(12,.l (.s (.bool q.2)))],[some ⟨43,2,true,none,lvs (encSpan y2.2)⟩],102,gh,ls⟩:St))) y12) ?_ ?_
    ·replace h:=g12;clear g12
     cases v10 with
     |true =>
      replace h:=iteT rfl h
      apply AW.last
      ·simp
       intros;rfl
      obtain rfl:=oi h
      refine nP_i ?_
      refine Weak.mixN [some 0] hn0 (by decide) ?_ ?_ rfl
      all_goals first|(simp[Ab,Ac,pickOb];done)|rfl
     |false =>
      replace h:=iteF rfl h
      apply AW.last
      ·simp
       intros;rfl
      obtain rfl:=oi h
      refine nP_i ?_
      refine Weak.mixN [some 0] hn0 (by decide) ?_ ?_ rfl
      all_goals first|(simp[Ab,Ac,pickOb];done)|rfl
    ·rintro e s hp
     obtain⟨rfl,hw⟩:=hp
     refine⟨_,hw,?_⟩
     try simp only[nm]
     replace h:=bnE h;obtain⟨y13,g13,h⟩:=h
     refine AW.flow (p:=fun gh ls=>(nP (cx:=cx) (fun q=>(⟨[(0,.l (.s (.int .i64 a0))),(1,.l (.d false 2 (encSpan a1))),(2,.l (.d false 2 (encSpan a2))),(7,.l (.d false 1 (encI v1))),(8,.l (.r 0 2 0 y2.2.length)),(9,.l (.s (.int .i64 y2.1))),(12,.l (.s (.bool q)))],[some ⟨43,2,true,none,lvs (encSpan y2.2)⟩],102,gh,ls⟩:St))) y13) ?_ ?_
     ·replace h:=g13;clear g13
      apply AW.step
      ·simp
       intros;rfl
      refine AW.block ?_
      replace h:=ltE h;obtain⟨v14,e14,h⟩:=h
      apply AW.step
      ·simp[← e14]
       intros;rfl
      cases v14 with
      |true =>
       replace h:=iteT rfl h
       refine AW.cond_true (by simp) ?_
       replace h:=ltE h;obtain⟨v15,e15,h⟩:=h
       cases v15 with
       |true =>
        replace h:=iteT rfl h
        replace h:=ltE h;obtain⟨v16,e16,h⟩:=h
        apply AW.last
        ·simp[← e15,← e16]
         intros;rfl
        obtain rfl:=oi h
        refine nP_i ?_
        refine Weak.mixN [some 0] hn0 (by decide) ?_ ?_ rfl
        all_goals first|(simp[Ab,Ac,pickOb];done)|rfl
       |false =>
        replace h:=iteF rfl h
        apply AW.last
        ·simp[← e15]
         intros;rfl
        obtain rfl:=oi h
        refine nP_i ?_
        refine Weak.mixN [some 0] hn0 (by decide) ?_ ?_ rfl
        all_goals first|(simp[Ab,Ac,pickOb];done)|rfl
      |false =>
       replace h:=iteF rfl h
       refine AW.cond_false (by simp) ?_
       replace h:=ltE h;obtain⟨v17,e17,h⟩:=h
       apply AW.step
       ·simp[← e17]
        intros;rfl
       cases v17 with
       |true =>
        replace h:=iteT rfl h
        refine AW.cond_true (by simp) ?_
        replace h:=ltE h;obtain⟨v18,e18,h⟩:=h
        cases v18 with
        |true =>
         replace h:=iteT rfl h
         apply AW.last
         ·simp[← e18]
          intros;rfl
         obtain rfl:=oi h
         refine nP_i ?_
         refine Weak.mixN [some 0] hn0 (by decide) ?_ ?_ rfl
         all_goals first|(simp[Ab,Ac,pickOb];done)|rfl
        |false =>
         replace h:=iteF rfl h
         apply AW.last
         ·simp[← e18]
          intros;rfl
         obtain rfl:=oi h
         refine nP_i ?_
         refine Weak.mixN [some 0] hn0 (by decide) ?_ ?_ rfl
         all_goals first|(simp[Ab,Ac,pickOb];done)|rfl
       |false =>
        replace h:=iteF rfl h
        refine AW.cond_false (by simp) ?_
        refine AW.skip ?_
        try simp only[nm]
        obtain rfl:=oi h
        refine nP_i ?_
        refine Weak.mixN [some 0] hn0 (by decide) ?_ ?_ rfl
        all_goals first|(simp[Ab,Ac,pickOb];done)|rfl
     ·rintro e s hp
      obtain⟨rfl,hw⟩:=hp
      refine⟨_,hw,?_⟩
      try simp only[nm]
      refine AW.block ?_
      replace h:=ltE h;obtain⟨v19,e19,h⟩:=h
      apply AW.step
      ·simp[← e19]
       intros;rfl
      cases v19 with
      |true =>
       replace h:=iteT rfl h
       refine AW.cond_true (by simp) ?_
       refine AW.exit ?_
       try simp only[nm]
       obtain rfl:=oi h
       refine nP_i ?_
       refine Weak.mixN [some 0] hn0 (by decide) ?_ ?_ rfl
       all_goals first|(simp[Ab,Ac,pickOb];done)|rfl
      |false =>
       replace h:=iteF rfl h
       refine AW.cond_false (by simp) ?_
       replace h:=bnE h;obtain⟨y20,g20,h⟩:=h
       refine AW.flow (p:=fun gh ls=>(nP (cx:=cx) (fun q=>(⟨[(0,.l (.s (.int .i64 a0))),(1,.l (.d false 2 (encSpan a1))),(2,.l (.d false 2 (encSpan a2))),(7,.l (.d false 1 (encI v1))),(8,.l (.r 0 2 0 y2.2.length)),(9,.l (.s (.int .i64 y2.1))),(70,.l (.s (.bool q)))],[some ⟨43,2,true,none,lvs (encSpan y2.2)⟩],102,gh,ls⟩:St))) y20) ?_ ?_
       ·replace h:=g20;clear g20
        replace h:=ltE h;obtain⟨v21,e21,h⟩:=h
        replace h:=ltE h;obtain⟨v22,e22,h⟩:=h
        cases v22 with
        |true =>
         replace h:=iteT rfl h
         replace h:=ltE h;obtain⟨v23,e23,h⟩:=h
         replace h:=bnE h;obtain⟨v24,e24,h⟩:=h
         have f25:=Ai e24
         try simp[Ak e21,← e22,← e23,Aa e24] at f25
         replace h:=bnE h;obtain⟨v26,e26,h⟩:=h
         replace h:=ltE h;obtain⟨v27,e27,h⟩:=h
         replace h:=ltE h;obtain⟨v28,e28,h⟩:=h
         apply AW.drawnR (V:=[_,_,_,_,_,_,_,_,_,_,_,_,_,_,_,_]) mixed DX1t1 16 (by kernel_rfl) (by kernel_rfl)
         ·refine⟨?_,?_,?_,?_,?_,?_,?_,?_,?_,?_,?_,?_,?_,?_,?_,?_,trivial⟩
          iterate 16 (· intro tm hr;simp[AllL,rdV] at hr;simp[hr,Ak e21,← e22,← e23,Aa e24,f25,AR (Aa e24).2 (j:=1) (by decide),lvs1,Aa e26,← e27,← e28];intros;first|exact KD.mk|exact KD.mkN)
         ·rfl
         ·simp[tmD,putD,Ak e21,← e22,← e23,Aa e24,f25,AR (Aa e24).2 (j:=1) (by decide),lvs1,Aa e26,← e27,← e28];rfl
         ·simp[Ak e21,← e22,← e23,Aa e24,f25,AR (Aa e24).2 (j:=1) (by decide),lvs1,Aa e26,← e27,← e28]
          intros;rfl
         obtain rfl:=oi h
         refine nP_i ?_
         refine Weak.mixN [some 0] hn0 (by decide) ?_ ?_ rfl
         all_goals first|(simp[Ab,Ac,pickOb];done)|rfl
        |false =>
         replace h:=iteF rfl h
         apply AW.drawnR (V:=[_,_,_,_,_,_,_,_,_,_,_,_,_,_,_,_]) mixed DX1t1 16 (by kernel_rfl) (by kernel_rfl)
         ·refine⟨?_,?_,?_,?_,?_,?_,?_,?_,?_,?_,?_,?_,?_,?_,?_,?_,trivial⟩
          iterate 16 (· intro tm hr;simp[AllL,rdV] at hr;simp[hr,Ak e21,← e22];intros;first|exact KD.mk|exact KD.mkN)
         ·rfl
         ·simp[tmD,putD,Ak e21,← e22];rfl
         ·simp[Ak e21,← e22]
          intros;rfl
         obtain rfl:=oi h
         refine nP_i ?_
         refine Weak.mixN [some 0] hn0 (by decide) ?_ ?_ rfl
         all_goals first|(simp[Ab,Ac,pickOb];done)|rfl
       ·rintro e s hp
        obtain⟨rfl,hw⟩:=hp
        refine⟨_,hw,?_⟩
        try simp only[nm]
        replace h:=ltE h;obtain⟨v29,e29,h⟩:=h
        rw[← e29]
        cases v29 with
        |true =>
         replace h:=iteT rfl h
         refine AW.cond_true (by simp) ?_
         replace h:=ltE h;obtain⟨v30,e30,h⟩:=h
         replace h:=ltE h;obtain⟨v31,e31,h⟩:=h
         replace h:=ltE h;obtain⟨v32,e32,h⟩:=h
         replace h:=bnE h;obtain⟨v33,e33,h⟩:=h
         replace h:=ltE h;obtain⟨v34,e34,h⟩:=h
         replace h:=bnE h;obtain⟨v35,e35,h⟩:=h
         have f36:=Ai e35
         try simp[Ak e30,← e31,← e32,Aa e33,← e34,Aa e35] at f36
         replace h:=ltE h;obtain⟨v37,e37,h⟩:=h
         have f38:=Ed (Aa e35).2 e37 (j:=1) (cs:=[.s (.int .i64 v34)]) (by simp) rfl
         try simp at f38
         have f39:=f36
         try simp only[Af e37] at f39
         apply AW.last
         ·simp[Ak e30,← e31,← e32,Aa e33,← e34,Aa e35,f36,B0 (Aa e35).2 (j:=1) (m:=1) (by decide),f38,f39]
          intros;rfl
         obtain rfl:=oi h
         refine nP_i ?_
         refine Weak.mixN [some 0] hn0 (by decide) ?_ ?_ rfl
         all_goals first|(simp[Ab,Ac,pickOb,Af e37];done)|rfl
        |false =>
         replace h:=iteF rfl h
         refine AW.cond_false (by simp) ?_
         replace h:=bnE h;obtain⟨v40,e40,h⟩:=h
         replace h:=ltE h;obtain⟨v41,e41,h⟩:=h
         replace h:=bnE h;obtain⟨v42,e42,h⟩:=h
         replace h:=ltE h;obtain⟨v43,e43,h⟩:=h
         replace h:=chkE h;obtain⟨e44,h⟩:=h
         replace h:=ltE h;obtain⟨v45,e45,h⟩:=h
         apply AW.drawnF (V:=[_,_,_,_,_,_,_,_,_,_,_,_,_]) (M:=[[some ⟨43,2,true,none,lvs (encSpan y2.2)⟩],[some ⟨43,2,true,none,lvs (encSpan y2.2)⟩,some ⟨43,2,true,none,[.s (.int .i64 v40),.s (.int .i64 v43)]⟩]]) mixed [⟨[0,1],[],[(8,none)],false⟩,⟨[0],[],[(7,none)],false⟩,⟨[0],[],[(9,none)],false⟩,⟨[0],[1,2],[(54,some 1),(55,some 2)],false⟩,⟨[0],[1,2,3],[(56,some 3)],false⟩,⟨[0],[],[(7,none)],false⟩,⟨[0],[],[(9,none)],false⟩,⟨[0],[6],[(59,some 6)],false⟩,⟨[0],[5,6,7],[(58,some 5),(60,some 7)],false⟩,⟨[0],[5,6,7,8],[(61,some 8)],false⟩,⟨[0],[5,6,7,8,9],[(62,some 9)],false⟩,⟨[0],[1,2,3,4,5,6,7,8,9,10],[(57,some 4),(63,some 10)],false⟩,⟨[0],[1,2,3,4,5,6,7,8,9,10,11],[(64,some 11)],true⟩,⟨[],[0,1,2,3,4,5,6,7,8,9,10,11,12],[],false⟩,⟨[],[0,1,2,3,4,5,6,7,8,9,10,11,12,13],[],false⟩] 13 1 (by kernel_rfl) (by kernel_rfl)
         ·rfl
         ·refine⟨⟨?_,?_⟩,?_,?_,?_,?_,?_,?_,?_,?_,?_,?_,?_,?_,trivial⟩
          iterate 13 (· intro tm hr;simp[AllL,rdV] at hr;simp[hr,Aa e40,← e41,Aa e42,← e43,← Ao,← e45,Ar e45];intros;first|exact KD.mk|exact KD.mkN)
          ·intro tm hr
           simp[AllL,rdV] at hr
           simp[hr,Aa e40,← e41,Aa e42,← e43,← Ao,← e45,Ar e45]
           intros
           refine Bu ?_
           try simp[Aa e40,← e41,Aa e42,← e43,← Ao,← e45,Ar e45]
           intros;first|exact KD.mk|exact KD.mkN
         ·rfl
         ·simp[tmD,putD,Aa e40,← e41,Aa e42,← e43,← Ao,← e45,Ar e45];rfl
         ·simp[Aa e40,← e41,Aa e42,← e43,← Ao,← e45,Ar e45]
          intros
          refine Bt (acc:=encSpan y2.2) (ys:=encSpan [(⟨v40,v43⟩:Span)]) (cap:=none) (k:=1) Dl Dk (by simp) (by simp[encSpan,lvs]) (Bh _) (by simp) (by simp) (by first|(simp;done)|simpa using (Aw e44).1) ?_
          try simp[Aa e40,← e41,Aa e42,← e43,← Ao,← e45,Ar e45]
          intros;rfl
         obtain rfl:=oi h
         refine nP_i ?_
         refine Weak.mixN [some 2] hn0 (by decide) ?_ ?_ rfl
         all_goals first|(simp[Ab,Ac,pickOb,Bk];done)|rfl
   ·rintro e s hp
    obtain⟨rfl,hw⟩:=hp
    refine⟨_,hw,?_⟩
    try simp only[nm]
    replace h:=ltE h;obtain⟨v46,e46,h⟩:=h
    apply AW.last
    ·simp[← e46]
     intros;rfl
    obtain rfl:=oi h
    refine nP_i ?_
    refine Weak.mixN [some 0] hn0 (by decide) ?_ ?_ rfl
    all_goals first|(simp[Ab,Ac,pickOb];done)|rfl
  |false =>
   replace h:=iteF rfl h
   refine AW.cond_false (by simp) ?_
   refine AW.exit ?_
   try simp only[nm]
   obtain rfl:=oi h
   refine xP_i ?_
   refine Weak.mixN [some 0] hn0 (by decide) ?_ ?_ rfl
   all_goals first|(simp[Ab,Ac,pickOb];done)|rfl
 ·rintro e s hp
  obtain⟨rfl,hw⟩:=hp
  refine⟨_,hw,?_⟩
  try simp only[nm]
  apply AW.step
  ·simp
   intros;rfl
  replace h:=chkE h;obtain⟨e47,h⟩:=h
  refine AW.frzRow 0 (ty:=43) (cap:=none) (sz:=2) (es:=encSpan y3) (by simp) (by omega) (Bh _) (by first|exact (Aw e47).2|simpa using (Aw e47).2|simp) (by simp[Tm.frz,AV.frz,LV.frz];rfl) (by simp[Ob.frz,LV.frz];rfl) rfl ?_
  obtain rfl:=oi h
  refine AW.ret ?_
  refine Left.plain hnb (by simp[Try.f22,resV,resC,comp];rfl) rfl rfl ?_
  simp
theorem I2:Enters Try.prog 22:=enters Try.func22 (by kernel_rfl) rfl
def CP (n:Nat) (a0:List Span):Option (List Span) :=
bn (EG n 0 a0 []) fun v1 =>
some v1
theorem I3 {n:Nat} {a0:List Span} {r:List Span} (h:CP n a0=some r):Sound Try.prog 28 [.l (.d false 2 (encSpan a0))] [] (.l (.d false 2 (encSpan r))) []:=by
 unfold CP at h
 refine Sound.of_aw (fn:=Try.f28) (c:=_) Try.func28 rfl (by simp[Try.f28]) fun cx hG hnb=>?_
 rw[show Try.f28.ntmps=5 from rfl]
 have hn0:cx.nb=0:=hnb
 simp only[As,initTm,List.map_cons,List.map_nil]
 apply AW.step
 ·simp
  intros;rfl
 replace h:=bnE h;obtain⟨v1,e1,h⟩:=h
 apply AW.step
 ·simp
  intros
  refine Ah I2 (Jt e1) rfl ⟨.same rfl,.same rfl,.nil _ _,trivial⟩ ?_
  try simp
  intros;rfl
 obtain rfl:=oi h
 refine AW.ret ?_
 refine Left.plain hnb (by simp[Try.f28,resV,resC,comp];rfl) rfl rfl ?_
 simp
theorem Iw:Enters Try.prog 28:=enters Try.func28 (by kernel_rfl) rfl
def Ch (n:Nat) (a0:List Int) (a1:List Claim):Option (List Int) :=
bn (iter n (fun (y1:List Int×Int) =>
lt (lenI a1) fun v4 =>
lt (ltI y1.2 v4) fun v5 =>
ite' v5 (bn (nth a1 y1.2) fun v6 =>
bn (BM n y1.1 v6.frm) fun v7 =>
lt (addI .i64 v6.to 1) fun v8 =>
bn (BM n v7 v8) fun v9 =>
lt (addI .i64 y1.2 1) fun v10 =>
some (.inl (v9,v10))) (some (.inr y1.1))) (a0,0)) fun (y2:List Int) =>
some y2
theorem EN {n:Nat} {a0:List Int} {a1:List Claim} {r:List Int} (h:Ch n a0 a1=some r):Sound Try.prog 54 [.l (.d false 1 (encI a0)),.l (.d false 4 (encClaim a1))] [] (.l (.d false 1 (encI r))) []:=by
 unfold Ch at h
 refine Sound.of_aw (fn:=Try.f54) (c:=_) Try.func54 rfl (by simp[Try.f54]) fun cx hG hnb=>?_
 rw[show Try.f54.ntmps=28 from rfl]
 have hn0:cx.nb=0:=hnb
 simp only[As,initTm,List.map_cons,List.map_nil]
 apply AW.step
 ·simp
  intros;rfl
 refine AW.seq ?_
 apply AW.step
 ·simp
  intros;rfl
 refine AW.block ?_
 replace h:=bnE h;obtain⟨y2,g2,h⟩:=h
 refine AW.iterP g2 (mk:=fun gh ls q=>(⟨[(0,.l (.d false 1 (encI q.1))),(1,.l (.d false 4 (encClaim a1))),(5,.l (.s (.int .i64 q.2)))],[],28,gh,ls⟩:St)) (N:=fun gh ls=>(xP 0 (cx:=cx) (fun q=>(⟨[(0,.l (.d false 1 (encI q)))],[],28,gh,ls⟩:St)))) ?_ noX ?_ ?_
 ·refine Weak.mixN [] hn0 (by decide) ?_ ?_ rfl
  all_goals first|(simp[Ab,Ac,pickOb];done)|rfl
 ·clear h;intro y1 y3 h
  refine AW.seq ?_
  replace h:=ltE h;obtain⟨v4,e4,h⟩:=h
  replace h:=ltE h;obtain⟨v5,e5,h⟩:=h
  apply AW.step
  ·simp[Ak e4,← e5]
   intros;rfl
  cases v5 with
  |true =>
   replace h:=iteT rfl h
   refine AW.cond_true (by simp) ?_
   refine AW.skip ?_
   try simp only[nm]
   refine AW.seq ?_
   refine AW.block ?_
   replace h:=bnE h;obtain⟨v6,e6,h⟩:=h
   replace h:=bnE h;obtain⟨v7,e7,h⟩:=h
   apply AW.step
   ·simp[Aa e6]
    intros
    refine Ah Cs (CJ e7) rfl ⟨.same rfl,.same rfl,trivial⟩ ?_
    try simp[Aa e6]
    intros;rfl
   replace h:=ltE h;obtain⟨v8,e8,h⟩:=h
   replace h:=bnE h;obtain⟨v9,e9,h⟩:=h
   apply AW.last
   ·simp[Aa e6,← e8]
    intros
    refine Ah Cs (CJ e9) rfl ⟨.same rfl,.same rfl,trivial⟩ ?_
    try simp[Aa e6,← e8]
    intros;rfl
   try simp only[nm]
   replace h:=ltE h;obtain⟨v10,e10,h⟩:=h
   apply AW.last
   ·simp[← e10]
    intros;rfl
   obtain rfl:=oi h
   refine nP_i ?_
   refine Weak.mixN [] hn0 (by decide) ?_ ?_ rfl
   all_goals first|(simp[Ab,Ac,pickOb];done)|rfl
  |false =>
   replace h:=iteF rfl h
   refine AW.cond_false (by simp) ?_
   refine AW.exit ?_
   try simp only[nm]
   obtain rfl:=oi h
   refine xP_i ?_
   refine Weak.mixN [] hn0 (by decide) ?_ ?_ rfl
   all_goals first|(simp[Ab,Ac,pickOb];done)|rfl
 ·rintro e s hp
  obtain⟨rfl,hw⟩:=hp
  refine⟨_,hw,?_⟩
  try simp only[nm]
  apply AW.step
  ·simp
   intros;rfl
  obtain rfl:=oi h
  refine AW.ret ?_
  refine Left.plain hnb (by simp[Try.f54,resV,resC,comp];rfl) rfl rfl ?_
  simp
theorem EA:Enters Try.prog 54:=enters Try.func54 (by kernel_rfl) rfl
def CL (n:Nat) (a0:List Claim) (a1:Int):Option (Int×Int) :=
bn (iter n (fun (y1:Int) =>
lt (lenI a0) fun v4 =>
lt (ltI y1 v4) fun v5 =>
ite' v5 (bn (bn (nth a0 y1) fun v7 =>
lt (leI v7.frm a1) fun v8 =>
ite' v8 (lt (leI a1 v7.to) fun v9 =>
some (v9)) (some (false))) fun (y6:Bool) =>
lt (y6) fun v10 =>
ite' v10 (bn (nth a0 y1) fun v11 =>
some (.inr (.inr (v11.node,v11.epoch)))) (lt (addI .i64 y1 1) fun v12 =>
some (.inl v12))) (some (.inr (.inl ())))) 0) fun (y2:Unit ⊕ (Int×Int)) =>
sm y2 (fun y13=>some (-1,0)) (fun y14=>some y14)
theorem E4 {n:Nat} {a0:List Claim} {a1:Int} {r:Int×Int} (h:CL n a0 a1=some r):Sound Try.prog 31 [.l (.d false 4 (encClaim a0)),.l (.s (.int .i64 a1))] [] (.t [(false,[.s (.int .i64 r.1)]),(false,[.s (.int .i64 r.2)])]) []:=by
 unfold CL at h
 refine Sound.of_aw (fn:=Try.f31) (c:=_) Try.func31 rfl (by simp[Try.f31]) fun cx hG hnb=>?_
 rw[show Try.f31.ntmps=39 from rfl]
 have hn0:cx.nb=0:=hnb
 simp only[As,initTm,List.map_cons,List.map_nil]
 apply AW.step
 ·simp
  intros;rfl
 refine AW.seq ?_
 apply AW.step
 ·simp
  intros;rfl
 refine AW.block ?_
 replace h:=bnE h;obtain⟨y2,g2,h⟩:=h
 refine AW.iterP g2 (mk:=fun gh ls q=>(⟨[(0,.l (.d false 4 (encClaim a0))),(1,.l (.s (.int .i64 a1))),(6,.l (.s (.int .i64 q)))],[],39,gh,ls⟩:St)) (N:=fun gh ls=>(sp (xP 0 (cx:=cx) (fun _=>(⟨[],[],39,gh,ls⟩:St))) (rP (cx:=cx) (P:=Try.prog) Try.f31 (fun q=>.t [(false,[.s (.int .i64 q.1)]),(false,[.s (.int .i64 q.2)])]) (fun q=>[])))) ?_ (noS noX noR) ?_ ?_
 ·refine Weak.mixN [] hn0 (by decide) ?_ ?_ rfl
  all_goals first|(simp[Ab,Ac,pickOb];done)|rfl
 ·clear h;intro y1 y3 h
  refine AW.seq ?_
  replace h:=ltE h;obtain⟨v4,e4,h⟩:=h
  replace h:=ltE h;obtain⟨v5,e5,h⟩:=h
  apply AW.step
  ·simp[Ak e4,← e5]
   intros;rfl
  cases v5 with
  |true =>
   replace h:=iteT rfl h
   refine AW.cond_true (by simp) ?_
   refine AW.skip ?_
   try simp only[nm]
   refine AW.seq ?_
   refine AW.block ?_
   replace h:=bnE h;obtain⟨y6,g6,h⟩:=h
   refine AW.flow (p:=fun gh ls=>(nP (cx:=cx) (fun q=>(⟨[(0,.l (.d false 4 (encClaim a0))),(1,.l (.s (.int .i64 a1))),(6,.l (.s (.int .i64 y1))),(28,.l (.s (.bool q)))],[],39,gh,ls⟩:St))) y6) ?_ ?_
   ·replace h:=g6;clear g6
    replace h:=bnE h;obtain⟨v7,e7,h⟩:=h
    replace h:=ltE h;obtain⟨v8,e8,h⟩:=h
    cases v8 with
    |true =>
     replace h:=iteT rfl h
     replace h:=ltE h;obtain⟨v9,e9,h⟩:=h
     apply AW.last
     ·simp[Aa e7,← e8,← e9]
      intros;rfl
     obtain rfl:=oi h
     refine nP_i ?_
     refine Weak.mixN [] hn0 (by decide) ?_ ?_ rfl
     all_goals first|(simp[Ab,Ac,pickOb];done)|rfl
    |false =>
     replace h:=iteF rfl h
     apply AW.last
     ·simp[Aa e7,← e8]
      intros;rfl
     obtain rfl:=oi h
     refine nP_i ?_
     refine Weak.mixN [] hn0 (by decide) ?_ ?_ rfl
     all_goals first|(simp[Ab,Ac,pickOb];done)|rfl
   ·rintro e s hp
    obtain⟨rfl,hw⟩:=hp
    refine⟨_,hw,?_⟩
    try simp only[nm]
    replace h:=ltE h;obtain⟨v10,e10,h⟩:=h
    rw[← e10]
    cases v10 with
    |true =>
     replace h:=iteT rfl h
     refine AW.cond_true (by simp) ?_
     replace h:=bnE h;obtain⟨v11,e11,h⟩:=h
     apply AW.drawnP (V:=[_,_,_,_,_,_,_,_,_,_,_]) mixed [⟨[0],[],[(0,none)],false⟩,⟨[0],[],[(6,none)],false⟩,⟨[0],[0,1],[(29,some 0),(30,some 1)],false⟩,⟨[0],[0,1,2],[(31,some 2)],false⟩,⟨[0],[0,1,2,3],[(32,some 3)],false⟩,⟨[0],[],[(0,none)],false⟩,⟨[0],[],[(6,none)],false⟩,⟨[0],[5,6],[(34,some 5),(35,some 6)],false⟩,⟨[0],[5,6,7],[(36,some 7)],false⟩,⟨[0],[5,6,7,8],[(37,some 8)],false⟩,⟨[0],[0,1,2,3,4],[(33,some 4)],false⟩,⟨[],[0,1,2,3,4,5,6,7,8,9,10],[],false⟩] 11 (by kernel_rfl) (by kernel_rfl)
     ·refine⟨?_,?_,?_,?_,?_,?_,?_,?_,?_,?_,?_,trivial⟩
      iterate 11 (· intro tm hr;simp[AllL,rdV] at hr;simp[hr,Aa e11];intros;first|exact KD.mk|exact KD.mkN)
     ·rfl
     ·simp[tmD,putD,Aa e11];rfl
     ·simp[Aa e11]
      intros;rfl
     obtain rfl:=oi h
     refine AW.ret ?_
     try simp only[nm]
     refine rP_i ?_
     refine Left.plain hnb (by simp[Try.f31,resV,resC,comp];rfl) rfl rfl ?_
     simp
    |false =>
     replace h:=iteF rfl h
     refine AW.cond_false (by simp) ?_
     refine AW.skip ?_
     try simp only[nm]
     replace h:=ltE h;obtain⟨v12,e12,h⟩:=h
     apply AW.last
     ·simp[← e12]
      intros;rfl
     obtain rfl:=oi h
     refine nP_i ?_
     refine Weak.mixN [] hn0 (by decide) ?_ ?_ rfl
     all_goals first|(simp[Ab,Ac,pickOb];done)|rfl
  |false =>
   replace h:=iteF rfl h
   refine AW.cond_false (by simp) ?_
   refine AW.exit ?_
   try simp only[nm]
   obtain rfl:=oi h
   try simp only[sp_l,sp_r]
   refine xP_i ?_
   refine Weak.mixN [] hn0 (by decide) ?_ ?_ rfl
   all_goals first|(simp[Ab,Ac,pickOb];done)|rfl
 ·rintro e s hp
  rcases y2 with y13|y14
  ·replace h:=smL h
   obtain⟨rfl,hw⟩:=hp
   refine⟨_,hw,?_⟩
   try simp only[nm]
   apply AW.step
   ·simp
    intros;rfl
   obtain rfl:=oi h
   refine AW.ret ?_
   refine Left.plain hnb (by simp[Try.f31,resV,resC,comp];rfl) rfl rfl ?_
   simp
  ·replace h:=smR h
   obtain⟨rfl,hl⟩:=hp
   refine⟨_,Weak.refl _,?_⟩
   obtain rfl:=oi h
   exact hl
theorem EH:Enters Try.prog 31:=enters Try.func31 (by kernel_rfl) rfl
def BW (n:Nat) (a0:List Claim) (a1:Claim):Option (List Claim) :=
lt (lenI a0) fun v1 =>
lt (subI .i64 v1 1) fun v2 =>
bn (lt (geI v2 0) fun v4 =>
ite' v4 (bn (nth a0 v2) fun v5 =>
lt (subI .i64 a1.frm 1) fun v7 =>
lt (eqI v5.to v7) fun v8 =>
ite' v8 (lt (eqI v5.node a1.node) fun v10 =>
ite' v10 (lt (eqI v5.epoch a1.epoch) fun v12 =>
some (v12)) (some (false))) (some (false))) (some (false))) fun (y3:Bool) =>
lt (y3) fun v13 =>
ite' v13 (bn (nth a0 v2) fun v14 =>
lt (a0.set v2.toNat (⟨v14.frm,a1.to,v14.node,v14.epoch⟩:Claim)) fun v16 =>
some v16) (chk (room (a0.length+1) 32) <|
lt (a0++[a1]) fun v20 =>
some v20)
def DX1t2:List DI:=[⟨[0],[],[(5,none)],false⟩,⟨[0],[0],[(9,some 0)],false⟩,⟨[0],[0,1],[(10,some 1)],false⟩,⟨[0],[0,1,2],[(0,none),(11,some 2)],false⟩,⟨[0],[0,1,2],[(5,none),(11,some 2)],false⟩,⟨[0],[0,1,2,3,4],[(11,some 2),(12,some 3),(13,some 4)],false⟩,⟨[0],[0,1,2,3,4,5],[(11,some 2),(14,some 5)],false⟩,⟨[0],[0,1,2,3,4,5,6],[(11,some 2),(15,some 6)],false⟩,⟨[0],[0,1,2],[(3,none),(11,some 2)],false⟩,⟨[0],[0,1,2,8],[(11,some 2),(17,some 8)],false⟩,⟨[0],[0,1,2,8,9],[(11,some 2),(18,some 9)],false⟩,⟨[0],[0,1,2,3,4,5,6,7,8,9,10],[(11,some 2),(16,some 7),(19,some 10)],false⟩,⟨[0],[0,1,2,3,4,5,6,7,8,9,10,11],[(11,some 2),(20,some 11)],false⟩,⟨[0],[0,1,2,3,4,5,6,7,8,9,10,11,12],[(21,some 12)],false⟩,⟨[0],[0,1,2,3,4,5,6,7,8,9,10,11,12,13],[(0,none),(22,some 13)],false⟩,⟨[0],[0,1,2,3,4,5,6,7,8,9,10,11,12,13],[(5,none),(22,some 13)],false⟩,⟨[0],[0,1,2,3,4,5,6,7,8,9,10,11,12,13,14,15],[(22,some 13),(23,some 14),(24,some 15)],false⟩,⟨[0],[0,1,2,3,4,5,6,7,8,9,10,11,12,13,14,15,16],[(22,some 13),(25,some 16)],false⟩,⟨[0],[0,1,2,3,4,5,6,7,8,9,10,11,12,13,14,15,16,17],[(22,some 13),(26,some 17)],false⟩,⟨[0],[0,1,2,3,4,5,6,7,8,9,10,11,12,13],[(3,none),(22,some 13)],false⟩,⟨[0],[0,1,2,3,4,5,6,7,8,9,10,11,12,13,19],[(22,some 13),(28,some 19)],false⟩,⟨[0],[0,1,2,3,4,5,6,7,8,9,10,11,12,13,14,15,16,17,18,19,20],[(22,some 13),(27,some 18),(29,some 20)],false⟩,⟨[0],[0,1,2,3,4,5,6,7,8,9,10,11,12,13,14,15,16,17,18,19,20,21],[(22,some 13),(30,some 21)],false⟩,⟨[0],[0,1,2,3,4,5,6,7,8,9,10,11,12,13,14,15,16,17,18,19,20,21,22],[(31,some 22)],false⟩,⟨[0],[0,1,2,3,4,5,6,7,8,9,10,11,12,13,14,15,16,17,18,19,20,21,22,23],[(0,none),(32,some 23)],false⟩,⟨[0],[0,1,2,3,4,5,6,7,8,9,10,11,12,13,14,15,16,17,18,19,20,21,22,23],[(5,none),(32,some 23)],false⟩,⟨[0],[0,1,2,3,4,5,6,7,8,9,10,11,12,13,14,15,16,17,18,19,20,21,22,23,24,25],[(32,some 23),(33,some 24),(34,some 25)],false⟩,⟨[0],[0,1,2,3,4,5,6,7,8,9,10,11,12,13,14,15,16,17,18,19,20,21,22,23,24,25,26],[(32,some 23),(35,some 26)],false⟩,⟨[0],[0,1,2,3,4,5,6,7,8,9,10,11,12,13,14,15,16,17,18,19,20,21,22,23,24,25,26,27],[(32,some 23),(36,some 27)],false⟩,⟨[0],[0,1,2,3,4,5,6,7,8,9,10,11,12,13,14,15,16,17,18,19,20,21,22,23],[(3,none),(32,some 23)],false⟩,⟨[0],[0,1,2,3,4,5,6,7,8,9,10,11,12,13,14,15,16,17,18,19,20,21,22,23,29],[(32,some 23),(38,some 29)],false⟩,⟨[],[0,1,2,3,4,5,6,7,8,9,10,11,12,13,14,15,16,17,18,19,20,21,22,23,24,25,26,27,28,29,30],[],false⟩,⟨[],[0,1,2,3,4,5,6,7,8,9,10,11,12,13,14,15,16,17,18,19,20,21,22,23,24,25,26,27,28,29,30,31],[],false⟩]
theorem Fc {n:Nat} {a0:List Claim} {a1:Claim} {r:List Claim} (h:BW n a0 a1=some r):Sound Try.prog 55 [.l (.r 0 4 0 a0.length),.g [.s (.int .i64 a1.frm),.s (.int .i64 a1.to),.s (.int .i64 a1.node),.s (.int .i64 a1.epoch)]] [⟨41,4,true,none,lvs (encClaim a0)⟩] (.l (.r 0 4 0 r.length)) [some ⟨41,4,true,none,lvs (encClaim r)⟩]:=by
 unfold BW at h
 refine Sound.of_aw (fn:=Try.f55) (c:=_) Try.func55 rfl (by simp[Try.f55]) fun cx hG hnb=>?_
 rw[show Try.f55.ntmps=53 from rfl]
 have hn0:cx.nb=1:=hnb
 simp only[As,initTm,List.map_cons,List.map_nil]
 apply AW.step
 ·simp
  intros;rfl
 refine AW.seq ?_
 replace h:=ltE h;obtain⟨v1,e1,h⟩:=h
 replace h:=ltE h;obtain⟨v2,e2,h⟩:=h
 apply AW.step
 ·simp[Ak e1,← e2]
  intros;rfl
 replace h:=bnE h;obtain⟨y3,g3,h⟩:=h
 refine AW.flow (p:=fun gh ls=>(nP (cx:=cx) (fun q=>(⟨[(0,.l (.r 0 4 0 a0.length)),(3,.l (.p 1 0)),(5,.l (.s (.int .i64 v2))),(41,.l (.s (.bool q)))],[some ⟨41,4,true,none,lvs (encClaim a0)⟩,some ⟨41,4,false,none,[.s (.int .i64 a1.frm),.s (.int .i64 a1.to),.s (.int .i64 a1.node),.s (.int .i64 a1.epoch)]⟩],53,gh,ls⟩:St))) y3) ?_ ?_
 ·replace h:=g3;clear g3
  replace h:=ltE h;obtain⟨v4,e4,h⟩:=h
  cases v4 with
  |true =>
   replace h:=iteT rfl h
   replace h:=bnE h;obtain⟨v5,e5,h⟩:=h
   have f6:=Ai e5
   try simp[← e4,Aa e5] at f6
   replace h:=ltE h;obtain⟨v7,e7,h⟩:=h
   replace h:=ltE h;obtain⟨v8,e8,h⟩:=h
   cases v8 with
   |true =>
    replace h:=iteT rfl h
    have f9:=Ai e5
    try simp[← e4,Aa e5,f6,AK (Aa e5).2 (j:=1) (by decide),lvs1,← e7,← e8] at f9
    replace h:=ltE h;obtain⟨v10,e10,h⟩:=h
    cases v10 with
    |true =>
     replace h:=iteT rfl h
     have f11:=Ai e5
     try simp[← e4,Aa e5,f6,AK (Aa e5).2 (j:=1) (by decide),lvs1,← e7,← e8,f9,AK (Aa e5).2 (j:=2) (by decide),← e10] at f11
     replace h:=ltE h;obtain⟨v12,e12,h⟩:=h
     apply AW.drawnR (V:=[_,_,_,_,_,_,_,_,_,_,_,_,_,_,_,_,_,_,_,_,_,_,_,_,_,_,_,_,_,_,_]) mixed DX1t2 31 (by kernel_rfl) (by kernel_rfl)
     ·refine⟨?_,?_,?_,?_,?_,?_,?_,?_,?_,?_,?_,?_,?_,?_,?_,?_,?_,?_,?_,?_,?_,?_,?_,?_,?_,?_,?_,?_,?_,?_,?_,trivial⟩
      iterate 31 (· intro tm hr;simp[AllL,rdV] at hr;simp[hr,← e4,Aa e5,f6,AK (Aa e5).2 (j:=1) (by decide),lvs1,← e7,← e8,f9,AK (Aa e5).2 (j:=2) (by decide),← e10,f11,AK (Aa e5).2 (j:=3) (by decide),← e12];intros;first|exact KD.mk|exact KD.mkN)
     ·rfl
     ·simp[tmD,putD,← e4,Aa e5,f6,AK (Aa e5).2 (j:=1) (by decide),lvs1,← e7,← e8,f9,AK (Aa e5).2 (j:=2) (by decide),← e10,f11,AK (Aa e5).2 (j:=3) (by decide),← e12];rfl
     ·simp[← e4,Aa e5,f6,AK (Aa e5).2 (j:=1) (by decide),lvs1,← e7,← e8,f9,AK (Aa e5).2 (j:=2) (by decide),← e10,f11,AK (Aa e5).2 (j:=3) (by decide),← e12]
      intros;rfl
     obtain rfl:=oi h
     refine nP_i ?_
     refine Weak.mixB 1 [some 0,some 1] hn0 (by decide) (by decide) ?_ ?_ ?_
     all_goals first|(simp[Ab,Ac,pickOb];done)|rfl
    |false =>
     replace h:=iteF rfl h
     apply AW.drawnR (V:=[_,_,_,_,_,_,_,_,_,_,_,_,_,_,_,_,_,_,_,_,_,_,_,_,_,_,_,_,_,_,_]) mixed DX1t2 31 (by kernel_rfl) (by kernel_rfl)
     ·refine⟨?_,?_,?_,?_,?_,?_,?_,?_,?_,?_,?_,?_,?_,?_,?_,?_,?_,?_,?_,?_,?_,?_,?_,?_,?_,?_,?_,?_,?_,?_,?_,trivial⟩
      iterate 31 (· intro tm hr;simp[AllL,rdV] at hr;simp[hr,← e4,Aa e5,f6,AK (Aa e5).2 (j:=1) (by decide),lvs1,← e7,← e8,f9,AK (Aa e5).2 (j:=2) (by decide),← e10];intros;first|exact KD.mk|exact KD.mkN)
     ·rfl
     ·simp[tmD,putD,← e4,Aa e5,f6,AK (Aa e5).2 (j:=1) (by decide),lvs1,← e7,← e8,f9,AK (Aa e5).2 (j:=2) (by decide),← e10];rfl
     ·simp[← e4,Aa e5,f6,AK (Aa e5).2 (j:=1) (by decide),lvs1,← e7,← e8,f9,AK (Aa e5).2 (j:=2) (by decide),← e10]
      intros;rfl
     obtain rfl:=oi h
     refine nP_i ?_
     refine Weak.mixB 1 [some 0,some 1] hn0 (by decide) (by decide) ?_ ?_ ?_
     all_goals first|(simp[Ab,Ac,pickOb];done)|rfl
   |false =>
    replace h:=iteF rfl h
    apply AW.drawnR (V:=[_,_,_,_,_,_,_,_,_,_,_,_,_,_,_,_,_,_,_,_,_,_,_,_,_,_,_,_,_,_,_]) mixed DX1t2 31 (by kernel_rfl) (by kernel_rfl)
    ·refine⟨?_,?_,?_,?_,?_,?_,?_,?_,?_,?_,?_,?_,?_,?_,?_,?_,?_,?_,?_,?_,?_,?_,?_,?_,?_,?_,?_,?_,?_,?_,?_,trivial⟩
     iterate 31 (· intro tm hr;simp[AllL,rdV] at hr;simp[hr,← e4,Aa e5,f6,AK (Aa e5).2 (j:=1) (by decide),lvs1,← e7,← e8];intros;first|exact KD.mk|exact KD.mkN)
    ·rfl
    ·simp[tmD,putD,← e4,Aa e5,f6,AK (Aa e5).2 (j:=1) (by decide),lvs1,← e7,← e8];rfl
    ·simp[← e4,Aa e5,f6,AK (Aa e5).2 (j:=1) (by decide),lvs1,← e7,← e8]
     intros;rfl
    obtain rfl:=oi h
    refine nP_i ?_
    refine Weak.mixB 1 [some 0,some 1] hn0 (by decide) (by decide) ?_ ?_ ?_
    all_goals first|(simp[Ab,Ac,pickOb];done)|rfl
  |false =>
   replace h:=iteF rfl h
   apply AW.drawnR (V:=[_,_,_,_,_,_,_,_,_,_,_,_,_,_,_,_,_,_,_,_,_,_,_,_,_,_,_,_,_,_,_]) mixed DX1t2 31 (by kernel_rfl) (by kernel_rfl)
   ·refine⟨?_,?_,?_,?_,?_,?_,?_,?_,?_,?_,?_,?_,?_,?_,?_,?_,?_,?_,?_,?_,?_,?_,?_,?_,?_,?_,?_,?_,?_,?_,?_,trivial⟩
    iterate 31 (· intro tm hr;simp[AllL,rdV] at hr;simp[hr,← e4];intros;first|exact KD.mk|exact KD.mkN)
   ·rfl
   ·simp[tmD,putD,← e4];rfl
   ·simp[← e4]
    intros;rfl
   obtain rfl:=oi h
   refine nP_i ?_
   refine Weak.mixB 1 [some 0,some 1] hn0 (by decide) (by decide) ?_ ?_ ?_
   all_goals first|(simp[Ab,Ac,pickOb];done)|rfl
 ·rintro e s hp
  obtain⟨rfl,hw⟩:=hp
  refine⟨_,hw,?_⟩
  try simp only[nm]
  replace h:=ltE h;obtain⟨v13,e13,h⟩:=h
  rw[← e13]
  cases v13 with
  |true =>
   replace h:=iteT rfl h
   refine AW.cond_true (by simp) ?_
   replace h:=bnE h;obtain⟨v14,e14,h⟩:=h
   have f15:=Ai e14
   try simp[Aa e14] at f15
   replace h:=ltE h;obtain⟨v16,e16,h⟩:=h
   have f17:=Fv (Aa e14).2 e16 (j:=1) (cs:=[.s (.int .i64 a1.to)]) (by simp) rfl
   try simp at f17
   have f18:=f15
   try simp only[Af e16] at f18
   apply AW.step
   ·simp[Aa e14,f15,Fb (Aa e14).2 (j:=1) (m:=1) (by decide),f17,f18]
    intros;rfl
   apply AW.step
   ·simp
    intros;rfl
   obtain rfl:=oi h
   refine AW.ret ?_
   refine Left.of (av:=_) (by simp[Try.f55,resV,resC,comp];rfl) ?_
   exact LeftV.mix 1 [some 0] hn0 rfl (by decide) rfl (by simp[pickOb,Ab,Ac,Af e16]) (by simp[Ab,Ac,Af e16])
  |false =>
   replace h:=iteF rfl h
   refine AW.cond_false (by simp) ?_
   refine AW.skip ?_
   try simp only[nm]
   replace h:=chkE h;obtain⟨e19,h⟩:=h
   replace h:=ltE h;obtain⟨v20,e20,h⟩:=h
   apply AW.step
   ·simp[St.grow,obsBut,← Bj,← e20,Ar e20]
    intros
    refine Bu ?_
    try simp[St.grow,obsBut,← Bj,← e20,Ar e20]
    intros
    refine GM (acc:=encClaim a0) (ys:=encClaim [a1]) (cap:=none) (k:=1) FF FE (by simp) (by simp[encClaim,lvs]) (BJ _) (by simp) (by simp) (by first|(simp;done)|simpa using (Aw e19).1) ?_
    try simp[St.grow,obsBut,← Bj,← e20,Ar e20]
    intros;rfl
   obtain rfl:=oi h
   refine AW.ret ?_
   refine Left.of (av:=_) (by simp[Try.f55,resV,resC,comp];rfl) ?_
   exact LeftV.mix 1 [some 0] hn0 rfl (by decide) rfl (by simp[pickOb,Ab,Ac,CT]) (by simp[Ab,Ac,CT])
theorem EV:Enters Try.prog 55:=enters Try.func55 (by kernel_rfl) rfl
def B9 (n:Nat) (a0:List Claim) (a1:List Span) (a2:Int) (a3:Int):Option (List Claim) :=
bn (CP n a1) fun v1 =>
bn (Ch n [] a0) fun v2 =>
bn (iter n (fun (y3:List Int×Int) =>
lt (lenI v1) fun v6 =>
lt (ltI y3.2 v6) fun v7 =>
ite' v7 (bn (nth v1 y3.2) fun v8 =>
bn (BM n y3.1 v8.frm) fun v9 =>
lt (addI .i64 v8.to 1) fun v10 =>
bn (BM n v9 v10) fun v11 =>
lt (addI .i64 y3.2 1) fun v12 =>
some (.inl (v11,v12))) (some (.inr y3.1))) (v2,0)) fun (y4:List Int) =>
bn (iter n (fun (y13:Int×List Claim) =>
lt (addI .i64 y13.1 1) fun v16 =>
lt (lenI y4) fun v17 =>
lt (ltI v16 v17) fun v18 =>
ite' v18 (bn (bn (nth y4 y13.1) fun v20 =>
bn (CL n a0 v20) fun v21 =>
bn (bn (CK n v1 v20) fun v23 =>
ite' v23 (some ((a2,a3))) (some ((v21.1,v21.2)))) fun (y22:Int×Int) =>
lt (geI y22.1 0) fun v24 =>
ite' v24 (bn (nth y4 y13.1) fun v25 =>
lt (addI .i64 y13.1 1) fun v26 =>
bn (nth y4 v26) fun v27 =>
lt (subI .i64 v27 1) fun v28 =>
bn (BW n y13.2 (⟨v25,v28,y22.1,y22.2⟩:Claim)) fun v29 =>
some (v29)) (some (y13.2))) fun (y19:List Claim) =>
lt (addI .i64 y13.1 1) fun v30 =>
some (.inl (v30,y19))) (some (.inr y13.2))) (0,[])) fun (y14:List Claim) =>
chk (room y14.length 1) <|
some y14
theorem Ct {n:Nat} {a0:List Claim} {a1:List Span} {a2:Int} {a3:Int} {r:List Claim} (h:B9 n a0 a1 a2 a3=some r):Sound Try.prog 36 [.l (.d false 4 (encClaim a0)),.l (.d false 2 (encSpan a1)),.l (.s (.int .i64 a2)),.l (.s (.int .i64 a3))] [] (.l (.d false 4 (encClaim r))) []:=by
 unfold B9 at h
 refine Sound.of_aw (fn:=Try.f36) (c:=_) Try.func36 rfl (by simp[Try.f36]) fun cx hG hnb=>?_
 rw[show Try.f36.ntmps=83 from rfl]
 have hn0:cx.nb=0:=hnb
 simp only[As,initTm,List.map_cons,List.map_nil]
 apply AW.step
 ·simp
  intros;rfl
 replace h:=bnE h;obtain⟨v1,e1,h⟩:=h
 apply AW.step
 ·simp
  intros
  refine Ah Iw (I3 e1) rfl ⟨.same rfl,trivial⟩ ?_
  try simp
  intros;rfl
 replace h:=bnE h;obtain⟨v2,e2,h⟩:=h
 apply AW.step
 ·simp
  intros
  refine Ah EA (EN e2) rfl ⟨.nil _ _,.same rfl,trivial⟩ ?_
  try simp
  intros;rfl
 refine AW.seq ?_
 apply AW.step
 ·simp
  intros;rfl
 refine AW.block ?_
 replace h:=bnE h;obtain⟨y4,g4,h⟩:=h
 refine AW.iterP g4 (mk:=fun gh ls q=>(⟨[(0,.l (.d false 4 (encClaim a0))),(2,.l (.s (.int .i64 a2))),(3,.l (.s (.int .i64 a3))),(9,.l (.d false 2 (encSpan v1))),(10,.l (.d false 1 (encI q.1))),(11,.l (.s (.int .i64 q.2)))],[],83,gh,ls⟩:St)) (N:=fun gh ls=>(xP 0 (cx:=cx) (fun q=>(⟨[(0,.l (.d false 4 (encClaim a0))),(2,.l (.s (.int .i64 a2))),(3,.l (.s (.int .i64 a3))),(9,.l (.d false 2 (encSpan v1))),(10,.l (.d false 1 (encI q)))],[],83,gh,ls⟩:St)))) ?_ noX ?_ ?_
 ·refine Weak.mixN [] hn0 (by decide) ?_ ?_ rfl
  all_goals first|(simp[Ab,Ac,pickOb];done)|rfl
 ·clear h;intro y3 y5 h
  refine AW.seq ?_
  replace h:=ltE h;obtain⟨v6,e6,h⟩:=h
  replace h:=ltE h;obtain⟨v7,e7,h⟩:=h
  apply AW.step
  ·simp[Ak e6,← e7]
   intros;rfl
  cases v7 with
  |true =>
   replace h:=iteT rfl h
   refine AW.cond_true (by simp) ?_
   refine AW.skip ?_
   try simp only[nm]
   refine AW.seq ?_
   refine AW.block ?_
   replace h:=bnE h;obtain⟨v8,e8,h⟩:=h
   replace h:=bnE h;obtain⟨v9,e9,h⟩:=h
   apply AW.step
   ·simp[Aa e8]
    intros
    refine Ah Cs (CJ e9) rfl ⟨.same rfl,.same rfl,trivial⟩ ?_
    try simp[Aa e8]
    intros;rfl
   replace h:=ltE h;obtain⟨v10,e10,h⟩:=h
   replace h:=bnE h;obtain⟨v11,e11,h⟩:=h
   apply AW.last
   ·simp[Aa e8,← e10]
    intros
    refine Ah Cs (CJ e11) rfl ⟨.same rfl,.same rfl,trivial⟩ ?_
    try simp[Aa e8,← e10]
    intros;rfl
   try simp only[nm]
   replace h:=ltE h;obtain⟨v12,e12,h⟩:=h
   apply AW.last
   ·simp[← e12]
    intros;rfl
   obtain rfl:=oi h
   refine nP_i ?_
   refine Weak.mixN [] hn0 (by decide) ?_ ?_ rfl
   all_goals first|(simp[Ab,Ac,pickOb];done)|rfl
  |false =>
   replace h:=iteF rfl h
   refine AW.cond_false (by simp) ?_
   refine AW.exit ?_
   try simp only[nm]
   obtain rfl:=oi h
   refine xP_i ?_
   refine Weak.mixN [] hn0 (by decide) ?_ ?_ rfl
   all_goals first|(simp[Ab,Ac,pickOb];done)|rfl
 ·rintro e s hp
  obtain⟨rfl,hw⟩:=hp
  refine⟨_,hw,?_⟩
  try simp only[nm]
  apply AW.step
  ·simp
   intros;rfl
  refine AW.seq ?_
  apply AW.step
  ·simp
   intros;rfl
  refine AW.block ?_
  replace h:=bnE h;obtain⟨y14,g14,h⟩:=h
  refine AW.iterP g14 (mk:=fun gh ls q=>(⟨[(0,.l (.d false 4 (encClaim a0))),(2,.l (.s (.int .i64 a2))),(3,.l (.s (.int .i64 a3))),(9,.l (.d false 2 (encSpan v1))),(10,.l (.d false 1 (encI y4))),(12,.l (.r 0 4 0 q.2.length)),(13,.l (.s (.int .i64 q.1)))],[some ⟨41,4,true,none,lvs (encClaim q.2)⟩],83,gh,ls⟩:St)) (N:=fun gh ls=>(xP 2 (cx:=cx) (fun q=>(⟨[(12,.l (.r 0 4 0 q.length))],[some ⟨41,4,true,none,lvs (encClaim q)⟩],83,gh,ls⟩:St)))) ?_ noX ?_ ?_
  ·refine W.nilRow 12 41 4 0 (by simp) rfl rfl ?_
   refine Weak.mixN [some 0] hn0 (by decide) ?_ ?_ rfl
   all_goals first|(simp[Ab,Ac,pickOb];done)|rfl
  ·clear h;intro y13 y15 h
   refine AW.seq ?_
   replace h:=ltE h;obtain⟨v16,e16,h⟩:=h
   replace h:=ltE h;obtain⟨v17,e17,h⟩:=h
   replace h:=ltE h;obtain⟨v18,e18,h⟩:=h
   apply AW.step
   ·simp[← e16,Ak e17,← e18]
    intros;rfl
   cases v18 with
   |true =>
    replace h:=iteT rfl h
    refine AW.cond_true (by simp) ?_
    refine AW.skip ?_
    try simp only[nm]
    replace h:=bnE h;obtain⟨y19,g19,h⟩:=h
    refine AW.flow (p:=fun gh ls=>(nP (cx:=cx) (fun q=>(⟨[(0,.l (.d false 4 (encClaim a0))),(2,.l (.s (.int .i64 a2))),(3,.l (.s (.int .i64 a3))),(9,.l (.d false 2 (encSpan v1))),(10,.l (.d false 1 (encI y4))),(12,.l (.r 0 4 0 q.length)),(13,.l (.s (.int .i64 y13.1)))],[some ⟨41,4,true,none,lvs (encClaim q)⟩],83,gh,ls⟩:St))) y19) ?_ ?_
    ·replace h:=g19;clear g19
     refine AW.block ?_
     replace h:=bnE h;obtain⟨v20,e20,h⟩:=h
     replace h:=bnE h;obtain⟨v21,e21,h⟩:=h
     apply AW.step
     ·simp[Aa e20]
      intros
      refine Ah EH (E4 e21) rfl ⟨.same rfl,.same rfl,trivial⟩ ?_
      try simp[Aa e20]
      intros;rfl
     replace h:=bnE h;obtain⟨y22,g22,h⟩:=h
     refine AW.flow (p:=fun gh ls=>(nP (cx:=cx) (fun q=>(⟨[(0,.l (.d false 4 (encClaim a0))),(2,.l (.s (.int .i64 a2))),(3,.l (.s (.int .i64 a3))),(9,.l (.d false 2 (encSpan v1))),(10,.l (.d false 1 (encI y4))),(12,.l (.r 0 4 0 y13.2.length)),(13,.l (.s (.int .i64 y13.1))),(14,.l (.s (.int .i64 q.1))),(15,.l (.s (.int .i64 q.2)))],[some ⟨41,4,true,none,lvs (encClaim y13.2)⟩],83,gh,ls⟩:St))) y22) ?_ ?_
     ·replace h:=g22;clear g22
      replace h:=bnE h;obtain⟨v23,e23,h⟩:=h
      apply AW.step
      ·simp[Aa e20]
       intros
       refine Ah EF (E3 e23) rfl ⟨.same rfl,.same rfl,trivial⟩ ?_
       try simp[Aa e20]
       intros;rfl
      cases v23 with
      |true =>
       replace h:=iteT rfl h
       refine AW.cond_true (by simp) ?_
       apply AW.step
       ·simp
        intros;rfl
       apply AW.last
       ·simp
        intros;rfl
       obtain rfl:=oi h
       refine nP_i ?_
       refine Weak.mixN [some 0] hn0 (by decide) ?_ ?_ rfl
       all_goals first|(simp[Ab,Ac,pickOb];done)|rfl
      |false =>
       replace h:=iteF rfl h
       refine AW.cond_false (by simp) ?_
       refine AW.skip ?_
       try simp only[nm]
       obtain rfl:=oi h
       refine nP_i ?_
       refine Weak.mixN [some 0] hn0 (by decide) ?_ ?_ rfl
       all_goals first|(simp[Ab,Ac,pickOb];done)|rfl
     ·rintro e s hp
      obtain⟨rfl,hw⟩:=hp
      refine⟨_,hw,?_⟩
      try simp only[nm]
      replace h:=ltE h;obtain⟨v24,e24,h⟩:=h
      apply AW.step
      ·simp[← e24]
       intros;rfl
      cases v24 with
      |true =>
       replace h:=iteT rfl h
       refine AW.cond_true (by simp) ?_
       replace h:=bnE h;obtain⟨v25,e25,h⟩:=h
       replace h:=ltE h;obtain⟨v26,e26,h⟩:=h
       replace h:=bnE h;obtain⟨v27,e27,h⟩:=h
       replace h:=ltE h;obtain⟨v28,e28,h⟩:=h
       replace h:=bnE h;obtain⟨v29,e29,h⟩:=h
       apply AW.drawnR (V:=[_,_,_,_,_,_,_,_,_,_,_,_,_,_]) mixed [⟨[0],[],[(12,none)],false⟩,⟨[0],[],[(10,none)],false⟩,⟨[0],[],[(13,none)],false⟩,⟨[0],[1,2],[(68,some 1),(69,some 2)],false⟩,⟨[0],[1,2,3],[(70,some 3)],false⟩,⟨[0],[],[(10,none)],false⟩,⟨[0],[],[(13,none)],false⟩,⟨[0],[6],[(73,some 6)],false⟩,⟨[0],[5,6,7],[(72,some 5),(74,some 7)],false⟩,⟨[0],[5,6,7,8],[(75,some 8)],false⟩,⟨[0],[5,6,7,8,9],[(76,some 9)],false⟩,⟨[0],[],[(14,none)],false⟩,⟨[0],[],[(15,none)],false⟩,⟨[0],[1,2,3,4,5,6,7,8,9,10,11,12],[(71,some 4),(77,some 10),(78,some 11),(79,some 12)],false⟩,⟨[],[0,1,2,3,4,5,6,7,8,9,10,11,12,13],[],false⟩,⟨[],[0,1,2,3,4,5,6,7,8,9,10,11,12,13,14],[],false⟩] 14 (by kernel_rfl) (by kernel_rfl)
       ·refine⟨?_,?_,?_,?_,?_,?_,?_,?_,?_,?_,?_,?_,?_,?_,trivial⟩
        iterate 14 (· intro tm hr;simp[AllL,rdV] at hr;simp[hr,Aa e25,← e26,Aa e27,← e28,obAfter,outR,keptR,Ab,Ac];intros;first|exact KD.mk|exact KD.mkN)
       ·rfl
       ·simp[tmD,putD,Aa e25,← e26,Aa e27,← e28,obAfter,outR,keptR,Ab,Ac];rfl
       ·simp[Aa e25,← e26,Aa e27,← e28,obAfter,outR,keptR,Ab,Ac]
        intros
        refine Aq [0] EV (Fc e29) (by decide) (by simp[pickOb,Ab,Ac]) rfl rfl (by simp) ⟨.l (.own' (by simp[Ab,Ac]) (by simp)),.g ⟨.s _,.s _,.s _,.s _,trivial⟩,trivial⟩ ?_
        try simp[Aa e25,← e26,Aa e27,← e28,obAfter,outR,keptR,Ab,Ac]
        intros;rfl
       obtain rfl:=oi h
       refine nP_i ?_
       refine Weak.mixN [some 0] hn0 (by decide) ?_ ?_ rfl
       all_goals first|(simp[Ab,Ac,pickOb];done)|rfl
      |false =>
       replace h:=iteF rfl h
       refine AW.cond_false (by simp) ?_
       refine AW.skip ?_
       try simp only[nm]
       obtain rfl:=oi h
       refine nP_i ?_
       refine Weak.mixN [some 0] hn0 (by decide) ?_ ?_ rfl
       all_goals first|(simp[Ab,Ac,pickOb];done)|rfl
    ·rintro e s hp
     obtain⟨rfl,hw⟩:=hp
     refine⟨_,hw,?_⟩
     try simp only[nm]
     replace h:=ltE h;obtain⟨v30,e30,h⟩:=h
     apply AW.last
     ·simp[← e30]
      intros;rfl
     obtain rfl:=oi h
     refine nP_i ?_
     refine Weak.mixN [some 0] hn0 (by decide) ?_ ?_ rfl
     all_goals first|(simp[Ab,Ac,pickOb];done)|rfl
   |false =>
    replace h:=iteF rfl h
    refine AW.cond_false (by simp) ?_
    refine AW.exit ?_
    try simp only[nm]
    obtain rfl:=oi h
    refine xP_i ?_
    refine Weak.mixN [some 0] hn0 (by decide) ?_ ?_ rfl
    all_goals first|(simp[Ab,Ac,pickOb];done)|rfl
  ·rintro e s hp
   obtain⟨rfl,hw⟩:=hp
   refine⟨_,hw,?_⟩
   try simp only[nm]
   apply AW.step
   ·simp
    intros;rfl
   replace h:=chkE h;obtain⟨e31,h⟩:=h
   refine AW.frzRow 0 (ty:=41) (cap:=none) (sz:=4) (es:=encClaim y14) (by simp) (by omega) (BJ _) (by first|exact (Aw e31).2|simpa using (Aw e31).2|simp) (by simp[Tm.frz,AV.frz,LV.frz];rfl) (by simp[Ob.frz,LV.frz];rfl) rfl ?_
   obtain rfl:=oi h
   refine AW.ret ?_
   refine Left.plain hnb (by simp[Try.f36,resV,resC,comp];rfl) rfl rfl ?_
   simp
theorem Ca:Enters Try.prog 36:=enters Try.func36 (by kernel_rfl) rfl
def C1 (n:Nat) (a0:List Claim) (a1:List Claim):Option (List Claim) :=
bn (Ch n [] a0) fun v1 =>
bn (Ch n v1 a1) fun v2 =>
bn (iter n (fun (y3:Int×List Claim) =>
lt (addI .i64 y3.1 1) fun v6 =>
lt (lenI v2) fun v7 =>
lt (ltI v6 v7) fun v8 =>
ite' v8 (bn (bn (nth v2 y3.1) fun v10 =>
bn (CL n a0 v10) fun v11 =>
bn (CL n a1 v10) fun v12 =>
bn (bn (lt (gtI v12.2 v11.2) fun v15 =>
ite' v15 (some (true)) (lt (eqI v12.2 v11.2) fun v16 =>
ite' v16 (lt (gtI v12.1 v11.1) fun v17 =>
some (v17)) (some (false)))) fun (y14:Bool) =>
lt (y14) fun v18 =>
ite' v18 (some ((v12.1,v12.2))) (some ((v11.1,v11.2)))) fun (y13:Int×Int) =>
lt (geI y13.1 0) fun v19 =>
ite' v19 (bn (nth v2 y3.1) fun v20 =>
lt (addI .i64 y3.1 1) fun v21 =>
bn (nth v2 v21) fun v22 =>
lt (subI .i64 v22 1) fun v23 =>
bn (BW n y3.2 (⟨v20,v23,y13.1,y13.2⟩:Claim)) fun v24 =>
some (v24)) (some (y3.2))) fun (y9:List Claim) =>
lt (addI .i64 y3.1 1) fun v25 =>
some (.inl (v25,y9))) (some (.inr y3.2))) (0,[])) fun (y4:List Claim) =>
chk (room y4.length 1) <|
some y4
theorem Cu {n:Nat} {a0:List Claim} {a1:List Claim} {r:List Claim} (h:C1 n a0 a1=some r):Sound Try.prog 32 [.l (.d false 4 (encClaim a0)),.l (.d false 4 (encClaim a1))] [] (.l (.d false 4 (encClaim r))) []:=by
 unfold C1 at h
 refine Sound.of_aw (fn:=Try.f32) (c:=_) Try.func32 rfl (by simp[Try.f32]) fun cx hG hnb=>?_
 rw[show Try.f32.ntmps=74 from rfl]
 have hn0:cx.nb=0:=hnb
 simp only[As,initTm,List.map_cons,List.map_nil]
 apply AW.step
 ·simp
  intros;rfl
 replace h:=bnE h;obtain⟨v1,e1,h⟩:=h
 replace h:=bnE h;obtain⟨v2,e2,h⟩:=h
 apply AW.step
 ·simp
  intros
  refine Ah EA (EN e1) rfl ⟨.nil _ _,.same rfl,trivial⟩ ?_
  try simp
  intros
  refine Ah EA (EN e2) rfl ⟨.same rfl,.same rfl,trivial⟩ ?_
  try simp
  intros;rfl
 apply AW.step
 ·simp
  intros;rfl
 refine AW.seq ?_
 apply AW.step
 ·simp
  intros;rfl
 refine AW.block ?_
 replace h:=bnE h;obtain⟨y4,g4,h⟩:=h
 refine AW.iterP g4 (mk:=fun gh ls q=>(⟨[(0,.l (.d false 4 (encClaim a0))),(1,.l (.d false 4 (encClaim a1))),(5,.l (.d false 1 (encI v2))),(6,.l (.r 0 4 0 q.2.length)),(7,.l (.s (.int .i64 q.1)))],[some ⟨41,4,true,none,lvs (encClaim q.2)⟩],74,gh,ls⟩:St)) (N:=fun gh ls=>(xP 0 (cx:=cx) (fun q=>(⟨[(6,.l (.r 0 4 0 q.length))],[some ⟨41,4,true,none,lvs (encClaim q)⟩],74,gh,ls⟩:St)))) ?_ noX ?_ ?_
 ·refine W.nilRow 6 41 4 0 (by simp) rfl rfl ?_
  refine Weak.mixN [some 0] hn0 (by decide) ?_ ?_ rfl
  all_goals first|(simp[Ab,Ac,pickOb];done)|rfl
 ·clear h;intro y3 y5 h
  refine AW.seq ?_
  replace h:=ltE h;obtain⟨v6,e6,h⟩:=h
  replace h:=ltE h;obtain⟨v7,e7,h⟩:=h
  replace h:=ltE h;obtain⟨v8,e8,h⟩:=h
  apply AW.step
  ·simp[← e6,Ak e7,← e8]
   intros;rfl
  cases v8 with
  |true =>
   replace h:=iteT rfl h
   refine AW.cond_true (by simp) ?_
   refine AW.skip ?_
   try simp only[nm]
   replace h:=bnE h;obtain⟨y9,g9,h⟩:=h
   refine AW.flow (p:=fun gh ls=>(nP (cx:=cx) (fun q=>(⟨[(0,.l (.d false 4 (encClaim a0))),(1,.l (.d false 4 (encClaim a1))),(5,.l (.d false 1 (encI v2))),(6,.l (.r 0 4 0 q.length)),(7,.l (.s (.int .i64 y3.1)))],[some ⟨41,4,true,none,lvs (encClaim q)⟩],74,gh,ls⟩:St))) y9) ?_ ?_
   ·replace h:=g9;clear g9
    refine AW.block ?_
    replace h:=bnE h;obtain⟨v10,e10,h⟩:=h
    replace h:=bnE h;obtain⟨v11,e11,h⟩:=h
    apply AW.step
    ·simp[Aa e10]
     intros
     refine Ah EH (E4 e11) rfl ⟨.same rfl,.same rfl,trivial⟩ ?_
     try simp[Aa e10]
     intros;rfl
    replace h:=bnE h;obtain⟨v12,e12,h⟩:=h
    apply AW.step
    ·simp[Aa e10]
     intros
     refine Ah EH (E4 e12) rfl ⟨.same rfl,.same rfl,trivial⟩ ?_
     try simp[Aa e10]
     intros;rfl
    replace h:=bnE h;obtain⟨y13,g13,h⟩:=h
    refine AW.flow (p:=fun gh ls=>(nP (cx:=cx) (fun q=>(⟨[(0,.l (.d false 4 (encClaim a0))),(1,.l (.d false 4 (encClaim a1))),(5,.l (.d false 1 (encI v2))),(6,.l (.r 0 4 0 y3.2.length)),(7,.l (.s (.int .i64 y3.1))),(8,.l (.s (.int .i64 q.1))),(9,.l (.s (.int .i64 q.2)))],[some ⟨41,4,true,none,lvs (encClaim y3.2)⟩],74,gh,ls⟩:St))) y13) ?_ ?_
    ·replace h:=g13;clear g13
     replace h:=bnE h;obtain⟨y14,g14,h⟩:=h
     refine AW.flow (p:=fun gh ls=>(nP (cx:=cx) (fun q=>(⟨[(0,.l (.d false 4 (encClaim a0))),(1,.l (.d false 4 (encClaim a1))),(5,.l (.d false 1 (encI v2))),(6,.l (.r 0 4 0 y3.2.length)),(7,.l (.s (.int .i64 y3.1))),(8,.l (.s (.int .i64 v11.1))),(9,.l (.s (.int .i64 v11.2))),(10,.l (.s (.int .i64 v12.1))),(11,.l (.s (.int .i64 v12.2))),(53,.l (.s (.bool q)))],[some ⟨41,4,true,none,lvs (encClaim y3.2)⟩],74,gh,ls⟩:St))) y14) ?_ ?_
     ·replace h:=g14;clear g14
      replace h:=ltE h;obtain⟨v15,e15,h⟩:=h
      cases v15 with
      |true =>
       replace h:=iteT rfl h
       apply AW.last
       ·simp[← e15]
        intros;rfl
       obtain rfl:=oi h
       refine nP_i ?_
       refine Weak.mixN [some 0] hn0 (by decide) ?_ ?_ rfl
       all_goals first|(simp[Ab,Ac,pickOb];done)|rfl
      |false =>
       replace h:=iteF rfl h
       replace h:=ltE h;obtain⟨v16,e16,h⟩:=h
       cases v16 with
       |true =>
        replace h:=iteT rfl h
        replace h:=ltE h;obtain⟨v17,e17,h⟩:=h
        apply AW.last
        ·simp[← e15,← e16,← e17]
         intros;rfl
        obtain rfl:=oi h
        refine nP_i ?_
        refine Weak.mixN [some 0] hn0 (by decide) ?_ ?_ rfl
        all_goals first|(simp[Ab,Ac,pickOb];done)|rfl
       |false =>
        replace h:=iteF rfl h
        apply AW.last
        ·simp[← e15,← e16]
         intros;rfl
        obtain rfl:=oi h
        refine nP_i ?_
        refine Weak.mixN [some 0] hn0 (by decide) ?_ ?_ rfl
        all_goals first|(simp[Ab,Ac,pickOb];done)|rfl
     ·rintro e s hp
      obtain⟨rfl,hw⟩:=hp
      refine⟨_,hw,?_⟩
      try simp only[nm]
      replace h:=ltE h;obtain⟨v18,e18,h⟩:=h
      rw[← e18]
      cases v18 with
      |true =>
       replace h:=iteT rfl h
       refine AW.cond_true (by simp) ?_
       apply AW.step
       ·simp
        intros;rfl
       apply AW.last
       ·simp
        intros;rfl
       obtain rfl:=oi h
       refine nP_i ?_
       refine Weak.mixN [some 0] hn0 (by decide) ?_ ?_ rfl
       all_goals first|(simp[Ab,Ac,pickOb];done)|rfl
      |false =>
       replace h:=iteF rfl h
       refine AW.cond_false (by simp) ?_
       refine AW.skip ?_
       try simp only[nm]
       obtain rfl:=oi h
       refine nP_i ?_
       refine Weak.mixN [some 0] hn0 (by decide) ?_ ?_ rfl
       all_goals first|(simp[Ab,Ac,pickOb];done)|rfl
    ·rintro e s hp
     obtain⟨rfl,hw⟩:=hp
     refine⟨_,hw,?_⟩
     try simp only[nm]
     replace h:=ltE h;obtain⟨v19,e19,h⟩:=h
     apply AW.step
     ·simp[← e19]
      intros;rfl
     cases v19 with
     |true =>
      replace h:=iteT rfl h
      refine AW.cond_true (by simp) ?_
      replace h:=bnE h;obtain⟨v20,e20,h⟩:=h
      replace h:=ltE h;obtain⟨v21,e21,h⟩:=h
      replace h:=bnE h;obtain⟨v22,e22,h⟩:=h
      replace h:=ltE h;obtain⟨v23,e23,h⟩:=h
      replace h:=bnE h;obtain⟨v24,e24,h⟩:=h
      apply AW.drawnR (V:=[_,_,_,_,_,_,_,_,_,_,_,_,_,_]) mixed [⟨[0],[],[(6,none)],false⟩,⟨[0],[],[(5,none)],false⟩,⟨[0],[],[(7,none)],false⟩,⟨[0],[1,2],[(59,some 1),(60,some 2)],false⟩,⟨[0],[1,2,3],[(61,some 3)],false⟩,⟨[0],[],[(5,none)],false⟩,⟨[0],[],[(7,none)],false⟩,⟨[0],[6],[(64,some 6)],false⟩,⟨[0],[5,6,7],[(63,some 5),(65,some 7)],false⟩,⟨[0],[5,6,7,8],[(66,some 8)],false⟩,⟨[0],[5,6,7,8,9],[(67,some 9)],false⟩,⟨[0],[],[(8,none)],false⟩,⟨[0],[],[(9,none)],false⟩,⟨[0],[1,2,3,4,5,6,7,8,9,10,11,12],[(62,some 4),(68,some 10),(69,some 11),(70,some 12)],false⟩,⟨[],[0,1,2,3,4,5,6,7,8,9,10,11,12,13],[],false⟩,⟨[],[0,1,2,3,4,5,6,7,8,9,10,11,12,13,14],[],false⟩] 14 (by kernel_rfl) (by kernel_rfl)
      ·refine⟨?_,?_,?_,?_,?_,?_,?_,?_,?_,?_,?_,?_,?_,?_,trivial⟩
       iterate 14 (· intro tm hr;simp[AllL,rdV] at hr;simp[hr,Aa e20,← e21,Aa e22,← e23,obAfter,outR,keptR,Ab,Ac];intros;first|exact KD.mk|exact KD.mkN)
      ·rfl
      ·simp[tmD,putD,Aa e20,← e21,Aa e22,← e23,obAfter,outR,keptR,Ab,Ac];rfl
      ·simp[Aa e20,← e21,Aa e22,← e23,obAfter,outR,keptR,Ab,Ac]
       intros
       refine Aq [0] EV (Fc e24) (by decide) (by simp[pickOb,Ab,Ac]) rfl rfl (by simp) ⟨.l (.own' (by simp[Ab,Ac]) (by simp)),.g ⟨.s _,.s _,.s _,.s _,trivial⟩,trivial⟩ ?_
       try simp[Aa e20,← e21,Aa e22,← e23,obAfter,outR,keptR,Ab,Ac]
       intros;rfl
      obtain rfl:=oi h
      refine nP_i ?_
      refine Weak.mixN [some 0] hn0 (by decide) ?_ ?_ rfl
      all_goals first|(simp[Ab,Ac,pickOb];done)|rfl
     |false =>
      replace h:=iteF rfl h
      refine AW.cond_false (by simp) ?_
      refine AW.skip ?_
      try simp only[nm]
      obtain rfl:=oi h
      refine nP_i ?_
      refine Weak.mixN [some 0] hn0 (by decide) ?_ ?_ rfl
      all_goals first|(simp[Ab,Ac,pickOb];done)|rfl
   ·rintro e s hp
    obtain⟨rfl,hw⟩:=hp
    refine⟨_,hw,?_⟩
    try simp only[nm]
    replace h:=ltE h;obtain⟨v25,e25,h⟩:=h
    apply AW.last
    ·simp[← e25]
     intros;rfl
    obtain rfl:=oi h
    refine nP_i ?_
    refine Weak.mixN [some 0] hn0 (by decide) ?_ ?_ rfl
    all_goals first|(simp[Ab,Ac,pickOb];done)|rfl
  |false =>
   replace h:=iteF rfl h
   refine AW.cond_false (by simp) ?_
   refine AW.exit ?_
   try simp only[nm]
   obtain rfl:=oi h
   refine xP_i ?_
   refine Weak.mixN [some 0] hn0 (by decide) ?_ ?_ rfl
   all_goals first|(simp[Ab,Ac,pickOb];done)|rfl
 ·rintro e s hp
  obtain⟨rfl,hw⟩:=hp
  refine⟨_,hw,?_⟩
  try simp only[nm]
  apply AW.step
  ·simp
   intros;rfl
  replace h:=chkE h;obtain⟨e26,h⟩:=h
  refine AW.frzRow 0 (ty:=41) (cap:=none) (sz:=4) (es:=encClaim y4) (by simp) (by omega) (BJ _) (by first|exact (Aw e26).2|simpa using (Aw e26).2|simp) (by simp[Tm.frz,AV.frz,LV.frz];rfl) (by simp[Ob.frz,LV.frz];rfl) rfl ?_
  obtain rfl:=oi h
  refine AW.ret ?_
  refine Left.plain hnb (by simp[Try.f32,resV,resC,comp];rfl) rfl rfl ?_
  simp
theorem Cb:Enters Try.prog 32:=enters Try.func32 (by kernel_rfl) rfl
def Bc (n:Nat) (a0:List Claim) (a1:List Claim):Option Bool :=
lt (lenI a0) fun v1 =>
lt (lenI a1) fun v2 =>
lt (neI v1 v2) fun v3 =>
ite' v3 (some false) (bn (iter n (fun (y4:Int) =>
lt (lenI a0) fun v7 =>
lt (ltI y4 v7) fun v8 =>
ite' v8 (bn (nth a0 y4) fun v9 =>
bn (nth a1 y4) fun v10 =>
lt (notB (andB (eqI v9.frm v10.frm) (andB (eqI v9.to v10.to) (andB (eqI v9.node v10.node) (andB (eqI v9.epoch v10.epoch) true))))) fun v11 =>
ite' v11 (some (.inr (.inr false))) (lt (addI .i64 y4 1) fun v12 =>
some (.inl v12))) (some (.inr (.inl ())))) 0) fun (y5:Unit ⊕ Bool) =>
sm y5 (fun y13=>some true) (fun y14=>some y14))
theorem AP {n:Nat} {a0:List Claim} {a1:List Claim} {r:Bool} (h:Bc n a0 a1=some r):Sound Try.prog 17 [.l (.d false 4 (encClaim a0)),.l (.d false 4 (encClaim a1))] [] (.l (.s (.bool r))) []:=by
 unfold Bc at h
 refine Sound.of_aw (fn:=Try.f17) (c:=_) Try.func17 rfl (by simp[Try.f17]) fun cx hG hnb=>?_
 rw[show Try.f17.ntmps=26 from rfl]
 have hn0:cx.nb=0:=hnb
 simp only[As,initTm,List.map_cons,List.map_nil]
 apply AW.step
 ·simp
  intros;rfl
 refine AW.seq ?_
 replace h:=ltE h;obtain⟨v1,e1,h⟩:=h
 replace h:=ltE h;obtain⟨v2,e2,h⟩:=h
 replace h:=ltE h;obtain⟨v3,e3,h⟩:=h
 apply AW.step
 ·simp[Ak e1,Ak e2,← e3]
  intros;rfl
 cases v3 with
 |true =>
  replace h:=iteT rfl h
  refine AW.cond_true (by simp) ?_
  apply AW.step
  ·simp
   intros;rfl
  obtain rfl:=oi h
  refine AW.ret ?_
  refine Left.plain hnb (by simp[Try.f17,resV,resC,comp];rfl) rfl rfl ?_
  simp
 |false =>
  replace h:=iteF rfl h
  refine AW.cond_false (by simp) ?_
  refine AW.skip ?_
  try simp only[nm]
  refine AW.seq ?_
  apply AW.step
  ·simp
   intros;rfl
  refine AW.block ?_
  replace h:=bnE h;obtain⟨y5,g5,h⟩:=h
  refine AW.iterP g5 (mk:=fun gh ls q=>(⟨[(0,.l (.d false 4 (encClaim a0))),(1,.l (.d false 4 (encClaim a1))),(5,.l (.s (.int .i64 q)))],[],26,gh,ls⟩:St)) (N:=fun gh ls=>(sp (xP 0 (cx:=cx) (fun _=>(⟨[],[],26,gh,ls⟩:St))) (rP (cx:=cx) (P:=Try.prog) Try.f17 (fun q=>.l (.s (.bool q))) (fun q=>[])))) ?_ (noS noX noR) ?_ ?_
  ·refine Weak.mixN [] hn0 (by decide) ?_ ?_ rfl
   all_goals first|(simp[Ab,Ac,pickOb];done)|rfl
  ·clear h;intro y4 y6 h
   refine AW.seq ?_
   replace h:=ltE h;obtain⟨v7,e7,h⟩:=h
   replace h:=ltE h;obtain⟨v8,e8,h⟩:=h
   apply AW.step
   ·simp[Ak e7,← e8]
    intros;rfl
   cases v8 with
   |true =>
    replace h:=iteT rfl h
    refine AW.cond_true (by simp) ?_
    refine AW.skip ?_
    try simp only[nm]
    refine AW.seq ?_
    refine AW.block ?_
    replace h:=bnE h;obtain⟨v9,e9,h⟩:=h
    replace h:=bnE h;obtain⟨v10,e10,h⟩:=h
    replace h:=ltE h;obtain⟨v11,e11,h⟩:=h
    apply AW.drawnP (V:=[_,_,_,_,_,_,_,_]) mixed [⟨[0],[],[(0,none)],false⟩,⟨[0],[],[(5,none)],false⟩,⟨[0],[0,1],[(17,some 0),(18,some 1)],false⟩,⟨[0],[0,1,2],[(19,some 2)],false⟩,⟨[0],[],[(1,none)],false⟩,⟨[0],[],[(5,none)],false⟩,⟨[0],[4,5],[(21,some 4),(22,some 5)],false⟩,⟨[0],[4,5,6],[(23,some 6)],false⟩,⟨[],[0,1,2,3,4,5,6,7],[],false⟩] 8 (by kernel_rfl) (by kernel_rfl)
    ·refine⟨?_,?_,?_,?_,?_,?_,?_,?_,trivial⟩
     iterate 8 (· intro tm hr;simp[AllL,rdV] at hr;simp[hr,Aa e9,Aa e10,← e11];intros;first|exact KD.mk|exact KD.mkN)
    ·rfl
    ·simp[tmD,putD,Aa e9,Aa e10,← e11];rfl
    ·simp[Aa e9,Aa e10,← e11]
     intros;rfl
    cases v11 with
    |true =>
     replace h:=iteT rfl h
     refine AW.cond_true (by simp) ?_
     apply AW.step
     ·simp
      intros;rfl
     obtain rfl:=oi h
     refine AW.ret ?_
     try simp only[nm]
     refine rP_i ?_
     refine Left.plain hnb (by simp[Try.f17,resV,resC,comp];rfl) rfl rfl ?_
     simp
    |false =>
     replace h:=iteF rfl h
     refine AW.cond_false (by simp) ?_
     refine AW.skip ?_
     try simp only[nm]
     replace h:=ltE h;obtain⟨v12,e12,h⟩:=h
     apply AW.last
     ·simp[← e12]
      intros;rfl
     obtain rfl:=oi h
     refine nP_i ?_
     refine Weak.mixN [] hn0 (by decide) ?_ ?_ rfl
     all_goals first|(simp[Ab,Ac,pickOb];done)|rfl
   |false =>
    replace h:=iteF rfl h
    refine AW.cond_false (by simp) ?_
    refine AW.exit ?_
    try simp only[nm]
    obtain rfl:=oi h
    try simp only[sp_l,sp_r]
    refine xP_i ?_
    refine Weak.mixN [] hn0 (by decide) ?_ ?_ rfl
    all_goals first|(simp[Ab,Ac,pickOb];done)|rfl
  ·rintro e s hp
   rcases y5 with y13|y14
   ·replace h:=smL h
    obtain⟨rfl,hw⟩:=hp
    refine⟨_,hw,?_⟩
    try simp only[nm]
    apply AW.step
    ·simp
     intros;rfl
    obtain rfl:=oi h
    refine AW.ret ?_
    refine Left.plain hnb (by simp[Try.f17,resV,resC,comp];rfl) rfl rfl ?_
    simp
   ·replace h:=smR h
    obtain⟨rfl,hl⟩:=hp
    refine⟨_,Weak.refl _,?_⟩
    obtain rfl:=oi h
    exact hl
theorem AI:Enters Try.prog 17:=enters Try.func17 (by kernel_rfl) rfl
end Go.Proofs.Ythjenkmbbnjcnaa
namespace Go.Proofs.Ythjenkmbbnjcnaa
open Go Go.RowKit
def big:Nat:=281474976710656
section
variable {α β γ:Type}
theorem Id {f:α→Option (α ⊕ β)} (Q:β→Prop) (I:Nat→α→Prop) (N:Nat)
  (h:∀ k a,k≤N→I k a→(∃ a',k<N∧f a=some (.inl a')∧I (k+1) a')∨∃ b,f a=some (.inr b)∧Q b) :
  ∀ (d k:Nat) (a:α),k+d=N→I k a→∀ n,d<n→∃ b,iter n f a=some b∧Q b
 |d,k,a,hd,hI,0,hn=>by omega
 |d,k,a,hd,hI,n+1,hn=>by
  rcases h k a (by omega) hI with ⟨a',hk,h1,h2⟩|⟨b,h1,h2⟩
  ·rw[Jr h1]
   match d with
   |0=>omega
   |d+1=>exact Id Q I N h d (k+1) a' (by omega) h2 n (by omega)
  ·exact⟨b,Js h1,h2⟩
theorem Ju {f:α→Option (α ⊕ β)} {a:α} (Q:β→Prop) (I:Nat→α→Prop) (N:Nat) (hN:N<big)
  (h0:I 0 a) (h:∀ k a,k≤N→I k a→(∃ a',k<N∧f a=some (.inl a')∧I (k+1) a')∨∃ b,f a=some (.inr b)∧Q b):∃ b,iter big f a=some b∧Q b :=
 Id Q I N h N 0 a (by omega) h0 big hN
theorem EJ {b:Bool} {k:Option β} (h:b=true):chk b k=k:=by subst h;rfl
def Rn (m:Option α) (Q:α→Prop):Prop:=∃ v,m=some v∧Q v
theorem Rn.some {v:α} {Q:α→Prop} (h:Q v):Rn (some v) Q:=⟨v,rfl,h⟩
theorem Rn.mono {m:Option α} {Q R:α→Prop} (h:Rn m Q) (hk:∀ v,Q v→R v):Rn m R:=⟨h.choose,h.choose_spec.1,hk _ h.choose_spec.2⟩
theorem Rn.lt {a:α} {k:α→Option β} {Q:β→Prop} (h:Rn (k a) Q):Rn (lt a k) Q:=h
theorem Rn.bn {m:Option α} {k:α→Option β} {P:α→Prop} {Q:β→Prop} (h:Rn m P) (hk:∀ v,P v→Rn (k v) Q):Rn (bn m k) Q:=by
 obtain⟨v,rfl,hv⟩:=h
 exact hk v hv
theorem Rn.bnE {m:Option α} {k:α→Option β} {v:α} {Q:β→Prop} (h:m=Option.some v) (hk:Rn (k v) Q):Rn (Go.Proofs.Ythjenkmbbnjcnaa.bn m k) Q:=by
 subst h
 exact hk
theorem Rn.chk {b:Bool} {k:Option β} {Q:β→Prop} (h:b=true) (hk:Rn k Q):Rn (chk b k) Q:=by
 subst h
 exact hk
theorem Rn.room {m c:Nat} {k:Option β} {Q:β→Prop} (h:m*c≤140737488355328) (h2:m≤140737488355328) (hk:Rn k Q):Rn (Go.Proofs.Ythjenkmbbnjcnaa.chk (Go.Proofs.Ythjenkmbbnjcnaa.room m c) k) Q:=Rn.chk (by simp[Go.Proofs.Ythjenkmbbnjcnaa.room,h,h2]) hk
theorem Rn.ite {b:Bool} {x y:Option β} {Q:β→Prop} (h:b=true→Rn x Q) (h2:b=false→Rn y Q):Rn (ite' b x y) Q:=by
 cases b
 ·exact h2 rfl
 ·exact h rfl
theorem Rn.sm {s:α ⊕ β} {f:α→Option γ} {g:β→Option γ} {Q:γ→Prop} (h:∀ a,s=.inl a→Rn (f a) Q) (h2:∀ b,s=.inr b→Rn (g b) Q):Rn (sm s f g) Q:=by
 cases s with
 |inl a=>exact h a rfl
 |inr b=>exact h2 b rfl
theorem Rn.iter {f:α→Option (α ⊕ β)} {a:α} (Q:β→Prop) (I:Nat→α→Prop) (N:Nat) (hN:N<big) (h0:I 0 a)
  (h:∀ k a,k≤N→I k a→Rn (f a) fun x=>match x with|.inl a'=>k<N∧I (k+1) a'|.inr b=>Q b):Rn (iter big f a) Q:=by
 refine Ju Q I N hN h0 fun k a hk hI=>?_
 obtain⟨x,h1,h2⟩:=h k a hk hI
 cases x with
 |inl a'=>exact .inl ⟨a',h2.1,h1,h2.2⟩
 |inr b=>exact .inr ⟨b,h1,h2⟩
theorem BA (l:List α):lenI l=(l.length:Int):=rfl
theorem AC {l:List α} {i:Nat} (h:i<l.length):nth l (i:Int)=some l[i]:=by rw[JX,List.getElem?_eq_getElem h]
theorem Hx {l:List α} {i:Nat} (h:i≤l.length):segl l (i:Int)=some (l.drop i):=by simp[segl,h]
theorem Jv {l:List α} {i:Nat} (h:i≤l.length):segh l (i:Int)=some (l.take i):=by simp[segh,h]
theorem I4 {l:List α} {i j:Nat} (h:i≤j) (h2:j≤l.length):seglh l (i:Int) (j:Int)=some ((l.drop i).take (j - i)):=by
 have h3:(i:Int)≤j:=by omega
 have h4:(j:Int)≤l.length:=by omega
 simp[seglh,seg,h3,h4]
end
theorem wrap64 {a:Int} (h:-9223372036854775808≤a) (h2:a≤9223372036854775807):IntKind.i64.wrap a=a:=by
 simp[IntKind.wrap,IntKind.bits,IntKind.signed]
 omega
theorem Am {a b:Int} (h:-9223372036854775808≤a+b) (h2:a+b≤9223372036854775807):addI .i64 a b=a+b:=wrap64 h h2
theorem Ap {a b:Int} (h:-9223372036854775808≤a - b) (h2:a - b≤9223372036854775807):subI .i64 a b=a - b:=wrap64 h h2
theorem DV {a:Int} (h:-9223372036854775808≤a) (h2:a≤9223372036854775807):cvI .i64 a=a:=wrap64 h h2
end Go.Proofs.Ythjenkmbbnjcnaa
namespace Go.Proofs.Ythjenkmbbnjcnaa
open Go Go.RowKit
section
variable {β:Type}
def fnP:List (Int×Int×β)→Int→Option β
 |[],_=>none
 |p::l,s=>if p.1≤s∧s≤p.2.1 then some p.2.2 else fnP l s
def canP:List (Int×Int×β)→Prop
 |[]=>True
 |[p]=>p.1≤p.2.1
 |p::q::l=>p.1≤p.2.1∧p.2.1<q.1∧¬ (p.2.1+1=q.1∧p.2.2=q.2.2)∧canP (q::l)
theorem canP.head {p:Int×Int×β} {l:List (Int×Int×β)} (h:canP (p::l)):p.1≤p.2.1:=by
 cases l with
 |nil=>exact h
 |cons q l=>exact h.1
theorem canP.tail {p:Int×Int×β} {l:List (Int×Int×β)} (h:canP (p::l)):canP l:=by
 cases l with
 |nil=>trivial
 |cons q l=>exact h.2.2.2
theorem canP.lt {p:Int×Int×β}:∀ {l:List (Int×Int×β)},canP (p::l)→∀ q∈l,p.2.1<q.1
 |[],_,q,hq=>by simp at hq
 |r::l,h,q,hq=>by
  rcases List.mem_cons.1 hq with rfl|hq
  ·exact h.2.1
  ·have h1:=canP.lt h.2.2.2 q hq
   have h2:=canP.head h.2.2.2
   have h3:=h.2.1
   omega
theorem Df {l:List (Int×Int×β)} {s:Int} (h:∀ p∈l,¬ (p.1≤s∧s≤p.2.1)):fnP l s=none:=by
 induction l with
 |nil=>rfl
 |cons p l ih =>
  simp only[fnP]
  rw[if_neg (h p (by simp)),ih fun q hq=>h q (by simp[hq])]
theorem CM {p:Int×Int×β} {l:List (Int×Int×β)} (h:canP (p::l)) {s:Int} (hs:s≤p.2.1):fnP l s=none :=
 Df fun q hq hc=>by have:=h.lt q hq;omega
theorem Bz {p:Int×Int×β} {l:List (Int×Int×β)} {s:Int} (h1:p.1≤s) (h2:s≤p.2.1):fnP (p::l) s=some p.2.2:=by
 simp only[fnP]
 rw[if_pos ⟨h1,h2⟩]
theorem BH {p:Int×Int×β} {l:List (Int×Int×β)} {s:Int} (h:¬ (p.1≤s∧s≤p.2.1)):fnP (p::l) s=fnP l s:=by
 simp only[fnP]
 rw[if_neg h]
theorem E5:∀ {l m:List (Int×Int×β)},canP l→canP m→(∀ s,fnP l s=fnP m s)→l=m
 |[],[],_,_,_=>rfl
 |[],q::m,_,hm,h=>by
  have:=h q.1
  rw[Bz (Int.le_refl _) hm.head] at this
  simp[fnP] at this
 |p::l,[],hl,_,h=>by
  have:=h p.1
  rw[Bz (Int.le_refl _) hl.head] at this
  simp[fnP] at this
 |p::l,q::m,hl,hm,h=>by
  have hp:=hl.head
  have hq:=hm.head
  have e1:p.1=q.1:=by
   rcases Int.lt_trichotomy p.1 q.1 with hlt|he|hgt
   ·exfalso
    have:=h p.1
    rw[Bz (Int.le_refl _) hp,BH (by omega),CM hm (by omega)] at this
    simp at this
   ·exact he
   ·exfalso
    have:=h q.1
    rw[Bz (p:=q) (Int.le_refl _) hq,BH (by omega),CM hl (by omega)] at this
    simp at this
  have e2:p.2.2=q.2.2:=by
   have:=h p.1
   rw[Bz (Int.le_refl _) hp,Bz (by omega) (by omega)] at this
   exact Option.some.inj this
  have key:∀ {p q:Int×Int×β} {l m:List (Int×Int×β)},canP (p::l)→canP (q::m)→(∀ s,fnP (p::l) s=fnP (q::m) s)→p.1=q.1→p.2.2=q.2.2→¬ p.2.1<q.2.1:=by
   intro p q l m hl hm h e1 e2 hlt
   have hp:=hl.head
   have:=h (p.2.1+1)
   rw[BH (by omega),Bz (p:=q) (by omega) (by omega)] at this
   cases l with
   |nil=>simp[fnP] at this
   |cons r l =>
    have hr:=hl.2.1
    have hr2:=canP.head hl.2.2.2
    rcases Decidable.em (p.2.1+1=r.1) with e|e
    ·rw[Bz (by omega) (by omega)] at this
     have:=Option.some.inj this
     exact hl.2.2.1 ⟨e,by rw[e2,this]⟩
    ·rw[BH (by omega),CM hl.2.2.2 (by omega)] at this
     simp at this
  have e3:p.2.1=q.2.1:=by
   have a:=key hl hm h e1 e2
   have b:=key hm hl (fun s=>(h s).symm) e1.symm e2.symm
   omega
  have e4:p=q:=Prod.ext e1 (Prod.ext e3 e2)
  subst e4
  rw[E5 hl.tail hm.tail fun s=>?_]
  rcases Decidable.em (s≤p.2.1) with hs|hs
  ·rw[CM hl hs,CM hm hs]
  ·have:=h s
   rwa [BH (by omega),BH (by omega)] at this
theorem E6 (l m:List (Int×Int×β)) (s:Int):fnP (l++m) s=match fnP l s with|some v=>some v|none=>fnP m s:=by
 induction l with
 |nil=>rfl
 |cons p l ih =>
  simp only[List.cons_append,fnP]
  split
  ·rfl
  ·exact ih
theorem Eg:∀ {l:List (Int×Int×β)} {p:Int×Int×β},canP l→p.1≤p.2.1→(∀ q,l.getLast?=some q→q.2.1<p.1∧¬ (q.2.1+1=p.1∧q.2.2=p.2.2))→canP (l++[p])
 |[],p,_,hp,_=>hp
 |[q],p,hq,hp,h=>by
  obtain⟨h1,h2⟩:=h q rfl
  exact⟨hq,h1,h2,hp⟩
 |q::r::l,p,hl,hp,h=>by
  refine⟨hl.1,hl.2.1,hl.2.2.1,?_⟩
  exact Eg (l:=r::l) hl.2.2.2 hp fun x hx=>h x (by rw[List.getLast?_cons_cons];exact hx)
theorem Fw:∀ {l:List (Int×Int×β)} {p:Int×Int×β},canP (l++[p])→canP l∧p.1≤p.2.1∧(∀ q,l.getLast?=some q→q.2.1<p.1∧¬ (q.2.1+1=p.1∧q.2.2=p.2.2))
 |[],p,h=>⟨trivial,h,fun q hq=>by simp at hq⟩
 |[q],p,h=>by
  refine⟨h.1,h.2.2.2,fun x hx=>?_⟩
  simp at hx
  subst hx
  exact⟨h.2.1,h.2.2.1⟩
 |q::r::l,p,h=>by
  have h':canP ((r::l)++[p]):=h.2.2.2
  obtain⟨a,b,c⟩:=Fw h'
  exact⟨⟨h.1,h.2.1,h.2.2.1,a⟩,b,fun x hx=>c x (by rw[List.getLast?_cons_cons] at hx;exact hx)⟩
structure BdP (at_:Int) (out:List (Int×Int×β)) (f:Int→Option β):Prop where
 can:canP out
 pos:∀ p∈out,p.2.1<at_
 fn:∀ s,s<at_→fnP out s=f s
def putP [DecidableEq β] (l:List (Int×Int×β)) (p:Int×Int×β):List (Int×Int×β) :=
 match l.getLast? with
 |some q=>if q.2.1+1=p.1∧q.2.2=p.2.2 then l.dropLast++[(q.1,p.2.1,q.2.2)] else l++[p]
 |none=>[p]
theorem BdP.skip {a b:Int} {out:List (Int×Int×β)} {f:Int→Option β} (h:BdP a out f) (hab:a≤b) (hf:∀ s,a≤s→s<b→f s=none):BdP b out f:=by
 refine⟨h.can,fun p hp=>by have:=h.pos p hp;omega,fun s hs=>?_⟩
 rcases Decidable.em (s<a) with h1|h1
 ·exact h.fn s h1
 ·rw[hf s (by omega) hs]
  exact Df fun p hp hc=>by have:=h.pos p hp;omega
theorem BdP.put [DecidableEq β] {a b:Int} {v:β} {out:List (Int×Int×β)} {f:Int→Option β} (h:BdP a out f) (hab:a≤b) (hf:∀ s,a≤s→s≤b→f s=some v):BdP (b+1) (putP out (a,b,v)) f:=by
 have hcan:=h.can
 unfold putP
 split
 ·rename_i q hq
  obtain⟨l,hl⟩:=List.getLast?_eq_some_iff.1 hq
  subst hl
  have hqp:=h.pos q (by simp)
  obtain⟨c1,c2,c3⟩:=Fw hcan
  split
  ·rename_i hc
   obtain⟨g1,g2⟩:=hc
   rw[List.dropLast_concat]
   refine⟨Eg c1 (by simp only at g1 ⊢;omega) (fun x hx=>?_),?_,?_⟩
   ·exact c3 x hx
   ·intro p hp
    rcases List.mem_append.1 hp with hp|hp
    ·have:=h.pos p (by simp[hp])
     omega
    ·simp at hp
     subst hp
     simp only
     omega
   ·intro s hs
    rw[E6]
    rcases Decidable.em (s<a) with h1|h1
    ·have:=h.fn s h1
     rw[← this,E6]
     cases fnP l s with
     |some w=>rfl
     |none =>
      simp only[fnP]
      simp only at g1
      rcases Decidable.em (q.1≤s∧s≤q.2.1) with h2|h2
      ·rw[if_pos h2,if_pos ⟨h2.1,by omega⟩]
      ·rw[if_neg h2,if_neg (by omega)]
    ·rw[hf s (by omega) (by omega)]
     have:fnP l s=none:=Df fun p hp hc=>by have:=h.pos p (by simp[hp]);omega
     rw[this]
     simp only[fnP]
     simp only at g1 g2
     rw[if_pos ⟨by omega,by omega⟩,g2]
  ·rename_i hc
   refine⟨Eg hcan hab fun x hx=>?_,?_,?_⟩
   ·rw[hq] at hx
    have:=Option.some.inj hx
    subst this
    exact⟨hqp,hc⟩
   ·intro p hp
    rcases List.mem_append.1 hp with hp|hp
    ·have:=h.pos p hp
     omega
    ·simp at hp
     subst hp
     simp only
     omega
   ·intro s hs
    rw[E6]
    rcases Decidable.em (s<a) with h1|h1
    ·rw[h.fn s h1]
     cases f s with
     |some w=>rfl
     |none =>
      simp only[fnP]
      rw[if_neg (by omega)]
    ·rw[hf s (by omega) (by omega)]
     have:fnP (l++[q]) s=none:=Df fun p hp hc=>by have:=h.pos p hp;omega
     rw[this]
     simp only[fnP]
     rw[if_pos ⟨by omega,by omega⟩]
 ·rename_i hn
  have:out=[]:=List.getLast?_eq_none_iff.1 hn
  subst this
  refine⟨hab,?_,?_⟩
  ·intro p hp
   simp at hp
   subst hp
   simp only
   omega
  ·intro s hs
   simp only[fnP]
   rcases Decidable.em (s<a) with h1|h1
   ·have:=h.fn s h1
    rw[if_neg (by omega),← this]
    rfl
   ·rw[if_pos ⟨by omega,by omega⟩,hf s (by omega) (by omega)]
theorem BdP.nil {a:Int} {f:Int→Option β} (hf:∀ s,s<a→f s=none):BdP a [] f:=⟨trivial,fun p hp=>by simp at hp,fun s hs=>by rw[hf s hs];rfl⟩
theorem BdP.ext {a b:Int} {l m:List (Int×Int×β)} {f:Int→Option β} (hl:BdP a l f) (hm:BdP b m f) (hf:∀ s,a≤s∨b≤s→f s=none):l=m:=by
 refine E5 hl.can hm.can fun s=>?_
 have h1:fnP l s=f s:=by
  rcases Decidable.em (s<a) with h|h
  ·exact hl.fn s h
  ·rw[hf s (.inl (by omega))]
   exact Df fun p hp hc=>by have:=hl.pos p hp;omega
 have h2:fnP m s=f s:=by
  rcases Decidable.em (s<b) with h|h
  ·exact hm.fn s h
  ·rw[hf s (.inr (by omega))]
   exact Df fun p hp hc=>by have:=hm.pos p hp;omega
 rw[h1,h2]
theorem F5 {s:Int}:∀ {l:List (Int×Int×β)},(∀ p∈l,s+1≠p.1∧s+1≠p.2.1+1)→fnP l (s+1)=fnP l s
 |[],_=>rfl
 |p::l,h=>by
  have h1:=h p (by simp)
  have ih:=F5 (l:=l) fun q hq=>h q (by simp[hq])
  simp only[fnP]
  rcases Decidable.em (p.1≤s∧s≤p.2.1) with h2|h2
  ·rw[if_pos h2,if_pos (by omega)]
  ·rw[if_neg h2,ih]
   rcases Decidable.em (p.1≤s+1∧s+1≤p.2.1) with h3|h3
   ·omega
   ·rw[if_neg h3]
end
end Go.Proofs.Ythjenkmbbnjcnaa
namespace Go.Proofs.Ythjenkmbbnjcnaa
open Go Go.RowKit
theorem Rn.eqv {α:Type} {m:Option α} {v:α} (h:Rn m (·=v)):m=Option.some v:=by
 obtain⟨w,h1,rfl⟩:=h
 exact h1
theorem lt_t {a b:Int} (h:a<b):ltI a b=true:=decide_eq_true h
theorem lt_f {a b:Int} (h:b≤a):ltI a b=false:=decide_eq_false (by omega)
theorem le_t {a b:Int} (h:a≤b):leI a b=true:=decide_eq_true h
theorem le_f {a b:Int} (h:b<a):leI a b=false:=decide_eq_false (by omega)
theorem gt_t {a b:Int} (h:b<a):gtI a b=true:=decide_eq_true h
theorem gt_f {a b:Int} (h:a≤b):gtI a b=false:=decide_eq_false (by omega)
theorem ge_t {a b:Int} (h:b≤a):geI a b=true:=decide_eq_true h
theorem ge_f {a b:Int} (h:a<b):geI a b=false:=decide_eq_false (by omega)
theorem eq_t {a b:Int} (h:a=b):eqI a b=true:=decide_eq_true h
theorem eq_f {a b:Int} (h:a≠b):eqI a b=false:=decide_eq_false h
def SM (m:List Int):Prop:=m.Pairwise (·<·)∧∀ x∈m,0≤x∧x≤16384
theorem SM.nil:SM []:=⟨List.Pairwise.nil,fun x hx=>by simp at hx⟩
theorem Es {m:List Int} {x:Int} (hm:SM m) (hl:m.length≤1000000):Rn (BM big m x) fun m'=>SM m'∧(∀ y,y∈m'↔y∈m∨(y=x∧0≤x∧x≤16384))∧m'.length≤m.length+1:=by
 unfold BM
 refine Rn.lt ?_
 refine Rn.bn (P:=fun a=>∃ k:Nat,a=(k:Int)∧k≤m.length∧(∀ y∈m.take k,y<x)∧(∀ y∈m.drop k,x≤y)) (Rn.iter _ (fun j a=>∃ k:Nat,a=(k:Int)∧k+j=m.length∧∀ y∈m.drop k,x≤y) m.length (by unfold big;omega) ⟨m.length,rfl,rfl,by simp⟩ fun j a hj hI=>?_) fun a ha=>?_
 ·obtain⟨k,rfl,hk,hd⟩:=hI
  cases k with
  |zero=>exact Rn.bnE (v:=false) rfl (Rn.lt (Rn.ite (fun h=>absurd h (by decide)) fun _=>Rn.some ⟨0,rfl,by omega,by simp,by simpa using hd⟩))
  |succ k =>
   have hkl:k<m.length:=by omega
   have e1:subI .i64 ((k+1:Nat):Int) 1=(k:Int):=by rw[Ap (by omega) (by omega)];omega
   refine Rn.bnE (v:=geI m[k] x) ?_ (Rn.lt (Rn.ite (fun h=>?_) fun h=>?_))
   ·rw[gt_t (show (0:Int)<((k+1:Nat):Int) by omega)]
    simp only[Av,AF]
    rw[e1,AC hkl]
    rfl
   ·refine Rn.lt (Rn.some ⟨by omega,k,e1,by omega,fun y hy=>?_⟩)
    rw[List.drop_eq_getElem_cons hkl] at hy
    rcases List.mem_cons.1 hy with rfl|hy
    ·exact of_decide_eq_true h
    ·exact hd y hy
   ·refine Rn.some ⟨k+1,rfl,by omega,fun y hy=>?_,hd⟩
    have h1:m[k]<x:=by
     have:=of_decide_eq_false (p:=x≤m[k]) h
     omega
    obtain⟨i,hi,rfl⟩:=List.mem_take_iff_getElem.1 hy
    rcases Decidable.em (i=k) with rfl|hne
    ·exact h1
    ·have:=List.pairwise_iff_getElem.1 hm.1 i k (by omega) hkl (by omega)
     omega
 obtain⟨k,rfl,hk,ht,hd⟩:=ha
 have hsame:∀ (h:x<0∨16384<x∨x∈m),SM m∧(∀ y,y∈m↔y∈m∨(y=x∧0≤x∧x≤16384))∧m.length≤m.length+1:=by
  intro h
  refine⟨hm,fun y=>⟨.inl,fun h2=>?_⟩,by omega⟩
  rcases h2 with h2|⟨rfl,h2,h3⟩
  ·exact h2
  ·rcases h with h|h|h
   ·omega
   ·omega
   ·exact h
 refine Rn.bn (P:=fun b=>(b=true→x<0∨16384<x∨x∈m)∧(b=false→(0≤x∧x≤16384)∧x ∉ m)) ?_ fun b hb=>Rn.lt (Rn.ite (fun h=>Rn.some (hsame (hb.1 h))) fun h=>?_)
 ·refine Rn.lt (Rn.ite (fun h=>Rn.some ⟨fun _=>.inl (of_decide_eq_true h),by simp⟩) fun h=>Rn.lt (Rn.ite (fun h2=>Rn.some ⟨fun _=>.inr (.inl (of_decide_eq_true h2)),by simp⟩) fun h2=>Rn.lt (Rn.lt ?_)))
  have x1:0≤x:=by
   have:=of_decide_eq_false (p:=x<0) h
   omega
  have x2:x≤16384:=by
   have:=of_decide_eq_false (p:=16384<x) h2
   omega
  rcases Decidable.em (k<m.length) with hkl|hkl
  ·rw[BA,lt_t (by omega)]
   refine Rn.ite (fun _=>Rn.bnE (AC hkl) (Rn.lt (Rn.some ⟨fun h3=>.inr (.inr ?_),fun h3=>⟨⟨x1,x2⟩,fun hmem=>?_⟩⟩))) (fun h=>by simp at h)
   ·have:m[k]=x:=of_decide_eq_true h3
    rw[← this]
    exact List.getElem_mem hkl
   ·have hne:m[k]≠x:=of_decide_eq_false h3
    rw[← List.take_append_drop k m] at hmem
    rcases List.mem_append.1 hmem with h4|h4
    ·have:=ht x h4
     omega
    ·rw[List.drop_eq_getElem_cons hkl] at h4
     rcases List.mem_cons.1 h4 with h5|h5
     ·exact hne h5.symm
     ·have h6:=hd m[k] (by rw[List.drop_eq_getElem_cons hkl];exact List.mem_cons_self)
      have h7:(m.drop k).Pairwise (·<·):=hm.1.sublist (List.drop_sublist _ _)
      rw[List.drop_eq_getElem_cons hkl] at h7
      have h8:=List.rel_of_pairwise_cons h7 h5
      have h9:x≤m[k]:=h6
      have h10:m[k]<x:=h8
      omega
  ·rw[BA,lt_f (by omega)]
   refine Rn.ite (fun h=>by simp at h) fun _=>Rn.some ⟨by simp,fun _=>⟨⟨x1,x2⟩,fun hmem=>?_⟩⟩
   rw[List.take_of_length_le (by omega)] at ht
   have:=ht x hmem
   omega
 ·obtain⟨⟨x1,x2⟩,hn⟩:=hb.2 h
  rw[Jv hk]
  refine Rn.bnE rfl ?_
  have lt1:(m.take k).length≤1000000:=by rw[List.length_take];omega
  refine Rn.chk (by simp[room];omega) (Rn.chk (by simp[room];omega) (Rn.lt ?_))
  rw[Hx hk]
  refine Rn.bnE rfl (Rn.chk (by simp[room];omega) (Rn.lt (Rn.chk (by simp[room];omega) (Rn.some ⟨⟨?_,?_⟩,?_,?_⟩))))
  ·rw[List.append_assoc,List.pairwise_append]
   refine⟨hm.1.sublist (List.take_sublist _ _),?_,?_⟩
   ·rw[List.singleton_append,List.pairwise_cons]
    refine⟨fun y hy=>?_,hm.1.sublist (List.drop_sublist _ _)⟩
    have h1:=hd y hy
    have h2:y≠x:=fun e=>hn (e ▸ List.mem_of_mem_drop hy)
    omega
   ·intro a ha b hb
    have h1:=ht a ha
    rcases List.mem_append.1 hb with hb|hb
    ·simp at hb
     omega
    ·have:=hd b hb
     omega
  ·intro y hy
   rcases List.mem_append.1 hy with hy|hy
   ·rcases List.mem_append.1 hy with hy|hy
    ·exact hm.2 y (List.mem_of_mem_take hy)
    ·simp at hy
     omega
   ·exact hm.2 y (List.mem_of_mem_drop hy)
  ·intro y
   rw[List.append_assoc,List.mem_append,List.mem_append,List.mem_singleton]
   constructor
   ·rintro (hy|hy|hy)
    ·exact .inl (List.mem_of_mem_take hy)
    ·exact .inr ⟨hy,x1,x2⟩
    ·exact .inl (List.mem_of_mem_drop hy)
   ·rintro (hy|⟨hy,_⟩)
    ·rw[← List.take_append_drop k m] at hy
     rcases List.mem_append.1 hy with hy|hy
     ·exact .inl hy
     ·exact .inr (.inr hy)
    ·exact .inr (.inl hy)
  ·simp
   omega
def cP (c:Claim):Int×Int×(Int×Int):=(c.frm,c.to,(c.node,c.epoch))
def fC (l:List Claim) (s:Int):Option (Int×Int):=fnP (l.map cP) s
def inB (x:Int):Prop:=-1000000≤x∧x≤1000000
theorem F6 {m:List Int} {l:List Claim} (hm:SM m) (hl:m.length+2*l.length≤1000000) (hb:∀ c∈l,inB c.frm∧inB c.to) :
  Rn (Ch big m l) fun m'=>SM m'∧(∀ y,y∈m'↔y∈m∨((∃ c∈l,y=c.frm∨y=c.to+1)∧0≤y∧y≤16384))∧m'.length≤m.length+2*l.length:=by
 unfold Ch
 refine Rn.bn (P:=fun m'=>SM m'∧(∀ y,y∈m'↔y∈m∨((∃ c∈l,y=c.frm∨y=c.to+1)∧0≤y∧y≤16384))∧m'.length≤m.length+2*l.length) (Rn.iter _ (fun j a=>∃ m',a=(m',(j:Int))∧SM m'∧(∀ y,y∈m'↔y∈m∨((∃ c∈l.take j,y=c.frm∨y=c.to+1)∧0≤y∧y≤16384))∧m'.length≤m.length+2*j) l.length (by unfold big;omega) ⟨m,rfl,hm,by simp,by omega⟩ fun j a hj hI=>?_) fun m' h=>Rn.some h
 obtain⟨m1,rfl,s1,s2,s3⟩:=hI
 refine Rn.lt (Rn.lt (Rn.ite (fun hd=>?_) fun hd=>?_))
 ·have hjl:j<l.length:=by
   have:=of_decide_eq_true (p:=((j:Int)<(l.length:Int))) hd
   omega
  refine Rn.bnE (AC hjl) ?_
  obtain⟨b1,b2⟩:=hb _ (List.getElem_mem hjl)
  unfold inB at b1 b2
  refine Rn.bn (Es s1 (by simp only;omega)) fun m2 h2=>?_
  obtain⟨t1,t2,t3⟩:=h2
  refine Rn.lt ?_
  rw[Am (by omega) (by omega)]
  refine Rn.bn (Es t1 (by simp only at t3;omega)) fun m3 h3=>?_
  obtain⟨u1,u2,u3⟩:=h3
  refine Rn.lt (Rn.some ⟨hjl,m3,?_,u1,fun y=>?_,?_⟩)
  ·simp only[]
   rw[Am (by omega) (by omega)]
   rfl
  ·rw[u2,t2,s2,← List.take_append_getElem hjl]
   simp only[List.mem_append,List.mem_singleton]
   constructor
   ·rintro ((( h|⟨⟨c,hc,h⟩,h'⟩)|⟨rfl,h,h'⟩)|⟨rfl,h,h'⟩)
    ·exact .inl h
    ·exact .inr ⟨⟨c,.inl hc,h⟩,h'⟩
    ·exact .inr ⟨⟨_,.inr rfl,.inl rfl⟩,h,h'⟩
    ·exact .inr ⟨⟨_,.inr rfl,.inr rfl⟩,h,h'⟩
   ·rintro (h|⟨⟨c,hc|rfl,h⟩,h'⟩)
    ·exact .inl (.inl (.inl h))
    ·exact .inl (.inl (.inr ⟨⟨c,hc,h⟩,h'⟩))
    ·rcases h with rfl|rfl
     ·exact .inl (.inr ⟨rfl,h'⟩)
     ·exact .inr ⟨rfl,h'⟩
  ·simp only at t3 u3
   omega
 ·have hjl:j=l.length:=by
   have:=of_decide_eq_false (p:=((j:Int)<(l.length:Int))) hd
   omega
  subst hjl
  rw[List.take_length] at s2
  exact Rn.some ⟨s1,s2,s3⟩
theorem Ha (l:List Claim) (s:Int) (hl:l.length≤1000000):CL big l s=some ((fC l s).getD (-1,0)):=by
 refine Rn.eqv ?_
 unfold CL
 refine Rn.bn (P:=fun y=>y=match fC l s with|some v=>.inr v|none=>.inl ()) (Rn.iter _ (fun j a=>a=(j:Int)∧fC l s=fC (l.drop j) s) l.length (by unfold big;omega) ⟨rfl,by simp⟩ fun j a hj hI=>?_) fun y hy=>?_
 ·obtain⟨rfl,hI⟩:=hI
  refine Rn.lt (Rn.lt (Rn.ite (fun hd=>?_) fun hd=>?_))
  ·have hjl:j<l.length:=by
    have:=of_decide_eq_true (p:=((j:Int)<(l.length:Int))) hd
    omega
   have hnth:=AC hjl
   rw[List.drop_eq_getElem_cons hjl] at hI
   generalize l[j]=c at hI hnth
   rcases Decidable.em (c.frm≤s∧s≤c.to) with hc|hc
   ·refine Rn.bnE (v:=true) ?_ (Rn.lt (Rn.ite (fun _=>Rn.bnE hnth (Rn.some ?_)) (fun h=>by simp at h)))
    ·rw[hnth]
     simp only[An,Av]
     rw[le_t hc.1,AF,le_t hc.2]
    ·rw[hI,show fC (c::List.drop (j+1) l) s=some (c.node,c.epoch) from Bz (p:=cP c) hc.1 hc.2]
   ·refine Rn.bnE (v:=false) ?_ (Rn.lt (Rn.ite (fun h=>by simp at h) fun _=>Rn.lt (Rn.some ⟨hjl,?_,?_⟩)))
    ·rw[hnth]
     simp only[An,Av]
     rcases Decidable.em (c.frm≤s) with h1|h1
     ·rw[le_t h1,AF,le_f (by omega)]
     ·rw[le_f (by omega),AT]
    ·rw[Am (by omega) (by omega)]
     rfl
    ·rw[hI]
     exact BH (p:=cP c) hc
  ·have hjl:j=l.length:=by
    have:=of_decide_eq_false (p:=((j:Int)<(l.length:Int))) hd
    omega
   subst hjl
   rw[List.drop_length] at hI
   refine Rn.some ?_
   rw[hI]
   rfl
 ·subst hy
  cases fC l s with
  |some v=>exact Rn.some rfl
  |none=>exact Rn.some rfl
theorem Ie {l:List Claim} {c:Claim} (hl:l.length≤1000000) (hb:∀ x∈l,inB x.to) (hc:inB c.frm):Rn (BW big l c) fun m=>m.map cP=putP (l.map cP) (cP c)∧m.length≤l.length+1:=by
 unfold BW
 refine Rn.lt (Rn.lt ?_)
 rw[BA,Ap (by omega) (by omega)]
 unfold inB at hc
 rcases Decidable.em (l=[]) with rfl|hne
 ·refine Rn.bnE (v:=false) rfl (Rn.lt (Rn.ite (fun h=>by simp at h) fun _=>Rn.chk rfl (Rn.lt (Rn.some ⟨rfl,by simp⟩))))
 ·obtain⟨k,x,rfl⟩:∃ k x,l=k++[x]:=⟨l.dropLast,l.getLast hne,(List.dropLast_concat_getLast hne).symm⟩
  have hx:=hb x (by simp)
  unfold inB at hx
  have e1:(((k++[x]).length:Nat):Int) - 1=((k.length:Nat):Int):=by simp
  have hk:k.length<(k++[x]).length:=by simp
  have hn:nth (k++[x]) ((k.length:Nat):Int)=some x:=by rw[AC hk];simp
  rw[e1]
  have hm:putP ((k++[x]).map cP) (cP c)=if x.to+1=c.frm∧(x.node,x.epoch)=(c.node,c.epoch) then k.map cP++[(x.frm,c.to,(x.node,x.epoch))] else (k++[x]).map cP++[cP c]:=by
   unfold putP
   rw[List.map_append,show [x].map cP=[cP x] from rfl,List.getLast?_concat]
   simp only[List.dropLast_concat]
   rfl
  rw[hm]
  rcases Decidable.em (x.to+1=c.frm∧(x.node,x.epoch)=(c.node,c.epoch)) with hq|hq
  ·rw[if_pos hq]
   obtain⟨q1,q2⟩:=hq
   have q3:x.node=c.node:=congrArg Prod.fst q2
   have q4:x.epoch=c.epoch:=congrArg Prod.snd q2
   refine Rn.bnE (v:=true) ?_ (Rn.lt (Rn.ite (fun _=>Rn.bnE hn (Rn.lt (Rn.some ⟨?_,?_⟩))) (fun h=>by simp at h)))
   ·rw[ge_t (by omega)]
    simp only[Av,AF]
    rw[hn]
    simp only[An]
    rw[Ap (by omega) (by omega),eq_t (by omega),AF,eq_t q3,AF,eq_t q4]
   ·rw[Int.toNat_natCast,List.set_append_right _ _ (by omega),Nat.sub_self]
    simp[cP]
   ·simp
  ·rw[if_neg hq]
   refine Rn.bnE (v:=false) ?_ (Rn.lt (Rn.ite (fun h=>by simp at h) fun _=>Rn.chk (by simp[room];simp at hl;omega) (Rn.lt (Rn.some ⟨by simp,by simp⟩))))
   rw[ge_t (by omega)]
   simp only[Av,AF]
   rw[hn]
   simp only[An]
   rw[Ap (by omega) (by omega)]
   rcases Decidable.em (x.to=c.frm - 1) with h1|h1
   ·rw[eq_t h1,AF]
    rcases Decidable.em (x.node=c.node) with h2|h2
    ·rw[eq_t h2,AF]
     have h3:x.epoch≠c.epoch:=fun e=>hq ⟨by omega,by rw[h2,e]⟩
     rw[eq_f h3]
    ·rw[eq_f h2,AT]
   ·rw[eq_f h1,AT]
end Go.Proofs.Ythjenkmbbnjcnaa
namespace Go.Proofs.Ythjenkmbbnjcnaa
open Go Go.RowKit
section
variable {β:Type}
def FinP (out:List (Int×Int×β)) (f:Int→Option β):Prop:=canP out∧∀ s,fnP out s=f s
theorem FinP.ext {l m:List (Int×Int×β)} {f g:Int→Option β} (hl:FinP l f) (hm:FinP m g) (h:∀ s,f s=g s):l=m:=E5 hl.1 hm.1 fun s=>by rw[hl.2,hm.2,h]
def Stp (m:List Int) (f:Int→Option β):Prop:=(∀ s,s+1 ∉ m→f (s+1)=f s)∧∀ s,s<0∨16384≤s→f s=none
theorem Stp.const {m:List Int} {f:Int→Option β} (h:Stp m f) {a s:Int} (h1:a≤s) (h2:∀ x∈m,¬ (a<x∧x≤s)):f s=f a:=by
 obtain⟨n,hn⟩:=Int.eq_ofNat_of_zero_le (show 0≤s - a by omega)
 have key:∀ k:Nat,k≤n→f (a+k)=f a:=by
  intro k
  induction k with
  |zero=>intro _;simp
  |succ k ih =>
   intro hk
   have e:a+((k+1:Nat):Int)=(a+k)+1:=by omega
   rw[e,h.1 (a+k) (fun hmem=>h2 _ hmem (by omega)),ih (by omega)]
 have:=key n (Nat.le_refl _)
 rwa [← hn,show a+(s - a)=s by omega] at this
theorem Stp.first {m:List Int} {f:Int→Option β} (h:Stp m f) (hm:SM m) (hl:0<m.length):BdP m[0] [] f:=by
 refine BdP.nil fun s hs=>?_
 rcases Decidable.em (s<0) with h0|h0
 ·exact h.2 s (.inl h0)
 ·rw[h.const (a:=-1) (by omega) fun x hx hc=>?_]
  ·exact h.2 _ (.inl (by omega))
  ·obtain⟨i,hi,rfl⟩:=List.mem_iff_getElem.1 hx
   rcases Nat.eq_zero_or_pos i with rfl|hp
   ·omega
   ·have:=List.pairwise_iff_getElem.1 hm.1 0 i hl hi hp
    omega
theorem Stp.next [DecidableEq β] {m:List Int} {f:Int→Option β} (h:Stp m f) (hm:SM m) {j:Nat} (hj:j+1<m.length) {out:List (Int×Int×β)} (hb:BdP m[j] out f) :
  (f m[j]=none→BdP m[j+1] out f)∧∀ v,f m[j]=some v→BdP m[j+1] (putP out (m[j],m[j+1] - 1,v)) f:=by
 have hlt:=List.pairwise_iff_getElem.1 hm.1 j (j+1) (by omega) hj (by omega)
 have hc:∀ s,m[j]≤s→s<m[j+1]→f s=f m[j]:=by
  intro s h1 h2
  refine h.const h1 fun x hx hc=>?_
  obtain⟨i,hi,rfl⟩:=List.mem_iff_getElem.1 hx
  rcases Nat.lt_trichotomy i j with h3|rfl|h3
  ·have:=List.pairwise_iff_getElem.1 hm.1 i j hi (by omega) h3
   omega
  ·omega
  ·rcases Nat.eq_or_lt_of_le h3 with h4|h4
   ·subst h4
    have h5:m[j.succ]=m[j+1]:=rfl
    omega
   ·have:=List.pairwise_iff_getElem.1 hm.1 (j+1) i hj hi h4
    omega
 refine⟨fun hn=>hb.skip (by omega) fun s h1 h2=>by rw[hc s h1 h2,hn],fun v hv=>?_⟩
 have:=hb.put (b:=m[j+1] - 1) (v:=v) (by omega) fun s h1 h2=>by rw[hc s h1 (by omega),hv]
 rwa [show m[j+1] - 1+1=m[j+1] by omega] at this
theorem Stp.last {m:List Int} {f:Int→Option β} (h:Stp m f) (hm:SM m) {j:Nat} (hj:j<m.length) (hl:m.length≤j+1) {out:List (Int×Int×β)} (hb:BdP m[j] out f):FinP out f:=by
 refine⟨hb.can,fun s=>?_⟩
 rcases Decidable.em (s<m[j]) with h1|h1
 ·exact hb.fn s h1
 ·have e:f s=none:=by
   rcases Decidable.em (16384≤s) with h2|h2
   ·exact h.2 s (.inr h2)
   ·have:=h.const (a:=s) (s:=16384) (by omega) fun x hx hc=>by
     obtain⟨i,hi,rfl⟩:=List.mem_iff_getElem.1 hx
     rcases Nat.eq_or_lt_of_le (show i≤j by omega) with h3|h3
     ·subst h3
      omega
     ·have:=List.pairwise_iff_getElem.1 hm.1 i j hi hj h3
      omega
    rw[← this]
    exact h.2 _ (.inr (Int.le_refl _))
  rw[e]
  exact Df fun p hp hc=>by have:=hb.pos p hp;omega
theorem Stp.none {f:Int→Option β} (h:Stp [] f):FinP ([]:List (Int×Int×β)) f:=by
 refine⟨trivial,fun s=>?_⟩
 rcases Decidable.em (s<0) with h0|h0
 ·rw[h.2 s (.inl h0)];rfl
 ·rw[h.const (a:=-1) (by omega) (fun x hx=>by simp at hx),h.2 _ (.inl (by omega))];rfl
end
def sP (x:Span):Int×Int×Unit:=(x.frm,x.to,())
def inS (l:List Span) (s:Int):Prop:=(0≤s∧s<16384)∧∃ x∈l,x.frm≤s∧s≤x.to
instance (l:List Span) (s:Int):Decidable (inS l s):=by unfold inS;infer_instance
def fS (p:Int→Prop) [DecidablePred p] (s:Int):Option Unit:=if p s then some () else none
theorem Hy (l:List Span) (s:Int) (hl:l.length≤1000000):CK big l s=some (decide (inS l s)):=by
 refine Rn.eqv ?_
 unfold CK
 refine Rn.bn (P:=fun y=>y=if inS l s then .inr true else .inl ()) (Rn.iter _ (fun j a=>a=(j:Int)∧(inS l s↔inS (l.drop j) s)) l.length (by unfold big;omega) ⟨rfl,by simp⟩ fun j a hj hI=>?_) fun y hy=>?_
 ·obtain⟨rfl,hI⟩:=hI
  refine Rn.lt (Rn.lt (Rn.ite (fun hd=>?_) fun hd=>?_))
  ·have hjl:j<l.length:=by
    have:=of_decide_eq_true (p:=((j:Int)<(l.length:Int))) hd
    omega
   have hnth:=AC hjl
   rw[List.drop_eq_getElem_cons hjl] at hI
   generalize l[j]=c at hI hnth
   rcases Decidable.em ((0≤s∧s<16384)∧c.frm≤s∧s≤c.to) with hc|hc
   ·obtain⟨⟨h1,h2⟩,h3,h4⟩:=hc
    refine Rn.bnE (v:=true) ?_ (Rn.lt (Rn.ite (fun _=>Rn.some ?_) (fun h=>by simp at h)))
    ·rw[ge_t h1]
     simp only[Av,AF]
     rw[lt_t h2,AF,hnth]
     simp only[An]
     rw[le_t h3,AF,le_t h4]
    ·rw[if_pos (hI.2 ⟨⟨h1,h2⟩,c,by simp,h3,h4⟩)]
   ·refine Rn.bnE (v:=false) ?_ (Rn.lt (Rn.ite (fun h=>by simp at h) fun _=>Rn.lt (Rn.some ⟨hjl,?_,?_⟩)))
    ·rcases Decidable.em (0≤s) with h1|h1
     ·rw[ge_t h1]
      simp only[Av,AF]
      rcases Decidable.em (s<16384) with h2|h2
      ·rw[lt_t h2,AF,hnth]
       simp only[An]
       rcases Decidable.em (c.frm≤s) with h3|h3
       ·rw[le_t h3,AF,le_f (by omega)]
       ·rw[le_f (by omega),AT]
      ·rw[lt_f (by omega),AT]
     ·rw[ge_f (by omega)]
      simp only[Av,AT]
    ·rw[Am (by omega) (by omega)]
     rfl
    ·rw[hI]
     unfold inS
     constructor
     ·rintro⟨h1,x,hx,h2⟩
      rcases List.mem_cons.1 hx with rfl|hx
      ·exact absurd ⟨h1,h2⟩ hc
      ·exact⟨h1,x,hx,h2⟩
     ·rintro⟨h1,x,hx,h2⟩
      exact⟨h1,x,by simp[hx],h2⟩
  ·have hjl:j=l.length:=by
    have:=of_decide_eq_false (p:=((j:Int)<(l.length:Int))) hd
    omega
   subst hjl
   rw[List.drop_length] at hI
   refine Rn.some ?_
   rw[if_neg (by rw[hI];unfold inS;simp)]
 ·subst hy
  split
  ·rename_i h
   exact Rn.some (by simp[h])
  ·rename_i h
   exact Rn.some (by simp[h])
theorem Stp.inS {m:List Int} {l:List Span} (h0:(0:Int)∈m) (h1:(16384:Int)∈m) (h:∀ x∈l,x.frm≤x.to→(0≤x.frm∧x.frm≤16384→x.frm∈m)∧(x.to<16384→0≤x.to+1→x.to+1∈m)):∀ s,s+1 ∉ m→(Go.Proofs.Ythjenkmbbnjcnaa.inS l (s+1)↔Go.Proofs.Ythjenkmbbnjcnaa.inS l s):=by
 intro s hs
 have n0:s+1≠0:=fun e=>hs (e ▸ h0)
 have n1:s+1≠16384:=fun e=>hs (e ▸ h1)
 unfold Go.Proofs.Ythjenkmbbnjcnaa.inS
 constructor
 ·rintro⟨a,x,hx,b,c⟩
  refine⟨by omega,x,hx,?_,by omega⟩
  rcases Decidable.em (x.frm≤s) with h2|h2
  ·exact h2
  ·exfalso
   have e:x.frm=s+1:=by omega
   have:=(h x hx (by omega)).1 (by omega)
   rw[e] at this
   exact hs this
 ·rintro⟨a,x,hx,b,c⟩
  refine⟨by omega,x,hx,by omega,?_⟩
  rcases Decidable.em (s+1≤x.to) with h2|h2
  ·exact h2
  ·exfalso
   have e:x.to=s:=by omega
   have:=(h x hx (by omega)).2 (by omega) (by omega)
   rw[e] at this
   exact hs this
end Go.Proofs.Ythjenkmbbnjcnaa
namespace Go.Proofs.Ythjenkmbbnjcnaa
open Go Go.RowKit
theorem I5 {a b:List Span} (hl:a.length+b.length≤100000):Rn (Dz big a b) fun m=>SM m∧(0:Int)∈m∧(16384:Int)∈m ∧
  (∀ x∈a++b,x.frm≤x.to→(0≤x.frm∧x.frm≤16384→x.frm∈m)∧(x.to<16384→0≤x.to+1→x.to+1∈m))∧m.length≤2+2*(a.length+b.length):=by
 unfold Dz
 refine Rn.chk rfl (Rn.bn (P:=fun m=>SM m∧(0:Int)∈m∧(16384:Int)∈m ∧
  (∀ x∈a++b,x.frm≤x.to→(0≤x.frm∧x.frm≤16384→x.frm∈m)∧(x.to<16384→0≤x.to+1→x.to+1∈m))∧m.length≤2+2*(a.length+b.length))
  (Rn.iter _ (fun j y=>∃ m,y=(m,(j:Int))∧SM m∧(0:Int)∈m∧(16384:Int)∈m ∧
  (∀ x∈(a++b).take j,x.frm≤x.to→(0≤x.frm∧x.frm≤16384→x.frm∈m)∧(x.to<16384→0≤x.to+1→x.to+1∈m))∧m.length≤2+2*j) (a.length+b.length) (by unfold big;omega)
  ⟨[0,16384],rfl,⟨by simp,by simp⟩,by simp,by simp,by simp,by simp⟩ fun j y hj hI=>?_) fun m h=>Rn.some h)
 obtain⟨m,rfl,s1,s2,s3,s4,s5⟩:=hI
 refine Rn.lt (Rn.lt (Rn.lt ?_))
 rw[BA,BA,Am (by omega) (by omega)]
 refine Rn.lt (Rn.ite (fun hd=>?_) fun hd=>?_)
 ·have hjl:j<(a++b).length:=by
   have:=of_decide_eq_true (p:=((j:Int)<(a.length:Int)+(b.length:Int))) hd
   simp
   omega
  have hjl':j<a.length+b.length:=by simpa using hjl
  refine Rn.bn (P:=fun m2=>SM m2∧(∀ y∈m,y∈m2)∧((a++b)[j].frm≤(a++b)[j].to→(0≤(a++b)[j].frm∧(a++b)[j].frm≤16384→(a++b)[j].frm∈m2)∧((a++b)[j].to<16384→0≤(a++b)[j].to+1→(a++b)[j].to+1∈m2))∧m2.length≤m.length+2) ?_ fun m2 h2=>?_
  ·refine Rn.bnE (v:=(a++b)[j]) ?_ ?_
   ·simp only[Av]
    rcases Decidable.em (j<a.length) with h1|h1
    ·rw[lt_t (by omega),AF,AC h1]
     simp only[An]
     rw[List.getElem_append_left h1]
    ·rw[lt_f (by omega),AT,Ap (by omega) (by omega),show (j:Int) - (a.length:Int)=((j - a.length:Nat):Int) by omega,AC (show j - a.length<b.length by omega)]
     simp only[An]
     rw[List.getElem_append_right (by omega)]
   ·generalize (a++b)[j]=x
    rcases Decidable.em (x.frm≤x.to) with hx|hx
    ·refine Rn.bn (P:=fun m'=>SM m'∧(∀ y,y∈m'↔y∈m∨(y=x.frm∧0≤x.frm∧x.frm≤16384))∧m'.length≤m.length+1) ?_ fun m1 h1=>?_
     ·simp only[Av]
      rw[le_t hx,AF]
      refine Rn.bn (Es s1 (by omega)) fun v hv=>Rn.some hv
     ·obtain⟨t1,t2,t3⟩:=h1
      rcases Decidable.em (x.to<16384) with hz|hz
      ·refine Rn.bnE (v:=true) ?_ (Rn.lt (Rn.ite (fun _=>Rn.lt ?_) fun h=>by simp at h))
       ·simp only[Av]
        rw[le_t hx,AF,lt_t hz]
       ·refine Rn.bn (P:=fun m'=>SM m'∧(∀ y,y∈m'↔y∈m1∨(y=addI .i64 x.to 1∧0≤addI .i64 x.to 1∧addI .i64 x.to 1≤16384))∧m'.length≤m1.length+1) (Es t1 (by omega)) fun m3 h3=>Rn.some ?_
        obtain⟨u1,u2,u3⟩:=h3
        refine⟨u1,fun y hy=>(u2 y).2 (.inl ((t2 y).2 (.inl hy))),fun _=>⟨fun hr=>(u2 _).2 (.inl ((t2 _).2 (.inr ⟨rfl,hr⟩))),fun _ h0=>?_⟩,by omega⟩
        have e:addI .i64 x.to 1=x.to+1:=Am (by omega) (by omega)
        rw[e] at u2
        exact (u2 _).2 (.inr ⟨rfl,h0,by omega⟩)
      ·refine Rn.bnE (v:=false) ?_ (Rn.lt (Rn.ite (fun h=>by simp at h) fun _=>Rn.some ?_))
       ·simp only[Av]
        rw[le_t hx,AF,lt_f (by omega)]
       ·exact⟨t1,fun y hy=>(t2 y).2 (.inl hy),fun _=>⟨fun hr=>(t2 _).2 (.inr ⟨rfl,hr⟩),fun h=>absurd h hz⟩,by omega⟩
    ·refine Rn.bnE (v:=m) ?_ (Rn.bnE (v:=false) ?_ (Rn.lt (Rn.ite (fun h=>by simp at h) fun _=>Rn.some ⟨s1,fun y hy=>hy,fun h=>absurd h hx,by omega⟩)))
     ·simp only[Av]
      rw[le_f (by omega),AT]
     ·simp only[Av]
      rw[le_f (by omega),AT]
  ·obtain⟨t1,t2,t3,t4⟩:=h2
   refine Rn.lt (Rn.some ⟨hjl',m2,?_,t1,t2 _ s2,t2 _ s3,?_,?_⟩)
   ·rw[Am (by first|omega|(simp only;omega)) (by first|omega|(simp only;omega))]
    rfl
   ·intro x hx hle
    rw[← List.take_append_getElem hjl] at hx
    rcases List.mem_append.1 hx with hx|hx
    ·obtain⟨p,q⟩:=s4 x hx hle
     exact⟨fun h=>t2 _ (p h),fun h h'=>t2 _ (q h h')⟩
    ·simp at hx
     subst hx
     exact t3 hle
   ·omega
 ·have hjl:j=a.length+b.length:=by
   have:=of_decide_eq_false (p:=((j:Int)<(a.length:Int)+(b.length:Int))) hd
   omega
  subst hjl
  rw[List.take_of_length_le (by simp)] at s4
  exact Rn.some ⟨s1,s2,s3,s4,s5⟩
theorem FG {p:Int→Prop} [DecidablePred p] {s:Int} (h:¬ p s):fS p s=none:=if_neg h
theorem Gu {p:Int→Prop} [DecidablePred p] {s:Int} (h:p s):fS p s=some ():=if_pos h
theorem I6 {l:List Span} {k:List Span} {x:Span} {a b:Int} (hl:l=k++[x]):putP (l.map sP) (a,b,())=if x.to+1=a then (k++[(⟨x.frm,b⟩:Span)]).map sP else (l++[(⟨a,b⟩:Span)]).map sP:=by
 subst hl
 unfold putP
 rw[List.map_append,show [x].map sP=[sP x] from rfl,List.getLast?_concat]
 simp only[List.dropLast_concat,and_true,sP]
 split <;> simp[sP]
theorem If {l:List Span} (hl:l.length≤10000):Rn (CP big l) fun r=>FinP (r.map sP) (fS (inS l))∧r.length≤2+2*l.length:=by
 unfold CP EG
 refine Rn.bn (P:=fun r=>FinP (r.map sP) (fS (inS l))∧r.length≤2+2*l.length) (Rn.bn (I5 (b:=[]) (by simp;omega)) fun m hm=>?_) fun r h=>Rn.some h
 obtain⟨s1,s2,s3,s4,s5⟩:=hm
 simp only[List.append_nil,List.length_nil,Nat.add_zero] at s4 s5
 have hst:Stp m (fS (inS l)):=by
  refine⟨fun s hs=>?_,fun s hs=>FG fun h=>?_⟩
  ·have:=Stp.inS s2 s3 s4 s hs
   unfold fS
   simp only[this]
  ·obtain⟨h1,_⟩:=h
   omega
 have hpos:0<m.length:=List.length_pos_of_mem s2
 refine Rn.bn (P:=fun r=>FinP (r.map sP) (fS (inS l))∧r.length≤2+2*l.length) (Rn.iter _ (fun j y=>∃ out:List Span,y=((j:Int),out)∧out.length≤j∧(∀ x∈out,inB x.to)∧∃ h:j<m.length,BdP m[j] (out.map sP) (fS (inS l))) m.length (by unfold big;omega) ⟨[],rfl,by simp,by simp,hpos,hst.first s1 hpos⟩ fun j y hj hI=>?_) fun r h=>Rn.chk (by simp[room];omega) (Rn.some h)
 obtain⟨out,rfl,t1,t2,hjm,t3⟩:=hI
 refine Rn.lt (Rn.lt (Rn.lt ?_))
 rw[Am (by omega) (by omega),BA]
 refine Rn.ite (fun hd=>?_) fun hd=>?_
 ·have hj1:j+1<m.length:=by
   have:=of_decide_eq_true (p:=((j:Int)+1<(m.length:Int))) hd
   omega
  have hn0:nth m (j:Int)=some m[j]:=AC hjm
  have hn1:nth m ((j:Int)+1)=some m[j+1]:=AC (i:=j+1) hj1
  have hm0:=s1.2 _ (List.getElem_mem hjm)
  have hm1:=s1.2 _ (List.getElem_mem hj1)
  obtain⟨g1,g2⟩:=hst.next s1 hj1 t3
  refine Rn.bn (P:=fun o=>o.length≤j+1∧(∀ x∈o,inB x.to)∧BdP m[j+1] (o.map sP) (fS (inS l))) ?_ fun o ho=>Rn.lt (Rn.some ⟨by omega,o,?_,ho.1,ho.2.1,hj1,ho.2.2⟩)
  ·refine Rn.bnE hn0 (Rn.bnE (Hy l _ (by omega)) (Rn.bnE (Hy [] _ (by simp)) ?_))
   rw[show decide (inS [] m[j])=false from decide_eq_false (by unfold inS;simp)]
   rcases Decidable.em (inS l m[j]) with hin|hin
   ·rw[decide_eq_true hin]
    refine Rn.bnE (v:=(true,true)) rfl (Rn.bnE (v:=true) rfl (Rn.lt (Rn.ite (fun h=>by simp[notB] at h) fun _=>?_)))
    have g3:=g2 () (Gu hin)
    rcases Decidable.em (out=[]) with he|he
    ·subst he
     refine Rn.bnE (v:=false) rfl (Rn.lt (Rn.ite (fun h=>by simp at h) fun _=>Rn.bnE hn0 (Rn.lt ?_)))
     refine Rn.bnE hn1 (Rn.lt (Rn.chk rfl (Rn.lt (Rn.some ⟨by simp,?_,?_⟩))))
     ·intro x hx
      simp at hx
      subst hx
      simp only[inB]
      rw[Ap (by omega) (by omega)]
      omega
     ·rw[Ap (by omega) (by omega)]
      exact g3
    ·obtain⟨k,x,rfl⟩:∃ k x,out=k++[x]:=⟨out.dropLast,out.getLast he,(List.dropLast_concat_getLast he).symm⟩
     have hxt:=t2 x (by simp)
     unfold inB at hxt
     have el:subI .i64 (lenI (k++[x])) 1=((k.length:Nat):Int):=by
      rw[BA,Ap (by omega) (by omega)]
      simp
     have hk:k.length<(k++[x]).length:=by simp
     have hn:nth (k++[x]) ((k.length:Nat):Int)=some x:=by rw[AC hk];simp
     rw[I6 rfl] at g3
     refine Rn.bnE (v:=eqI x.to (m[j] - 1)) ?_ (Rn.lt (Rn.ite (fun h=>?_) fun h=>?_))
     ·simp only[Av]
      rw[gt_t (by rw[BA];simp),AF,el,hn]
      simp only[An]
      rw[hn0]
      simp only[An]
      rw[Ap (by omega) (by omega)]
     ·have hx:x.to=m[j] - 1:=of_decide_eq_true h
      rw[if_pos (by omega)] at g3
      refine Rn.lt (Rn.lt (Rn.lt ?_))
      rw[el]
      refine Rn.bnE hn1 (Rn.lt (Rn.bnE hn (Rn.lt (Rn.some ?_))))
      rw[Ap (by omega) (by omega),Int.toNat_natCast,List.set_append_right _ _ (by omega),Nat.sub_self]
      refine⟨by simp at t1 ⊢;omega,?_,g3⟩
      intro z hz
      rcases List.mem_append.1 hz with hz|hz
      ·exact t2 z (by simp[hz])
      ·simp at hz
       subst hz
       simp only[inB]
       omega
     ·have hx:x.to≠m[j] - 1:=of_decide_eq_false h
      rw[if_neg (by omega)] at g3
      refine Rn.bnE hn0 (Rn.lt ?_)
      refine Rn.bnE hn1 (Rn.lt (Rn.chk (by simp[room];simp at t1;omega) (Rn.lt (Rn.some ?_))))
      rw[Ap (by omega) (by omega)]
      refine⟨by simp at t1 ⊢;omega,?_,g3⟩
      intro z hz
      rcases List.mem_append.1 hz with hz|hz
      ·exact t2 z hz
      ·simp at hz
       subst hz
       simp only[inB]
       omega
   ·rw[decide_eq_false hin]
    refine Rn.bnE (v:=(false,false)) rfl (Rn.bnE (v:=false) rfl (Rn.lt (Rn.ite (fun _=>Rn.some ⟨Nat.le_succ_of_le t1,t2,g1 (FG hin)⟩) fun h=>by simp[notB] at h)))
  ·rfl
 ·have hj1:m.length≤j+1:=by
   have:=of_decide_eq_false (p:=((j:Int)+1<(m.length:Int))) hd
   omega
  exact Rn.some ⟨hst.last s1 hjm hj1 t3,show out.length≤2+2*l.length by omega⟩
end Go.Proofs.Ythjenkmbbnjcnaa
namespace Go.Proofs.Ythjenkmbbnjcnaa
open Go Go.RowKit
section
variable {β:Type}
theorem Dg:∀ {l:List (Int×Int×β)} {p:Int×Int×β},canP l→p∈l→(p.1≤p.2.1∧∀ s,p.1≤s→s≤p.2.1→fnP l s=some p.2.2)
 |[],p,_,hp=>by simp at hp
 |q::l,p,h,hp=>by
  rcases List.mem_cons.1 hp with rfl|hp
  ·exact⟨h.head,fun s h1 h2=>Bz h1 h2⟩
  ·obtain⟨h1,h2⟩:=Dg h.tail hp
   have h3:=h.lt p hp
   exact⟨h1,fun s g1 g2=>by rw[BH (by omega),h2 s g1 g2]⟩
theorem F7:∀ {l:List (Int×Int×β)} {a b:Int},canP l→(∀ p∈l,a≤p.1∧p.2.1≤b)→a≤b+1→(l.length:Int)≤b+1 - a
 |[],a,b,_,_,h=>by simp;omega
 |p::l,a,b,hc,hp,h=>by
  have h1:=hp p (by simp)
  have h2:=hc.head
  have:=F7 (a:=p.2.1+1) (b:=b) hc.tail (fun q hq=>⟨by have:=hc.lt q hq;omega,(hp q (by simp[hq])).2⟩) (by omega)
  simp
  omega
end
def RngC (l:List Claim):Prop:=∀ c∈l,0≤c.frm∧c.frm≤c.to∧c.to≤16383∧0≤c.node∧1≤c.epoch
def GoodC (l:List Claim):Prop:=canP (l.map cP)∧RngC l
def Tells (f:Int→Option (Int×Int)):Prop:=∀ s v,f s=some v→(0≤s∧s≤16383)∧0≤v.1∧1≤v.2
theorem KH:∀ {a b:Claim},cP a=cP b→a=b:=by
 intro a b h
 obtain⟨a1,a2,a3,a4⟩:=a
 obtain⟨b1,b2,b3,b4⟩:=b
 simp[cP] at h
 obtain⟨h1,h2,h3,h4⟩:=h
 subst h1 h2 h3 h4
 rfl
theorem Gv {α γ:Type} {f:α→γ} (hf:∀ {a b},f a=f b→a=b):∀ {l m:List α},l.map f=m.map f→l=m
 |[],[],_=>rfl
 |[],b::m,h=>by simp at h
 |a::l,[],h=>by simp at h
 |a::l,b::m,h=>by
  rw[List.map_cons,List.map_cons,List.cons.injEq] at h
  have e1:a=b:=hf h.1
  have e2:l=m:=Gv (f:=f) hf h.2
  rw[e1,e2]
theorem FinP.good {l:List Claim} {f:Int→Option (Int×Int)} (h:FinP (l.map cP) f) (ht:Tells f):GoodC l:=by
 refine⟨h.1,fun c hc=>?_⟩
 obtain⟨h1,h2⟩:=Dg h.1 (List.mem_map_of_mem hc)
 have a:=ht c.frm _ ((h.2 _).symm.trans (h2 c.frm (Int.le_refl _) h1))
 have b:=ht c.to _ ((h.2 _).symm.trans (h2 c.to h1 (Int.le_refl _)))
 have h1':c.frm≤c.to:=h1
 have e1:(cP c).2.2.1=c.node:=rfl
 have e2:(cP c).2.2.2=c.epoch:=rfl
 rw[e1,e2] at a
 exact⟨a.1.1,h1',b.1.2,a.2.1,a.2.2⟩
theorem GoodC.tells {l:List Claim} (h:GoodC l):Tells (fC l):=by
 intro s v hv
 have key:∀ l:List Claim,RngC l→fC l s=some v→(0≤s∧s≤16383)∧0≤v.1∧1≤v.2:=by
  intro l
  induction l with
  |nil=>intro _ h;simp[fC,fnP] at h
  |cons c l ih =>
   intro hr hf
   have hc:=hr c (by simp)
   rcases Decidable.em (c.frm≤s∧s≤c.to) with h1|h1
   ·have:fC (c::l) s=some (c.node,c.epoch):=Bz (p:=cP c) h1.1 h1.2
    rw[this] at hf
    have:=Option.some.inj hf
    subst this
    exact⟨by omega,hc.2.2.2.1,hc.2.2.2.2⟩
   ·have:fC (c::l) s=fC l s:=BH (p:=cP c) h1
    rw[this] at hf
    exact ih (fun x hx=>hr x (by simp[hx])) hf
 exact key l h.2 hv
theorem GoodC.len {l:List Claim} (h:GoodC l):l.length≤16384:=by
 have:=F7 (a:=0) (b:=16383) h.1 (fun p hp=>by
  obtain⟨c,hc,rfl⟩:=List.mem_map.1 hp
  have:=h.2 c hc
  exact⟨this.1,this.2.2.1⟩) (by omega)
 simp at this
 omega
theorem GoodC.fin {l:List Claim} (h:GoodC l):FinP (l.map cP) (fC l):=⟨h.1,fun _=>rfl⟩
theorem GoodC.step {l:List Claim} (h:GoodC l) {m:List Int} (hm:∀ c∈l,c.frm∈m∧c.to+1∈m):∀ s,s+1 ∉ m→fC l (s+1)=fC l s:=by
 intro s hs
 refine F5 fun p hp=>?_
 obtain⟨c,hc,rfl⟩:=List.mem_map.1 hp
 obtain⟨h1,h2⟩:=hm c hc
 exact⟨fun e=>hs (by rw[e];exact h1),fun e=>hs (by rw[e];exact h2)⟩
def giveF (f:Int→Option (Int×Int)) (p:Int→Prop) [DecidablePred p] (v:Int×Int) (s:Int):Option (Int×Int):=if p s then some v else f s
theorem JO {l:List Span} {s:Int}:fnP (l.map sP) s=fS (fun s=>∃ x∈l,x.frm≤s∧s≤x.to) s:=by
 induction l with
 |nil=>rw[FG (by simp)];rfl
 |cons x l ih =>
  rcases Decidable.em (x.frm≤s∧s≤x.to) with h|h
  ·rw[Gu ⟨x,by simp,h⟩]
   exact Bz (p:=sP x) h.1 h.2
  ·have:fnP ((x::l).map sP) s=fnP (l.map sP) s:=BH (p:=sP x) h
   rw[this,ih]
   unfold fS
   have:(∃ y∈x::l,y.frm≤s∧s≤y.to)↔(∃ y∈l,y.frm≤s∧s≤y.to):=by
    constructor
    ·rintro⟨y,hy,h2⟩
     rcases List.mem_cons.1 hy with rfl|hy
     ·exact absurd h2 h
     ·exact⟨y,hy,h2⟩
    ·rintro⟨y,hy,h2⟩
     exact⟨y,by simp[hy],h2⟩
   simp only[this]
def SaysS (l:List Span) (p:Int→Prop) [DecidablePred p]:Prop:=FinP (l.map sP) (fS p)
theorem SaysS.iff {l:List Span} {p:Int→Prop} [DecidablePred p] (h:SaysS l p) (s:Int):(∃ x∈l,x.frm≤s∧s≤x.to)↔p s:=by
 have:=h.2 s
 rw[JO] at this
 unfold fS at this
 constructor
 ·intro h1
  rw[if_pos h1] at this
  rcases Decidable.em (p s) with h2|h2
  ·exact h2
  ·rw[if_neg h2] at this
   simp at this
 ·intro h1
  rw[if_pos h1] at this
  rcases Decidable.em (∃ x∈l,x.frm≤s∧s≤x.to) with h2|h2
  ·exact h2
  ·rw[if_neg h2] at this
   simp at this
theorem SaysS.rng {l:List Span} {p:Int→Prop} [DecidablePred p] (h:SaysS l p) (hp:∀ s,p s→0≤s∧s≤16383):∀ x∈l,0≤x.frm∧x.frm≤x.to∧x.to≤16383:=by
 intro x hx
 obtain⟨h1,-⟩:=Dg h.1 (List.mem_map_of_mem hx)
 have h1':x.frm≤x.to:=h1
 have a:=hp x.frm ((h.iff _).1 ⟨x,hx,Int.le_refl _,h1'⟩)
 have b:=hp x.to ((h.iff _).1 ⟨x,hx,h1',Int.le_refl _⟩)
 omega
theorem SaysS.len {l:List Span} {p:Int→Prop} [DecidablePred p] (h:SaysS l p) (hp:∀ s,p s→0≤s∧s≤16383):l.length≤16384:=by
 have:=F7 (a:=0) (b:=16383) h.1 (fun q hq=>by
  obtain⟨c,hc,rfl⟩:=List.mem_map.1 hq
  have:=h.rng hp c hc
  exact⟨this.1,this.2.2⟩) (by omega)
 simp at this
 omega
theorem DQ {l:List Span}:∀ s,inS l s→0≤s∧s≤16383:=fun s h=>by have:=h.1;omega
theorem SaysS.inS {l:List Span} {p:Int→Prop} [DecidablePred p] (h:SaysS l p) (hp:∀ s,p s→0≤s∧s≤16383) (s:Int):Go.Proofs.Ythjenkmbbnjcnaa.inS l s↔p s:=by
 unfold Go.Proofs.Ythjenkmbbnjcnaa.inS
 rw[h.iff]
 constructor
 ·exact fun h=>h.2
 ·intro h1
  have:=hp s h1
  exact⟨by omega,h1⟩
theorem SaysS.step {l:List Span} {p:Int→Prop} [DecidablePred p] (h:SaysS l p) {m:List Int} (hm:∀ x∈l,x.frm∈m∧x.to+1∈m):∀ s,s+1 ∉ m→(p (s+1)↔p s):=by
 intro s hs
 have:fnP (l.map sP) (s+1)=fnP (l.map sP) s:=F5 fun q hq=>by
  obtain⟨c,hc,rfl⟩:=List.mem_map.1 hq
  obtain⟨h1,h2⟩:=hm c hc
  exact⟨fun e=>hs (by rw[e];exact h1),fun e=>hs (by rw[e];exact h2)⟩
 rw[h.2,h.2] at this
 unfold fS at this
 constructor
 ·intro h1
  rw[if_pos h1] at this
  rcases Decidable.em (p s) with h2|h2
  ·exact h2
  ·rw[if_neg h2] at this
   simp at this
 ·intro h1
  rw[if_pos h1] at this
  rcases Decidable.em (p (s+1)) with h2|h2
  ·exact h2
  ·rw[if_neg h2] at this
   simp at this
theorem I7 {a:List Claim} {l:List Span} {nd ep:Int} (ha:GoodC a) (hl:l.length≤1000) (h1:0≤nd) (h2:1≤ep) :
  Rn (B9 big a l nd ep) fun r=>FinP (r.map cP) (giveF (fC a) (inS l) (nd,ep)):=by
 unfold B9
 have hal:=ha.len
 refine Rn.bn (If (by omega)) fun v hv=>?_
 obtain⟨v1,v2⟩:=hv
 have hv1:SaysS v (inS l):=v1
 have hvr:=hv1.rng DQ
 refine Rn.bn (F6 SM.nil (by simp;omega) fun c hc=>by have:=ha.2 c hc;unfold inB;omega) fun m0 hm0=>?_
 obtain⟨s1,s2,s3⟩:=hm0
 refine Rn.bn (P:=fun m=>SM m∧(∀ y,y∈m↔y∈m0∨((∃ c∈v,y=c.frm∨y=c.to+1)∧0≤y∧y≤16384))∧m.length≤m0.length+2*v.length) (Rn.iter _ (fun j y=>∃ m,y=(m,(j:Int))∧SM m∧(∀ y,y∈m↔y∈m0∨((∃ c∈v.take j,y=c.frm∨y=c.to+1)∧0≤y∧y≤16384))∧m.length≤m0.length+2*j) v.length (by unfold big;omega) ⟨m0,rfl,s1,by simp,by omega⟩ fun j y hj hI=>?_) fun m hm=>?_
 ·obtain⟨m1,rfl,t1,t2,t3⟩:=hI
  simp only[List.length_nil,Nat.zero_add] at s3
  refine Rn.lt (Rn.lt (Rn.ite (fun hd=>?_) fun hd=>?_))
  ·have hjl:j<v.length:=by
    have:=of_decide_eq_true (p:=((j:Int)<(v.length:Int))) hd
    omega
   refine Rn.bnE (AC hjl) ?_
   have hb:=hvr _ (List.getElem_mem hjl)
   refine Rn.bn (Es (m:=m1) t1 (by omega)) fun m2 h2=>?_
   obtain⟨u1,u2,u3⟩:=h2
   refine Rn.lt ?_
   rw[Am (by omega) (by omega)]
   refine Rn.bn (Es u1 (by omega)) fun m3 h3=>?_
   obtain⟨w1,w2,w3⟩:=h3
   refine Rn.lt (Rn.some ⟨hjl,m3,?_,w1,fun y=>?_,by omega⟩)
   ·simp only[]
    rw[Am (by omega) (by omega)]
    rfl
   ·rw[w2,u2,t2,← List.take_append_getElem hjl]
    simp only[List.mem_append,List.mem_singleton]
    constructor
    ·rintro ((( h|⟨⟨c,hc,h⟩,h'⟩)|⟨rfl,h,h'⟩)|⟨rfl,h,h'⟩)
     ·exact .inl h
     ·exact .inr ⟨⟨c,.inl hc,h⟩,h'⟩
     ·exact .inr ⟨⟨_,.inr rfl,.inl rfl⟩,h,h'⟩
     ·exact .inr ⟨⟨_,.inr rfl,.inr rfl⟩,h,h'⟩
    ·rintro (h|⟨⟨c,hc|rfl,h⟩,h'⟩)
     ·exact .inl (.inl (.inl h))
     ·exact .inl (.inl (.inr ⟨⟨c,hc,h⟩,h'⟩))
     ·rcases h with rfl|rfl
      ·exact .inl (.inr ⟨rfl,h'⟩)
      ·exact .inr ⟨rfl,h'⟩
  ·have hjl:j=v.length:=by
    have:=of_decide_eq_false (p:=((j:Int)<(v.length:Int))) hd
    omega
   subst hjl
   rw[List.take_length] at t2
   exact Rn.some ⟨t1,t2,t3⟩
 obtain⟨t1,t2,t3⟩:=hm
 simp only[List.length_nil,Nat.zero_add] at s3
 have hma:∀ c∈a,c.frm∈m∧c.to+1∈m:=by
  intro c hc
  have hr:=ha.2 c hc
  exact⟨(t2 _).2 (.inl ((s2 _).2 (.inr ⟨⟨c,hc,.inl rfl⟩,by omega⟩))),(t2 _).2 (.inl ((s2 _).2 (.inr ⟨⟨c,hc,.inr rfl⟩,by omega⟩)))⟩
 have hmv:∀ x∈v,x.frm∈m∧x.to+1∈m:=by
  intro x hx
  have hr:=hvr x hx
  exact⟨(t2 _).2 (.inr ⟨⟨x,hx,.inl rfl⟩,by omega⟩),(t2 _).2 (.inr ⟨⟨x,hx,.inr rfl⟩,by omega⟩)⟩
 have hst:Stp m (giveF (fC a) (inS l) (nd,ep)):=by
  refine⟨fun s hs=>?_,fun s hs=>?_⟩
  ·unfold giveF
   rw[ha.step hma s hs]
   simp only[hv1.step hmv s hs]
  ·unfold giveF
   rw[if_neg fun h=>by have:=DQ s h;omega]
   cases hf:fC a s with
   |none=>rfl
   |some w=>exact absurd (ha.tells s w hf).1 (by omega)
 rcases Nat.eq_zero_or_pos m.length with hm0|hpos
 ·have hm0':m=[]:=List.length_eq_zero_iff.1 hm0
  subst hm0'
  refine Rn.bn (P:=fun r=>r=[]) (Rn.iter _ (fun j y=>y=((0:Int),([]:List Claim))∧j=0) 0 (by unfold big;omega) ⟨rfl,rfl⟩ fun j y hj hI=>?_) fun r h=>?_
  ·obtain⟨rfl,rfl⟩:=hI
   exact Rn.lt (Rn.lt (Rn.lt (Rn.ite (fun h=>absurd h (by decide)) fun _=>Rn.some rfl)))
  ·subst h
   exact Rn.chk rfl (Rn.some hst.none)
 refine Rn.bn (P:=fun r=>FinP (r.map cP) (giveF (fC a) (inS l) (nd,ep))∧r.length≤m.length) (Rn.iter _ (fun j y=>∃ out:List Claim,y=((j:Int),out)∧out.length≤j∧(∀ x∈out,inB x.to)∧∃ h:j<m.length,BdP m[j] (out.map cP) (giveF (fC a) (inS l) (nd,ep))) m.length (by unfold big;omega) ⟨[],rfl,by simp,by simp,hpos,hst.first t1 hpos⟩ fun j y hj hI=>?_) fun r h=>Rn.chk (by have:=h.2;simp[room];omega) (Rn.some h.1)
 obtain⟨out,rfl,o1,o2,hjm,o3⟩:=hI
 refine Rn.lt (Rn.lt (Rn.lt ?_))
 rw[Am (by omega) (by omega),BA]
 refine Rn.ite (fun hd=>?_) fun hd=>?_
 ·have hj1:j+1<m.length:=by
   have:=of_decide_eq_true (p:=((j:Int)+1<(m.length:Int))) hd
   omega
  have hn0:nth m (j:Int)=some m[j]:=AC hjm
  have hn1:nth m ((j:Int)+1)=some m[j+1]:=AC (i:=j+1) hj1
  have hm0:=t1.2 _ (List.getElem_mem hjm)
  have hm1:=t1.2 _ (List.getElem_mem hj1)
  obtain⟨g1,g2⟩:=hst.next t1 hj1 o3
  refine Rn.bn (P:=fun o=>o.length≤j+1∧(∀ x∈o,inB x.to)∧BdP m[j+1] (o.map cP) (giveF (fC a) (inS l) (nd,ep))) ?_ fun o ho=>Rn.lt (Rn.some ⟨by omega,o,?_,ho.1,ho.2.1,hj1,ho.2.2⟩)
  ·refine Rn.bnE hn0 (Rn.bnE (Ha a _ (by omega)) ?_)
   have hH:=Hy v m[j] (by have:=hv1.len DQ;omega)
   rw[show decide (inS v m[j])=decide (inS l m[j]) from decide_eq_decide.2 (hv1.inS DQ _)] at hH
   have step:∀ w:Int×Int,giveF (fC a) (inS l) (nd,ep) m[j]=some w→0≤w.1→Rn (lt (geI w.1 0) fun v24 =>
     ite' v24 (bn (nth m (j:Int)) fun v25 =>
     lt ((j:Int)+1) fun v26 =>
     bn (nth m v26) fun v27 =>
     lt (subI .i64 v27 1) fun v28 =>
     bn (BW big out (⟨v25,v28,w.1,w.2⟩:Claim)) fun v29 =>
     some (v29)) (some out)) fun o=>o.length≤j+1∧(∀ x∈o,inB x.to)∧BdP m[j+1] (o.map cP) (giveF (fC a) (inS l) (nd,ep)):=by
    intro w hw hw0
    have g3:=g2 w hw
    refine Rn.lt ?_
    rw[ge_t hw0]
    refine Rn.ite (fun _=>Rn.bnE hn0 (Rn.lt (Rn.bnE hn1 (Rn.lt ?_)))) fun h=>by simp at h
    rw[Ap (by omega) (by omega)]
    refine Rn.bn (Ie (by omega) o2 (by unfold inB;show _∧_;simp only;omega)) fun o ho=>Rn.some ?_
    obtain⟨p1,p2⟩:=ho
    have p3:BdP m[j+1] (o.map cP) (giveF (fC a) (inS l) (nd,ep)):=by rw[p1];exact g3
    refine⟨by omega,fun x hx=>?_,p3⟩
    have a1:=p3.pos _ (List.mem_map_of_mem hx)
    obtain⟨a2,a3⟩:=Dg p3.can (List.mem_map_of_mem hx)
    have a4:x.to<m[j+1]:=a1
    have a5:x.frm≤x.to:=a2
    have a6:=p3.fn x.frm (by omega)
    rw[a3 x.frm (Int.le_refl _) a5] at a6
    have a7:0≤x.frm:=by
     rcases Decidable.em (x.frm<0) with h|h
     ·rw[hst.2 x.frm (.inl h)] at a6
      simp at a6
     ·omega
    unfold inB
    omega
   rcases Decidable.em (inS l m[j]) with hin|hin
   ·have hg:giveF (fC a) (inS l) (nd,ep) m[j]=some (nd,ep):=if_pos hin
    refine Rn.bnE (v:=(nd,ep)) ?_ (step _ hg h1)
    rw[hH,decide_eq_true hin]
    rfl
   ·have hg:giveF (fC a) (inS l) (nd,ep) m[j]=fC a m[j]:=if_neg hin
    refine Rn.bnE (v:=(fC a m[j]).getD (-1,0)) ?_ ?_
    ·rw[hH,decide_eq_false hin]
     rfl
    ·cases hf:fC a m[j] with
     |none =>
      refine Rn.lt (Rn.ite (fun h=>absurd h (by decide)) fun _=>Rn.some ⟨Nat.le_succ_of_le o1,o2,g1 (by rw[hg,hf])⟩)
     |some w=>exact step w (by rw[hg,hf]) (ha.tells _ _ hf).2.1
  ·rfl
 ·have hj1:m.length≤j+1:=by
   have:=of_decide_eq_false (p:=((j:Int)+1<(m.length:Int))) hd
   omega
  exact Rn.some ⟨hst.last t1 hjm hj1 o3,show out.length≤m.length by omega⟩
end Go.Proofs.Ythjenkmbbnjcnaa
