/- Part 7 of the proof. -/
import Derived.Test.YthjenkmbbnjcnaaPd6
import Derived.Test.YthjenkmbbnjcnaaRows
import Derived.ProofKit
set_option linter.unusedVariables false
set_option linter.unusedSimpArgs false
set_option linter.constructorNameAsVariable false
set_option maxRecDepth 8000
set_option maxHeartbeats 8000000
namespace Go.Proofs.Ythjenkmbbnjcnaa
open Go Go.RowKit
def D6 (n:Nat) (a0:List Span) (a1:List Span):Option (List Int) :=
chk (room 2 1) <|
bn (iter n (fun (y1:List Int×Int) =>
lt (lenI a0) fun v5 =>
lt (lenI a1) fun v6 =>
lt (addI .i64 v5 v6) fun v7 =>
lt (ltI y1.2 v7) fun v8 =>
ite' v8 (bn (bn (lt (ltI y1.2 v5) fun v11 =>
ite' v11 (bn (nth a0 y1.2) fun v12 =>
some (v12)) (lt (subI .i64 y1.2 v5) fun v13 =>
bn (nth a1 v13) fun v14 =>
some (v14))) fun (y10:Span) =>
bn (lt (leI y10.frm y10.to) fun v16 =>
ite' v16 (bn (BJ n y1.1 y10.frm) fun v17 =>
some (v17)) (some (y1.1))) fun (y15:List Int) =>
bn (lt (leI y10.frm y10.to) fun v19 =>
ite' v19 (lt (ltI y10.to 16384) fun v20 =>
some (v20)) (some (false))) fun (y18:Bool) =>
lt (y18) fun v21 =>
ite' v21 (lt (addI .i64 y10.to 1) fun v22 =>
bn (BJ n y15 v22) fun v23 =>
some (v23)) (some (y15))) fun (y9:List Int) =>
lt (addI .i64 y1.2 1) fun v24 =>
some (.inl (y9,v24))) (some (.inr y1.1))) ([0,16384],0)) fun (y2:List Int) =>
some y2
theorem GX {n:Nat} {a0:List Span} {a1:List Span} {r:List Int} (h:D6 n a0 a1=some r):Sound Try.prog 50 [.l (.d true 2 (encSpan a0)),.l (.d false 2 (encSpan a1))] [] (.l (.d false 1 (encI r))) []:=by
 unfold D6 at h
 refine Sound.of_aw (fn:=Try.f50) (c:=_) Try.func50 rfl (by simp[Try.f50]) fun cx hG hnb=>?_
 rw[show Try.f50.ntmps=59 from rfl]
 have hn0:cx.nb=0:=hnb
 simp only[Ar,initTm,List.map_cons,List.map_nil]
 apply AW.step
 ·simp
  intros;rfl
 apply AW.step
 ·simp
  intros
  refine Bs ?_
  try simp
  intros;rfl
 refine AW.seq ?_
 apply AW.step
 ·simp
  intros;rfl
 refine AW.block ?_
 replace h:=chkE h;obtain⟨e3,h⟩:=h
 replace h:=bnE h;obtain⟨y2,g2,h⟩:=h
 refine AW.iterP g2 (mk:=fun gh ls q=>(⟨[(0,.l (.d true 2 (encSpan a0))),(1,.l (.d false 2 (encSpan a1))),(5,.l (.d false 1 (encI q.1))),(6,.l (.s (.int .i64 q.2)))],[],59,gh,ls⟩:St)) (N:=fun gh ls=>(xP 0 (cx:=cx) (fun q=>(⟨[(5,.l (.d false 1 (encI q)))],[],59,gh,ls⟩:St)))) ?_ noX ?_ ?_
 ·refine W.frzRow 0 (ty:=3) (cap:=none) (sz:=1) (es:=encI [0,16384]) (by simp[encI,lvs]) (by omega) (Cm _) (by first|exact (Az e3).2|simpa using (Az e3).2|simp) (by simp[Tm.frz,AV.frz,LV.frz,(show List.take 2 (encI [0,16384])=encI [0,16384] from rfl)];rfl) (by simp[Ob.frz,LV.frz,(show List.take 2 (encI [0,16384])=encI [0,16384] from rfl)];rfl) rfl ?_
  refine Weak.mixN [] hn0 (by decide) ?_ ?_ rfl
  all_goals first|(simp[Ab,Ac,pickOb];done)|rfl
 ·clear h;intro y1 y4 h
  refine AW.seq ?_
  replace h:=ltE h;obtain⟨v5,e5,h⟩:=h
  replace h:=ltE h;obtain⟨v6,e6,h⟩:=h
  replace h:=ltE h;obtain⟨v7,e7,h⟩:=h
  replace h:=ltE h;obtain⟨v8,e8,h⟩:=h
  apply AW.step
  ·simp[Ak e5,Ak e6,← e7,← e8]
   intros;rfl
  cases v8 with
  |true =>
   replace h:=iteT rfl h
   refine AW.cond_true (by simp) ?_
   refine AW.skip ?_
   try simp only[nm]
   replace h:=bnE h;obtain⟨y9,g9,h⟩:=h
   refine AW.flow (p:=fun gh ls=>(nP (cx:=cx) (fun q=>(⟨[(0,.l (.d true 2 (encSpan a0))),(1,.l (.d false 2 (encSpan a1))),(5,.l (.d false 1 (encI q))),(6,.l (.s (.int .i64 y1.2)))],[],59,gh,ls⟩:St))) y9) ?_ ?_
   ·replace h:=g9;clear g9
    refine AW.block ?_
    apply AW.step
    ·simp
     intros;rfl
    replace h:=bnE h;obtain⟨y10,g10,h⟩:=h
    refine AW.flow (p:=fun gh ls=>(nP (cx:=cx) (fun q=>(⟨[(0,.l (.d true 2 (encSpan a0))),(1,.l (.d false 2 (encSpan a1))),(5,.l (.d false 1 (encI y1.1))),(6,.l (.s (.int .i64 y1.2))),(7,.l (.p 0 0))],[some ⟨43,2,false,none,[.s (.int .i64 q.frm),.s (.int .i64 q.to)]⟩],59,gh,ls⟩:St))) y10) ?_ ?_
    ·replace h:=g10;clear g10
     replace h:=ltE h;obtain⟨v11,e11,h⟩:=h
     apply AW.step
     ·simp[Ak e5,← e11]
      intros;rfl
     cases v11 with
     |true =>
      replace h:=iteT rfl h
      refine AW.cond_true (by simp) ?_
      replace h:=bnE h;obtain⟨v12,e12,h⟩:=h
      apply AW.last
      ·simp[Aa e12]
       intros;rfl
      obtain rfl:=oi h
      refine nP_i ?_
      refine Weak.mixN [some 0] hn0 (by decide) ?_ ?_ rfl
      all_goals first|(simp[Ab,Ac,pickOb];done)|rfl
     |false =>
      replace h:=iteF rfl h
      refine AW.cond_false (by simp) ?_
      replace h:=ltE h;obtain⟨v13,e13,h⟩:=h
      replace h:=bnE h;obtain⟨v14,e14,h⟩:=h
      apply AW.last
      ·simp[Ak e5,← e13,Aa e14]
       intros;rfl
      obtain rfl:=oi h
      refine nP_i ?_
      refine Weak.mixN [some 0] hn0 (by decide) ?_ ?_ rfl
      all_goals first|(simp[Ab,Ac,pickOb];done)|rfl
    ·rintro e s hp
     obtain⟨rfl,hw⟩:=hp
     refine⟨_,hw,?_⟩
     try simp only[nm]
     replace h:=bnE h;obtain⟨y15,g15,h⟩:=h
     refine AW.flow (p:=fun gh ls=>(nP (cx:=cx) (fun q=>(⟨[(0,.l (.d true 2 (encSpan a0))),(1,.l (.d false 2 (encSpan a1))),(5,.l (.d false 1 (encI q))),(6,.l (.s (.int .i64 y1.2))),(7,.l (.p 0 0))],[some ⟨43,2,false,none,[.s (.int .i64 y10.frm),.s (.int .i64 y10.to)]⟩],59,gh,ls⟩:St))) y15) ?_ ?_
     ·replace h:=g15;clear g15
      replace h:=ltE h;obtain⟨v16,e16,h⟩:=h
      apply AW.step
      ·simp[← e16]
       intros;rfl
      cases v16 with
      |true =>
       replace h:=iteT rfl h
       refine AW.cond_true (by simp) ?_
       replace h:=bnE h;obtain⟨v17,e17,h⟩:=h
       apply AW.last
       ·simp
        intros
        refine Ah Cr (CG e17) rfl ⟨.same rfl,.same rfl,trivial⟩ ?_
        try simp
        intros;rfl
       obtain rfl:=oi h
       refine nP_i ?_
       refine Weak.mixN [some 0] hn0 (by decide) ?_ ?_ rfl
       all_goals first|(simp[Ab,Ac,pickOb];done)|rfl
      |false =>
       replace h:=iteF rfl h
       refine AW.cond_false (by simp) ?_
       refine AW.skip ?_
       try simp only[nm]
       obtain rfl:=oi h
       refine nP_i ?_
       refine Weak.mixN [some 0] hn0 (by decide) ?_ ?_ rfl
       all_goals first|(simp[Ab,Ac,pickOb];done)|rfl
     ·rintro e s hp
      obtain⟨rfl,hw⟩:=hp
      refine⟨_,hw,?_⟩
      try simp only[nm]
      replace h:=bnE h;obtain⟨y18,g18,h⟩:=h
      refine AW.flow (p:=fun gh ls=>(nP (cx:=cx) (fun q=>(⟨[(0,.l (.d true 2 (encSpan a0))),(1,.l (.d false 2 (encSpan a1))),(5,.l (.d false 1 (encI y15))),(6,.l (.s (.int .i64 y1.2))),(7,.l (.p 0 0)),(52,.l (.s (.bool q)))],[some ⟨43,2,false,none,[.s (.int .i64 y10.frm),.s (.int .i64 y10.to)]⟩],59,gh,ls⟩:St))) y18) ?_ ?_
      ·replace h:=g18;clear g18
       replace h:=ltE h;obtain⟨v19,e19,h⟩:=h
       cases v19 with
       |true =>
        replace h:=iteT rfl h
        replace h:=ltE h;obtain⟨v20,e20,h⟩:=h
        apply AW.last
        ·simp[← e19,← e20]
         intros;rfl
        obtain rfl:=oi h
        refine nP_i ?_
        refine Weak.mixN [some 0] hn0 (by decide) ?_ ?_ rfl
        all_goals first|(simp[Ab,Ac,pickOb];done)|rfl
       |false =>
        replace h:=iteF rfl h
        apply AW.last
        ·simp[← e19]
         intros;rfl
        obtain rfl:=oi h
        refine nP_i ?_
        refine Weak.mixN [some 0] hn0 (by decide) ?_ ?_ rfl
        all_goals first|(simp[Ab,Ac,pickOb];done)|rfl
      ·rintro e s hp
       obtain⟨rfl,hw⟩:=hp
       refine⟨_,hw,?_⟩
       try simp only[nm]
       replace h:=ltE h;obtain⟨v21,e21,h⟩:=h
       rw[← e21]
       cases v21 with
       |true =>
        replace h:=iteT rfl h
        refine AW.cond_true (by simp) ?_
        replace h:=ltE h;obtain⟨v22,e22,h⟩:=h
        replace h:=bnE h;obtain⟨v23,e23,h⟩:=h
        apply AW.last
        ·simp[← e22]
         intros
         refine Ah Cr (CG e23) rfl ⟨.same rfl,.same rfl,trivial⟩ ?_
         try simp[← e22]
         intros;rfl
        obtain rfl:=oi h
        refine nP_i ?_
        refine Weak.mixN [] hn0 (by decide) ?_ ?_ rfl
        all_goals first|(simp[Ab,Ac,pickOb];done)|rfl
       |false =>
        replace h:=iteF rfl h
        refine AW.cond_false (by simp) ?_
        refine AW.skip ?_
        try simp only[nm]
        obtain rfl:=oi h
        refine nP_i ?_
        refine Weak.mixN [] hn0 (by decide) ?_ ?_ rfl
        all_goals first|(simp[Ab,Ac,pickOb];done)|rfl
   ·rintro e s hp
    obtain⟨rfl,hw⟩:=hp
    refine⟨_,hw,?_⟩
    try simp only[nm]
    replace h:=ltE h;obtain⟨v24,e24,h⟩:=h
    apply AW.last
    ·simp[← e24]
     intros;rfl
    obtain rfl:=oi h
    refine nP_i ?_
    refine Weak.mixN [] hn0 (by decide) ?_ ?_ rfl
    all_goals first|(simp[Ab,Ac,pickOb];done)|rfl
  |false =>
   replace h:=iteF rfl h
   refine AW.cond_false (by simp) ?_
   refine AW.exit ?_
   try simp only[nm]
   obtain rfl:=oi h
   refine xP_i ?_
   refine Weak.mixN [] hn0 (by decide) ?_ ?_ rfl
   all_goals first|(simp[Ab,Ac,pickOb];done)|rfl
 ·rintro e s hp
  obtain⟨rfl,hw⟩:=hp
  refine⟨_,hw,?_⟩
  try simp only[nm]
  apply AW.step
  ·simp
   intros;rfl
  obtain rfl:=oi h
  refine AW.ret ?_
  refine Left.plain hnb (by simp[Try.f50,resV,resC,comp];rfl) rfl rfl ?_
  simp
theorem Gt:Enters Try.prog 50:=enters Try.func50 (by kernel_rfl) rfl
def Ew (n:Nat) (a0:List Span) (a1:Int):Option Bool :=
bn (iter n (fun (y1:Int) =>
lt (lenI a0) fun v4 =>
lt (ltI y1 v4) fun v5 =>
ite' v5 (bn (lt (geI a1 0) fun v7 =>
ite' v7 (lt (ltI a1 16384) fun v8 =>
ite' v8 (bn (nth a0 y1) fun v9 =>
lt (leI v9.frm a1) fun v10 =>
ite' v10 (lt (leI a1 v9.to) fun v11 =>
some (v11)) (some (false))) (some (false))) (some (false))) fun (y6:Bool) =>
lt (y6) fun v12 =>
ite' v12 (some (.inr (.inr true))) (lt (addI .i64 y1 1) fun v13 =>
some (.inl v13))) (some (.inr (.inl ())))) 0) fun (y2:Unit ⊕ Bool) =>
sm y2 (fun y14=>some false) (fun y15=>some y15)
theorem HS {n:Nat} {a0:List Span} {a1:Int} {r:Bool} (h:Ew n a0 a1=some r):Sound Try.prog 21 [.l (.d true 2 (encSpan a0)),.l (.s (.int .i64 a1))] [] (.l (.s (.bool r))) []:=by
 unfold Ew at h
 refine Sound.of_aw (fn:=Try.f21) (c:=_) Try.func21 rfl (by simp[Try.f21]) fun cx hG hnb=>?_
 rw[show Try.f21.ntmps=36 from rfl]
 have hn0:cx.nb=0:=hnb
 simp only[Ar,initTm,List.map_cons,List.map_nil]
 apply AW.step
 ·simp
  intros;rfl
 refine AW.seq ?_
 apply AW.step
 ·simp
  intros;rfl
 refine AW.block ?_
 replace h:=bnE h;obtain⟨y2,g2,h⟩:=h
 refine AW.iterP g2 (mk:=fun gh ls q=>(⟨[(0,.l (.d true 2 (encSpan a0))),(1,.l (.s (.int .i64 a1))),(5,.l (.s (.int .i64 q)))],[],36,gh,ls⟩:St)) (N:=fun gh ls=>(sp (xP 0 (cx:=cx) (fun _=>(⟨[],[],36,gh,ls⟩:St))) (rP (cx:=cx) (P:=Try.prog) Try.f21 (fun q=>.l (.s (.bool q))) (fun q=>[])))) ?_ (noS noX noR) ?_ ?_
 ·refine Weak.mixN [] hn0 (by decide) ?_ ?_ rfl
  all_goals first|(simp[Ab,Ac,pickOb];done)|rfl
 ·clear h;intro y1 y3 h
  refine AW.seq ?_
  replace h:=ltE h;obtain⟨v4,e4,h⟩:=h
  replace h:=ltE h;obtain⟨v5,e5,h⟩:=h
  apply AW.step
  ·simp[Ak e4,← e5]
   intros;rfl
  cases v5 with
  |true =>
   replace h:=iteT rfl h
   refine AW.cond_true (by simp) ?_
   refine AW.skip ?_
   try simp only[nm]
   refine AW.seq ?_
   refine AW.block ?_
   replace h:=bnE h;obtain⟨y6,g6,h⟩:=h
   refine AW.flow (p:=fun gh ls=>(nP (cx:=cx) (fun q=>(⟨[(0,.l (.d true 2 (encSpan a0))),(1,.l (.s (.int .i64 a1))),(5,.l (.s (.int .i64 y1))),(35,.l (.s (.bool q)))],[],36,gh,ls⟩:St))) y6) ?_ ?_
   ·replace h:=g6;clear g6
    replace h:=ltE h;obtain⟨v7,e7,h⟩:=h
    cases v7 with
    |true =>
     replace h:=iteT rfl h
     replace h:=ltE h;obtain⟨v8,e8,h⟩:=h
     cases v8 with
     |true =>
      replace h:=iteT rfl h
      replace h:=bnE h;obtain⟨v9,e9,h⟩:=h
      replace h:=ltE h;obtain⟨v10,e10,h⟩:=h
      cases v10 with
      |true =>
       replace h:=iteT rfl h
       replace h:=ltE h;obtain⟨v11,e11,h⟩:=h
       apply AW.last
       ·simp[← e7,← e8,Aa e9,← e10,← e11]
        intros;rfl
       obtain rfl:=oi h
       refine nP_i ?_
       refine Weak.mixN [] hn0 (by decide) ?_ ?_ rfl
       all_goals first|(simp[Ab,Ac,pickOb];done)|rfl
      |false =>
       replace h:=iteF rfl h
       apply AW.last
       ·simp[← e7,← e8,Aa e9,← e10]
        intros;rfl
       obtain rfl:=oi h
       refine nP_i ?_
       refine Weak.mixN [] hn0 (by decide) ?_ ?_ rfl
       all_goals first|(simp[Ab,Ac,pickOb];done)|rfl
     |false =>
      replace h:=iteF rfl h
      apply AW.last
      ·simp[← e7,← e8]
       intros;rfl
      obtain rfl:=oi h
      refine nP_i ?_
      refine Weak.mixN [] hn0 (by decide) ?_ ?_ rfl
      all_goals first|(simp[Ab,Ac,pickOb];done)|rfl
    |false =>
     replace h:=iteF rfl h
     apply AW.last
     ·simp[← e7]
      intros;rfl
     obtain rfl:=oi h
     refine nP_i ?_
     refine Weak.mixN [] hn0 (by decide) ?_ ?_ rfl
     all_goals first|(simp[Ab,Ac,pickOb];done)|rfl
   ·rintro e s hp
    obtain⟨rfl,hw⟩:=hp
    refine⟨_,hw,?_⟩
    try simp only[nm]
    replace h:=ltE h;obtain⟨v12,e12,h⟩:=h
    rw[← e12]
    cases v12 with
    |true =>
     replace h:=iteT rfl h
     refine AW.cond_true (by simp) ?_
     apply AW.step
     ·simp
      intros;rfl
     obtain rfl:=oi h
     refine AW.ret ?_
     try simp only[nm]
     refine rP_i ?_
     refine Left.plain hnb (by simp[Try.f21,resV,resC,comp];rfl) rfl rfl ?_
     simp
    |false =>
     replace h:=iteF rfl h
     refine AW.cond_false (by simp) ?_
     refine AW.skip ?_
     try simp only[nm]
     replace h:=ltE h;obtain⟨v13,e13,h⟩:=h
     apply AW.last
     ·simp[← e13]
      intros;rfl
     obtain rfl:=oi h
     refine nP_i ?_
     refine Weak.mixN [] hn0 (by decide) ?_ ?_ rfl
     all_goals first|(simp[Ab,Ac,pickOb];done)|rfl
  |false =>
   replace h:=iteF rfl h
   refine AW.cond_false (by simp) ?_
   refine AW.exit ?_
   try simp only[nm]
   obtain rfl:=oi h
   try simp only[sp_l,sp_r]
   refine xP_i ?_
   refine Weak.mixN [] hn0 (by decide) ?_ ?_ rfl
   all_goals first|(simp[Ab,Ac,pickOb];done)|rfl
 ·rintro e s hp
  rcases y2 with y14|y15
  ·replace h:=smL h
   obtain⟨rfl,hw⟩:=hp
   refine⟨_,hw,?_⟩
   try simp only[nm]
   apply AW.step
   ·simp
    intros;rfl
   obtain rfl:=oi h
   refine AW.ret ?_
   refine Left.plain hnb (by simp[Try.f21,resV,resC,comp];rfl) rfl rfl ?_
   simp
  ·replace h:=smR h
   obtain⟨rfl,hl⟩:=hp
   refine⟨_,Weak.refl _,?_⟩
   obtain rfl:=oi h
   exact hl
theorem Hx:Enters Try.prog 21:=enters Try.func21 (by kernel_rfl) rfl
def Eg (n:Nat) (a0:Int) (a1:List Span) (a2:List Span):Option (List Span) :=
bn (D6 n a1 a2) fun v1 =>
bn (iter n (fun (y2:Int×List Span) =>
lt (addI .i64 y2.1 1) fun v5 =>
lt (lenI v1) fun v6 =>
lt (ltI v5 v6) fun v7 =>
ite' v7 (bn (bn (nth v1 y2.1) fun v9 =>
bn (Ew n a1 v9) fun v10 =>
bn (CH n a2 v9) fun v11 =>
bn (ite' v10 (some ((true,true))) (some ((false,v11)))) fun (y12:Bool×Bool) =>
bn (lt (eqI a0 1) fun v14 =>
ite' v14 (lt (y12.1) fun v15 =>
ite' v15 (lt (notB v11) fun v16 =>
some (v16)) (some (false))) (lt (eqI a0 2) fun v17 =>
ite' v17 (lt (y12.1) fun v18 =>
ite' v18 (some (v11)) (some (false))) (some (y12.2)))) fun (y13:Bool) =>
lt (notB y13) fun v19 =>
ite' v19 (some (y2.2)) (bn (lt (lenI y2.2) fun v21 =>
lt (gtI v21 0) fun v22 =>
ite' v22 (lt (subI .i64 v21 1) fun v23 =>
bn (nth y2.2 v23) fun v24 =>
bn (nth v1 y2.1) fun v26 =>
lt (subI .i64 v26 1) fun v27 =>
lt (eqI v24.to v27) fun v28 =>
some (v28)) (some (false))) fun (y20:Bool) =>
lt (y20) fun v29 =>
ite' v29 (lt (lenI y2.2) fun v30 =>
lt (subI .i64 v30 1) fun v31 =>
lt (addI .i64 y2.1 1) fun v32 =>
bn (nth v1 v32) fun v33 =>
lt (subI .i64 v33 1) fun v34 =>
bn (nth y2.2 v31) fun v35 =>
lt (y2.2.set v31.toNat (⟨v35.frm,v34⟩:Span)) fun v37 =>
some (v37)) (bn (nth v1 y2.1) fun v40 =>
lt (addI .i64 y2.1 1) fun v41 =>
bn (nth v1 v41) fun v42 =>
lt (subI .i64 v42 1) fun v43 =>
chk (room (y2.2.length+1) 16) <|
lt (y2.2++[(⟨v40,v43⟩:Span)]) fun v45 =>
some (v45)))) fun (y8:List Span) =>
lt (addI .i64 y2.1 1) fun v46 =>
some (.inl (v46,y8))) (some (.inr y2.2))) (0,[])) fun (y3:List Span) =>
chk (room y3.length 1) <|
some y3
def DX5t1:List DI:=[⟨[0],[],[(8,none)],false⟩,⟨[0],[0],[(71,some 0)],false⟩,⟨[0],[0,1],[(72,some 1)],false⟩,⟨[0],[0,1,2],[(73,some 2)],false⟩,⟨[0],[0,1,2,3],[(8,none),(74,some 3)],false⟩,⟨[0],[0,1,2,3],[(8,none),(74,some 3)],false⟩,⟨[0],[0,1,2,3,5],[(74,some 3),(76,some 5)],false⟩,⟨[0],[0,1,2,3,5,6],[(74,some 3),(77,some 6)],false⟩,⟨[0],[0,1,2,3,4,5,6,7],[(74,some 3),(75,some 4),(78,some 7)],false⟩,⟨[0],[0,1,2,3,4,5,6,7,8],[(74,some 3),(79,some 8)],false⟩,⟨[0],[0,1,2,3,4,5,6,7,8,9],[(74,some 3),(80,some 9)],false⟩,⟨[0],[0,1,2,3],[(7,none),(74,some 3)],false⟩,⟨[0],[0,1,2,3],[(9,none),(74,some 3)],false⟩,⟨[0],[0,1,2,3,11,12],[(74,some 3),(82,some 11),(83,some 12)],false⟩,⟨[0],[0,1,2,3,11,12,13],[(74,some 3),(84,some 13)],false⟩,⟨[0],[0,1,2,3,11,12,13,14],[(74,some 3),(85,some 14)],false⟩,⟨[],[0,1,2,3,4,5,6,7,8,9,10,11,12,13,14,15],[],false⟩,⟨[],[0,1,2,3,4,5,6,7,8,9,10,11,12,13,14,15,16],[],false⟩,⟨[],[0,1,2,3,4,5,6,7,8,9,10,11,12,13,14,15,16,17],[],false⟩]
theorem Hy {n:Nat} {a0:Int} {a1:List Span} {a2:List Span} {r:List Span} (h:Eg n a0 a1 a2=some r):Sound Try.prog 22 [.l (.s (.int .i64 a0)),.l (.d true 2 (encSpan a1)),.l (.d false 2 (encSpan a2))] [] (.l (.d false 2 (encSpan r))) []:=by
 unfold Eg at h
 refine Sound.of_aw (fn:=Try.f22) (c:=_) Try.func22 rfl (by simp[Try.f22]) fun cx hG hnb=>?_
 rw[show Try.f22.ntmps=102 from rfl]
 have hn0:cx.nb=0:=hnb
 simp only[Ar,initTm,List.map_cons,List.map_nil]
 apply AW.step
 ·simp
  intros;rfl
 replace h:=bnE h;obtain⟨v1,e1,h⟩:=h
 apply AW.step
 ·simp
  intros
  refine Ah Gt (GX e1) rfl ⟨.d _ _ _,.same rfl,trivial⟩ ?_
  try simp
  intros;rfl
 apply AW.step
 ·simp
  intros;rfl
 refine AW.seq ?_
 apply AW.step
 ·simp
  intros;rfl
 refine AW.block ?_
 replace h:=bnE h;obtain⟨y3,g3,h⟩:=h
 refine AW.iterP g3 (mk:=fun gh ls q=>(⟨[(0,.l (.s (.int .i64 a0))),(1,.l (.d true 2 (encSpan a1))),(2,.l (.d false 2 (encSpan a2))),(7,.l (.d false 1 (encI v1))),(8,.l (.r 0 2 0 q.2.length)),(9,.l (.s (.int .i64 q.1)))],[some ⟨43,2,true,none,lvs (encSpan q.2)⟩],102,gh,ls⟩:St)) (N:=fun gh ls=>(xP 0 (cx:=cx) (fun q=>(⟨[(8,.l (.r 0 2 0 q.length))],[some ⟨43,2,true,none,lvs (encSpan q)⟩],102,gh,ls⟩:St)))) ?_ noX ?_ ?_
 ·refine W.nilRow 8 43 2 0 (by simp) rfl rfl ?_
  refine Weak.mixN [some 0] hn0 (by decide) ?_ ?_ rfl
  all_goals first|(simp[Ab,Ac,pickOb];done)|rfl
 ·clear h;intro y2 y4 h
  refine AW.seq ?_
  replace h:=ltE h;obtain⟨v5,e5,h⟩:=h
  replace h:=ltE h;obtain⟨v6,e6,h⟩:=h
  replace h:=ltE h;obtain⟨v7,e7,h⟩:=h
  apply AW.step
  ·simp[← e5,Ak e6,← e7]
   intros;rfl
  cases v7 with
  |true =>
   replace h:=iteT rfl h
   refine AW.cond_true (by simp) ?_
   refine AW.skip ?_
   try simp only[nm]
   replace h:=bnE h;obtain⟨y8,g8,h⟩:=h
   refine AW.flow (p:=fun gh ls=>(nP (cx:=cx) (fun q=>(⟨[(0,.l (.s (.int .i64 a0))),(1,.l (.d true 2 (encSpan a1))),(2,.l (.d false 2 (encSpan a2))),(7,.l (.d false 1 (encI v1))),(8,.l (.r 0 2 0 q.length)),(9,.l (.s (.int .i64 y2.1)))],[some ⟨43,2,true,none,lvs (encSpan q)⟩],102,gh,ls⟩:St))) y8) ?_ ?_
   ·replace h:=g8;clear g8
    refine AW.block ?_
    replace h:=bnE h;obtain⟨v9,e9,h⟩:=h
    replace h:=bnE h;obtain⟨v10,e10,h⟩:=h
    replace h:=bnE h;obtain⟨v11,e11,h⟩:=h
    apply AW.drawnP (V:=[_,_,_,_,_,_,_,_,_,_,_]) mixed [⟨[0],[],[(1,none)],false⟩,⟨[0],[],[(7,none)],false⟩,⟨[0],[],[(9,none)],false⟩,⟨[0],[1,2],[(24,some 1),(25,some 2)],false⟩,⟨[0],[1,2,3],[(26,some 3)],false⟩,⟨[0],[0,1,2,3,4],[(23,some 0),(27,some 4)],false⟩,⟨[0],[],[(2,none)],false⟩,⟨[0],[],[(7,none)],false⟩,⟨[0],[],[(9,none)],false⟩,⟨[0],[7,8],[(30,some 7),(31,some 8)],false⟩,⟨[0],[7,8,9],[(32,some 9)],false⟩,⟨[],[0,1,2,3,4,5,6,7,8,9,10],[],false⟩,⟨[],[0,1,2,3,4,5,6,7,8,9,10,11],[],false⟩,⟨[],[0,1,2,3,4,5,6,7,8,9,10,11,12],[],false⟩] 11 (by kernel_rfl) (by kernel_rfl)
    ·refine⟨?_,?_,?_,?_,?_,?_,?_,?_,?_,?_,?_,trivial⟩
     iterate 5 (· intro tm hr;simp[AllL,rdV] at hr;simp[hr,Aa e9];intros;first|exact KD.mk|exact KD.mkN)
     ·intro tm hr
      simp[AllL,rdV] at hr
      simp[hr,Aa e9]
      intros
      refine Ah Hx (HS e10) rfl ⟨.d _ _ _,.same rfl,trivial⟩ ?_
      try simp[Aa e9]
      intros;first|exact KD.mk|exact KD.mkN
     iterate 5 (· intro tm hr;simp[AllL,rdV] at hr;simp[hr,Aa e9];intros;first|exact KD.mk|exact KD.mkN)
    ·rfl
    ·simp[tmD,putD,Aa e9];rfl
    ·simp[Aa e9]
     intros
     refine Ah Ez (E1 e11) rfl ⟨.same rfl,.same rfl,trivial⟩ ?_
     try simp[Aa e9]
     intros;rfl
    replace h:=bnE h;obtain⟨y12,g12,h⟩:=h
    refine AW.flow (p:=fun gh ls=>(nP (cx:=cx) (fun q=>(⟨[(0,.l (.s (.int .i64 a0))),(1,.l (.d true 2 (encSpan a1))),(2,.l (.d false 2 (encSpan a2))),(7,.l (.d false 1 (encI v1))),(8,.l (.r 0 2 0 y2.2.length)),(9,.l (.s (.int .i64 y2.1))),(10,.l (.s (.bool q.1))),(11,.l (.s (.bool v11))),(12,.l (.s (.bool q.2)))],[some ⟨43,2,true,none,lvs (encSpan y2.2)⟩],102,gh,ls⟩:St))) y12) ?_ ?_
    ·replace h:=g12;clear g12
     cases v10 with
     |true =>
      replace h:=iteT rfl h
      apply AW.last
      ·simp
       intros;rfl
      obtain rfl:=oi h
      refine nP_i ?_
      refine Weak.mixN [some 0] hn0 (by decide) ?_ ?_ rfl
      all_goals first|(simp[Ab,Ac,pickOb];done)|rfl
     |false =>
      replace h:=iteF rfl h
      apply AW.last
      ·simp
       intros;rfl
      obtain rfl:=oi h
      refine nP_i ?_
      refine Weak.mixN [some 0] hn0 (by decide) ?_ ?_ rfl
      all_goals first|(simp[Ab,Ac,pickOb];done)|rfl
    ·rintro e s hp
     obtain⟨rfl,hw⟩:=hp
     refine⟨_,hw,?_⟩
     try simp only[nm]
     replace h:=bnE h;obtain⟨y13,g13,h⟩:=h
     refine AW.flow (p:=fun gh ls=>(nP (cx:=cx) (fun q=>(⟨[(0,.l (.s (.int .i64 a0))),(1,.l (.d true 2 (encSpan a1))),(2,.l (.d false 2 (encSpan a2))),(7,.l (.d false 1 (encI v1))),(8,.l (.r 0 2 0 y2.2.length)),(9,.l (.s (.int .i64 y2.1))),(12,.l (.s (.bool q)))],[some ⟨43,2,true,none,lvs (encSpan y2.2)⟩],102,gh,ls⟩:St))) y13) ?_ ?_
     ·replace h:=g13;clear g13
      apply AW.step
      ·simp
       intros;rfl
      refine AW.block ?_
      replace h:=ltE h;obtain⟨v14,e14,h⟩:=h
      apply AW.step
      ·simp[← e14]
       intros;rfl
      cases v14 with
      |true =>
       replace h:=iteT rfl h
       refine AW.cond_true (by simp) ?_
       replace h:=ltE h;obtain⟨v15,e15,h⟩:=h
       cases v15 with
       |true =>
        replace h:=iteT rfl h
        replace h:=ltE h;obtain⟨v16,e16,h⟩:=h
        apply AW.last
        ·simp[← e15,← e16]
         intros;rfl
        obtain rfl:=oi h
        refine nP_i ?_
        refine Weak.mixN [some 0] hn0 (by decide) ?_ ?_ rfl
        all_goals first|(simp[Ab,Ac,pickOb];done)|rfl
       |false =>
        replace h:=iteF rfl h
        apply AW.last
        ·simp[← e15]
         intros;rfl
        obtain rfl:=oi h
        refine nP_i ?_
        refine Weak.mixN [some 0] hn0 (by decide) ?_ ?_ rfl
        all_goals first|(simp[Ab,Ac,pickOb];done)|rfl
      |false =>
       replace h:=iteF rfl h
       refine AW.cond_false (by simp) ?_
       replace h:=ltE h;obtain⟨v17,e17,h⟩:=h
       apply AW.step
       ·simp[← e17]
        intros;rfl
       cases v17 with
       |true =>
        replace h:=iteT rfl h
        refine AW.cond_true (by simp) ?_
        replace h:=ltE h;obtain⟨v18,e18,h⟩:=h
        cases v18 with
        |true =>
         replace h:=iteT rfl h
         apply AW.last
         ·simp[← e18]
          intros;rfl
         obtain rfl:=oi h
         refine nP_i ?_
         refine Weak.mixN [some 0] hn0 (by decide) ?_ ?_ rfl
         all_goals first|(simp[Ab,Ac,pickOb];done)|rfl
        |false =>
         replace h:=iteF rfl h
         apply AW.last
         ·simp[← e18]
          intros;rfl
         obtain rfl:=oi h
         refine nP_i ?_
         refine Weak.mixN [some 0] hn0 (by decide) ?_ ?_ rfl
         all_goals first|(simp[Ab,Ac,pickOb];done)|rfl
       |false =>
        replace h:=iteF rfl h
        refine AW.cond_false (by simp) ?_
        refine AW.skip ?_
        try simp only[nm]
        obtain rfl:=oi h
        refine nP_i ?_
        refine Weak.mixN [some 0] hn0 (by decide) ?_ ?_ rfl
        all_goals first|(simp[Ab,Ac,pickOb];done)|rfl
     ·rintro e s hp
      obtain⟨rfl,hw⟩:=hp
      refine⟨_,hw,?_⟩
      try simp only[nm]
      refine AW.block ?_
      replace h:=ltE h;obtain⟨v19,e19,h⟩:=h
      apply AW.step
      ·simp[← e19]
       intros;rfl
      cases v19 with
      |true =>
       replace h:=iteT rfl h
       refine AW.cond_true (by simp) ?_
       refine AW.exit ?_
       try simp only[nm]
       obtain rfl:=oi h
       refine nP_i ?_
       refine Weak.mixN [some 0] hn0 (by decide) ?_ ?_ rfl
       all_goals first|(simp[Ab,Ac,pickOb];done)|rfl
      |false =>
       replace h:=iteF rfl h
       refine AW.cond_false (by simp) ?_
       replace h:=bnE h;obtain⟨y20,g20,h⟩:=h
       refine AW.flow (p:=fun gh ls=>(nP (cx:=cx) (fun q=>(⟨[(0,.l (.s (.int .i64 a0))),(1,.l (.d true 2 (encSpan a1))),(2,.l (.d false 2 (encSpan a2))),(7,.l (.d false 1 (encI v1))),(8,.l (.r 0 2 0 y2.2.length)),(9,.l (.s (.int .i64 y2.1))),(70,.l (.s (.bool q)))],[some ⟨43,2,true,none,lvs (encSpan y2.2)⟩],102,gh,ls⟩:St))) y20) ?_ ?_
       ·replace h:=g20;clear g20
        replace h:=ltE h;obtain⟨v21,e21,h⟩:=h
        replace h:=ltE h;obtain⟨v22,e22,h⟩:=h
        cases v22 with
        |true =>
         replace h:=iteT rfl h
         replace h:=ltE h;obtain⟨v23,e23,h⟩:=h
         replace h:=bnE h;obtain⟨v24,e24,h⟩:=h
         have f25:=Ai e24
         try simp[Ak e21,← e22,← e23,Aa e24] at f25
         replace h:=bnE h;obtain⟨v26,e26,h⟩:=h
         replace h:=ltE h;obtain⟨v27,e27,h⟩:=h
         replace h:=ltE h;obtain⟨v28,e28,h⟩:=h
         apply AW.drawnR (V:=[_,_,_,_,_,_,_,_,_,_,_,_,_,_,_,_]) mixed DX5t1 16 (by kernel_rfl) (by kernel_rfl)
         ·refine⟨?_,?_,?_,?_,?_,?_,?_,?_,?_,?_,?_,?_,?_,?_,?_,?_,trivial⟩
          iterate 16 (· intro tm hr;simp[AllL,rdV] at hr;simp[hr,Ak e21,← e22,← e23,Aa e24,f25,AQ (Aa e24).2 (j:=1) (by decide),lvs1,Aa e26,← e27,← e28];intros;first|exact KD.mk|exact KD.mkN)
         ·rfl
         ·simp[tmD,putD,Ak e21,← e22,← e23,Aa e24,f25,AQ (Aa e24).2 (j:=1) (by decide),lvs1,Aa e26,← e27,← e28];rfl
         ·simp[Ak e21,← e22,← e23,Aa e24,f25,AQ (Aa e24).2 (j:=1) (by decide),lvs1,Aa e26,← e27,← e28]
          intros;rfl
         obtain rfl:=oi h
         refine nP_i ?_
         refine Weak.mixN [some 0] hn0 (by decide) ?_ ?_ rfl
         all_goals first|(simp[Ab,Ac,pickOb];done)|rfl
        |false =>
         replace h:=iteF rfl h
         apply AW.drawnR (V:=[_,_,_,_,_,_,_,_,_,_,_,_,_,_,_,_]) mixed DX5t1 16 (by kernel_rfl) (by kernel_rfl)
         ·refine⟨?_,?_,?_,?_,?_,?_,?_,?_,?_,?_,?_,?_,?_,?_,?_,?_,trivial⟩
          iterate 16 (· intro tm hr;simp[AllL,rdV] at hr;simp[hr,Ak e21,← e22];intros;first|exact KD.mk|exact KD.mkN)
         ·rfl
         ·simp[tmD,putD,Ak e21,← e22];rfl
         ·simp[Ak e21,← e22]
          intros;rfl
         obtain rfl:=oi h
         refine nP_i ?_
         refine Weak.mixN [some 0] hn0 (by decide) ?_ ?_ rfl
         all_goals first|(simp[Ab,Ac,pickOb];done)|rfl
       ·rintro e s hp
        obtain⟨rfl,hw⟩:=hp
        refine⟨_,hw,?_⟩
        try simp only[nm]
        replace h:=ltE h;obtain⟨v29,e29,h⟩:=h
        rw[← e29]
        cases v29 with
        |true =>
         replace h:=iteT rfl h
         refine AW.cond_true (by simp) ?_
         replace h:=ltE h;obtain⟨v30,e30,h⟩:=h
         replace h:=ltE h;obtain⟨v31,e31,h⟩:=h
         replace h:=ltE h;obtain⟨v32,e32,h⟩:=h
         replace h:=bnE h;obtain⟨v33,e33,h⟩:=h
         replace h:=ltE h;obtain⟨v34,e34,h⟩:=h
         replace h:=bnE h;obtain⟨v35,e35,h⟩:=h
         have f36:=Ai e35
         try simp[Ak e30,← e31,← e32,Aa e33,← e34,Aa e35] at f36
         replace h:=ltE h;obtain⟨v37,e37,h⟩:=h
         have f38:=D7 (Aa e35).2 e37 (j:=1) (cs:=[.s (.int .i64 v34)]) (by simp) rfl
         try simp at f38
         have f39:=f36
         try simp only[Af e37] at f39
         apply AW.last
         ·simp[Ak e30,← e31,← e32,Aa e33,← e34,Aa e35,f36,B0 (Aa e35).2 (j:=1) (m:=1) (by decide),f38,f39]
          intros;rfl
         obtain rfl:=oi h
         refine nP_i ?_
         refine Weak.mixN [some 0] hn0 (by decide) ?_ ?_ rfl
         all_goals first|(simp[Ab,Ac,pickOb,Af e37];done)|rfl
        |false =>
         replace h:=iteF rfl h
         refine AW.cond_false (by simp) ?_
         replace h:=bnE h;obtain⟨v40,e40,h⟩:=h
         replace h:=ltE h;obtain⟨v41,e41,h⟩:=h
         replace h:=bnE h;obtain⟨v42,e42,h⟩:=h
         replace h:=ltE h;obtain⟨v43,e43,h⟩:=h
         replace h:=chkE h;obtain⟨e44,h⟩:=h
         replace h:=ltE h;obtain⟨v45,e45,h⟩:=h
         apply AW.drawnF (V:=[_,_,_,_,_,_,_,_,_,_,_,_,_]) (M:=[[some ⟨43,2,true,none,lvs (encSpan y2.2)⟩],[some ⟨43,2,true,none,lvs (encSpan y2.2)⟩,some ⟨43,2,true,none,[.s (.int .i64 v40),.s (.int .i64 v43)]⟩]]) mixed [⟨[0,1],[],[(8,none)],false⟩,⟨[0],[],[(7,none)],false⟩,⟨[0],[],[(9,none)],false⟩,⟨[0],[1,2],[(54,some 1),(55,some 2)],false⟩,⟨[0],[1,2,3],[(56,some 3)],false⟩,⟨[0],[],[(7,none)],false⟩,⟨[0],[],[(9,none)],false⟩,⟨[0],[6],[(59,some 6)],false⟩,⟨[0],[5,6,7],[(58,some 5),(60,some 7)],false⟩,⟨[0],[5,6,7,8],[(61,some 8)],false⟩,⟨[0],[5,6,7,8,9],[(62,some 9)],false⟩,⟨[0],[1,2,3,4,5,6,7,8,9,10],[(57,some 4),(63,some 10)],false⟩,⟨[0],[1,2,3,4,5,6,7,8,9,10,11],[(64,some 11)],true⟩,⟨[],[0,1,2,3,4,5,6,7,8,9,10,11,12],[],false⟩,⟨[],[0,1,2,3,4,5,6,7,8,9,10,11,12,13],[],false⟩] 13 1 (by kernel_rfl) (by kernel_rfl)
         ·rfl
         ·refine⟨⟨?_,?_⟩,?_,?_,?_,?_,?_,?_,?_,?_,?_,?_,?_,?_,trivial⟩
          iterate 13 (· intro tm hr;simp[AllL,rdV] at hr;simp[hr,Aa e40,← e41,Aa e42,← e43,← Aq,← e45,As e45];intros;first|exact KD.mk|exact KD.mkN)
          ·intro tm hr
           simp[AllL,rdV] at hr
           simp[hr,Aa e40,← e41,Aa e42,← e43,← Aq,← e45,As e45]
           intros
           refine Bs ?_
           try simp[Aa e40,← e41,Aa e42,← e43,← Aq,← e45,As e45]
           intros;first|exact KD.mk|exact KD.mkN
         ·rfl
         ·simp[tmD,putD,Aa e40,← e41,Aa e42,← e43,← Aq,← e45,As e45];rfl
         ·simp[Aa e40,← e41,Aa e42,← e43,← Aq,← e45,As e45]
          intros
          refine Br (acc:=encSpan y2.2) (ys:=encSpan [(⟨v40,v43⟩:Span)]) (cap:=none) (k:=1) DN DM (by simp) (by simp[encSpan,lvs]) (Bl _) (by simp) (by simp) (by first|(simp;done)|simpa using (Az e44).1) ?_
          try simp[Aa e40,← e41,Aa e42,← e43,← Aq,← e45,As e45]
          intros;rfl
         obtain rfl:=oi h
         refine nP_i ?_
         refine Weak.mixN [some 2] hn0 (by decide) ?_ ?_ rfl
         all_goals first|(simp[Ab,Ac,pickOb,Bk];done)|rfl
   ·rintro e s hp
    obtain⟨rfl,hw⟩:=hp
    refine⟨_,hw,?_⟩
    try simp only[nm]
    replace h:=ltE h;obtain⟨v46,e46,h⟩:=h
    apply AW.last
    ·simp[← e46]
     intros;rfl
    obtain rfl:=oi h
    refine nP_i ?_
    refine Weak.mixN [some 0] hn0 (by decide) ?_ ?_ rfl
    all_goals first|(simp[Ab,Ac,pickOb];done)|rfl
  |false =>
   replace h:=iteF rfl h
   refine AW.cond_false (by simp) ?_
   refine AW.exit ?_
   try simp only[nm]
   obtain rfl:=oi h
   refine xP_i ?_
   refine Weak.mixN [some 0] hn0 (by decide) ?_ ?_ rfl
   all_goals first|(simp[Ab,Ac,pickOb];done)|rfl
 ·rintro e s hp
  obtain⟨rfl,hw⟩:=hp
  refine⟨_,hw,?_⟩
  try simp only[nm]
  apply AW.step
  ·simp
   intros;rfl
  replace h:=chkE h;obtain⟨e47,h⟩:=h
  refine AW.frzRow 0 (ty:=43) (cap:=none) (sz:=2) (es:=encSpan y3) (by simp) (by omega) (Bl _) (by first|exact (Az e47).2|simpa using (Az e47).2|simp) (by simp[Tm.frz,AV.frz,LV.frz];rfl) (by simp[Ob.frz,LV.frz];rfl) rfl ?_
  obtain rfl:=oi h
  refine AW.ret ?_
  refine Left.plain hnb (by simp[Try.f22,resV,resC,comp];rfl) rfl rfl ?_
  simp
theorem GY:Enters Try.prog 22:=enters Try.func22 (by kernel_rfl) rfl
def DX (n:Nat) (a0:List Span):Option (List Span) :=
bn (Eg n 0 a0 []) fun v1 =>
some v1
theorem HT {n:Nat} {a0:List Span} {r:List Span} (h:DX n a0=some r):Sound Try.prog 28 [.l (.d true 2 (encSpan a0))] [] (.l (.d false 2 (encSpan r))) []:=by
 unfold DX at h
 refine Sound.of_aw (fn:=Try.f28) (c:=_) Try.func28 rfl (by simp[Try.f28]) fun cx hG hnb=>?_
 rw[show Try.f28.ntmps=5 from rfl]
 have hn0:cx.nb=0:=hnb
 simp only[Ar,initTm,List.map_cons,List.map_nil]
 apply AW.step
 ·simp
  intros;rfl
 replace h:=bnE h;obtain⟨v1,e1,h⟩:=h
 apply AW.step
 ·simp
  intros
  refine Ah GY (Hy e1) rfl ⟨.same rfl,.d _ _ _,.nil _ _,trivial⟩ ?_
  try simp
  intros;rfl
 obtain rfl:=oi h
 refine AW.ret ?_
 refine Left.plain hnb (by simp[Try.f28,resV,resC,comp];rfl) rfl rfl ?_
 simp
theorem Hz:Enters Try.prog 28:=enters Try.func28 (by kernel_rfl) rfl
def B6 (n:Nat) (a0:List Span) (a1:List Span):Option Bool :=
lt (lenI a0) fun v1 =>
lt (lenI a1) fun v2 =>
lt (neI v1 v2) fun v3 =>
ite' v3 (some false) (bn (iter n (fun (y4:Int) =>
lt (lenI a0) fun v7 =>
lt (ltI y4 v7) fun v8 =>
ite' v8 (bn (nth a0 y4) fun v9 =>
bn (nth a1 y4) fun v10 =>
lt (notB (andB (eqI v9.frm v10.frm) (andB (eqI v9.to v10.to) true))) fun v11 =>
ite' v11 (some (.inr (.inr false))) (lt (addI .i64 y4 1) fun v12 =>
some (.inl v12))) (some (.inr (.inl ())))) 0) fun (y5:Unit ⊕ Bool) =>
sm y5 (fun y13=>some true) (fun y14=>some y14))
theorem EX {n:Nat} {a0:List Span} {a1:List Span} {r:Bool} (h:B6 n a0 a1=some r):Sound Try.prog 27 [.l (.d false 2 (encSpan a0)),.l (.d false 2 (encSpan a1))] [] (.l (.s (.bool r))) []:=by
 unfold B6 at h
 refine Sound.of_aw (fn:=Try.f27) (c:=_) Try.func27 rfl (by simp[Try.f27]) fun cx hG hnb=>?_
 rw[show Try.f27.ntmps=26 from rfl]
 have hn0:cx.nb=0:=hnb
 simp only[Ar,initTm,List.map_cons,List.map_nil]
 apply AW.step
 ·simp
  intros;rfl
 refine AW.seq ?_
 replace h:=ltE h;obtain⟨v1,e1,h⟩:=h
 replace h:=ltE h;obtain⟨v2,e2,h⟩:=h
 replace h:=ltE h;obtain⟨v3,e3,h⟩:=h
 apply AW.step
 ·simp[Ak e1,Ak e2,← e3]
  intros;rfl
 cases v3 with
 |true =>
  replace h:=iteT rfl h
  refine AW.cond_true (by simp) ?_
  apply AW.step
  ·simp
   intros;rfl
  obtain rfl:=oi h
  refine AW.ret ?_
  refine Left.plain hnb (by simp[Try.f27,resV,resC,comp];rfl) rfl rfl ?_
  simp
 |false =>
  replace h:=iteF rfl h
  refine AW.cond_false (by simp) ?_
  refine AW.skip ?_
  try simp only[nm]
  refine AW.seq ?_
  apply AW.step
  ·simp
   intros;rfl
  refine AW.block ?_
  replace h:=bnE h;obtain⟨y5,g5,h⟩:=h
  refine AW.iterP g5 (mk:=fun gh ls q=>(⟨[(0,.l (.d false 2 (encSpan a0))),(1,.l (.d false 2 (encSpan a1))),(5,.l (.s (.int .i64 q)))],[],26,gh,ls⟩:St)) (N:=fun gh ls=>(sp (xP 0 (cx:=cx) (fun _=>(⟨[],[],26,gh,ls⟩:St))) (rP (cx:=cx) (P:=Try.prog) Try.f27 (fun q=>.l (.s (.bool q))) (fun q=>[])))) ?_ (noS noX noR) ?_ ?_
  ·refine Weak.mixN [] hn0 (by decide) ?_ ?_ rfl
   all_goals first|(simp[Ab,Ac,pickOb];done)|rfl
  ·clear h;intro y4 y6 h
   refine AW.seq ?_
   replace h:=ltE h;obtain⟨v7,e7,h⟩:=h
   replace h:=ltE h;obtain⟨v8,e8,h⟩:=h
   apply AW.step
   ·simp[Ak e7,← e8]
    intros;rfl
   cases v8 with
   |true =>
    replace h:=iteT rfl h
    refine AW.cond_true (by simp) ?_
    refine AW.skip ?_
    try simp only[nm]
    refine AW.seq ?_
    refine AW.block ?_
    replace h:=bnE h;obtain⟨v9,e9,h⟩:=h
    replace h:=bnE h;obtain⟨v10,e10,h⟩:=h
    replace h:=ltE h;obtain⟨v11,e11,h⟩:=h
    apply AW.drawnP (V:=[_,_,_,_,_,_,_,_]) mixed [⟨[0],[],[(0,none)],false⟩,⟨[0],[],[(5,none)],false⟩,⟨[0],[0,1],[(17,some 0),(18,some 1)],false⟩,⟨[0],[0,1,2],[(19,some 2)],false⟩,⟨[0],[],[(1,none)],false⟩,⟨[0],[],[(5,none)],false⟩,⟨[0],[4,5],[(21,some 4),(22,some 5)],false⟩,⟨[0],[4,5,6],[(23,some 6)],false⟩,⟨[],[0,1,2,3,4,5,6,7],[],false⟩] 8 (by kernel_rfl) (by kernel_rfl)
    ·refine⟨?_,?_,?_,?_,?_,?_,?_,?_,trivial⟩
     iterate 8 (· intro tm hr;simp[AllL,rdV] at hr;simp[hr,Aa e9,Aa e10,← e11];intros;first|exact KD.mk|exact KD.mkN)
    ·rfl
    ·simp[tmD,putD,Aa e9,Aa e10,← e11];rfl
    ·simp[Aa e9,Aa e10,← e11]
     intros;rfl
    cases v11 with
    |true =>
     replace h:=iteT rfl h
     refine AW.cond_true (by simp) ?_
     apply AW.step
     ·simp
      intros;rfl
     obtain rfl:=oi h
     refine AW.ret ?_
     try simp only[nm]
     refine rP_i ?_
     refine Left.plain hnb (by simp[Try.f27,resV,resC,comp];rfl) rfl rfl ?_
     simp
    |false =>
     replace h:=iteF rfl h
     refine AW.cond_false (by simp) ?_
     refine AW.skip ?_
     try simp only[nm]
     replace h:=ltE h;obtain⟨v12,e12,h⟩:=h
     apply AW.last
     ·simp[← e12]
      intros;rfl
     obtain rfl:=oi h
     refine nP_i ?_
     refine Weak.mixN [] hn0 (by decide) ?_ ?_ rfl
     all_goals first|(simp[Ab,Ac,pickOb];done)|rfl
   |false =>
    replace h:=iteF rfl h
    refine AW.cond_false (by simp) ?_
    refine AW.exit ?_
    try simp only[nm]
    obtain rfl:=oi h
    try simp only[sp_l,sp_r]
    refine xP_i ?_
    refine Weak.mixN [] hn0 (by decide) ?_ ?_ rfl
    all_goals first|(simp[Ab,Ac,pickOb];done)|rfl
  ·rintro e s hp
   rcases y5 with y13|y14
   ·replace h:=smL h
    obtain⟨rfl,hw⟩:=hp
    refine⟨_,hw,?_⟩
    try simp only[nm]
    apply AW.step
    ·simp
     intros;rfl
    obtain rfl:=oi h
    refine AW.ret ?_
    refine Left.plain hnb (by simp[Try.f27,resV,resC,comp];rfl) rfl rfl ?_
    simp
   ·replace h:=smR h
    obtain⟨rfl,hl⟩:=hp
    refine⟨_,Weak.refl _,?_⟩
    obtain rfl:=oi h
    exact hl
theorem EG:Enters Try.prog 27:=enters Try.func27 (by kernel_rfl) rfl
end Go.Proofs.Ythjenkmbbnjcnaa
namespace Go.Proofs.Ythjenkmbbnjcnaa
open Go Go.RowKit
def cntP (p:Int→Prop) [DecidablePred p]:Nat:=(List.range 16384).countP fun k:Nat=>decide (p (k:Int))
def sumS (l:List Span):Int:=(l.map fun x=>x.to - x.frm+1).sum
theorem normRT:@DX=@CM:=rfl
theorem Jz {l:List Span} (hl:l.length≤10000):Rn (CM big l) fun r=>SaysS r (inS l)∧r.length≤2+2*l.length:=H9 hl
theorem Iz (l:List Span) (hl:l.length≤1000000):B6 big l l=some true:=by
 refine Rn.eqv ?_
 unfold B6
 refine Rn.lt (Rn.lt (Rn.lt (Rn.ite (fun h=>?_) fun _=>?_)))
 ·simp[neI] at h
 refine Rn.bn (P:=fun y=>y=.inl ()) (Rn.iter _ (fun j a=>a=(j:Int)) l.length (by unfold big;omega) rfl fun j a hj hI=>?_) fun y hy=>?_
 ·subst hI
  refine Rn.lt (Rn.lt (Rn.ite (fun hd=>?_) fun hd=>Rn.some rfl))
  have hjl:j<l.length:=by
   have:=of_decide_eq_true (p:=((j:Int)<(l.length:Int))) hd
   omega
  refine Rn.bnE (AF hjl) (Rn.bnE (AF hjl) (Rn.lt (Rn.ite (fun h=>?_) fun _=>Rn.lt (Rn.some ⟨hjl,?_⟩))))
  ·simp[notB,andB,eqI] at h
  ·rw[Am (by omega) (by omega)]
   rfl
 ·subst hy
  exact Rn.some rfl
theorem KE:∀ {a b:Span},sP a=sP b→a=b:=by
 intro a b h
 obtain⟨a1,a2⟩:=a
 obtain⟨b1,b2⟩:=b
 simp[sP] at h
 obtain⟨h1,h2⟩:=h
 subst h1 h2
 rfl
theorem SaysS.ext {l m:List Span} {p q:Int→Prop} [DecidablePred p] [DecidablePred q] (hl:SaysS l p) (hm:SaysS m q) (h:∀ s,p s↔q s):l=m :=
 Gq (f:=sP) KE (FinP.ext hl hm fun s=>by unfold fS;simp only[h s])
theorem Fy (x:Int):∀ l:List Int,x∈compL l↔x∈l
 |[]=>by simp[compL]
 |[a]=>by simp[compL]
 |a::b::t=>by
  have ih:=Fy x (b::t)
  simp only[compL]
  split
  ·rename_i h
   subst h
   rw[ih]
   simp
  ·rw[List.mem_cons,ih,List.mem_cons (a:=x) (b:=a)]
theorem FS:∀ {l:List Int},l.Pairwise (·≤·)→(compL l).Pairwise (·<·)
 |[],_=>List.Pairwise.nil
 |[a],_=>List.pairwise_singleton _ _
 |a::b::t,h=>by
  have ih:=FS (l:=b::t) (List.pairwise_cons.1 h).2
  simp only[compL]
  split
  ·exact ih
  ·rename_i hne
   refine List.pairwise_cons.2 ⟨fun x hx=>?_,ih⟩
   have hab:=(List.pairwise_cons.1 h).1 b (by simp)
   rcases List.mem_cons.1 ((Fy x (b::t)).1 hx) with rfl|hx2
   ·omega
   ·have:=(List.pairwise_cons.1 (List.pairwise_cons.1 h).2).1 x hx2
    omega
theorem JA {l:List Int} (hl:l.length≤sortMost):Rn (B4 big l) fun r=>r.Perm l∧r.Pairwise (·≤·):=by
 unfold B4
 refine Rn.lt (Rn.lt ?_)
 obtain⟨v,ev,v0,v1,-⟩:=I5 (n:=l.length) (by unfold sortMost at hl;omega)
 refine Rn.bnE ev (Rn.bn (P:=fun r=>RP 0 l.length l r∧SortedI r 0 l.length) ?_ fun r hr=>Rn.chk (by simp[lenB,hr.1.len]) (Rn.some ⟨hr.1.perm,?_⟩))
 ·exact J7 big (l:=l) (a:=0) (b:=l.length) (lim:=v) (by unfold big;unfold sortMost at hl;omega) (Nat.zero_le _) (Nat.le_refl _) hl (fun h=>by omega) v0 v1
 ·have h2:=hr.2
  rw[← hr.1.len] at h2
  refine List.pairwise_iff_getElem.2 fun i j hi hj hij=>?_
  have:=h2 i j (Nat.zero_le _) hij hj
  unfold ksI keyI at this
  rw[List.getD_eq_getElem?_getD,List.getD_eq_getElem?_getD,List.getElem?_eq_getElem hi,List.getElem?_eq_getElem hj] at this
  exact this
theorem IA {l:List Claim} (hl:l.length≤sortMost):Rn (BS big l) fun r=>r.Pairwise (·<·)∧(∀ x,x∈r↔∃ c∈l,c.node=x)∧r.length≤1000:=by
 have hl':=hl
 unfold sortMost at hl'
 unfold BS
 refine Rn.lt (Rn.bn (P:=fun r=>r=l.map (·.node)) (Rn.iter _ (fun j y=>y=((j:Int),(l.take j).map (·.node))) l.length (by unfold big;omega) rfl fun j y hj hI=>?_) fun r hr=>?_)
 ·subst hI
  refine Rn.lt (Rn.ite (fun hd=>?_) fun hd=>?_)
  ·have hjl:j<l.length:=by
    have:=of_decide_eq_true (p:=((j:Int)<(l.length:Int))) hd
    omega
   refine Rn.bnE (AF hjl) (Rn.chk (by simp[room];omega) (Rn.lt (Rn.lt (Rn.some ⟨hjl,?_⟩))))
   rw[Am (by first|omega|(simp only;omega)) (by first|omega|(simp only;omega)),← List.take_append_getElem hjl,List.map_append]
   rfl
  ·have hjl:j=l.length:=by
    have:=of_decide_eq_false (p:=((j:Int)<(l.length:Int))) hd
    omega
   subst hjl
   exact Rn.some (by show _=_;rw[List.take_length])
 ·subst hr
  refine Rn.bn (JA (by simpa using hl)) fun v hv=>?_
  obtain⟨h1,h2⟩:=hv
  have hvl:v.length=l.length:=by rw[h1.length_eq,List.length_map]
  have hc:(compL v).length≤v.length:=by
   have:∀ l:List Int,(compL l).length≤l.length:=by
    intro l
    induction l using compL.induct with
    |case1=>simp[compL]
    |case2 a=>simp[compL]
    |case3 b t ih=>simp only[compL,if_true];simp at ih ⊢;omega
    |case4 a b t hne ih=>simp only[compL,if_neg hne];simp at ih ⊢;omega
   exact this v
  refine Rn.chk (by simp[lenB,h1.length_eq]) (Rn.chk (by simp[cmB];omega) (Rn.lt (Rn.chk (by simp[room];omega) (Rn.some ⟨FS h2,fun x=>?_,by omega⟩))))
  rw[Fy,h1.mem_iff,List.mem_map]
def clmP (f:Int→Option (Int×Int)) (s:Int):Prop:=(f s).isSome=true
instance (f:Int→Option (Int×Int)) (s:Int):Decidable (clmP f s):=by unfold clmP;infer_instance
def ownU (f:Int→Option (Int×Int)) (n:Nat) (s:Int):Prop:=∃ i:Nat,i<n∧ownP f (i:Int) s
instance (f:Int→Option (Int×Int)) (n:Nat) (s:Int):Decidable (ownU f n s) :=
 decidable_of_iff (∃ i∈List.range n,ownP f (i:Int) s) ⟨fun ⟨i,h1,h2⟩=>⟨i,List.mem_range.1 h1,h2⟩,fun ⟨i,h1,h2⟩=>⟨i,List.mem_range.2 h1,h2⟩⟩
end Go.Proofs.Ythjenkmbbnjcnaa
namespace Go.Proofs.Ythjenkmbbnjcnaa
open Go Go.RowKit
def B9 (n:Nat) (a0:List Claim):Option Bool :=
lt (lenI a0) fun v1 =>
bn (iter n (fun (y2:Int) =>
lt (ltI y2 v1) fun v5 =>
ite' v5 (bn (nth a0 y2) fun v6 =>
bn (lt (ltI v6.frm 0) fun v8 =>
ite' v8 (some (true)) (lt (ltI v6.to v6.frm) fun v9 =>
ite' v9 (some (true)) (lt (gtI v6.to 16383) fun v10 =>
ite' v10 (some (true)) (lt (ltI v6.node 0) fun v11 =>
ite' v11 (some (true)) (lt (geI v6.node 8) fun v12 =>
ite' v12 (some (true)) (lt (ltI v6.epoch 1) fun v13 =>
ite' v13 (some (true)) (lt (gtI v6.epoch 9007199254740992) fun v14 =>
some (v14)))))))) fun (y7:Bool) =>
lt (y7) fun v15 =>
ite' v15 (some (.inr (.inr false))) (bn (lt (gtI y2 0) fun v17 =>
ite' v17 (lt (subI .i64 y2 1) fun v18 =>
bn (nth a0 v18) fun v19 =>
lt (leI v6.frm v19.to) fun v20 =>
ite' v20 (some (true)) (bn (BD n v19 v6) fun v21 =>
some (v21))) (some (false))) fun (y16:Bool) =>
lt (y16) fun v22 =>
ite' v22 (some (.inr (.inr false))) (lt (addI .i64 y2 1) fun v23 =>
some (.inl v23)))) (some (.inr (.inl ())))) 0) fun (y3:Unit ⊕ Bool) =>
sm y3 (fun y24=>some true) (fun y25=>some y25)
def DX6t1:List DI:=[⟨[0],[],[(3,none)],false⟩,⟨[0],[0],[(47,some 0)],false⟩,⟨[0],[0,1],[(48,some 1)],false⟩,⟨[0],[0,1,2],[(4,none),(49,some 2)],false⟩,⟨[0],[0,1,2,3],[(49,some 2),(50,some 3)],false⟩,⟨[0],[0,1,2],[(0,none),(49,some 2)],false⟩,⟨[0],[0,1,2],[(3,none),(49,some 2)],false⟩,⟨[0],[0,1,2,6],[(49,some 2),(53,some 6)],false⟩,⟨[0],[0,1,2,5,6,7],[(49,some 2),(52,some 5),(54,some 7)],false⟩,⟨[0],[0,1,2,5,6,7,8],[(49,some 2),(55,some 8)],false⟩,⟨[0],[0,1,2,5,6,7,8,9],[(49,some 2),(56,some 9)],false⟩,⟨[0],[0,1,2,3,4,5,6,7,8,9,10],[(49,some 2),(51,some 4),(57,some 10)],false⟩,⟨[0],[0,1,2,3,4,5,6,7,8,9,10,11],[(49,some 2),(58,some 11)],false⟩,⟨[0],[0,1,2,3,4,5,6,7,8,9,10,11,12],[(0,none),(59,some 12)],false⟩,⟨[0],[0,1,2,3,4,5,6,7,8,9,10,11,12],[(3,none),(59,some 12)],false⟩,⟨[0],[0,1,2,3,4,5,6,7,8,9,10,11,12,14],[(59,some 12),(61,some 14)],false⟩,⟨[0],[0,1,2,3,4,5,6,7,8,9,10,11,12,13,14,15],[(59,some 12),(60,some 13),(62,some 15)],false⟩,⟨[0],[0,1,2,3,4,5,6,7,8,9,10,11,12,13,14,15,16],[(59,some 12),(63,some 16)],false⟩,⟨[0],[0,1,2,3,4,5,6,7,8,9,10,11,12],[(4,none),(59,some 12)],false⟩,⟨[],[0,1,2,3,4,5,6,7,8,9,10,11,12,13,14,15,16,17,18],[],false⟩,⟨[],[0,1,2,3,4,5,6,7,8,9,10,11,12,13,14,15,16,17,18,19],[],false⟩,⟨[],[0,1,2,3,4,5,6,7,8,9,10,11,12,13,14,15,16,17,18,19,20],[],false⟩]
theorem Ex {n:Nat} {a0:List Claim} {r:Bool} (h:B9 n a0=some r):Sound Try.prog 29 [.l (.d false 4 (encClaim a0))] [] (.l (.s (.bool r))) []:=by
 unfold B9 at h
 refine Sound.of_aw (fn:=Try.f29) (c:=_) Try.func29 rfl (by simp[Try.f29]) fun cx hG hnb=>?_
 rw[show Try.f29.ntmps=70 from rfl]
 have hn0:cx.nb=0:=hnb
 simp only[Ar,initTm,List.map_cons,List.map_nil]
 apply AW.step
 ·simp
  intros;rfl
 refine AW.seq ?_
 replace h:=ltE h;obtain⟨v1,e1,h⟩:=h
 apply AW.step
 ·simp[Ak e1]
  intros;rfl
 refine AW.block ?_
 replace h:=bnE h;obtain⟨y3,g3,h⟩:=h
 refine AW.iterP g3 (mk:=fun gh ls q=>(⟨[(0,.l (.d false 4 (encClaim a0))),(5,.l (.d false 4 (encClaim a0))),(6,.l (.s (.int .i64 v1))),(7,.l (.s (.int .i64 q)))],[],70,gh,ls⟩:St)) (N:=fun gh ls=>(sp (xP 0 (cx:=cx) (fun _=>(⟨[],[],70,gh,ls⟩:St))) (rP (cx:=cx) (P:=Try.prog) Try.f29 (fun q=>.l (.s (.bool q))) (fun q=>[])))) ?_ (noS noX noR) ?_ ?_
 ·refine Weak.mixN [] hn0 (by decide) ?_ ?_ rfl
  all_goals first|(simp[Ab,Ac,pickOb];done)|rfl
 ·clear h;intro y2 y4 h
  replace h:=ltE h;obtain⟨v5,e5,h⟩:=h
  apply AW.step
  ·simp[← e5]
   intros;rfl
  refine AW.seq ?_
  cases v5 with
  |true =>
   replace h:=iteT rfl h
   refine AW.cond_true (by simp) ?_
   refine AW.skip ?_
   try simp only[nm]
   refine AW.seq ?_
   refine AW.block ?_
   replace h:=bnE h;obtain⟨v6,e6,h⟩:=h
   apply AW.step
   ·simp[Aa e6]
    intros;rfl
   refine AW.seq ?_
   replace h:=bnE h;obtain⟨y7,g7,h⟩:=h
   refine AW.flow (p:=fun gh ls=>(nP (cx:=cx) (fun q=>(⟨[(0,.l (.d false 4 (encClaim a0))),(3,.l (.s (.int .i64 y2))),(4,.l (.p 0 0)),(5,.l (.d false 4 (encClaim a0))),(6,.l (.s (.int .i64 v1))),(7,.l (.s (.int .i64 y2))),(46,.l (.s (.bool q)))],[some ⟨41,4,false,none,[.s (.int .i64 v6.frm),.s (.int .i64 v6.to),.s (.int .i64 v6.node),.s (.int .i64 v6.epoch)]⟩],70,gh,ls⟩:St))) y7) ?_ ?_
   ·replace h:=g7;clear g7
    replace h:=ltE h;obtain⟨v8,e8,h⟩:=h
    cases v8 with
    |true =>
     replace h:=iteT rfl h
     apply AW.last
     ·simp[← e8]
      intros;rfl
     obtain rfl:=oi h
     refine nP_i ?_
     refine Weak.mixN [some 0] hn0 (by decide) ?_ ?_ rfl
     all_goals first|(simp[Ab,Ac,pickOb];done)|rfl
    |false =>
     replace h:=iteF rfl h
     replace h:=ltE h;obtain⟨v9,e9,h⟩:=h
     cases v9 with
     |true =>
      replace h:=iteT rfl h
      apply AW.last
      ·simp[← e8,← e9]
       intros;rfl
      obtain rfl:=oi h
      refine nP_i ?_
      refine Weak.mixN [some 0] hn0 (by decide) ?_ ?_ rfl
      all_goals first|(simp[Ab,Ac,pickOb];done)|rfl
     |false =>
      replace h:=iteF rfl h
      replace h:=ltE h;obtain⟨v10,e10,h⟩:=h
      cases v10 with
      |true =>
       replace h:=iteT rfl h
       apply AW.last
       ·simp[← e8,← e9,← e10]
        intros;rfl
       obtain rfl:=oi h
       refine nP_i ?_
       refine Weak.mixN [some 0] hn0 (by decide) ?_ ?_ rfl
       all_goals first|(simp[Ab,Ac,pickOb];done)|rfl
      |false =>
       replace h:=iteF rfl h
       replace h:=ltE h;obtain⟨v11,e11,h⟩:=h
       cases v11 with
       |true =>
        replace h:=iteT rfl h
        apply AW.last
        ·simp[← e8,← e9,← e10,← e11]
         intros;rfl
        obtain rfl:=oi h
        refine nP_i ?_
        refine Weak.mixN [some 0] hn0 (by decide) ?_ ?_ rfl
        all_goals first|(simp[Ab,Ac,pickOb];done)|rfl
       |false =>
        replace h:=iteF rfl h
        replace h:=ltE h;obtain⟨v12,e12,h⟩:=h
        cases v12 with
        |true =>
         replace h:=iteT rfl h
         apply AW.last
         ·simp[← e8,← e9,← e10,← e11,← e12]
          intros;rfl
         obtain rfl:=oi h
         refine nP_i ?_
         refine Weak.mixN [some 0] hn0 (by decide) ?_ ?_ rfl
         all_goals first|(simp[Ab,Ac,pickOb];done)|rfl
        |false =>
         replace h:=iteF rfl h
         replace h:=ltE h;obtain⟨v13,e13,h⟩:=h
         cases v13 with
         |true =>
          replace h:=iteT rfl h
          apply AW.last
          ·simp[← e8,← e9,← e10,← e11,← e12,← e13]
           intros;rfl
          obtain rfl:=oi h
          refine nP_i ?_
          refine Weak.mixN [some 0] hn0 (by decide) ?_ ?_ rfl
          all_goals first|(simp[Ab,Ac,pickOb];done)|rfl
         |false =>
          replace h:=iteF rfl h
          replace h:=ltE h;obtain⟨v14,e14,h⟩:=h
          apply AW.last
          ·simp[← e8,← e9,← e10,← e11,← e12,← e13,← e14]
           intros;rfl
          obtain rfl:=oi h
          refine nP_i ?_
          refine Weak.mixN [some 0] hn0 (by decide) ?_ ?_ rfl
          all_goals first|(simp[Ab,Ac,pickOb];done)|rfl
   ·rintro e s hp
    obtain⟨rfl,hw⟩:=hp
    refine⟨_,hw,?_⟩
    try simp only[nm]
    replace h:=ltE h;obtain⟨v15,e15,h⟩:=h
    rw[← e15]
    cases v15 with
    |true =>
     replace h:=iteT rfl h
     refine AW.cond_true (by simp) ?_
     apply AW.step
     ·simp
      intros;rfl
     obtain rfl:=oi h
     refine AW.ret ?_
     try simp only[nm]
     refine rP_i ?_
     refine Left.plain hnb (by simp[Try.f29,resV,resC,comp];rfl) rfl rfl ?_
     simp
    |false =>
     replace h:=iteF rfl h
     refine AW.cond_false (by simp) ?_
     refine AW.skip ?_
     try simp only[nm]
     replace h:=bnE h;obtain⟨y16,g16,h⟩:=h
     refine AW.flow (p:=fun gh ls=>(nP (cx:=cx) (fun q=>(⟨[(0,.l (.d false 4 (encClaim a0))),(5,.l (.d false 4 (encClaim a0))),(6,.l (.s (.int .i64 v1))),(7,.l (.s (.int .i64 y2))),(68,.l (.s (.bool q)))],[],70,gh,ls⟩:St))) y16) ?_ ?_
     ·replace h:=g16;clear g16
      replace h:=ltE h;obtain⟨v17,e17,h⟩:=h
      cases v17 with
      |true =>
       replace h:=iteT rfl h
       replace h:=ltE h;obtain⟨v18,e18,h⟩:=h
       replace h:=bnE h;obtain⟨v19,e19,h⟩:=h
       replace h:=ltE h;obtain⟨v20,e20,h⟩:=h
       cases v20 with
       |true =>
        replace h:=iteT rfl h
        apply AW.drawnR (V:=[_,_,_,_,_,_,_,_,_,_,_,_,_,_,_,_,_,_,_]) mixed DX6t1 19 (by kernel_rfl) (by kernel_rfl)
        ·refine⟨?_,?_,?_,?_,?_,?_,?_,?_,?_,?_,?_,?_,?_,?_,?_,?_,?_,?_,?_,trivial⟩
         iterate 19 (· intro tm hr;simp[AllL,rdV] at hr;simp[hr,← e17,← e18,Aa e19,← e20];intros;first|exact KD.mk|exact KD.mkN)
        ·rfl
        ·simp[tmD,putD,← e17,← e18,Aa e19,← e20];rfl
        ·simp[← e17,← e18,Aa e19,← e20]
         intros;rfl
        obtain rfl:=oi h
        refine nP_i ?_
        refine Weak.mixN [] hn0 (by decide) ?_ ?_ rfl
        all_goals first|(simp[Ab,Ac,pickOb];done)|rfl
       |false =>
        replace h:=iteF rfl h
        replace h:=bnE h;obtain⟨v21,e21,h⟩:=h
        apply AW.drawnR (V:=[_,_,_,_,_,_,_,_,_,_,_,_,_,_,_,_,_,_,_]) mixed DX6t1 19 (by kernel_rfl) (by kernel_rfl)
        ·refine⟨?_,?_,?_,?_,?_,?_,?_,?_,?_,?_,?_,?_,?_,?_,?_,?_,?_,?_,?_,trivial⟩
         iterate 19 (· intro tm hr;simp[AllL,rdV] at hr;simp[hr,← e17,← e18,Aa e19,← e20];intros;first|exact KD.mk|exact KD.mkN)
        ·rfl
        ·simp[tmD,putD,← e17,← e18,Aa e19,← e20];rfl
        ·simp[← e17,← e18,Aa e19,← e20]
         intros
         refine Ah ED (ET e21) rfl ⟨.same rfl,.same rfl,trivial⟩ ?_
         try simp[← e17,← e18,Aa e19,← e20]
         intros;rfl
        obtain rfl:=oi h
        refine nP_i ?_
        refine Weak.mixN [] hn0 (by decide) ?_ ?_ rfl
        all_goals first|(simp[Ab,Ac,pickOb];done)|rfl
      |false =>
       replace h:=iteF rfl h
       apply AW.drawnR (V:=[_,_,_,_,_,_,_,_,_,_,_,_,_,_,_,_,_,_,_]) mixed DX6t1 19 (by kernel_rfl) (by kernel_rfl)
       ·refine⟨?_,?_,?_,?_,?_,?_,?_,?_,?_,?_,?_,?_,?_,?_,?_,?_,?_,?_,?_,trivial⟩
        iterate 19 (· intro tm hr;simp[AllL,rdV] at hr;simp[hr,← e17];intros;first|exact KD.mk|exact KD.mkN)
       ·rfl
       ·simp[tmD,putD,← e17];rfl
       ·simp[← e17]
        intros;rfl
       obtain rfl:=oi h
       refine nP_i ?_
       refine Weak.mixN [] hn0 (by decide) ?_ ?_ rfl
       all_goals first|(simp[Ab,Ac,pickOb];done)|rfl
     ·rintro e s hp
      obtain⟨rfl,hw⟩:=hp
      refine⟨_,hw,?_⟩
      try simp only[nm]
      replace h:=ltE h;obtain⟨v22,e22,h⟩:=h
      rw[← e22]
      cases v22 with
      |true =>
       replace h:=iteT rfl h
       refine AW.cond_true (by simp) ?_
       apply AW.step
       ·simp
        intros;rfl
       obtain rfl:=oi h
       refine AW.ret ?_
       try simp only[nm]
       refine rP_i ?_
       refine Left.plain hnb (by simp[Try.f29,resV,resC,comp];rfl) rfl rfl ?_
       simp
      |false =>
       replace h:=iteF rfl h
       refine AW.cond_false (by simp) ?_
       refine AW.skip ?_
       try simp only[nm]
       replace h:=ltE h;obtain⟨v23,e23,h⟩:=h
       apply AW.last
       ·simp[← e23]
        intros;rfl
       obtain rfl:=oi h
       refine nP_i ?_
       refine Weak.mixN [] hn0 (by decide) ?_ ?_ rfl
       all_goals first|(simp[Ab,Ac,pickOb];done)|rfl
  |false =>
   replace h:=iteF rfl h
   refine AW.cond_false (by simp) ?_
   refine AW.exit ?_
   try simp only[nm]
   obtain rfl:=oi h
   try simp only[sp_l,sp_r]
   refine xP_i ?_
   refine Weak.mixN [] hn0 (by decide) ?_ ?_ rfl
   all_goals first|(simp[Ab,Ac,pickOb];done)|rfl
 ·rintro e s hp
  rcases y3 with y24|y25
  ·replace h:=smL h
   obtain⟨rfl,hw⟩:=hp
   refine⟨_,hw,?_⟩
   try simp only[nm]
   apply AW.step
   ·simp
    intros;rfl
   obtain rfl:=oi h
   refine AW.ret ?_
   refine Left.plain hnb (by simp[Try.f29,resV,resC,comp];rfl) rfl rfl ?_
   simp
  ·replace h:=smR h
   obtain⟨rfl,hl⟩:=hp
   refine⟨_,Weak.refl _,?_⟩
   obtain rfl:=oi h
   exact hl
theorem Eh:Enters Try.prog 29:=enters Try.func29 (by kernel_rfl) rfl
def Bu (n:Nat) (a0:List Claim):Option Bool :=
bn (iter n (fun (y1:Int) =>
lt (lenI a0) fun v4 =>
lt (ltI y1 v4) fun v5 =>
ite' v5 (bn (nth a0 y1) fun v6 =>
bn (lt (ltI v6.frm 0) fun v8 =>
ite' v8 (some (true)) (lt (ltI v6.to v6.frm) fun v9 =>
ite' v9 (some (true)) (lt (geI v6.to 16384) fun v10 =>
ite' v10 (some (true)) (lt (ltI v6.node 0) fun v11 =>
ite' v11 (some (true)) (lt (geI v6.node 8) fun v12 =>
ite' v12 (some (true)) (lt (ltI v6.epoch 1) fun v13 =>
ite' v13 (some (true)) (lt (gtI v6.epoch 9007199254740992) fun v14 =>
some (v14)))))))) fun (y7:Bool) =>
lt (y7) fun v15 =>
ite' v15 (some (.inr (.inr false))) (bn (lt (gtI y1 0) fun v17 =>
ite' v17 (lt (subI .i64 y1 1) fun v18 =>
bn (nth a0 v18) fun v19 =>
lt (leI v6.frm v19.to) fun v20 =>
ite' v20 (some (true)) (lt (addI .i64 v19.to 1) fun v21 =>
lt (eqI v6.frm v21) fun v22 =>
ite' v22 (lt (eqI v6.node v19.node) fun v23 =>
ite' v23 (lt (eqI v6.epoch v19.epoch) fun v24 =>
some (v24)) (some (false))) (some (false)))) (some (false))) fun (y16:Bool) =>
lt (y16) fun v25 =>
ite' v25 (some (.inr (.inr false))) (lt (addI .i64 y1 1) fun v26 =>
some (.inl v26)))) (some (.inr (.inl ())))) 0) fun (y2:Unit ⊕ Bool) =>
sm y2 (fun y27=>some true) (fun y28=>some y28)
def DX6t2:List DI:=[⟨[0],[],[(3,none)],false⟩,⟨[0],[0],[(50,some 0)],false⟩,⟨[0],[0,1],[(51,some 1)],false⟩,⟨[0],[0,1,2],[(4,none),(52,some 2)],false⟩,⟨[0],[0,1,2,3],[(52,some 2),(53,some 3)],false⟩,⟨[0],[0,1,2],[(0,none),(52,some 2)],false⟩,⟨[0],[0,1,2],[(3,none),(52,some 2)],false⟩,⟨[0],[0,1,2,6],[(52,some 2),(56,some 6)],false⟩,⟨[0],[0,1,2,5,6,7],[(52,some 2),(55,some 5),(57,some 7)],false⟩,⟨[0],[0,1,2,5,6,7,8],[(52,some 2),(58,some 8)],false⟩,⟨[0],[0,1,2,5,6,7,8,9],[(52,some 2),(59,some 9)],false⟩,⟨[0],[0,1,2,3,4,5,6,7,8,9,10],[(52,some 2),(54,some 4),(60,some 10)],false⟩,⟨[0],[0,1,2,3,4,5,6,7,8,9,10,11],[(52,some 2),(61,some 11)],false⟩,⟨[0],[0,1,2,3,4,5,6,7,8,9,10,11,12],[(4,none),(62,some 12)],false⟩,⟨[0],[0,1,2,3,4,5,6,7,8,9,10,11,12,13],[(62,some 12),(63,some 13)],false⟩,⟨[0],[0,1,2,3,4,5,6,7,8,9,10,11,12],[(0,none),(62,some 12)],false⟩,⟨[0],[0,1,2,3,4,5,6,7,8,9,10,11,12],[(3,none),(62,some 12)],false⟩,⟨[0],[0,1,2,3,4,5,6,7,8,9,10,11,12,16],[(62,some 12),(66,some 16)],false⟩,⟨[0],[0,1,2,3,4,5,6,7,8,9,10,11,12,15,16,17],[(62,some 12),(65,some 15),(67,some 17)],false⟩,⟨[0],[0,1,2,3,4,5,6,7,8,9,10,11,12,15,16,17,18],[(62,some 12),(68,some 18)],false⟩,⟨[0],[0,1,2,3,4,5,6,7,8,9,10,11,12,15,16,17,18,19],[(62,some 12),(69,some 19)],false⟩,⟨[0],[0,1,2,3,4,5,6,7,8,9,10,11,12,15,16,17,18,19,20],[(62,some 12),(70,some 20)],false⟩,⟨[0],[0,1,2,3,4,5,6,7,8,9,10,11,12,13,14,15,16,17,18,19,20,21],[(62,some 12),(64,some 14),(71,some 21)],false⟩,⟨[0],[0,1,2,3,4,5,6,7,8,9,10,11,12,13,14,15,16,17,18,19,20,21,22],[(62,some 12),(72,some 22)],false⟩,⟨[0],[0,1,2,3,4,5,6,7,8,9,10,11,12,13,14,15,16,17,18,19,20,21,22,23],[(4,none),(73,some 23)],false⟩,⟨[0],[0,1,2,3,4,5,6,7,8,9,10,11,12,13,14,15,16,17,18,19,20,21,22,23,24],[(73,some 23),(74,some 24)],false⟩,⟨[0],[0,1,2,3,4,5,6,7,8,9,10,11,12,13,14,15,16,17,18,19,20,21,22,23],[(0,none),(73,some 23)],false⟩,⟨[0],[0,1,2,3,4,5,6,7,8,9,10,11,12,13,14,15,16,17,18,19,20,21,22,23],[(3,none),(73,some 23)],false⟩,⟨[0],[0,1,2,3,4,5,6,7,8,9,10,11,12,13,14,15,16,17,18,19,20,21,22,23,27],[(73,some 23),(77,some 27)],false⟩,⟨[0],[0,1,2,3,4,5,6,7,8,9,10,11,12,13,14,15,16,17,18,19,20,21,22,23,26,27,28],[(73,some 23),(76,some 26),(78,some 28)],false⟩,⟨[0],[0,1,2,3,4,5,6,7,8,9,10,11,12,13,14,15,16,17,18,19,20,21,22,23,26,27,28,29],[(73,some 23),(79,some 29)],false⟩,⟨[0],[0,1,2,3,4,5,6,7,8,9,10,11,12,13,14,15,16,17,18,19,20,21,22,23,26,27,28,29,30],[(73,some 23),(80,some 30)],false⟩,⟨[0],[0,1,2,3,4,5,6,7,8,9,10,11,12,13,14,15,16,17,18,19,20,21,22,23,24,25,26,27,28,29,30,31],[(73,some 23),(75,some 25),(81,some 31)],false⟩,⟨[0],[0,1,2,3,4,5,6,7,8,9,10,11,12,13,14,15,16,17,18,19,20,21,22,23,24,25,26,27,28,29,30,31,32],[(62,some 12),(73,some 23),(82,some 32)],false⟩,⟨[0],[0,1,2,3,4,5,6,7,8,9,10,11,12,13,14,15,16,17,18,19,20,21,22,23,24,25,26,27,28,29,30,31,32,33],[(62,some 12),(83,some 33)],false⟩,⟨[0],[0,1,2,3,4,5,6,7,8,9,10,11,12,13,14,15,16,17,18,19,20,21,22,23,24,25,26,27,28,29,30,31,32,33,34],[(4,none),(84,some 34)],false⟩,⟨[0],[0,1,2,3,4,5,6,7,8,9,10,11,12,13,14,15,16,17,18,19,20,21,22,23,24,25,26,27,28,29,30,31,32,33,34,35],[(84,some 34),(85,some 35)],false⟩,⟨[0],[0,1,2,3,4,5,6,7,8,9,10,11,12,13,14,15,16,17,18,19,20,21,22,23,24,25,26,27,28,29,30,31,32,33,34],[(0,none),(84,some 34)],false⟩,⟨[0],[0,1,2,3,4,5,6,7,8,9,10,11,12,13,14,15,16,17,18,19,20,21,22,23,24,25,26,27,28,29,30,31,32,33,34],[(3,none),(84,some 34)],false⟩,⟨[0],[0,1,2,3,4,5,6,7,8,9,10,11,12,13,14,15,16,17,18,19,20,21,22,23,24,25,26,27,28,29,30,31,32,33,34,38],[(84,some 34),(88,some 38)],false⟩,⟨[0],[0,1,2,3,4,5,6,7,8,9,10,11,12,13,14,15,16,17,18,19,20,21,22,23,24,25,26,27,28,29,30,31,32,33,34,37,38,39],[(84,some 34),(87,some 37),(89,some 39)],false⟩,⟨[0],[0,1,2,3,4,5,6,7,8,9,10,11,12,13,14,15,16,17,18,19,20,21,22,23,24,25,26,27,28,29,30,31,32,33,34,37,38,39,40],[(84,some 34),(90,some 40)],false⟩,⟨[0],[0,1,2,3,4,5,6,7,8,9,10,11,12,13,14,15,16,17,18,19,20,21,22,23,24,25,26,27,28,29,30,31,32,33,34,37,38,39,40,41],[(84,some 34),(91,some 41)],false⟩,⟨[],[0,1,2,3,4,5,6,7,8,9,10,11,12,13,14,15,16,17,18,19,20,21,22,23,24,25,26,27,28,29,30,31,32,33,34,35,36,37,38,39,40,41,42],[],false⟩,⟨[],[0,1,2,3,4,5,6,7,8,9,10,11,12,13,14,15,16,17,18,19,20,21,22,23,24,25,26,27,28,29,30,31,32,33,34,35,36,37,38,39,40,41,42,43],[],false⟩,⟨[],[0,1,2,3,4,5,6,7,8,9,10,11,12,13,14,15,16,17,18,19,20,21,22,23,24,25,26,27,28,29,30,31,32,33,34,35,36,37,38,39,40,41,42,43,44],[],false⟩,⟨[],[0,1,2,3,4,5,6,7,8,9,10,11,12,13,14,15,16,17,18,19,20,21,22,23,24,25,26,27,28,29,30,31,32,33,34,35,36,37,38,39,40,41,42,43,44,45],[],false⟩]
theorem B7 {n:Nat} {a0:List Claim} {r:Bool} (h:Bu n a0=some r):Sound Try.prog 30 [.l (.d false 4 (encClaim a0))] [] (.l (.s (.bool r))) []:=by
 unfold Bu at h
 refine Sound.of_aw (fn:=Try.f30) (c:=_) Try.func30 rfl (by simp[Try.f30]) fun cx hG hnb=>?_
 rw[show Try.f30.ntmps=97 from rfl]
 have hn0:cx.nb=0:=hnb
 simp only[Ar,initTm,List.map_cons,List.map_nil]
 apply AW.step
 ·simp
  intros;rfl
 refine AW.seq ?_
 apply AW.step
 ·simp
  intros;rfl
 refine AW.block ?_
 replace h:=bnE h;obtain⟨y2,g2,h⟩:=h
 refine AW.iterP g2 (mk:=fun gh ls q=>(⟨[(0,.l (.d false 4 (encClaim a0))),(3,.l (.s (.int .i64 q)))],[],97,gh,ls⟩:St)) (N:=fun gh ls=>(sp (xP 0 (cx:=cx) (fun _=>(⟨[],[],97,gh,ls⟩:St))) (rP (cx:=cx) (P:=Try.prog) Try.f30 (fun q=>.l (.s (.bool q))) (fun q=>[])))) ?_ (noS noX noR) ?_ ?_
 ·refine Weak.mixN [] hn0 (by decide) ?_ ?_ rfl
  all_goals first|(simp[Ab,Ac,pickOb];done)|rfl
 ·clear h;intro y1 y3 h
  refine AW.seq ?_
  replace h:=ltE h;obtain⟨v4,e4,h⟩:=h
  replace h:=ltE h;obtain⟨v5,e5,h⟩:=h
  apply AW.step
  ·simp[Ak e4,← e5]
   intros;rfl
  cases v5 with
  |true =>
   replace h:=iteT rfl h
   refine AW.cond_true (by simp) ?_
   refine AW.skip ?_
   try simp only[nm]
   refine AW.seq ?_
   refine AW.block ?_
   replace h:=bnE h;obtain⟨v6,e6,h⟩:=h
   apply AW.step
   ·simp[Aa e6]
    intros;rfl
   refine AW.seq ?_
   replace h:=bnE h;obtain⟨y7,g7,h⟩:=h
   refine AW.flow (p:=fun gh ls=>(nP (cx:=cx) (fun q=>(⟨[(0,.l (.d false 4 (encClaim a0))),(3,.l (.s (.int .i64 y1))),(4,.l (.p 0 0)),(49,.l (.s (.bool q)))],[some ⟨41,4,false,none,[.s (.int .i64 v6.frm),.s (.int .i64 v6.to),.s (.int .i64 v6.node),.s (.int .i64 v6.epoch)]⟩],97,gh,ls⟩:St))) y7) ?_ ?_
   ·replace h:=g7;clear g7
    replace h:=ltE h;obtain⟨v8,e8,h⟩:=h
    cases v8 with
    |true =>
     replace h:=iteT rfl h
     apply AW.last
     ·simp[← e8]
      intros;rfl
     obtain rfl:=oi h
     refine nP_i ?_
     refine Weak.mixN [some 0] hn0 (by decide) ?_ ?_ rfl
     all_goals first|(simp[Ab,Ac,pickOb];done)|rfl
    |false =>
     replace h:=iteF rfl h
     replace h:=ltE h;obtain⟨v9,e9,h⟩:=h
     cases v9 with
     |true =>
      replace h:=iteT rfl h
      apply AW.last
      ·simp[← e8,← e9]
       intros;rfl
      obtain rfl:=oi h
      refine nP_i ?_
      refine Weak.mixN [some 0] hn0 (by decide) ?_ ?_ rfl
      all_goals first|(simp[Ab,Ac,pickOb];done)|rfl
     |false =>
      replace h:=iteF rfl h
      replace h:=ltE h;obtain⟨v10,e10,h⟩:=h
      cases v10 with
      |true =>
       replace h:=iteT rfl h
       apply AW.last
       ·simp[← e8,← e9,← e10]
        intros;rfl
       obtain rfl:=oi h
       refine nP_i ?_
       refine Weak.mixN [some 0] hn0 (by decide) ?_ ?_ rfl
       all_goals first|(simp[Ab,Ac,pickOb];done)|rfl
      |false =>
       replace h:=iteF rfl h
       replace h:=ltE h;obtain⟨v11,e11,h⟩:=h
       cases v11 with
       |true =>
        replace h:=iteT rfl h
        apply AW.last
        ·simp[← e8,← e9,← e10,← e11]
         intros;rfl
        obtain rfl:=oi h
        refine nP_i ?_
        refine Weak.mixN [some 0] hn0 (by decide) ?_ ?_ rfl
        all_goals first|(simp[Ab,Ac,pickOb];done)|rfl
       |false =>
        replace h:=iteF rfl h
        replace h:=ltE h;obtain⟨v12,e12,h⟩:=h
        cases v12 with
        |true =>
         replace h:=iteT rfl h
         apply AW.last
         ·simp[← e8,← e9,← e10,← e11,← e12]
          intros;rfl
         obtain rfl:=oi h
         refine nP_i ?_
         refine Weak.mixN [some 0] hn0 (by decide) ?_ ?_ rfl
         all_goals first|(simp[Ab,Ac,pickOb];done)|rfl
        |false =>
         replace h:=iteF rfl h
         replace h:=ltE h;obtain⟨v13,e13,h⟩:=h
         cases v13 with
         |true =>
          replace h:=iteT rfl h
          apply AW.last
          ·simp[← e8,← e9,← e10,← e11,← e12,← e13]
           intros;rfl
          obtain rfl:=oi h
          refine nP_i ?_
          refine Weak.mixN [some 0] hn0 (by decide) ?_ ?_ rfl
          all_goals first|(simp[Ab,Ac,pickOb];done)|rfl
         |false =>
          replace h:=iteF rfl h
          replace h:=ltE h;obtain⟨v14,e14,h⟩:=h
          apply AW.last
          ·simp[← e8,← e9,← e10,← e11,← e12,← e13,← e14]
           intros;rfl
          obtain rfl:=oi h
          refine nP_i ?_
          refine Weak.mixN [some 0] hn0 (by decide) ?_ ?_ rfl
          all_goals first|(simp[Ab,Ac,pickOb];done)|rfl
   ·rintro e s hp
    obtain⟨rfl,hw⟩:=hp
    refine⟨_,hw,?_⟩
    try simp only[nm]
    replace h:=ltE h;obtain⟨v15,e15,h⟩:=h
    rw[← e15]
    cases v15 with
    |true =>
     replace h:=iteT rfl h
     refine AW.cond_true (by simp) ?_
     apply AW.step
     ·simp
      intros;rfl
     obtain rfl:=oi h
     refine AW.ret ?_
     try simp only[nm]
     refine rP_i ?_
     refine Left.plain hnb (by simp[Try.f30,resV,resC,comp];rfl) rfl rfl ?_
     simp
    |false =>
     replace h:=iteF rfl h
     refine AW.cond_false (by simp) ?_
     refine AW.skip ?_
     try simp only[nm]
     replace h:=bnE h;obtain⟨y16,g16,h⟩:=h
     refine AW.flow (p:=fun gh ls=>(nP (cx:=cx) (fun q=>(⟨[(0,.l (.d false 4 (encClaim a0))),(3,.l (.s (.int .i64 y1))),(96,.l (.s (.bool q)))],[],97,gh,ls⟩:St))) y16) ?_ ?_
     ·replace h:=g16;clear g16
      replace h:=ltE h;obtain⟨v17,e17,h⟩:=h
      cases v17 with
      |true =>
       replace h:=iteT rfl h
       replace h:=ltE h;obtain⟨v18,e18,h⟩:=h
       replace h:=bnE h;obtain⟨v19,e19,h⟩:=h
       replace h:=ltE h;obtain⟨v20,e20,h⟩:=h
       cases v20 with
       |true =>
        replace h:=iteT rfl h
        apply AW.drawnR (V:=[_,_,_,_,_,_,_,_,_,_,_,_,_,_,_,_,_,_,_,_,_,_,_,_,_,_,_,_,_,_,_,_,_,_,_,_,_,_,_,_,_,_,_]) mixed DX6t2 43 (by kernel_rfl) (by kernel_rfl)
        ·refine⟨?_,?_,?_,?_,?_,?_,?_,?_,?_,?_,?_,?_,?_,?_,?_,?_,?_,?_,?_,?_,?_,?_,?_,?_,?_,?_,?_,?_,?_,?_,?_,?_,?_,?_,?_,?_,?_,?_,?_,?_,?_,?_,?_,trivial⟩
         iterate 43 (· intro tm hr;simp[AllL,rdV] at hr;simp[hr,← e17,← e18,Aa e19,← e20];intros;first|exact KD.mk|exact KD.mkN)
        ·rfl
        ·simp[tmD,putD,← e17,← e18,Aa e19,← e20];rfl
        ·simp[← e17,← e18,Aa e19,← e20]
         intros;rfl
        obtain rfl:=oi h
        refine nP_i ?_
        refine Weak.mixN [] hn0 (by decide) ?_ ?_ rfl
        all_goals first|(simp[Ab,Ac,pickOb];done)|rfl
       |false =>
        replace h:=iteF rfl h
        replace h:=ltE h;obtain⟨v21,e21,h⟩:=h
        replace h:=ltE h;obtain⟨v22,e22,h⟩:=h
        cases v22 with
        |true =>
         replace h:=iteT rfl h
         replace h:=ltE h;obtain⟨v23,e23,h⟩:=h
         cases v23 with
         |true =>
          replace h:=iteT rfl h
          replace h:=ltE h;obtain⟨v24,e24,h⟩:=h
          apply AW.drawnR (V:=[_,_,_,_,_,_,_,_,_,_,_,_,_,_,_,_,_,_,_,_,_,_,_,_,_,_,_,_,_,_,_,_,_,_,_,_,_,_,_,_,_,_,_]) mixed DX6t2 43 (by kernel_rfl) (by kernel_rfl)
          ·refine⟨?_,?_,?_,?_,?_,?_,?_,?_,?_,?_,?_,?_,?_,?_,?_,?_,?_,?_,?_,?_,?_,?_,?_,?_,?_,?_,?_,?_,?_,?_,?_,?_,?_,?_,?_,?_,?_,?_,?_,?_,?_,?_,?_,trivial⟩
           iterate 43 (· intro tm hr;simp[AllL,rdV] at hr;simp[hr,← e17,← e18,Aa e19,← e20,← e21,← e22,← e23,← e24];intros;first|exact KD.mk|exact KD.mkN)
          ·rfl
          ·simp[tmD,putD,← e17,← e18,Aa e19,← e20,← e21,← e22,← e23,← e24];rfl
          ·simp[← e17,← e18,Aa e19,← e20,← e21,← e22,← e23,← e24]
           intros;rfl
          obtain rfl:=oi h
          refine nP_i ?_
          refine Weak.mixN [] hn0 (by decide) ?_ ?_ rfl
          all_goals first|(simp[Ab,Ac,pickOb];done)|rfl
         |false =>
          replace h:=iteF rfl h
          apply AW.drawnR (V:=[_,_,_,_,_,_,_,_,_,_,_,_,_,_,_,_,_,_,_,_,_,_,_,_,_,_,_,_,_,_,_,_,_,_,_,_,_,_,_,_,_,_,_]) mixed DX6t2 43 (by kernel_rfl) (by kernel_rfl)
          ·refine⟨?_,?_,?_,?_,?_,?_,?_,?_,?_,?_,?_,?_,?_,?_,?_,?_,?_,?_,?_,?_,?_,?_,?_,?_,?_,?_,?_,?_,?_,?_,?_,?_,?_,?_,?_,?_,?_,?_,?_,?_,?_,?_,?_,trivial⟩
           iterate 43 (· intro tm hr;simp[AllL,rdV] at hr;simp[hr,← e17,← e18,Aa e19,← e20,← e21,← e22,← e23];intros;first|exact KD.mk|exact KD.mkN)
          ·rfl
          ·simp[tmD,putD,← e17,← e18,Aa e19,← e20,← e21,← e22,← e23];rfl
          ·simp[← e17,← e18,Aa e19,← e20,← e21,← e22,← e23]
           intros;rfl
          obtain rfl:=oi h
          refine nP_i ?_
          refine Weak.mixN [] hn0 (by decide) ?_ ?_ rfl
          all_goals first|(simp[Ab,Ac,pickOb];done)|rfl
        |false =>
         replace h:=iteF rfl h
         apply AW.drawnR (V:=[_,_,_,_,_,_,_,_,_,_,_,_,_,_,_,_,_,_,_,_,_,_,_,_,_,_,_,_,_,_,_,_,_,_,_,_,_,_,_,_,_,_,_]) mixed DX6t2 43 (by kernel_rfl) (by kernel_rfl)
         ·refine⟨?_,?_,?_,?_,?_,?_,?_,?_,?_,?_,?_,?_,?_,?_,?_,?_,?_,?_,?_,?_,?_,?_,?_,?_,?_,?_,?_,?_,?_,?_,?_,?_,?_,?_,?_,?_,?_,?_,?_,?_,?_,?_,?_,trivial⟩
          iterate 43 (· intro tm hr;simp[AllL,rdV] at hr;simp[hr,← e17,← e18,Aa e19,← e20,← e21,← e22];intros;first|exact KD.mk|exact KD.mkN)
         ·rfl
         ·simp[tmD,putD,← e17,← e18,Aa e19,← e20,← e21,← e22];rfl
         ·simp[← e17,← e18,Aa e19,← e20,← e21,← e22]
          intros;rfl
         obtain rfl:=oi h
         refine nP_i ?_
         refine Weak.mixN [] hn0 (by decide) ?_ ?_ rfl
         all_goals first|(simp[Ab,Ac,pickOb];done)|rfl
      |false =>
       replace h:=iteF rfl h
       apply AW.drawnR (V:=[_,_,_,_,_,_,_,_,_,_,_,_,_,_,_,_,_,_,_,_,_,_,_,_,_,_,_,_,_,_,_,_,_,_,_,_,_,_,_,_,_,_,_]) mixed DX6t2 43 (by kernel_rfl) (by kernel_rfl)
       ·refine⟨?_,?_,?_,?_,?_,?_,?_,?_,?_,?_,?_,?_,?_,?_,?_,?_,?_,?_,?_,?_,?_,?_,?_,?_,?_,?_,?_,?_,?_,?_,?_,?_,?_,?_,?_,?_,?_,?_,?_,?_,?_,?_,?_,trivial⟩
        iterate 43 (· intro tm hr;simp[AllL,rdV] at hr;simp[hr,← e17];intros;first|exact KD.mk|exact KD.mkN)
       ·rfl
       ·simp[tmD,putD,← e17];rfl
       ·simp[← e17]
        intros;rfl
       obtain rfl:=oi h
       refine nP_i ?_
       refine Weak.mixN [] hn0 (by decide) ?_ ?_ rfl
       all_goals first|(simp[Ab,Ac,pickOb];done)|rfl
     ·rintro e s hp
      obtain⟨rfl,hw⟩:=hp
      refine⟨_,hw,?_⟩
      try simp only[nm]
      replace h:=ltE h;obtain⟨v25,e25,h⟩:=h
      rw[← e25]
      cases v25 with
      |true =>
       replace h:=iteT rfl h
       refine AW.cond_true (by simp) ?_
       apply AW.step
       ·simp
        intros;rfl
       obtain rfl:=oi h
       refine AW.ret ?_
       try simp only[nm]
       refine rP_i ?_
       refine Left.plain hnb (by simp[Try.f30,resV,resC,comp];rfl) rfl rfl ?_
       simp
      |false =>
       replace h:=iteF rfl h
       refine AW.cond_false (by simp) ?_
       refine AW.skip ?_
       try simp only[nm]
       replace h:=ltE h;obtain⟨v26,e26,h⟩:=h
       apply AW.last
       ·simp[← e26]
        intros;rfl
       obtain rfl:=oi h
       refine nP_i ?_
       refine Weak.mixN [] hn0 (by decide) ?_ ?_ rfl
       all_goals first|(simp[Ab,Ac,pickOb];done)|rfl
  |false =>
   replace h:=iteF rfl h
   refine AW.cond_false (by simp) ?_
   refine AW.exit ?_
   try simp only[nm]
   obtain rfl:=oi h
   try simp only[sp_l,sp_r]
   refine xP_i ?_
   refine Weak.mixN [] hn0 (by decide) ?_ ?_ rfl
   all_goals first|(simp[Ab,Ac,pickOb];done)|rfl
 ·rintro e s hp
  rcases y2 with y27|y28
  ·replace h:=smL h
   obtain⟨rfl,hw⟩:=hp
   refine⟨_,hw,?_⟩
   try simp only[nm]
   apply AW.step
   ·simp
    intros;rfl
   obtain rfl:=oi h
   refine AW.ret ?_
   refine Left.plain hnb (by simp[Try.f30,resV,resC,comp];rfl) rfl rfl ?_
   simp
  ·replace h:=smR h
   obtain⟨rfl,hl⟩:=hp
   refine⟨_,Weak.refl _,?_⟩
   obtain rfl:=oi h
   exact hl
theorem BY:Enters Try.prog 30:=enters Try.func30 (by kernel_rfl) rfl
def CD (n:Nat) (a0:List Claim) (a1:Int):Option (List Span) :=
bn (iter n (fun (y1:Int×List Span) =>
lt (lenI a0) fun v4 =>
lt (ltI y1.1 v4) fun v5 =>
ite' v5 (bn (bn (nth a0 y1.1) fun v7 =>
lt (eqI v7.node a1) fun v8 =>
ite' v8 (chk (room (y1.2.length+1) 16) <|
lt (y1.2++[(⟨v7.frm,v7.to⟩:Span)]) fun v10 =>
some (v10)) (some (y1.2))) fun (y6:List Span) =>
lt (addI .i64 y1.1 1) fun v11 =>
some (.inl (v11,y6))) (some (.inr y1.2))) (0,[])) fun (y2:List Span) =>
chk (room y2.length 1) <|
bn (DX n y2) fun v13 =>
some v13
theorem FT {n:Nat} {a0:List Claim} {a1:Int} {r:List Span} (h:CD n a0 a1=some r):Sound Try.prog 33 [.l (.d false 4 (encClaim a0)),.l (.s (.int .i64 a1))] [] (.l (.d false 2 (encSpan r))) []:=by
 unfold CD at h
 refine Sound.of_aw (fn:=Try.f33) (c:=_) Try.func33 rfl (by simp[Try.f33]) fun cx hG hnb=>?_
 rw[show Try.f33.ntmps=36 from rfl]
 have hn0:cx.nb=0:=hnb
 simp only[Ar,initTm,List.map_cons,List.map_nil]
 apply AW.step
 ·simp
  intros;rfl
 apply AW.step
 ·simp
  intros;rfl
 refine AW.seq ?_
 apply AW.step
 ·simp
  intros;rfl
 refine AW.block ?_
 replace h:=bnE h;obtain⟨y2,g2,h⟩:=h
 refine AW.iterP g2 (mk:=fun gh ls q=>(⟨[(0,.l (.d false 4 (encClaim a0))),(1,.l (.s (.int .i64 a1))),(5,.l (.r 0 2 0 q.2.length)),(6,.l (.s (.int .i64 q.1)))],[some ⟨43,2,true,none,lvs (encSpan q.2)⟩],36,gh,ls⟩:St)) (N:=fun gh ls=>(xP 0 (cx:=cx) (fun q=>(⟨[(5,.l (.r 0 2 0 q.length))],[some ⟨43,2,true,none,lvs (encSpan q)⟩],36,gh,ls⟩:St)))) ?_ noX ?_ ?_
 ·refine W.nilRow 5 43 2 0 (by simp) rfl rfl ?_
  refine Weak.mixN [some 0] hn0 (by decide) ?_ ?_ rfl
  all_goals first|(simp[Ab,Ac,pickOb];done)|rfl
 ·clear h;intro y1 y3 h
  refine AW.seq ?_
  replace h:=ltE h;obtain⟨v4,e4,h⟩:=h
  replace h:=ltE h;obtain⟨v5,e5,h⟩:=h
  apply AW.step
  ·simp[Ak e4,← e5]
   intros;rfl
  cases v5 with
  |true =>
   replace h:=iteT rfl h
   refine AW.cond_true (by simp) ?_
   refine AW.skip ?_
   try simp only[nm]
   replace h:=bnE h;obtain⟨y6,g6,h⟩:=h
   refine AW.flow (p:=fun gh ls=>(nP (cx:=cx) (fun q=>(⟨[(0,.l (.d false 4 (encClaim a0))),(1,.l (.s (.int .i64 a1))),(5,.l (.r 0 2 0 q.length)),(6,.l (.s (.int .i64 y1.1)))],[some ⟨43,2,true,none,lvs (encSpan q)⟩],36,gh,ls⟩:St))) y6) ?_ ?_
   ·replace h:=g6;clear g6
    refine AW.block ?_
    replace h:=bnE h;obtain⟨v7,e7,h⟩:=h
    replace h:=ltE h;obtain⟨v8,e8,h⟩:=h
    apply AW.step
    ·simp[Aa e7,← e8]
     intros;rfl
    cases v8 with
    |true =>
     replace h:=iteT rfl h
     refine AW.cond_true (by simp) ?_
     replace h:=chkE h;obtain⟨e9,h⟩:=h
     replace h:=ltE h;obtain⟨v10,e10,h⟩:=h
     apply AW.drawnF (V:=[_,_,_,_,_,_,_,_,_,_,_,_,_]) (M:=[[some ⟨43,2,true,none,lvs (encSpan y1.2)⟩],[some ⟨43,2,true,none,lvs (encSpan y1.2)⟩,some ⟨43,2,true,none,[.s (.int .i64 v7.frm),.s (.int .i64 v7.to)]⟩]]) mixed [⟨[0,1],[],[(5,none)],false⟩,⟨[0],[],[(0,none)],false⟩,⟨[0],[],[(6,none)],false⟩,⟨[0],[1,2],[(21,some 1),(22,some 2)],false⟩,⟨[0],[1,2,3],[(23,some 3)],false⟩,⟨[0],[1,2,3,4],[(24,some 4)],false⟩,⟨[0],[],[(0,none)],false⟩,⟨[0],[],[(6,none)],false⟩,⟨[0],[6,7],[(26,some 6),(27,some 7)],false⟩,⟨[0],[6,7,8],[(28,some 8)],false⟩,⟨[0],[6,7,8,9],[(29,some 9)],false⟩,⟨[0],[1,2,3,4,5,6,7,8,9,10],[(25,some 5),(30,some 10)],false⟩,⟨[0],[1,2,3,4,5,6,7,8,9,10,11],[(31,some 11)],true⟩,⟨[],[0,1,2,3,4,5,6,7,8,9,10,11,12],[],false⟩,⟨[],[0,1,2,3,4,5,6,7,8,9,10,11,12,13],[],false⟩] 13 1 (by kernel_rfl) (by kernel_rfl)
     ·rfl
     ·refine⟨⟨?_,?_⟩,?_,?_,?_,?_,?_,?_,?_,?_,?_,?_,?_,?_,trivial⟩
      iterate 13 (· intro tm hr;simp[AllL,rdV] at hr;simp[hr,Aa e7,← Aq,← e10,As e10];intros;first|exact KD.mk|exact KD.mkN)
      ·intro tm hr
       simp[AllL,rdV] at hr
       simp[hr,Aa e7,← Aq,← e10,As e10]
       intros
       refine Bs ?_
       try simp[Aa e7,← Aq,← e10,As e10]
       intros;first|exact KD.mk|exact KD.mkN
     ·rfl
     ·simp[tmD,putD,Aa e7,← Aq,← e10,As e10];rfl
     ·simp[Aa e7,← Aq,← e10,As e10]
      intros
      refine Br (acc:=encSpan y1.2) (ys:=encSpan [(⟨v7.frm,v7.to⟩:Span)]) (cap:=none) (k:=1) DN DM (by simp) (by simp[encSpan,lvs]) (Bl _) (by simp) (by simp) (by first|(simp;done)|simpa using (Az e9).1) ?_
      try simp[Aa e7,← Aq,← e10,As e10]
      intros;rfl
     obtain rfl:=oi h
     refine nP_i ?_
     refine Weak.mixN [some 2] hn0 (by decide) ?_ ?_ rfl
     all_goals first|(simp[Ab,Ac,pickOb,Bk];done)|rfl
    |false =>
     replace h:=iteF rfl h
     refine AW.cond_false (by simp) ?_
     refine AW.skip ?_
     try simp only[nm]
     obtain rfl:=oi h
     refine nP_i ?_
     refine Weak.mixN [some 0] hn0 (by decide) ?_ ?_ rfl
     all_goals first|(simp[Ab,Ac,pickOb];done)|rfl
   ·rintro e s hp
    obtain⟨rfl,hw⟩:=hp
    refine⟨_,hw,?_⟩
    try simp only[nm]
    replace h:=ltE h;obtain⟨v11,e11,h⟩:=h
    apply AW.last
    ·simp[← e11]
     intros;rfl
    obtain rfl:=oi h
    refine nP_i ?_
    refine Weak.mixN [some 0] hn0 (by decide) ?_ ?_ rfl
    all_goals first|(simp[Ab,Ac,pickOb];done)|rfl
  |false =>
   replace h:=iteF rfl h
   refine AW.cond_false (by simp) ?_
   refine AW.exit ?_
   try simp only[nm]
   obtain rfl:=oi h
   refine xP_i ?_
   refine Weak.mixN [some 0] hn0 (by decide) ?_ ?_ rfl
   all_goals first|(simp[Ab,Ac,pickOb];done)|rfl
 ·rintro e s hp
  obtain⟨rfl,hw⟩:=hp
  refine⟨_,hw,?_⟩
  try simp only[nm]
  replace h:=chkE h;obtain⟨e12,h⟩:=h
  replace h:=bnE h;obtain⟨v13,e13,h⟩:=h
  apply AW.step
  ·simp
   intros
   refine Ah Hz (HT e13) rfl ⟨.rowd (by simp) rfl (by omega) (Bl _) (by simp) (by first|exact (Az e12).2|simpa using (Az e12).2|simp),trivial⟩ ?_
   try simp
   intros;rfl
  obtain rfl:=oi h
  refine AW.ret ?_
  refine Left.plain hnb (by simp[Try.f33,resV,resC,comp];rfl) rfl rfl ?_
  simp
theorem Fz:Enters Try.prog 33:=enters Try.func33 (by kernel_rfl) rfl
def Ce (n:Nat) (a0:List Claim):Option (List Int) :=
bn (iter n (fun (y1:Int×List Int) =>
lt (ltI y1.1 8) fun v4 =>
ite' v4 (bn (iter n (fun (y5:Int) =>
lt (lenI a0) fun v8 =>
lt (ltI y5 v8) fun v9 =>
ite' v9 (bn (nth a0 y5) fun v10 =>
lt (eqI v10.node y1.1) fun v11 =>
ite' v11 (chk (room (y1.2.length+1) 8) <|
lt (y1.2++[y1.1]) fun v13 =>
some (.inr v13)) (lt (addI .i64 y5 1) fun v14 =>
some (.inl v14))) (some (.inr y1.2))) 0) fun (y6:List Int) =>
lt (addI .i64 y1.1 1) fun v15 =>
some (.inl (v15,y6))) (some (.inr y1.2))) (0,[])) fun (y2:List Int) =>
chk (room y2.length 1) <|
some y2
theorem GZ {n:Nat} {a0:List Claim} {r:List Int} (h:Ce n a0=some r):Sound Try.prog 35 [.l (.d false 4 (encClaim a0))] [] (.l (.d false 1 (encI r))) []:=by
 unfold Ce at h
 refine Sound.of_aw (fn:=Try.f35) (c:=_) Try.func35 rfl (by simp[Try.f35]) fun cx hG hnb=>?_
 rw[show Try.f35.ntmps=28 from rfl]
 have hn0:cx.nb=0:=hnb
 simp only[Ar,initTm,List.map_cons,List.map_nil]
 apply AW.step
 ·simp
  intros;rfl
 apply AW.step
 ·simp
  intros;rfl
 refine AW.seq ?_
 apply AW.step
 ·simp
  intros;rfl
 refine AW.block ?_
 replace h:=bnE h;obtain⟨y2,g2,h⟩:=h
 refine AW.iterP g2 (mk:=fun gh ls q=>(⟨[(0,.l (.d false 4 (encClaim a0))),(3,.l (.r 0 1 0 q.2.length)),(4,.l (.s (.int .i64 q.1)))],[some ⟨3,1,true,none,lvs (encI q.2)⟩],28,gh,ls⟩:St)) (N:=fun gh ls=>(xP 0 (cx:=cx) (fun q=>(⟨[(3,.l (.r 0 1 0 q.length))],[some ⟨3,1,true,none,lvs (encI q)⟩],28,gh,ls⟩:St)))) ?_ noX ?_ ?_
 ·refine W.nilRow 3 3 1 0 (by simp) rfl rfl ?_
  refine Weak.mixN [some 0] hn0 (by decide) ?_ ?_ rfl
  all_goals first|(simp[Ab,Ac,pickOb];done)|rfl
 ·clear h;intro y1 y3 h
  refine AW.seq ?_
  replace h:=ltE h;obtain⟨v4,e4,h⟩:=h
  apply AW.step
  ·simp[← e4]
   intros;rfl
  cases v4 with
  |true =>
   replace h:=iteT rfl h
   refine AW.cond_true (by simp) ?_
   refine AW.skip ?_
   try simp only[nm]
   refine AW.seq ?_
   refine AW.block ?_
   apply AW.step
   ·simp
    intros;rfl
   refine AW.block ?_
   replace h:=bnE h;obtain⟨y6,g6,h⟩:=h
   refine AW.iterP g6 (mk:=fun gh ls q=>(⟨[(0,.l (.d false 4 (encClaim a0))),(3,.l (.r 0 1 0 y1.2.length)),(4,.l (.s (.int .i64 y1.1))),(5,.l (.s (.int .i64 q)))],[some ⟨3,1,true,none,lvs (encI y1.2)⟩],28,gh,ls⟩:St)) (N:=fun gh ls=>(xP 2 (cx:=cx) (fun q=>(⟨[(0,.l (.d false 4 (encClaim a0))),(3,.l (.r 0 1 0 q.length)),(4,.l (.s (.int .i64 y1.1)))],[some ⟨3,1,true,none,lvs (encI q)⟩],28,gh,ls⟩:St)))) ?_ noX ?_ ?_
   ·refine Weak.mixN [some 0] hn0 (by decide) ?_ ?_ rfl
    all_goals first|(simp[Ab,Ac,pickOb];done)|rfl
   ·clear h;intro y5 y7 h
    refine AW.seq ?_
    replace h:=ltE h;obtain⟨v8,e8,h⟩:=h
    replace h:=ltE h;obtain⟨v9,e9,h⟩:=h
    apply AW.step
    ·simp[Ak e8,← e9]
     intros;rfl
    cases v9 with
    |true =>
     replace h:=iteT rfl h
     refine AW.cond_true (by simp) ?_
     refine AW.skip ?_
     try simp only[nm]
     refine AW.seq ?_
     refine AW.block ?_
     replace h:=bnE h;obtain⟨v10,e10,h⟩:=h
     replace h:=ltE h;obtain⟨v11,e11,h⟩:=h
     apply AW.step
     ·simp[Aa e10,← e11]
      intros;rfl
     cases v11 with
     |true =>
      replace h:=iteT rfl h
      refine AW.cond_true (by simp) ?_
      replace h:=chkE h;obtain⟨e12,h⟩:=h
      replace h:=ltE h;obtain⟨v13,e13,h⟩:=h
      apply AW.step
      ·simp[← Bz,← e13,As e13]
       intros
       refine Bs ?_
       try simp[← Bz,← e13,As e13]
       intros
       refine Br (acc:=encI y1.2) (ys:=encI [y1.1]) (cap:=none) (k:=1) EP Fp (by simp) (by simp[encI,lvs]) (Cm _) (by simp) (by simp) (by first|(simp;done)|simpa using (Az e12).1) ?_
       try simp[← Bz,← e13,As e13]
       intros;rfl
      refine AW.exit ?_
      try simp only[nm]
      obtain rfl:=oi h
      refine xP_i ?_
      refine Weak.mixN [some 2] hn0 (by decide) ?_ ?_ rfl
      all_goals first|(simp[Ab,Ac,pickOb,GK];done)|rfl
     |false =>
      replace h:=iteF rfl h
      refine AW.cond_false (by simp) ?_
      refine AW.skip ?_
      try simp only[nm]
      replace h:=ltE h;obtain⟨v14,e14,h⟩:=h
      apply AW.last
      ·simp[← e14]
       intros;rfl
      obtain rfl:=oi h
      refine nP_i ?_
      refine Weak.mixN [some 0] hn0 (by decide) ?_ ?_ rfl
      all_goals first|(simp[Ab,Ac,pickOb];done)|rfl
    |false =>
     replace h:=iteF rfl h
     refine AW.cond_false (by simp) ?_
     refine AW.exit ?_
     try simp only[nm]
     obtain rfl:=oi h
     refine xP_i ?_
     refine Weak.mixN [some 0] hn0 (by decide) ?_ ?_ rfl
     all_goals first|(simp[Ab,Ac,pickOb];done)|rfl
   ·rintro e s hp
    obtain⟨rfl,hw⟩:=hp
    refine⟨_,hw,?_⟩
    try simp only[nm]
    replace h:=ltE h;obtain⟨v15,e15,h⟩:=h
    apply AW.last
    ·simp[← e15]
     intros;rfl
    obtain rfl:=oi h
    refine nP_i ?_
    refine Weak.mixN [some 0] hn0 (by decide) ?_ ?_ rfl
    all_goals first|(simp[Ab,Ac,pickOb];done)|rfl
  |false =>
   replace h:=iteF rfl h
   refine AW.cond_false (by simp) ?_
   refine AW.exit ?_
   try simp only[nm]
   obtain rfl:=oi h
   refine xP_i ?_
   refine Weak.mixN [some 0] hn0 (by decide) ?_ ?_ rfl
   all_goals first|(simp[Ab,Ac,pickOb];done)|rfl
 ·rintro e s hp
  obtain⟨rfl,hw⟩:=hp
  refine⟨_,hw,?_⟩
  try simp only[nm]
  apply AW.step
  ·simp
   intros;rfl
  replace h:=chkE h;obtain⟨e16,h⟩:=h
  refine AW.frzRow 0 (ty:=3) (cap:=none) (sz:=1) (es:=encI y2) (by simp) (by omega) (Cm _) (by first|exact (Az e16).2|simpa using (Az e16).2|simp) (by simp[Tm.frz,AV.frz,LV.frz];rfl) (by simp[Ob.frz,LV.frz];rfl) rfl ?_
  obtain rfl:=oi h
  refine AW.ret ?_
  refine Left.plain hnb (by simp[Try.f35,resV,resC,comp];rfl) rfl rfl ?_
  simp
theorem Gu:Enters Try.prog 35:=enters Try.func35 (by kernel_rfl) rfl
def Dj (n:Nat) (a0:List Int) (a1:List Int):Option Bool :=
lt (lenI a0) fun v1 =>
lt (lenI a1) fun v2 =>
lt (neI v1 v2) fun v3 =>
ite' v3 (some false) (bn (iter n (fun (y4:Int) =>
lt (lenI a0) fun v7 =>
lt (ltI y4 v7) fun v8 =>
ite' v8 (bn (nth a0 y4) fun v9 =>
bn (nth a1 y4) fun v10 =>
lt (neI v9 v10) fun v11 =>
ite' v11 (some (.inr (.inr false))) (lt (addI .i64 y4 1) fun v12 =>
some (.inl v12))) (some (.inr (.inl ())))) 0) fun (y5:Unit ⊕ Bool) =>
sm y5 (fun y13=>some true) (fun y14=>some y14))
theorem I8 {n:Nat} {a0:List Int} {a1:List Int} {r:Bool} (h:Dj n a0 a1=some r):Sound Try.prog 34 [.l (.d false 1 (encI a0)),.l (.d false 1 (encI a1))] [] (.l (.s (.bool r))) []:=by
 unfold Dj at h
 refine Sound.of_aw (fn:=Try.f34) (c:=_) Try.func34 rfl (by simp[Try.f34]) fun cx hG hnb=>?_
 rw[show Try.f34.ntmps=26 from rfl]
 have hn0:cx.nb=0:=hnb
 simp only[Ar,initTm,List.map_cons,List.map_nil]
 apply AW.step
 ·simp
  intros;rfl
 refine AW.seq ?_
 replace h:=ltE h;obtain⟨v1,e1,h⟩:=h
 replace h:=ltE h;obtain⟨v2,e2,h⟩:=h
 replace h:=ltE h;obtain⟨v3,e3,h⟩:=h
 apply AW.step
 ·simp[Ak e1,Ak e2,← e3]
  intros;rfl
 cases v3 with
 |true =>
  replace h:=iteT rfl h
  refine AW.cond_true (by simp) ?_
  apply AW.step
  ·simp
   intros;rfl
  obtain rfl:=oi h
  refine AW.ret ?_
  refine Left.plain hnb (by simp[Try.f34,resV,resC,comp];rfl) rfl rfl ?_
  simp
 |false =>
  replace h:=iteF rfl h
  refine AW.cond_false (by simp) ?_
  refine AW.skip ?_
  try simp only[nm]
  refine AW.seq ?_
  apply AW.step
  ·simp
   intros;rfl
  refine AW.block ?_
  replace h:=bnE h;obtain⟨y5,g5,h⟩:=h
  refine AW.iterP g5 (mk:=fun gh ls q=>(⟨[(0,.l (.d false 1 (encI a0))),(1,.l (.d false 1 (encI a1))),(5,.l (.s (.int .i64 q)))],[],26,gh,ls⟩:St)) (N:=fun gh ls=>(sp (xP 0 (cx:=cx) (fun _=>(⟨[],[],26,gh,ls⟩:St))) (rP (cx:=cx) (P:=Try.prog) Try.f34 (fun q=>.l (.s (.bool q))) (fun q=>[])))) ?_ (noS noX noR) ?_ ?_
  ·refine Weak.mixN [] hn0 (by decide) ?_ ?_ rfl
   all_goals first|(simp[Ab,Ac,pickOb];done)|rfl
  ·clear h;intro y4 y6 h
   refine AW.seq ?_
   replace h:=ltE h;obtain⟨v7,e7,h⟩:=h
   replace h:=ltE h;obtain⟨v8,e8,h⟩:=h
   apply AW.step
   ·simp[Ak e7,← e8]
    intros;rfl
   cases v8 with
   |true =>
    replace h:=iteT rfl h
    refine AW.cond_true (by simp) ?_
    refine AW.skip ?_
    try simp only[nm]
    refine AW.seq ?_
    refine AW.block ?_
    replace h:=bnE h;obtain⟨v9,e9,h⟩:=h
    replace h:=bnE h;obtain⟨v10,e10,h⟩:=h
    replace h:=ltE h;obtain⟨v11,e11,h⟩:=h
    apply AW.drawnP (V:=[_,_,_,_,_,_,_,_]) mixed [⟨[0],[],[(0,none)],false⟩,⟨[0],[],[(5,none)],false⟩,⟨[0],[0,1],[(17,some 0),(18,some 1)],false⟩,⟨[0],[0,1,2],[(19,some 2)],false⟩,⟨[0],[],[(1,none)],false⟩,⟨[0],[],[(5,none)],false⟩,⟨[0],[4,5],[(21,some 4),(22,some 5)],false⟩,⟨[0],[4,5,6],[(23,some 6)],false⟩,⟨[],[0,1,2,3,4,5,6,7],[],false⟩] 8 (by kernel_rfl) (by kernel_rfl)
    ·refine⟨?_,?_,?_,?_,?_,?_,?_,?_,trivial⟩
     iterate 8 (· intro tm hr;simp[AllL,rdV] at hr;simp[hr,Aa e9,Aa e10,← e11];intros;first|exact KD.mk|exact KD.mkN)
    ·rfl
    ·simp[tmD,putD,Aa e9,Aa e10,← e11];rfl
    ·simp[Aa e9,Aa e10,← e11]
     intros;rfl
    cases v11 with
    |true =>
     replace h:=iteT rfl h
     refine AW.cond_true (by simp) ?_
     apply AW.step
     ·simp
      intros;rfl
     obtain rfl:=oi h
     refine AW.ret ?_
     try simp only[nm]
     refine rP_i ?_
     refine Left.plain hnb (by simp[Try.f34,resV,resC,comp];rfl) rfl rfl ?_
     simp
    |false =>
     replace h:=iteF rfl h
     refine AW.cond_false (by simp) ?_
     refine AW.skip ?_
     try simp only[nm]
     replace h:=ltE h;obtain⟨v12,e12,h⟩:=h
     apply AW.last
     ·simp[← e12]
      intros;rfl
     obtain rfl:=oi h
     refine nP_i ?_
     refine Weak.mixN [] hn0 (by decide) ?_ ?_ rfl
     all_goals first|(simp[Ab,Ac,pickOb];done)|rfl
   |false =>
    replace h:=iteF rfl h
    refine AW.cond_false (by simp) ?_
    refine AW.exit ?_
    try simp only[nm]
    obtain rfl:=oi h
    try simp only[sp_l,sp_r]
    refine xP_i ?_
    refine Weak.mixN [] hn0 (by decide) ?_ ?_ rfl
    all_goals first|(simp[Ab,Ac,pickOb];done)|rfl
  ·rintro e s hp
   rcases y5 with y13|y14
   ·replace h:=smL h
    obtain⟨rfl,hw⟩:=hp
    refine⟨_,hw,?_⟩
    try simp only[nm]
    apply AW.step
    ·simp
     intros;rfl
    obtain rfl:=oi h
    refine AW.ret ?_
    refine Left.plain hnb (by simp[Try.f34,resV,resC,comp];rfl) rfl rfl ?_
    simp
   ·replace h:=smR h
    obtain⟨rfl,hl⟩:=hp
    refine⟨_,Weak.refl _,?_⟩
    obtain rfl:=oi h
    exact hl
theorem IB:Enters Try.prog 34:=enters Try.func34 (by kernel_rfl) rfl
def CQ (n:Nat) (a0:List Claim) (a1:List Claim) (a2:List Span) (a3:Int) (a4:Int) (a5:Int):Option Bool :=
bn (lt (lenI a0) fun v2 =>
lt (gtI v2 40) fun v3 =>
ite' v3 (some (true)) (lt (lenI a1) fun v4 =>
lt (gtI v4 40) fun v5 =>
ite' v5 (some (true)) (lt (lenI a2) fun v6 =>
lt (gtI v6 40) fun v7 =>
some (v7)))) fun (y1:Bool) =>
lt (y1) fun v8 =>
ite' v8 (bn (B2 n) fun v9 =>
some v9) (bn (bn (B9 n a0) fun v11 =>
bn (Bu n a0) fun v12 =>
lt (neB v11 v12) fun v13 =>
ite' v13 (some (true)) (bn (B9 n a1) fun v14 =>
bn (Bu n a1) fun v15 =>
lt (neB v14 v15) fun v16 =>
some (v16))) fun (y10:Bool) =>
lt (y10) fun v17 =>
ite' v17 (some false) (bn (bn (Bu n a0) fun v19 =>
lt (notB v19) fun v20 =>
ite' v20 (some (true)) (bn (Bu n a1) fun v21 =>
lt (notB v21) fun v22 =>
some (v22))) fun (y18:Bool) =>
lt (y18) fun v23 =>
ite' v23 (bn (B2 n) fun v24 =>
some v24) (bn (Cj n a0 a3) fun v25 =>
bn (CI n a0 a3) fun v26 =>
bn (lt (geI v26.1 0) fun v28 =>
lt (neB v25.2.2 v28) fun v29 =>
ite' v29 (some (true)) (lt (maxI 0 v26.1) fun v30 =>
lt (neI v25.1 v30) fun v31 =>
ite' v31 (some (true)) (lt (neI v25.2.1 v26.2) fun v32 =>
ite' v32 (some (true)) (bn (BW n a0 a1) fun v33 =>
bn (CZ n a0 a1) fun v34 =>
bn (A8 n v33 v34) fun v35 =>
lt (notB v35) fun v36 =>
ite' v36 (some (true)) (bn (B5 n a0 a4) fun v37 =>
bn (CD n a0 a4) fun v38 =>
bn (B6 n v37 v38) fun v39 =>
lt (notB v39) fun v40 =>
ite' v40 (some (true)) (bn (BS n a0) fun v41 =>
bn (Ce n a0) fun v42 =>
bn (Dj n v41 v42) fun v43 =>
lt (notB v43) fun v44 =>
some (v44))))))) fun (y27:Bool) =>
lt (y27) fun v45 =>
ite' v45 (some false) (bn (lt (ltI a4 0) fun v47 =>
ite' v47 (some (true)) (lt (geI a4 8) fun v48 =>
ite' v48 (some (true)) (lt (ltI a5 1) fun v49 =>
ite' v49 (some (true)) (lt (gtI a5 9007199254740992) fun v50 =>
some (v50))))) fun (y46:Bool) =>
lt (y46) fun v51 =>
ite' v51 (bn (B2 n) fun v52 =>
some v52) (bn (bn (BV n a0 a2 a4 a5) fun v54 =>
bn (Cv n a0 a2 a4 a5) fun v55 =>
bn (A8 n v54 v55) fun v56 =>
ite' v56 (bn (B2 n) fun v57 =>
some (v57)) (some (false))) fun (y53:Bool) =>
some y53)))))
theorem Gj {n:Nat} {a0:List Claim} {a1:List Claim} {a2:List Span} {a3:Int} {a4:Int} {a5:Int} {r:Bool} (h:CQ n a0 a1 a2 a3 a4 a5=some r):Sound Try.prog 7 [.l (.d false 4 (encClaim a0)),.l (.d false 4 (encClaim a1)),.l (.d false 2 (encSpan a2)),.l (.s (.int .i64 a3)),.l (.s (.int .i64 a4)),.l (.s (.int .i64 a5))] [] (.l (.s (.bool r))) []:=by
 unfold CQ at h
 refine Sound.of_aw (fn:=Try.f7) (c:=_) Try.func7 rfl (by simp[Try.f7]) fun cx hG hnb=>?_
 rw[show Try.f7.ntmps=138 from rfl]
 have hn0:cx.nb=0:=hnb
 simp only[Ar,initTm,List.map_cons,List.map_nil]
 apply AW.step
 ·simp
  intros;rfl
 refine AW.seq ?_
 replace h:=bnE h;obtain⟨y1,g1,h⟩:=h
 refine AW.flow (p:=fun gh ls=>(nP (cx:=cx) (fun q=>(⟨[(0,.l (.d false 4 (encClaim a0))),(1,.l (.d false 4 (encClaim a1))),(2,.l (.d false 2 (encSpan a2))),(3,.l (.s (.int .i64 a3))),(4,.l (.s (.int .i64 a4))),(5,.l (.s (.int .i64 a5))),(30,.l (.s (.bool q)))],[],138,gh,ls⟩:St))) y1) ?_ ?_
 ·replace h:=g1;clear g1
  replace h:=ltE h;obtain⟨v2,e2,h⟩:=h
  replace h:=ltE h;obtain⟨v3,e3,h⟩:=h
  cases v3 with
  |true =>
   replace h:=iteT rfl h
   apply AW.last
   ·simp[Ak e2,← e3]
    intros;rfl
   obtain rfl:=oi h
   refine nP_i ?_
   refine Weak.mixN [] hn0 (by decide) ?_ ?_ rfl
   all_goals first|(simp[Ab,Ac,pickOb];done)|rfl
  |false =>
   replace h:=iteF rfl h
   replace h:=ltE h;obtain⟨v4,e4,h⟩:=h
   replace h:=ltE h;obtain⟨v5,e5,h⟩:=h
   cases v5 with
   |true =>
    replace h:=iteT rfl h
    apply AW.last
    ·simp[Ak e2,← e3,Ak e4,← e5]
     intros;rfl
    obtain rfl:=oi h
    refine nP_i ?_
    refine Weak.mixN [] hn0 (by decide) ?_ ?_ rfl
    all_goals first|(simp[Ab,Ac,pickOb];done)|rfl
   |false =>
    replace h:=iteF rfl h
    replace h:=ltE h;obtain⟨v6,e6,h⟩:=h
    replace h:=ltE h;obtain⟨v7,e7,h⟩:=h
    apply AW.last
    ·simp[Ak e2,← e3,Ak e4,← e5,Ak e6,← e7]
     intros;rfl
    obtain rfl:=oi h
    refine nP_i ?_
    refine Weak.mixN [] hn0 (by decide) ?_ ?_ rfl
    all_goals first|(simp[Ab,Ac,pickOb];done)|rfl
 ·rintro e s hp
  obtain⟨rfl,hw⟩:=hp
  refine⟨_,hw,?_⟩
  try simp only[nm]
  replace h:=ltE h;obtain⟨v8,e8,h⟩:=h
  rw[← e8]
  cases v8 with
  |true =>
   replace h:=iteT rfl h
   refine AW.cond_true (by simp) ?_
   replace h:=bnE h;obtain⟨v9,e9,h⟩:=h
   apply AW.step
   ·simp
    intros
    refine Ah DV (D9 e9) rfl trivial ?_
    try simp
    intros;rfl
   obtain rfl:=oi h
   refine AW.ret ?_
   refine Left.plain hnb (by simp[Try.f7,resV,resC,comp];rfl) rfl rfl ?_
   simp
  |false =>
   replace h:=iteF rfl h
   refine AW.cond_false (by simp) ?_
   refine AW.skip ?_
   try simp only[nm]
   refine AW.seq ?_
   replace h:=bnE h;obtain⟨y10,g10,h⟩:=h
   refine AW.flow (p:=fun gh ls=>(nP (cx:=cx) (fun q=>(⟨[(0,.l (.d false 4 (encClaim a0))),(1,.l (.d false 4 (encClaim a1))),(2,.l (.d false 2 (encSpan a2))),(3,.l (.s (.int .i64 a3))),(4,.l (.s (.int .i64 a4))),(5,.l (.s (.int .i64 a5))),(43,.l (.s (.bool q)))],[],138,gh,ls⟩:St))) y10) ?_ ?_
   ·replace h:=g10;clear g10
    replace h:=bnE h;obtain⟨v11,e11,h⟩:=h
    replace h:=bnE h;obtain⟨v12,e12,h⟩:=h
    replace h:=ltE h;obtain⟨v13,e13,h⟩:=h
    cases v13 with
    |true =>
     replace h:=iteT rfl h
     apply AW.last
     ·simp[← e13]
      intros
      refine Ah Eh (Ex e11) rfl ⟨.same rfl,trivial⟩ ?_
      try simp[← e13]
      intros
      refine Ah BY (B7 e12) rfl ⟨.same rfl,trivial⟩ ?_
      try simp[← e13]
      intros;rfl
     obtain rfl:=oi h
     refine nP_i ?_
     refine Weak.mixN [] hn0 (by decide) ?_ ?_ rfl
     all_goals first|(simp[Ab,Ac,pickOb];done)|rfl
    |false =>
     replace h:=iteF rfl h
     replace h:=bnE h;obtain⟨v14,e14,h⟩:=h
     replace h:=bnE h;obtain⟨v15,e15,h⟩:=h
     replace h:=ltE h;obtain⟨v16,e16,h⟩:=h
     apply AW.last
     ·simp[← e13,← e16]
      intros
      refine Ah Eh (Ex e11) rfl ⟨.same rfl,trivial⟩ ?_
      try simp[← e13,← e16]
      intros
      refine Ah BY (B7 e12) rfl ⟨.same rfl,trivial⟩ ?_
      try simp[← e13,← e16]
      intros
      refine Ah Eh (Ex e14) rfl ⟨.same rfl,trivial⟩ ?_
      try simp[← e13,← e16]
      intros
      refine Ah BY (B7 e15) rfl ⟨.same rfl,trivial⟩ ?_
      try simp[← e13,← e16]
      intros;rfl
     obtain rfl:=oi h
     refine nP_i ?_
     refine Weak.mixN [] hn0 (by decide) ?_ ?_ rfl
     all_goals first|(simp[Ab,Ac,pickOb];done)|rfl
   ·rintro e s hp
    obtain⟨rfl,hw⟩:=hp
    refine⟨_,hw,?_⟩
    try simp only[nm]
    replace h:=ltE h;obtain⟨v17,e17,h⟩:=h
    rw[← e17]
    cases v17 with
    |true =>
     replace h:=iteT rfl h
     refine AW.cond_true (by simp) ?_
     apply AW.step
     ·simp
      intros;rfl
     obtain rfl:=oi h
     refine AW.ret ?_
     refine Left.plain hnb (by simp[Try.f7,resV,resC,comp];rfl) rfl rfl ?_
     simp
    |false =>
     replace h:=iteF rfl h
     refine AW.cond_false (by simp) ?_
     refine AW.skip ?_
     try simp only[nm]
     refine AW.seq ?_
     replace h:=bnE h;obtain⟨y18,g18,h⟩:=h
     refine AW.flow (p:=fun gh ls=>(nP (cx:=cx) (fun q=>(⟨[(0,.l (.d false 4 (encClaim a0))),(1,.l (.d false 4 (encClaim a1))),(2,.l (.d false 2 (encSpan a2))),(3,.l (.s (.int .i64 a3))),(4,.l (.s (.int .i64 a4))),(5,.l (.s (.int .i64 a5))),(51,.l (.s (.bool q)))],[],138,gh,ls⟩:St))) y18) ?_ ?_
     ·replace h:=g18;clear g18
      replace h:=bnE h;obtain⟨v19,e19,h⟩:=h
      replace h:=ltE h;obtain⟨v20,e20,h⟩:=h
      cases v20 with
      |true =>
       replace h:=iteT rfl h
       apply AW.last
       ·simp[← e20]
        intros
        refine Ah BY (B7 e19) rfl ⟨.same rfl,trivial⟩ ?_
        try simp[← e20]
        intros;rfl
       obtain rfl:=oi h
       refine nP_i ?_
       refine Weak.mixN [] hn0 (by decide) ?_ ?_ rfl
       all_goals first|(simp[Ab,Ac,pickOb];done)|rfl
      |false =>
       replace h:=iteF rfl h
       replace h:=bnE h;obtain⟨v21,e21,h⟩:=h
       replace h:=ltE h;obtain⟨v22,e22,h⟩:=h
       apply AW.last
       ·simp[← e20,← e22]
        intros
        refine Ah BY (B7 e19) rfl ⟨.same rfl,trivial⟩ ?_
        try simp[← e20,← e22]
        intros
        refine Ah BY (B7 e21) rfl ⟨.same rfl,trivial⟩ ?_
        try simp[← e20,← e22]
        intros;rfl
       obtain rfl:=oi h
       refine nP_i ?_
       refine Weak.mixN [] hn0 (by decide) ?_ ?_ rfl
       all_goals first|(simp[Ab,Ac,pickOb];done)|rfl
     ·rintro e s hp
      obtain⟨rfl,hw⟩:=hp
      refine⟨_,hw,?_⟩
      try simp only[nm]
      replace h:=ltE h;obtain⟨v23,e23,h⟩:=h
      rw[← e23]
      cases v23 with
      |true =>
       replace h:=iteT rfl h
       refine AW.cond_true (by simp) ?_
       replace h:=bnE h;obtain⟨v24,e24,h⟩:=h
       apply AW.step
       ·simp
        intros
        refine Ah DV (D9 e24) rfl trivial ?_
        try simp
        intros;rfl
       obtain rfl:=oi h
       refine AW.ret ?_
       refine Left.plain hnb (by simp[Try.f7,resV,resC,comp];rfl) rfl rfl ?_
       simp
      |false =>
       replace h:=iteF rfl h
       refine AW.cond_false (by simp) ?_
       refine AW.skip ?_
       try simp only[nm]
       replace h:=bnE h;obtain⟨v25,e25,h⟩:=h
       apply AW.step
       ·simp
        intros
        refine Ah Fv (FQ e25) rfl ⟨.same rfl,.same rfl,trivial⟩ ?_
        try simp
        intros;rfl
       replace h:=bnE h;obtain⟨v26,e26,h⟩:=h
       apply AW.step
       ·simp
        intros
        refine Ah EB (E2 e26) rfl ⟨.same rfl,.same rfl,trivial⟩ ?_
        try simp
        intros;rfl
       refine AW.seq ?_
       replace h:=bnE h;obtain⟨y27,g27,h⟩:=h
       refine AW.flow (p:=fun gh ls=>(nP (cx:=cx) (fun q=>(⟨[(0,.l (.d false 4 (encClaim a0))),(2,.l (.d false 2 (encSpan a2))),(4,.l (.s (.int .i64 a4))),(5,.l (.s (.int .i64 a5))),(108,.l (.s (.bool q)))],[],138,gh,ls⟩:St))) y27) ?_ ?_
       ·replace h:=g27;clear g27
        replace h:=ltE h;obtain⟨v28,e28,h⟩:=h
        replace h:=ltE h;obtain⟨v29,e29,h⟩:=h
        cases v29 with
        |true =>
         replace h:=iteT rfl h
         apply AW.last
         ·simp[← e28,← e29]
          intros;rfl
         obtain rfl:=oi h
         refine nP_i ?_
         refine Weak.mixN [] hn0 (by decide) ?_ ?_ rfl
         all_goals first|(simp[Ab,Ac,pickOb];done)|rfl
        |false =>
         replace h:=iteF rfl h
         replace h:=ltE h;obtain⟨v30,e30,h⟩:=h
         replace h:=ltE h;obtain⟨v31,e31,h⟩:=h
         cases v31 with
         |true =>
          replace h:=iteT rfl h
          apply AW.last
          ·simp[← e28,← e29,← e30,← e31]
           intros;rfl
          obtain rfl:=oi h
          refine nP_i ?_
          refine Weak.mixN [] hn0 (by decide) ?_ ?_ rfl
          all_goals first|(simp[Ab,Ac,pickOb];done)|rfl
         |false =>
          replace h:=iteF rfl h
          replace h:=ltE h;obtain⟨v32,e32,h⟩:=h
          cases v32 with
          |true =>
           replace h:=iteT rfl h
           apply AW.last
           ·simp[← e28,← e29,← e30,← e31,← e32]
            intros;rfl
           obtain rfl:=oi h
           refine nP_i ?_
           refine Weak.mixN [] hn0 (by decide) ?_ ?_ rfl
           all_goals first|(simp[Ab,Ac,pickOb];done)|rfl
          |false =>
           replace h:=iteF rfl h
           replace h:=bnE h;obtain⟨v33,e33,h⟩:=h
           replace h:=bnE h;obtain⟨v34,e34,h⟩:=h
           replace h:=bnE h;obtain⟨v35,e35,h⟩:=h
           replace h:=ltE h;obtain⟨v36,e36,h⟩:=h
           cases v36 with
           |true =>
            replace h:=iteT rfl h
            apply AW.last
            ·simp[← e28,← e29,← e30,← e31,← e32,← e36]
             intros
             refine Ah Dh (DD e33) rfl ⟨.same rfl,.same rfl,trivial⟩ ?_
             try simp[← e28,← e29,← e30,← e31,← e32,← e36]
             intros
             refine Ah EK (E3 e34) rfl ⟨.same rfl,.same rfl,trivial⟩ ?_
             try simp[← e28,← e29,← e30,← e31,← e32,← e36]
             intros
             refine Ah BR (BU e35) rfl ⟨.same rfl,.same rfl,trivial⟩ ?_
             try simp[← e28,← e29,← e30,← e31,← e32,← e36]
             intros;rfl
            obtain rfl:=oi h
            refine nP_i ?_
            refine Weak.mixN [] hn0 (by decide) ?_ ?_ rfl
            all_goals first|(simp[Ab,Ac,pickOb];done)|rfl
           |false =>
            replace h:=iteF rfl h
            replace h:=bnE h;obtain⟨v37,e37,h⟩:=h
            replace h:=bnE h;obtain⟨v38,e38,h⟩:=h
            replace h:=bnE h;obtain⟨v39,e39,h⟩:=h
            replace h:=ltE h;obtain⟨v40,e40,h⟩:=h
            cases v40 with
            |true =>
             replace h:=iteT rfl h
             apply AW.last
             ·simp[← e28,← e29,← e30,← e31,← e32,← e36,← e40]
              intros
              refine Ah Dh (DD e33) rfl ⟨.same rfl,.same rfl,trivial⟩ ?_
              try simp[← e28,← e29,← e30,← e31,← e32,← e36,← e40]
              intros
              refine Ah EK (E3 e34) rfl ⟨.same rfl,.same rfl,trivial⟩ ?_
              try simp[← e28,← e29,← e30,← e31,← e32,← e36,← e40]
              intros
              refine Ah BR (BU e35) rfl ⟨.same rfl,.same rfl,trivial⟩ ?_
              try simp[← e28,← e29,← e30,← e31,← e32,← e36,← e40]
              intros
              refine Ah EF (EW e37) rfl ⟨.same rfl,.same rfl,trivial⟩ ?_
              try simp[← e28,← e29,← e30,← e31,← e32,← e36,← e40]
              intros
              refine Ah Fz (FT e38) rfl ⟨.same rfl,.same rfl,trivial⟩ ?_
              try simp[← e28,← e29,← e30,← e31,← e32,← e36,← e40]
              intros
              refine Ah EG (EX e39) rfl ⟨.same rfl,.same rfl,trivial⟩ ?_
              try simp[← e28,← e29,← e30,← e31,← e32,← e36,← e40]
              intros;rfl
             obtain rfl:=oi h
             refine nP_i ?_
             refine Weak.mixN [] hn0 (by decide) ?_ ?_ rfl
             all_goals first|(simp[Ab,Ac,pickOb];done)|rfl
            |false =>
             replace h:=iteF rfl h
             replace h:=bnE h;obtain⟨v41,e41,h⟩:=h
             replace h:=bnE h;obtain⟨v42,e42,h⟩:=h
             replace h:=bnE h;obtain⟨v43,e43,h⟩:=h
             replace h:=ltE h;obtain⟨v44,e44,h⟩:=h
             apply AW.last
             ·simp[← e28,← e29,← e30,← e31,← e32,← e36,← e40,← e44]
              intros
              refine Ah Dh (DD e33) rfl ⟨.same rfl,.same rfl,trivial⟩ ?_
              try simp[← e28,← e29,← e30,← e31,← e32,← e36,← e40,← e44]
              intros
              refine Ah EK (E3 e34) rfl ⟨.same rfl,.same rfl,trivial⟩ ?_
              try simp[← e28,← e29,← e30,← e31,← e32,← e36,← e40,← e44]
              intros
              refine Ah BR (BU e35) rfl ⟨.same rfl,.same rfl,trivial⟩ ?_
              try simp[← e28,← e29,← e30,← e31,← e32,← e36,← e40,← e44]
              intros
              refine Ah EF (EW e37) rfl ⟨.same rfl,.same rfl,trivial⟩ ?_
              try simp[← e28,← e29,← e30,← e31,← e32,← e36,← e40,← e44]
              intros
              refine Ah Fz (FT e38) rfl ⟨.same rfl,.same rfl,trivial⟩ ?_
              try simp[← e28,← e29,← e30,← e31,← e32,← e36,← e40,← e44]
              intros
              refine Ah EG (EX e39) rfl ⟨.same rfl,.same rfl,trivial⟩ ?_
              try simp[← e28,← e29,← e30,← e31,← e32,← e36,← e40,← e44]
              intros
              refine Ah FJ (F6 e41) rfl ⟨.same rfl,trivial⟩ ?_
              try simp[← e28,← e29,← e30,← e31,← e32,← e36,← e40,← e44]
              intros
              refine Ah Gu (GZ e42) rfl ⟨.same rfl,trivial⟩ ?_
              try simp[← e28,← e29,← e30,← e31,← e32,← e36,← e40,← e44]
              intros
              refine Ah IB (I8 e43) rfl ⟨.same rfl,.same rfl,trivial⟩ ?_
              try simp[← e28,← e29,← e30,← e31,← e32,← e36,← e40,← e44]
              intros;rfl
             obtain rfl:=oi h
             refine nP_i ?_
             refine Weak.mixN [] hn0 (by decide) ?_ ?_ rfl
             all_goals first|(simp[Ab,Ac,pickOb];done)|rfl
       ·rintro e s hp
        obtain⟨rfl,hw⟩:=hp
        refine⟨_,hw,?_⟩
        try simp only[nm]
        replace h:=ltE h;obtain⟨v45,e45,h⟩:=h
        rw[← e45]
        cases v45 with
        |true =>
         replace h:=iteT rfl h
         refine AW.cond_true (by simp) ?_
         apply AW.step
         ·simp
          intros;rfl
         obtain rfl:=oi h
         refine AW.ret ?_
         refine Left.plain hnb (by simp[Try.f7,resV,resC,comp];rfl) rfl rfl ?_
         simp
        |false =>
         replace h:=iteF rfl h
         refine AW.cond_false (by simp) ?_
         refine AW.skip ?_
         try simp only[nm]
         refine AW.seq ?_
         replace h:=bnE h;obtain⟨y46,g46,h⟩:=h
         refine AW.flow (p:=fun gh ls=>(nP (cx:=cx) (fun q=>(⟨[(0,.l (.d false 4 (encClaim a0))),(2,.l (.d false 2 (encSpan a2))),(4,.l (.s (.int .i64 a4))),(5,.l (.s (.int .i64 a5))),(122,.l (.s (.bool q)))],[],138,gh,ls⟩:St))) y46) ?_ ?_
         ·replace h:=g46;clear g46
          replace h:=ltE h;obtain⟨v47,e47,h⟩:=h
          cases v47 with
          |true =>
           replace h:=iteT rfl h
           apply AW.last
           ·simp[← e47]
            intros;rfl
           obtain rfl:=oi h
           refine nP_i ?_
           refine Weak.mixN [] hn0 (by decide) ?_ ?_ rfl
           all_goals first|(simp[Ab,Ac,pickOb];done)|rfl
          |false =>
           replace h:=iteF rfl h
           replace h:=ltE h;obtain⟨v48,e48,h⟩:=h
           cases v48 with
           |true =>
            replace h:=iteT rfl h
            apply AW.last
            ·simp[← e47,← e48]
             intros;rfl
            obtain rfl:=oi h
            refine nP_i ?_
            refine Weak.mixN [] hn0 (by decide) ?_ ?_ rfl
            all_goals first|(simp[Ab,Ac,pickOb];done)|rfl
           |false =>
            replace h:=iteF rfl h
            replace h:=ltE h;obtain⟨v49,e49,h⟩:=h
            cases v49 with
            |true =>
             replace h:=iteT rfl h
             apply AW.last
             ·simp[← e47,← e48,← e49]
              intros;rfl
             obtain rfl:=oi h
             refine nP_i ?_
             refine Weak.mixN [] hn0 (by decide) ?_ ?_ rfl
             all_goals first|(simp[Ab,Ac,pickOb];done)|rfl
            |false =>
             replace h:=iteF rfl h
             replace h:=ltE h;obtain⟨v50,e50,h⟩:=h
             apply AW.last
             ·simp[← e47,← e48,← e49,← e50]
              intros;rfl
             obtain rfl:=oi h
             refine nP_i ?_
             refine Weak.mixN [] hn0 (by decide) ?_ ?_ rfl
             all_goals first|(simp[Ab,Ac,pickOb];done)|rfl
         ·rintro e s hp
          obtain⟨rfl,hw⟩:=hp
          refine⟨_,hw,?_⟩
          try simp only[nm]
          replace h:=ltE h;obtain⟨v51,e51,h⟩:=h
          rw[← e51]
          cases v51 with
          |true =>
           replace h:=iteT rfl h
           refine AW.cond_true (by simp) ?_
           replace h:=bnE h;obtain⟨v52,e52,h⟩:=h
           apply AW.step
           ·simp
            intros
            refine Ah DV (D9 e52) rfl trivial ?_
            try simp
            intros;rfl
           obtain rfl:=oi h
           refine AW.ret ?_
           refine Left.plain hnb (by simp[Try.f7,resV,resC,comp];rfl) rfl rfl ?_
           simp
          |false =>
           replace h:=iteF rfl h
           refine AW.cond_false (by simp) ?_
           refine AW.skip ?_
           try simp only[nm]
           replace h:=bnE h;obtain⟨y53,g53,h⟩:=h
           refine AW.flow (p:=fun gh ls=>(nP (cx:=cx) (fun q=>(⟨[(12,.l (.s (.bool q)))],[],138,gh,ls⟩:St))) y53) ?_ ?_
           ·replace h:=g53;clear g53
            replace h:=bnE h;obtain⟨v54,e54,h⟩:=h
            replace h:=bnE h;obtain⟨v55,e55,h⟩:=h
            replace h:=bnE h;obtain⟨v56,e56,h⟩:=h
            cases v56 with
            |true =>
             replace h:=iteT rfl h
             replace h:=bnE h;obtain⟨v57,e57,h⟩:=h
             apply AW.last
             ·simp
              intros
              refine Ah EU (Fc e54) rfl ⟨.same rfl,.same rfl,.same rfl,.same rfl,trivial⟩ ?_
              try simp
              intros
              refine Ah FP (Gf e55) rfl ⟨.same rfl,.same rfl,.same rfl,.same rfl,trivial⟩ ?_
              try simp
              intros
              refine Ah BR (BU e56) rfl ⟨.same rfl,.same rfl,trivial⟩ ?_
              try simp
              intros
              refine Ah DV (D9 e57) rfl trivial ?_
              try simp
              intros;rfl
             obtain rfl:=oi h
             refine nP_i ?_
             refine Weak.mixN [] hn0 (by decide) ?_ ?_ rfl
             all_goals first|(simp[Ab,Ac,pickOb];done)|rfl
            |false =>
             replace h:=iteF rfl h
             apply AW.last
             ·simp
              intros
              refine Ah EU (Fc e54) rfl ⟨.same rfl,.same rfl,.same rfl,.same rfl,trivial⟩ ?_
              try simp
              intros
              refine Ah FP (Gf e55) rfl ⟨.same rfl,.same rfl,.same rfl,.same rfl,trivial⟩ ?_
              try simp
              intros
              refine Ah BR (BU e56) rfl ⟨.same rfl,.same rfl,trivial⟩ ?_
              try simp
              intros;rfl
             obtain rfl:=oi h
             refine nP_i ?_
             refine Weak.mixN [] hn0 (by decide) ?_ ?_ rfl
             all_goals first|(simp[Ab,Ac,pickOb];done)|rfl
           ·rintro e s hp
            obtain⟨rfl,hw⟩:=hp
            refine⟨_,hw,?_⟩
            try simp only[nm]
            obtain rfl:=oi h
            refine AW.ret ?_
            refine Left.plain hnb (by simp[Try.f7,resV,resC,comp];rfl) rfl rfl ?_
            simp
end Go.Proofs.Ythjenkmbbnjcnaa
namespace Go.Proofs.Ythjenkmbbnjcnaa
open Go Go.RowKit
theorem orC (P Q:Prop) [Decidable P] [Decidable Q]:ite' (decide P) (some true) (some (decide Q))=some (decide (P∨Q)):=by
 by_cases h:P <;> simp[ite',h]
def badC (c:Claim):Prop:=c.frm<0∨c.to<c.frm∨16383<c.to∨c.node<0∨8≤c.node∨c.epoch<1∨9007199254740992<c.epoch
instance (c:Claim):Decidable (badC c):=by unfold badC;infer_instance
def bad2 (b c:Claim):Prop:=c.frm≤b.to∨(b.to+1=c.frm∧(b.node,b.epoch)=(c.node,c.epoch))
instance (b c:Claim):Decidable (bad2 b c):=by unfold bad2;infer_instance
def prevBad (l:List Claim) (j:Nat):Prop:=∃ (h0:0<j) (h:j<l.length),bad2 (l[j - 1]'(by omega)) l[j]
noncomputable instance (l:List Claim) (j:Nat):Decidable (prevBad l j):=Classical.propDecidable _
def MayC (l:List Claim):Prop:=(∀ c∈l,¬ badC c)∧∀ (i:Nat) (b c:Claim),l[i]?=some b→l[i+1]?=some c→¬ bad2 b c
theorem MayC.good {l:List Claim} (h:MayC l):GoodC l:=by
 refine⟨?_,fun c hc=>?_⟩
 ·have:∀ l:List Claim,MayC l→canP (l.map cP):=by
   intro l
   induction l with
   |nil=>intro _;trivial
   |cons b l ih =>
    intro h
    have hb:=h.1 b (by simp)
    unfold badC at hb
    have ih':=ih ⟨fun c hc=>h.1 c (by simp[hc]),fun i x y h1 h2=>h.2 (i+1) x y h1 h2⟩
    cases l with
    |nil =>
     show b.frm≤b.to
     omega
    |cons c l =>
     have h2:=h.2 0 b c rfl rfl
     unfold bad2 at h2
     refine⟨?_,?_,?_,ih'⟩
     ·show b.frm≤b.to
      omega
     ·show b.to<c.frm
      omega
     ·intro hc
      exact h2 (.inr hc)
  exact this l h
 ·have:=h.1 c hc
  unfold badC at this
  omega
theorem JB {x c:Claim} (hx:-1000000≤x.to∧x.to≤1000000):BD big x c=some (decide (x.to+1=c.frm∧(x.node,x.epoch)=(c.node,c.epoch))):=by
 unfold BD
 simp only[Au]
 rw[Am (by omega) (by omega)]
 rcases Decidable.em (x.to+1=c.frm) with h1|h1
 ·rw[eq_t h1,AC]
  rcases Decidable.em (x.node=c.node) with h2|h2
  ·rw[eq_t h2,AC]
   simp[eqI,h1,h2,An]
  ·rw[eq_f h2,AM]
   simp[h2,An]
 ·rw[eq_f h1,AM]
  simp[h1,An]
theorem HA {l:List Claim} {F:Int→Option (Int ⊕ (Unit ⊕ Bool))} (hl:l.length≤1000000) (hE:F (l.length:Int)=some (.inr (.inl ())))
  (hF:∀ (j:Nat) (h:j<l.length),(∀ c∈l.take j,¬ badC c)→F (j:Int)=some (if badC l[j] then .inr (.inr false) else if prevBad l j then .inr (.inr false) else .inl ((j+1:Nat):Int))) :
  Rn (iter big F 0) fun y=>(y=.inl ()∧MayC l)∨(y=.inr false∧¬ MayC l):=by
 refine Rn.iter _ (fun j a=>a=(j:Int)∧(∀ c∈l.take j,¬ badC c)∧∀ (i:Nat) (b c:Claim),i+1<j→l[i]?=some b→l[i+1]?=some c→¬ bad2 b c) l.length (by unfold big;omega) ⟨rfl,by simp,fun i b c h=>by omega⟩ fun j a hj hI=>?_
 obtain⟨rfl,h1,h2⟩:=hI
 rcases Nat.lt_or_ge j l.length with h|h
 ·rw[hF j h h1]
  split
  ·rename_i hb
   exact Rn.some (.inr ⟨rfl,fun hm=>hm.1 _ (List.getElem_mem h) hb⟩)
  ·rename_i hb
   split
   ·rename_i hc
    obtain⟨h0,_,hc⟩:=hc
    refine Rn.some (.inr ⟨rfl,fun hm=>hm.2 (j - 1) _ _ (List.getElem?_eq_getElem (by omega)) ?_ hc⟩)
    rw[show j - 1+1=j by omega]
    exact List.getElem?_eq_getElem h
   ·rename_i hc
    refine Rn.some ⟨h,rfl,fun c hcm=>?_,fun i b c g1 g2 g3=>?_⟩
    ·rw[← List.take_append_getElem h] at hcm
     rcases List.mem_append.1 hcm with hcm|hcm
     ·exact h1 c hcm
     ·simp at hcm
      subst hcm
      exact hb
    ·rcases Nat.lt_or_ge (i+1) j with h5|h5
     ·exact h2 i b c h5 g2 g3
     ·have e:j=i+1:=by omega
      subst e
      rw[List.getElem?_eq_getElem (by omega)] at g2 g3
      have e1:=Option.some.inj g2
      have e2:=Option.some.inj g3
      subst e1 e2
      exact fun g=>hc ⟨by omega,h,g⟩
 ·have e:j=l.length:=by omega
  subst e
  rw[hE]
  refine Rn.some (.inl ⟨rfl,by rwa [List.take_length] at h1,fun i b c g1 g2=>h2 i b c ?_ g1 g2⟩)
  exact (List.getElem?_eq_some_iff.1 g2).1
theorem J8 (l:List Claim) (hl:l.length≤1000000):Rn (B9 big l) fun b=>(b=true↔MayC l):=by
 unfold B9
 refine Rn.lt (Rn.bn (HA hl ?_ fun j h hbef=>?_) fun y hy=>?_)
 ·simp only[Au]
  rw[lt_f (by rw[Bq];omega),AM]
 ·refine Rn.eqv ?_
  refine Rn.lt ?_
  rw[lt_t (show (j:Int)<lenI l by rw[Bq];omega)]
  refine Rn.ite (fun _=>Rn.bnE (AF h) (Rn.bnE (v:=decide (badC l[j])) ?_ (Rn.lt (Rn.ite (fun hb=>?_) fun hb=>?_)))) fun hc=>by simp at hc
  ·simp only[Au,ltI,gtI,geI,orC]
   rfl
  ·rw[if_pos (of_decide_eq_true hb)]
   exact Rn.some rfl
  ·rw[if_neg (of_decide_eq_false hb)]
   rcases Nat.eq_zero_or_pos j with e|h0
   ·subst e
    refine Rn.bnE (v:=false) rfl (Rn.lt (Rn.ite (fun hc=>by simp at hc) fun _=>Rn.lt (Rn.some ?_)))
    rw[if_neg (fun h=>absurd h.1 (by omega))]
    rfl
   ·have hprev:¬ badC (l[j - 1]'(by omega)):=hbef _ (List.mem_take_iff_getElem.2 ⟨j - 1,by omega,rfl⟩)
    unfold badC at hprev
    refine Rn.bnE (v:=decide (bad2 (l[j - 1]'(by omega)) l[j])) ?_ (Rn.lt (Rn.ite (fun hc=>?_) fun hc=>?_))
    ·simp only[Au]
     rw[gt_t (show (0:Int)<(j:Int) by omega),AC,Ao (by omega) (by omega),show (j:Int) - 1=((j - 1:Nat):Int) by omega,AF (show j - 1<l.length by omega)]
     simp only[An]
     rw[JB (by omega)]
     simp only[An,leI,orC]
     rfl
    ·rw[if_pos (show prevBad l j from ⟨h0,h,of_decide_eq_true hc⟩)]
     exact Rn.some rfl
    ·rw[if_neg (fun g:prevBad l j=>of_decide_eq_false hc g.2.2)]
     refine Rn.lt (Rn.some ?_)
     rw[Am (by omega) (by omega)]
     rfl
 ·rcases hy with ⟨rfl,h⟩|⟨rfl,h⟩
  ·rw[EQ]
   exact Rn.some (by simp[h])
  ·rw[BZ]
   exact Rn.some (by simp[h])
theorem J9 (l:List Claim) (hl:l.length≤1000000):Rn (Bu big l) fun b=>(b=true↔MayC l):=by
 unfold Bu
 refine Rn.bn (HA hl ?_ fun j h hbef=>?_) fun y hy=>?_
 ·simp only[Au]
  rw[lt_f (by rw[Bq];omega),AM]
 ·refine Rn.eqv ?_
  refine Rn.lt (Rn.lt ?_)
  rw[lt_t (show (j:Int)<lenI l by rw[Bq];omega)]
  refine Rn.ite (fun _=>Rn.bnE (AF h) (Rn.bnE (v:=decide (badC l[j])) ?_ (Rn.lt (Rn.ite (fun hb=>?_) fun hb=>?_)))) fun hc=>by simp at hc
  ·simp only[Au,ltI,gtI,geI,orC]
   congr 1
  ·rw[if_pos (of_decide_eq_true hb)]
   exact Rn.some rfl
  ·rw[if_neg (of_decide_eq_false hb)]
   rcases Nat.eq_zero_or_pos j with e|h0
   ·subst e
    refine Rn.bnE (v:=false) rfl (Rn.lt (Rn.ite (fun hc=>by simp at hc) fun _=>Rn.lt (Rn.some ?_)))
    rw[if_neg (fun h=>absurd h.1 (by omega))]
    rfl
   ·have hprev:¬ badC (l[j - 1]'(by omega)):=hbef _ (List.mem_take_iff_getElem.2 ⟨j - 1,by omega,rfl⟩)
    unfold badC at hprev
    refine Rn.bnE (v:=decide (bad2 (l[j - 1]'(by omega)) l[j])) ?_ (Rn.lt (Rn.ite (fun hc=>?_) fun hc=>?_))
    ·simp only[Au]
     rw[gt_t (show (0:Int)<(j:Int) by omega),AC,Ao (by omega) (by omega),show (j:Int) - 1=((j - 1:Nat):Int) by omega,AF (show j - 1<l.length by omega)]
     simp only[An]
     rw[Am (by omega) (by omega)]
     generalize (l[j - 1]'(by omega))=b
     generalize l[j]=c
     unfold bad2
     by_cases h1:c.frm≤b.to
     ·rw[le_t h1,AC]
      simp[h1]
     ·rw[le_f (by omega),AM]
      by_cases h2:c.frm=b.to+1
      ·rw[eq_t h2,AC]
       by_cases h3:c.node=b.node
       ·rw[eq_t h3,AC]
        by_cases h4:c.epoch=b.epoch
        ·simp[eqI,h2,h3,h4]
        ·have h4':¬ b.epoch=c.epoch:=fun e=>h4 e.symm
         simp[eqI,h2,h3,h4,h4']
         omega
       ·have h3':¬ b.node=c.node:=fun e=>h3 e.symm
        rw[eq_f h3,AM]
        simp[h2,h3']
        omega
      ·have h2':¬ b.to+1=c.frm:=fun e=>h2 e.symm
       rw[eq_f h2,AM]
       simp[h1,h2']
    ·rw[if_pos (show prevBad l j from ⟨h0,h,of_decide_eq_true hc⟩)]
     exact Rn.some rfl
    ·rw[if_neg (fun g:prevBad l j=>of_decide_eq_false hc g.2.2)]
     refine Rn.lt (Rn.some ?_)
     rw[Am (by omega) (by omega)]
     rfl
 ·rcases hy with ⟨rfl,h⟩|⟨rfl,h⟩
  ·rw[EQ]
   exact Rn.some (by simp[h])
  ·rw[BZ]
   exact Rn.some (by simp[h])
theorem IC {l:List Claim} {nd:Int} (hl:GoodC l) (h200:l.length≤200):Rn (CD big l nd) fun r=>SaysS r (ownP (fC l) nd):=by
 unfold CD
 refine Rn.bn (P:=fun r=>r.length≤l.length∧∀ t,(∃ x∈r,x.frm≤t∧t≤x.to)↔∃ c∈l,(c.frm≤t∧t≤c.to)∧c.node=nd) (Rn.iter _ (fun j y=>∃ r:List Span,y=((j:Int),r)∧r.length≤j∧∀ t,(∃ x∈r,x.frm≤t∧t≤x.to)↔∃ c∈l.take j,(c.frm≤t∧t≤c.to)∧c.node=nd) l.length (by unfold big;omega) ⟨[],rfl,by simp,by simp⟩ fun j y hj hI=>?_) fun r hr=>?_
 ·obtain⟨r,rfl,r2,r4⟩:=hI
  refine Rn.lt (Rn.lt (Rn.ite (fun hd=>?_) fun hd=>?_))
  ·have hjl:j<l.length:=by
    have:=of_decide_eq_true (p:=((j:Int)<(l.length:Int))) hd
    omega
   have hnth:=AF hjl
   have htk:l.take (j+1)=l.take j++[l[j]]:=(List.take_append_getElem hjl).symm
   generalize l[j]=c at hnth htk
   refine Rn.bn (P:=fun r'=>r'.length≤j+1∧∀ t,(∃ x∈r',x.frm≤t∧t≤x.to)↔∃ c∈l.take (j+1),(c.frm≤t∧t≤c.to)∧c.node=nd) ?_ fun r' hr'=>Rn.lt (Rn.some ⟨hjl,r',?_,hr'⟩)
   ·refine Rn.bnE hnth (Rn.lt (Rn.ite (fun hc=>Rn.chk (by simp[room];omega) (Rn.lt (Rn.some ⟨by simp;omega,fun t=>?_⟩))) fun hc=>Rn.some ⟨Nat.le_succ_of_le r2,fun t=>?_⟩))
    ·have hn:c.node=nd:=of_decide_eq_true hc
     rw[htk]
     constructor
     ·rintro⟨x,hx,h⟩
      rcases List.mem_append.1 hx with hx|hx
      ·obtain⟨y,hy,h2⟩:=(r4 t).1 ⟨x,hx,h⟩
       exact⟨y,by simp[hy],h2⟩
      ·simp at hx
       subst hx
       exact⟨c,by simp,h,hn⟩
     ·rintro⟨y,hy,h,h2⟩
      rcases List.mem_append.1 hy with hy|hy
      ·obtain⟨x,hx,h3⟩:=(r4 t).2 ⟨y,hy,h,h2⟩
       exact⟨x,by simp[hx],h3⟩
      ·simp at hy
       subst hy
       exact⟨⟨y.frm,y.to⟩,by simp,h⟩
    ·have hn:c.node≠nd:=of_decide_eq_false hc
     rw[r4 t,htk]
     constructor
     ·rintro⟨y,hy,h⟩
      exact⟨y,by simp[hy],h⟩
     ·rintro⟨y,hy,h,h2⟩
      rcases List.mem_append.1 hy with hy|hy
      ·exact⟨y,hy,h,h2⟩
      ·simp at hy
       subst hy
       exact absurd h2 hn
   ·rw[Am (by first|omega|(simp only;omega)) (by first|omega|(simp only;omega))]
    rfl
  ·have hjl:j=l.length:=by
    have:=of_decide_eq_false (p:=((j:Int)<(l.length:Int))) hd
    omega
   subst hjl
   rw[List.take_length] at r4
   exact Rn.some ⟨r2,r4⟩
 ·obtain⟨r2,r3⟩:=hr
  refine Rn.chk (by simp[room];omega) ?_
  rw[normRT]
  refine Rn.bn (Jz (by omega)) fun v hv=>Rn.some ?_
  refine SaysS.of hv.1.1 fun t=>?_
  rw[hv.1.iff]
  unfold inS ownP
  rw[r3 t]
  constructor
  ·rintro⟨h1,c,hc,h2,h3⟩
   rw[(hl.iff t _).2 ⟨c,hc,h2,rfl⟩,← h3]
   rfl
  ·intro h
   cases hf:fC l t with
   |none=>rw[hf] at h;simp at h
   |some w =>
    rw[hf] at h
    obtain⟨c,hc,h2,rfl⟩:=(hl.iff t w).1 hf
    have:=(hl.tells t _ hf).1
    exact⟨by omega,c,hc,h2,by simpa using h⟩
theorem GP:∀ {l m:List Int},l.Pairwise (·<·)→m.Pairwise (·<·)→(∀ x,x∈l↔x∈m)→l=m
 |[],[],_,_,_=>rfl
 |[],b::m,_,_,h=>absurd ((h b).2 (by simp)) (by simp)
 |a::l,[],_,_,h=>absurd ((h a).1 (by simp)) (by simp)
 |a::l,b::m,hl,hm,h=>by
  rw[List.pairwise_cons] at hl hm
  have hab:a=b:=by
   have h1:=(h a).1 (by simp)
   have h2:=(h b).2 (by simp)
   rcases List.mem_cons.1 h1 with e|h1
   ·exact e
   ·rcases List.mem_cons.1 h2 with e|h2
    ·exact e.symm
    ·have:=hl.1 b h2
     have:=hm.1 a h1
     omega
  subst hab
  rw[GP hl.2 hm.2 fun x=>?_]
  have:=h x
  simp only[List.mem_cons] at this
  constructor
  ·intro hx
   have h3:=hl.1 x hx
   rcases this.1 (.inr hx) with e|h2
   ·omega
   ·exact h2
  ·intro hx
   have h3:=hm.1 x hx
   rcases this.2 (.inr hx) with e|h2
   ·omega
   ·exact h2
theorem HB {l:List Claim} (hl:l.length≤1000):Rn (Ce big l) fun r=>r.Pairwise (·<·)∧∀ x,x∈r↔(0≤x∧x<8)∧∃ c∈l,c.node=x:=by
 unfold Ce
 refine Rn.bn (P:=fun r=>r.length≤8∧r.Pairwise (·<·)∧∀ x,x∈r↔(0≤x∧x<8)∧∃ c∈l,c.node=x) (Rn.iter _ (fun j y=>∃ r:List Int,y=((j:Int),r)∧r.length≤j∧r.Pairwise (·<·)∧∀ x,x∈r↔(0≤x∧x<(j:Int))∧∃ c∈l,c.node=x) 8 (by unfold big;omega) ⟨[],rfl,by simp,List.Pairwise.nil,fun x=>by simp;omega⟩ fun j y hj hI=>?_) fun r hr=>Rn.chk (by have:=hr.1;simp[room];omega) (Rn.some hr.2)
 obtain⟨r,rfl,r1,r2,r3⟩:=hI
 refine Rn.lt (Rn.ite (fun hd=>?_) fun hd=>?_)
 ·have hj8:j<8:=by
   have:=of_decide_eq_true (p:=((j:Int)<8)) hd
   omega
  refine Rn.bn (P:=fun r'=>r'=if ∃ c∈l,c.node=(j:Int) then r++[(j:Int)] else r) (Rn.iter _ (fun i y=>y=(i:Int)∧∀ c∈l.take i,c.node≠(j:Int)) l.length (by unfold big;omega) ⟨rfl,by simp⟩ fun i y hi hI=>?_) fun r' hr'=>Rn.lt (Rn.some ⟨hj8,r',?_,?_⟩)
  ·obtain⟨rfl,h1⟩:=hI
   refine Rn.lt (Rn.lt (Rn.ite (fun hd=>?_) fun hd=>?_))
   ·have hil:i<l.length:=by
     have:=of_decide_eq_true (p:=((i:Int)<(l.length:Int))) hd
     omega
    refine Rn.bnE (AF hil) (Rn.lt (Rn.ite (fun hc=>Rn.chk (by simp[room];omega) (Rn.lt (Rn.some ?_))) fun hc=>Rn.lt (Rn.some ⟨hil,?_,fun c hcm=>?_⟩)))
    ·rw[if_pos ⟨_,List.getElem_mem hil,of_decide_eq_true hc⟩]
    ·rw[Am (by omega) (by omega)]
     rfl
    ·rw[← List.take_append_getElem hil] at hcm
     rcases List.mem_append.1 hcm with hcm|hcm
     ·exact h1 c hcm
     ·simp at hcm
      subst hcm
      exact of_decide_eq_false hc
   ·have hil:i=l.length:=by
     have:=of_decide_eq_false (p:=((i:Int)<(l.length:Int))) hd
     omega
    subst hil
    rw[List.take_length] at h1
    exact Rn.some (by rw[if_neg fun ⟨c,hc,e⟩=>h1 c hc e])
  ·rw[Am (by first|omega|(simp only;omega)) (by first|omega|(simp only;omega))]
   rfl
  ·subst hr'
   split
   ·rename_i hex
    refine⟨by simp;omega,List.pairwise_append.2 ⟨r2,List.pairwise_singleton _ _,fun x hx y hy=>?_⟩,fun x=>?_⟩
    ·simp at hy
     subst hy
     exact ((r3 x).1 hx).1.2
    ·rw[List.mem_append,r3 x,List.mem_singleton]
     constructor
     ·rintro (⟨h1,h2⟩|rfl)
      ·exact⟨by omega,h2⟩
      ·exact⟨by omega,hex⟩
     ·rintro⟨h1,h2⟩
      rcases Decidable.em (x=(j:Int)) with e|e
      ·exact .inr e
      ·exact .inl ⟨by omega,h2⟩
   ·rename_i hex
    refine⟨by omega,r2,fun x=>?_⟩
    rw[r3 x]
    constructor
    ·rintro⟨h1,h2⟩
     exact⟨by omega,h2⟩
    ·rintro⟨h1,h2⟩
     refine⟨?_,h2⟩
     rcases Decidable.em (x=(j:Int)) with e|e
     ·subst e
      exact absurd h2 hex
     ·omega
 ·have hj8:j=8:=by
   have:=of_decide_eq_false (p:=((j:Int)<8)) hd
   omega
  subst hj8
  exact Rn.some ⟨r1,r2,r3⟩
theorem I9 (l:List Int) (hl:l.length≤1000000):Dj big l l=some true:=by
 refine Rn.eqv ?_
 unfold Dj
 refine Rn.lt (Rn.lt (Rn.lt (Rn.ite (fun h=>?_) fun _=>?_)))
 ·simp[neI] at h
 refine Rn.bn (P:=fun y=>y=.inl ()) (Rn.iter _ (fun j a=>a=(j:Int)) l.length (by unfold big;omega) rfl fun j a hj hI=>?_) fun y hy=>?_
 ·subst hI
  refine Rn.lt (Rn.lt (Rn.ite (fun hd=>?_) fun hd=>Rn.some rfl))
  have hjl:j<l.length:=by
   have:=of_decide_eq_true (p:=((j:Int)<(l.length:Int))) hd
   omega
  refine Rn.bnE (AF hjl) (Rn.bnE (AF hjl) (Rn.lt (Rn.ite (fun h=>?_) fun _=>Rn.lt (Rn.some ⟨hjl,?_⟩))))
  ·simp[neI] at h
  ·rw[Am (by omega) (by omega)]
   rfl
 ·subst hy
  exact Rn.some rfl
theorem JC {x y:Option (Int×Int)} (hx:okV x) (hy:okV y):(if (x.getD (-1,0)).2<(y.getD (-1,0)).2∨((y.getD (-1,0)).2=(x.getD (-1,0)).2∧(x.getD (-1,0)).1<(y.getD (-1,0)).1) then y.getD (-1,0) else x.getD (-1,0))=(joinV x y).getD (-1,0):=by
 cases x with
 |none =>
  cases y with
  |none=>rfl
  |some v =>
   have:=hy v rfl
   have e:joinV none (some v)=some v:=by
    unfold joinV
    rw[if_neg]
    show ¬ (v.2<0∨((0:Int)=v.2∧v.1<0))
    omega
   rw[e,if_pos (.inl (show (0:Int)<v.2 by omega))]
 |some u =>
  have hu:=hx u rfl
  cases y with
  |none =>
   have e:joinV (some u) none=some u:=by
    unfold joinV
    rw[if_pos (.inl (show (0:Int)<u.2 by omega))]
   rw[e,if_neg]
   show ¬ (u.2<0∨((0:Int)=u.2∧u.1 < -1))
   omega
  |some v =>
   have hv:=hy v rfl
   show (if u.2<v.2∨(v.2=u.2∧u.1<v.1) then v else u)=(joinV (some u) (some v)).getD (-1,0)
   unfold joinV
   show _=(if v.2<u.2∨(u.2=v.2∧v.1<u.1) then some u else some v).getD (-1,0)
   by_cases h1:u.2<v.2∨(v.2=u.2∧u.1<v.1)
   ·rw[if_pos h1,if_neg (by omega)]
    rfl
   ·rw[if_neg h1]
    by_cases h2:v.2<u.2∨(u.2=v.2∧v.1<u.1)
    ·rw[if_pos h2]
     rfl
    ·rw[if_neg h2]
     exact Prod.ext (by show u.1=v.1;omega) (by show u.2=v.2;omega)
theorem Ja {a b:List Claim} (ha:GoodC a) (hb:GoodC b):Rn (CZ big a b) fun r=>FinP (r.map cP) (joinF (fC a) (fC b)):=by
 unfold CZ
 have hal:=ha.len
 have hbl:=hb.len
 have htell:=D8 ha.tells hb.tells
 refine Rn.bn (F3 SM.nil (by simp;omega) fun c hc=>by have:=ha.2 c hc;unfold inB;omega) fun m0 hm0=>?_
 obtain⟨s1,s2,s3⟩:=hm0
 simp only[List.length_nil,Nat.zero_add] at s3
 refine Rn.bn (F3 s1 (by omega) fun c hc=>by have:=hb.2 c hc;unfold inB;omega) fun m hm=>?_
 obtain⟨t1,t2,t3⟩:=hm
 have hma:∀ c∈a,c.frm∈m∧c.to+1∈m:=by
  intro c hc
  have hr:=ha.2 c hc
  exact⟨(t2 _).2 (.inl ((s2 _).2 (.inr ⟨⟨c,hc,.inl rfl⟩,by omega⟩))),(t2 _).2 (.inl ((s2 _).2 (.inr ⟨⟨c,hc,.inr rfl⟩,by omega⟩)))⟩
 have hmb:∀ c∈b,c.frm∈m∧c.to+1∈m:=by
  intro c hc
  have hr:=hb.2 c hc
  exact⟨(t2 _).2 (.inr ⟨⟨c,hc,.inl rfl⟩,by omega⟩),(t2 _).2 (.inr ⟨⟨c,hc,.inr rfl⟩,by omega⟩)⟩
 have hst:Stp m (joinF (fC a) (fC b)):=by
  refine⟨fun s hs=>?_,fun s hs=>htell.none hs⟩
  unfold joinF
  rw[ha.step hma s hs,hb.step hmb s hs]
 rcases Nat.eq_zero_or_pos m.length with hm0|hpos
 ·have hm0':m=[]:=List.length_eq_zero_iff.1 hm0
  subst hm0'
  refine Rn.bn (P:=fun r=>r=[]) (Rn.iter _ (fun j y=>y=((0:Int),([]:List Claim))∧j=0) 0 (by unfold big;omega) ⟨rfl,rfl⟩ fun j y hj hI=>?_) fun r h=>?_
  ·obtain⟨rfl,rfl⟩:=hI
   exact Rn.lt (Rn.lt (Rn.lt (Rn.ite (fun h=>absurd h (by decide)) fun _=>Rn.some rfl)))
  ·subst h
   exact Rn.chk rfl (Rn.some hst.none)
 refine Rn.bn (P:=fun r=>FinP (r.map cP) (joinF (fC a) (fC b))∧r.length≤m.length) (Rn.iter _ (fun j y=>∃ out:List Claim,y=((j:Int),out)∧out.length≤j∧∃ h:j<m.length,BdP m[j] (out.map cP) (joinF (fC a) (fC b))) m.length (by unfold big;omega) ⟨[],rfl,by simp,hpos,hst.first t1 hpos⟩ fun j y hj hI=>?_) fun r h=>Rn.chk (by have:=h.2;simp[room];omega) (Rn.some h.1)
 obtain⟨out,rfl,o1,hjm,o3⟩:=hI
 refine Rn.lt (Rn.lt (Rn.lt ?_))
 rw[Am (by omega) (by omega),Bq]
 refine Rn.ite (fun hd=>?_) fun hd=>?_
 ·have hj1:j+1<m.length:=by
   have:=of_decide_eq_true (p:=((j:Int)+1<(m.length:Int))) hd
   omega
  have hn0:nth m (j:Int)=some m[j]:=AF hjm
  have hn1:nth m ((j:Int)+1)=some m[j+1]:=AF (i:=j+1) hj1
  have hm0:=t1.2 _ (List.getElem_mem hjm)
  have hm1:=t1.2 _ (List.getElem_mem hj1)
  obtain⟨g1,g2⟩:=hst.next t1 hj1 o3
  have hout:=o3.rng fun s hs=>htell.none (.inl hs)
  refine Rn.bn (P:=fun o=>o.length≤j+1∧BdP m[j+1] (o.map cP) (joinF (fC a) (fC b))) ?_ fun o ho=>Rn.lt (Rn.some ⟨by omega,o,?_,ho.1,hj1,ho.2⟩)
  ·refine Rn.bnE hn0 (Rn.bnE (G2 a _ (by omega)) (Rn.bnE (G2 b _ (by omega)) ?_))
   have hj:=JC (ha.tells.okV m[j]) (hb.tells.okV m[j])
   have hok:=Jq (ha.tells.okV m[j]) (hb.tells.okV m[j])
   have hF:joinF (fC a) (fC b) m[j]=joinV (fC a m[j]) (fC b m[j]):=rfl
   rw[hF] at g1 g2
   generalize (fC a m[j]).getD (-1,0)=u at hj
   generalize (fC b m[j]).getD (-1,0)=v at hj
   generalize joinV (fC a m[j]) (fC b m[j])=w at hj hok g1 g2
   refine Rn.bnE (v:=w.getD (-1,0)) ?_ ?_
   ·rw[← hj]
    refine Rn.eqv (Rn.bnE (v:=decide (u.2<v.2∨(v.2=u.2∧u.1<v.1))) ?_ (Rn.lt (Rn.ite (fun h=>Rn.some ?_) fun h=>Rn.some ?_)))
    ·simp only[Au]
     rcases Int.lt_trichotomy u.2 v.2 with h|h|h
     ·rw[gt_t h,AC]
      simp[h]
     ·rw[gt_f (by omega),AM,eq_t h.symm,AC]
      simp[h,gtI]
     ·rw[gt_f (by omega),AM,eq_f (by omega),AM]
      have e1:¬ u.2<v.2:=by omega
      have e2:¬ v.2=u.2:=by omega
      simp[e1,e2]
    ·rw[if_pos (of_decide_eq_true h)]
    ·rw[if_neg (of_decide_eq_false h)]
   ·cases w with
    |none=>exact Rn.lt (Rn.ite (fun h=>absurd h (by decide)) fun _=>Rn.some ⟨Nat.le_succ_of_le o1,g1 rfl⟩)
    |some w =>
     have hw:=hok w rfl
     refine Rn.lt ?_
     rw[show ((some w:Option (Int×Int)).getD (-1,0))=w from rfl,ge_t hw.1]
     refine Rn.ite (fun _=>Rn.bnE hn0 (Rn.lt (Rn.bnE hn1 (Rn.lt ?_)))) fun h=>by simp at h
     rw[Ao (by omega) (by omega)]
     refine Rn.bn (H8 (show out.length≤1000000 by omega) (fun x hx=>by have:=hout x hx;unfold inB;omega) (by unfold inB;show _∧_;simp only;omega)) fun o ho=>Rn.some ?_
     have p3:BdP m[j+1] (o.map cP) (joinF (fC a) (fC b)):=by rw[ho.1];exact g2 w rfl
     exact⟨by have:=ho.2;have:=o1;simp only at *;omega,p3⟩
  ·rfl
 ·have hj1:m.length≤j+1:=by
   have:=of_decide_eq_false (p:=((j:Int)+1<(m.length:Int))) hd
   omega
  exact Rn.some ⟨hst.last t1 hjm hj1 o3,show out.length≤m.length by omega⟩
end Go.Proofs.Ythjenkmbbnjcnaa
namespace Go.Proofs.Ythjenkmbbnjcnaa
open Go Go.RowKit
theorem Ka {a:List Claim} (ha:GoodC a) (t:Int):(∃ n e ok,Cj big a t=some (n,e,ok)∧ok=decide (0≤((fC a t).getD (-1,0)).1)∧n=max 0 ((fC a t).getD (-1,0)).1∧e=((fC a t).getD (-1,0)).2):=by
 rw[KC a t (by have:=ha.len;omega)]
 cases hf:fC a t with
 |none=>exact⟨0,0,false,rfl,rfl,rfl,rfl⟩
 |some v =>
  have:=(ha.tells t v hf).2
  refine⟨v.1,v.2,true,rfl,?_,?_,rfl⟩
  ·show true=decide (0≤v.1)
   rw[decide_eq_true this.1]
  ·show v.1=max 0 v.1
   omega
theorem JD {f:Int→Option (Int×Int)} {j k:List Claim} (ht:Tells f) (h1:FinP (j.map cP) f) (h2:FinP (k.map cP) f):A8 big j k=some true :=
 Ia (h1.good ht) (h2.good ht) fun t=>by rw[show fC j t=f t from h1.2 t,show fC k t=f t from h2.2 t]
theorem MayC.of {l:List Claim} (h:GoodC l) (hv:∀ t v,fC l t=some v→v.1<8∧v.2≤9007199254740992):MayC l:=by
 refine⟨fun c hc hb=>?_,fun i b c g1 g2 hb=>?_⟩
 ·have h1:=h.2 c hc
  have h2:=hv c.frm (c.node,c.epoch) ((h.iff _ _).2 ⟨c,hc,by omega,rfl⟩)
  unfold badC at hb
  simp only at h2
  omega
 ·have:∀ (l:List Claim) (i:Nat),canP (l.map cP)→l[i]?=some b→l[i+1]?=some c→¬ bad2 b c:=by
   intro l
   induction l with
   |nil=>intro i _ h;simp at h
   |cons x l ih =>
    intro i h g1 g2
    cases i with
    |zero =>
     cases l with
     |nil=>simp at g2
     |cons y l =>
      have e1:x=b:=by simpa using g1
      have e2:y=c:=by simpa using g2
      subst e1 e2
      obtain⟨-,p2,p3,-⟩:=h
      unfold bad2
      rintro (q|q)
      ·have:x.to<y.frm:=p2
       omega
      ·exact p3 q
    |succ i=>exact ih i (canP.tail h) (by simpa using g1) (by simpa using g2)
  exact this l i h.1 g1 g2 hb
theorem HC {a:List Claim} (ha:GoodC a) (hl:a.length≤sortMost) (h8:∀ c∈a,c.node<8):Rn (BS big a) fun r=>Rn (Ce big a) fun s=>Dj big r s=some true:=by
 refine (IA hl).mono fun r hr=>(HB (by unfold sortMost at hl;omega)).mono fun s hs=>?_
 have e:r=s:=GP hr.1 hs.1 fun x=>by
  rw[hr.2.1 x,hs.2 x]
  constructor
  ·rintro⟨c,hc,rfl⟩
   have:=ha.2 c hc
   exact⟨⟨by omega,h8 c hc⟩,c,hc,rfl⟩
  ·exact fun h=>h.2
 subst e
 exact I9 r (by have:=hr.2.2;omega)
theorem ID {a:List Claim} {nd:Int} (ha:GoodC a) (hl:a.length≤200):Rn (B5 big a nd) fun r=>Rn (CD big a nd) fun s=>B6 big r s=some true:=by
 refine (Jw ha hl).mono fun r hr=>(IC ha hl).mono fun s hs=>?_
 have e:r=s:=hr.1.ext hs fun t=>Iff.rfl
 subst e
 exact Iz r (by have:=hr.2;omega)
theorem Jb {a b:List Claim} (ha:GoodC a) (hb:GoodC b):Rn (BW big a b) fun r=>(GoodC r∧∀ t,fC r t=joinV (fC a t) (fC b t))∧Rn (CZ big a b) fun s=>A8 big r s=some true:=by
 refine (JZ ha hb).mono fun r hr=>⟨⟨hr.good (D8 ha.tells hb.tells),hr.2⟩,(Ja ha hb).mono fun s hs=>?_⟩
 exact JD (D8 ha.tells hb.tells) hr hs
theorem Jc {a:List Claim} {l:List Span} {nd ep:Int} (ha:GoodC a) (hl:SortableS l) (h1:0≤nd) (h2:1≤ep):Rn (BV big a l nd ep) fun r=>(GoodC r∧∀ t,fC r t=giveF (fC a) (inS l) (nd,ep) t)∧Rn (Cv big a l nd ep) fun s=>A8 big r s=some true:=by
 refine (Iv ha hl h1 h2).mono fun r hr=>⟨hr,(HP ha hl h1 h2).mono fun s hs=>?_⟩
 exact Ia hr.1 hs.1 fun t=>by rw[hr.2 t,hs.2.1 t]
theorem HD (a b:List Claim) (s:List Span) (slot node epoch:Int):CQ big a b s slot node epoch=some true:=by
 refine Rn.eqv ?_
 unfold CQ
 have aw:Rn (bn (B2 big) fun v=>some v) (·=true):=Rn.bnE Gh (Rn.some rfl)
 refine Rn.bn (P:=fun y=>y=false→a.length≤40∧b.length≤40∧s.length≤40) ?_ fun y hy=>Rn.lt (Rn.ite (fun _=>aw) fun hf=>?_)
 ·refine Rn.lt (Rn.lt (Rn.ite (fun h=>Rn.some (by simp)) fun a1=>Rn.lt (Rn.lt (Rn.ite (fun h=>Rn.some (by simp)) fun a2=>Rn.lt (Rn.lt (Rn.some fun a3=>?_))))))
  have b1:=of_decide_eq_false (p:=(40:Int)<(a.length:Int)) a1
  have b2:=of_decide_eq_false (p:=(40:Int)<(b.length:Int)) a2
  have b3:=of_decide_eq_false (p:=(40:Int)<(s.length:Int)) a3
  omega
 obtain⟨l1,l2,l3⟩:=hy hf
 have may:∀ l:List Claim,l.length≤40→∃ m:Bool,B9 big l=some m∧Bu big l=some m∧(m=true→MayC l):=by
  intro l hl
  obtain⟨x,e1,i1⟩:=J8 l (by omega)
  obtain⟨y,e2,i2⟩:=J9 l (by omega)
  have:x=y:=Bool.eq_iff_iff.2 (i1.trans i2.symm)
  subst this
  exact⟨x,e1,e2,i1.1⟩
 obtain⟨ma,ea,ra,ha⟩:=may a l1
 obtain⟨mb,eb,rb,hb⟩:=may b l2
 refine Rn.bnE (v:=false) ?_ (Rn.lt (Rn.ite (fun h=>by simp at h) fun _=>?_))
 ·rw[ea,ra,eb,rb]
  simp[An,Au,neB,AM]
 refine Rn.bnE (v:=!(ma && mb)) ?_ (Rn.lt (Rn.ite (fun _=>aw) fun hm=>?_))
 ·rw[ra,rb]
  cases ma <;> simp[An,Au,notB,AM,AC]
 have hm2:ma=true∧mb=true:=by simpa using hm
 have ca:=ha hm2.1
 have cb:=hb hm2.2
 have ga:=ca.good
 have gb:=cb.good
 obtain⟨n,e,ok,h0,h1,h2,h3⟩:=Ka ga slot
 refine Rn.bnE h0 (Rn.bnE (G2 a slot (by omega)) ?_)
 refine Rn.bn (P:=fun y=>y=false) ?_ fun y hy=>Rn.lt (Rn.ite (fun h=>by rw[hy] at h;cases h) fun _=>?_)
 ·refine Rn.lt ?_
  rw[show geI ((fC a slot).getD (-1,0)).1 0=ok by rw[h1];rfl]
  refine Rn.lt ?_
  rw[show neB ok ok=false by simp[neB]]
  refine Rn.ite (fun h=>by cases h) fun _=>Rn.lt (Rn.lt ?_)
  rw[show neI n (maxI 0 ((fC a slot).getD (-1,0)).1)=false by rw[h2];simp[neI,maxI]]
  refine Rn.ite (fun h=>by cases h) fun _=>Rn.lt ?_
  rw[show neI e ((fC a slot).getD (-1,0)).2=false by rw[h3];simp[neI]]
  refine Rn.ite (fun h=>by cases h) fun _=>?_
  refine Rn.bn (Jb ga gb) fun j hj=>Rn.bn hj.2 fun k hk=>Rn.bnE hk (Rn.lt (Rn.ite (fun h=>by cases h) fun _=>?_))
  refine Rn.bn (ID ga (by omega)) fun o ho=>Rn.bn ho fun p hp=>Rn.bnE hp (Rn.lt (Rn.ite (fun h=>by cases h) fun _=>?_))
  refine Rn.bn (HC ga (by unfold sortMost;omega) fun c hc=>?_) fun o ho=>Rn.bn ho fun p hp=>Rn.bnE hp (Rn.lt (Rn.some rfl))
  have:=ca.1 c hc
  unfold badC at this
  omega
 ·refine Rn.bn (P:=fun y=>y=false→0≤node∧1≤epoch) ?_ fun y hy=>Rn.lt (Rn.ite (fun _=>aw) fun hf=>?_)
  ·refine Rn.lt (Rn.ite (fun _=>Rn.some (by simp)) fun a1=>Rn.lt (Rn.ite (fun _=>Rn.some (by simp)) fun _=>Rn.lt (Rn.ite (fun _=>Rn.some (by simp)) fun a2=>Rn.lt (Rn.some fun _=>?_))))
   have b1:=of_decide_eq_false (p:=node<0) a1
   have b2:=of_decide_eq_false (p:=epoch<1) a2
   omega
  ·obtain⟨q1,q2⟩:=hy hf
   refine Rn.bn (P:=fun y=>y=true) ?_ fun y hy=>Rn.some hy
   refine Rn.bn (Jc ga ⟨by omega,.inl (by unfold sortMost;omega)⟩ q1 q2) fun g hg=>Rn.bn hg.2 fun k hk=>Rn.bnE hk (Rn.ite (fun _=>Rn.bnE Gh (Rn.some rfl)) fun h=>by cases h)
end Go.Proofs.Ythjenkmbbnjcnaa
namespace Go.Proofs.Ythjenkmbbnjcnaa
open Go Go.RowKit
set_option maxRecDepth 100000
section
variable {P:Program} {n t:Nat} {ts:List T}
theorem WfT.bool (hu:P.underlying t=some .bool) (h:WfT P (n+1) t ts):∃ b,ts=[.v (.bool b)]:=by rw[WfT,hu] at h;exact h
theorem WfT.int {k:IntKind} (hu:P.underlying t=some (.int k)) (h:WfT P (n+1) t ts):∃ i,ts=[.v (.int k i)]∧(Lit.int k i).wf=true:=by rw[WfT,hu] at h;exact h
theorem WfT.slice {e:Nat} (hu:P.underlying t=some (.slice e)) (h:WfT P (n+1) t ts):∃ es,ts=[.sl (P.cellsOf e) es]∧es.length*P.bytesOf e≤reachBytes∧∀ x∈es,WfT P n e x:=by rw[WfT,hu] at h;exact h
theorem WfT.struct {fs:Array Go.Field} (hu:P.underlying t=some (.struct fs)) (h:WfT P (n+1) t ts):∃ ps:List (List T),ts=ps.flatten∧All2 (fun p f=>WfT P n f p) ps (fs.toList.map (·.type)):=by rw[WfT,hu] at h;exact h
end
theorem All2.cons_r {α β:Type} {R:α→β→Prop} {l:List α} {b:β} {bs:List β} (h:All2 R l (b::bs)):∃ x xs,l=x::xs∧R x b∧All2 R xs bs:=by
 cases l with
 |nil=>exact h.elim
 |cons x xs=>exact⟨x,xs,rfl,h⟩
theorem All2.nil_r {α β:Type} {R:α→β→Prop} {l:List α} (h:All2 R l ([]:List β)):l=[]:=by
 cases l with
 |nil=>rfl
 |cons x xs=>exact h.elim
def rngI (i:Int):Prop:=-9223372036854775808≤i∧i≤9223372036854775807
theorem Dk {i:Int} (h:(Lit.int .i64 i).wf=true):rngI i:=by
 have h':=(Bool.and_eq_true _ _ ▸ h:_∧_)
 have h1:=of_decide_eq_true h'.1
 have h2:=of_decide_eq_true h'.2
 exact⟨h1,h2⟩
theorem Gv {α:Type} {enc:List α→List (List T)} {R:List T→Prop} {rng:α→Prop} (hn:enc []=[]) (hc:∀ x l,enc (x::l)=enc [x]++enc l) (h1:∀ e,R e→∃ x,enc [x]=[e]∧rng x) :
  ∀ es,(∀ x∈es,R x)→∃ l,es=enc l∧∀ x∈l,rng x
 |[],_=>⟨[],hn.symm,fun x h=>by cases h⟩
 |e::es,h=>by
  obtain⟨x,hx,rx⟩:=h1 e (h e (by simp))
  obtain⟨l,rfl,rl⟩:=Gv hn hc h1 es fun y hy=>h y (by simp[hy])
  refine⟨x::l,by rw[hc,hx];rfl,?_⟩
  intro y hy
  rcases List.mem_cons.1 hy with rfl|hy
  ·exact rx
  ·exact rl y hy
def rngU (i:Int):Prop:=0≤i∧i≤255
def rngField (x:Field):Prop:=True
def rngItem (x:Item):Prop:=(rngI x.kind)∧(x.f.length≤4398046510976∧∀ y∈x.f,rngField y)∧(x.l.length≤8796093021952)∧(rngI x.exp)
def rngPair (x:Pair):Prop:=(rngItem x.item)
def rngEffect (x:Effect):Prop:=(rngItem x.item)
def rngRid (x:Rid):Prop:=(rngI x.node)∧(rngI x.epoch)
def rngFeed (x:Feed):Prop:=(rngRid x.rid)∧(rngI x.off)∧(x.back.length≤1353245080300∧∀ y∈x.back,rngEffect y)∧(rngRid x.prev)∧(rngI x.upto)
def rngClaim (x:Claim):Prop:=(rngI x.frm)∧(rngI x.to)∧(rngI x.node)∧(rngI x.epoch)
theorem JE (n:Nat) (e:List T) (h:WfT Try.prog (n+2) 41 e):∃ x:Claim,encClaim [x]=[e]∧rngClaim x:=by
 obtain⟨q0,rfl,w0⟩:=WfT.struct (t:=41) Try.underlying41 h
 obtain⟨p0,q1,rfl,g0,w1⟩:=All2.cons_r w0
 obtain⟨p1,q2,rfl,g1,w2⟩:=All2.cons_r w1
 obtain⟨p2,q3,rfl,g2,w3⟩:=All2.cons_r w2
 obtain⟨p3,q4,rfl,g3,w4⟩:=All2.cons_r w3
 obtain rfl:=All2.nil_r w4
 obtain⟨f0,rfl,v0⟩:=WfT.int (t:=3) Try.underlying3 g0
 have r0:=Dk v0
 obtain⟨f1,rfl,v1⟩:=WfT.int (t:=3) Try.underlying3 g1
 have r1:=Dk v1
 obtain⟨f2,rfl,v2⟩:=WfT.int (t:=3) Try.underlying3 g2
 have r2:=Dk v2
 obtain⟨f3,rfl,v3⟩:=WfT.int (t:=3) Try.underlying3 g3
 have r3:=Dk v3
 exact⟨⟨f0,f1,f2,f3⟩,rfl,⟨r0,r1,r2,r3⟩⟩
theorem GQ {n:Nat} {es:List (List T)} (h:∀ x∈es,WfT Try.prog (n+2) 41 x):∃ l:List Claim,es=encClaim l∧∀ x∈l,rngClaim x :=
 Gv (enc:=encClaim) (R:=fun e=>WfT Try.prog (n+2) 41 e) (rng:=rngClaim) rfl (fun _ _=>rfl) (@JE n) es h
def rngMsg (x:Msg):Prop:=(rngI x.kind)∧(rngI x.frm)∧(rngI x.to)∧(rngI x.epoch)∧(x.claims.length≤4398046510976∧∀ y∈x.claims,rngClaim y)∧(x.nodes.length≤17592186043904∧∀ y∈x.nodes,rngI y)∧(rngI x.node)∧(rngI x.slot)∧(rngI x.num)∧(rngRid x.rid)∧(rngRid x.prev)∧(rngI x.off)∧(x.effects.length≤1353245080300∧∀ y∈x.effects,rngEffect y)
end Go.Proofs.Ythjenkmbbnjcnaa
namespace Go.Proofs.Ythjenkmbbnjcnaa
open Go Go.RowKit
open Go.ChangeShapes Go.WideShapes Go.ChangeAt Go.RowKit
theorem Try.own:ownKnob Try.prog.godebug=none:=by kernel_rfl
theorem Try.laidOut:laidOutB Try.prog=true:=by kernel_rfl
end Go.Proofs.Ythjenkmbbnjcnaa
namespace Go.Proofs.Ythjenkmbbnjcnaa
open Go Go.RowKit
set_option maxRecDepth 100000
def rngH1 (i:Int):Prop:=0≤i∧i≤65535
end Go.Proofs.Ythjenkmbbnjcnaa
