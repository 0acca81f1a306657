/- Part 7 of the proof. -/
import Derived.Test.YthjenkmbbnjcnaaPf6
import Derived.Test.YthjenkmbbnjcnaaRows
import Derived.ProofKit
set_option linter.unusedVariables false
set_option linter.unusedSimpArgs false
set_option linter.constructorNameAsVariable false
set_option maxRecDepth 8000
set_option maxHeartbeats 8000000
namespace Go.Proofs.Ythjenkmbbnjcnaa
open Go Go.RowKit
def Eb (n:Nat) (a0:List Span) (a1:List Span):Option (List Int) :=
chk (room 2 1) <|
bn (iter n (fun (y1:List Int×Int) =>
lt (lenI a0) fun v5 =>
lt (lenI a1) fun v6 =>
lt (addI .i64 v5 v6) fun v7 =>
lt (ltI y1.2 v7) fun v8 =>
ite' v8 (bn (bn (lt (ltI y1.2 v5) fun v11 =>
ite' v11 (bn (nth a0 y1.2) fun v12 =>
some (v12)) (lt (subI .i64 y1.2 v5) fun v13 =>
bn (nth a1 v13) fun v14 =>
some (v14))) fun (y10:Span) =>
bn (lt (leI y10.frm y10.to) fun v16 =>
ite' v16 (bn (BM n y1.1 y10.frm) fun v17 =>
some (v17)) (some (y1.1))) fun (y15:List Int) =>
bn (lt (leI y10.frm y10.to) fun v19 =>
ite' v19 (lt (ltI y10.to 16384) fun v20 =>
some (v20)) (some (false))) fun (y18:Bool) =>
lt (y18) fun v21 =>
ite' v21 (lt (addI .i64 y10.to 1) fun v22 =>
bn (BM n y15 v22) fun v23 =>
some (v23)) (some (y15))) fun (y9:List Int) =>
lt (addI .i64 y1.2 1) fun v24 =>
some (.inl (y9,v24))) (some (.inr y1.1))) ([0,16384],0)) fun (y2:List Int) =>
some y2
theorem G5 {n:Nat} {a0:List Span} {a1:List Span} {r:List Int} (h:Eb n a0 a1=some r):Sound Try.prog 50 [.l (.d true 2 (encSpan a0)),.l (.d false 2 (encSpan a1))] [] (.l (.d false 1 (encI r))) []:=by
 unfold Eb at h
 refine Sound.of_aw (fn:=Try.f50) (c:=_) Try.func50 rfl (by simp[Try.f50]) fun cx hG hnb=>?_
 rw[show Try.f50.ntmps=59 from rfl]
 have hn0:cx.nb=0:=hnb
 simp only[As,initTm,List.map_cons,List.map_nil]
 apply AW.step
 ·simp
  intros;rfl
 apply AW.step
 ·simp
  intros
  refine Bu ?_
  try simp
  intros;rfl
 refine AW.seq ?_
 apply AW.step
 ·simp
  intros;rfl
 refine AW.block ?_
 replace h:=chkE h;obtain⟨e3,h⟩:=h
 replace h:=bnE h;obtain⟨y2,g2,h⟩:=h
 refine AW.iterP g2 (mk:=fun gh ls q=>(⟨[(0,.l (.d true 2 (encSpan a0))),(1,.l (.d false 2 (encSpan a1))),(5,.l (.d false 1 (encI q.1))),(6,.l (.s (.int .i64 q.2)))],[],59,gh,ls⟩:St)) (N:=fun gh ls=>(xP 0 (cx:=cx) (fun q=>(⟨[(5,.l (.d false 1 (encI q)))],[],59,gh,ls⟩:St)))) ?_ noX ?_ ?_
 ·refine W.frzRow 0 (ty:=3) (cap:=none) (sz:=1) (es:=encI [0,16384]) (by simp[encI,lvs]) (by omega) (Cn _) (by first|exact (Aw e3).2|simpa using (Aw e3).2|simp) (by simp[Tm.frz,AV.frz,LV.frz,(show List.take 2 (encI [0,16384])=encI [0,16384] from rfl)];rfl) (by simp[Ob.frz,LV.frz,(show List.take 2 (encI [0,16384])=encI [0,16384] from rfl)];rfl) rfl ?_
  refine Weak.mixN [] hn0 (by decide) ?_ ?_ rfl
  all_goals first|(simp[Ab,Ac,pickOb];done)|rfl
 ·clear h;intro y1 y4 h
  refine AW.seq ?_
  replace h:=ltE h;obtain⟨v5,e5,h⟩:=h
  replace h:=ltE h;obtain⟨v6,e6,h⟩:=h
  replace h:=ltE h;obtain⟨v7,e7,h⟩:=h
  replace h:=ltE h;obtain⟨v8,e8,h⟩:=h
  apply AW.step
  ·simp[Ak e5,Ak e6,← e7,← e8]
   intros;rfl
  cases v8 with
  |true =>
   replace h:=iteT rfl h
   refine AW.cond_true (by simp) ?_
   refine AW.skip ?_
   try simp only[nm]
   replace h:=bnE h;obtain⟨y9,g9,h⟩:=h
   refine AW.flow (p:=fun gh ls=>(nP (cx:=cx) (fun q=>(⟨[(0,.l (.d true 2 (encSpan a0))),(1,.l (.d false 2 (encSpan a1))),(5,.l (.d false 1 (encI q))),(6,.l (.s (.int .i64 y1.2)))],[],59,gh,ls⟩:St))) y9) ?_ ?_
   ·replace h:=g9;clear g9
    refine AW.block ?_
    apply AW.step
    ·simp
     intros;rfl
    replace h:=bnE h;obtain⟨y10,g10,h⟩:=h
    refine AW.flow (p:=fun gh ls=>(nP (cx:=cx) (fun q=>(⟨[(0,.l (.d true 2 (encSpan a0))),(1,.l (.d false 2 (encSpan a1))),(5,.l (.d false 1 (encI y1.1))),(6,.l (.s (.int .i64 y1.2))),(7,.l (.p 0 0))],[some ⟨43,2,false,none,[.s (.int .i64 q.frm),.s (.int .i64 q.to)]⟩],59,gh,ls⟩:St))) y10) ?_ ?_
    ·replace h:=g10;clear g10
     replace h:=ltE h;obtain⟨v11,e11,h⟩:=h
     apply AW.step
     ·simp[Ak e5,← e11]
      intros;rfl
     cases v11 with
     |true =>
      replace h:=iteT rfl h
      refine AW.cond_true (by simp) ?_
      replace h:=bnE h;obtain⟨v12,e12,h⟩:=h
      apply AW.last
      ·simp[Aa e12]
       intros;rfl
      obtain rfl:=oi h
      refine nP_i ?_
      refine Weak.mixN [some 0] hn0 (by decide) ?_ ?_ rfl
      all_goals first|(simp[Ab,Ac,pickOb];done)|rfl
     |false =>
      replace h:=iteF rfl h
      refine AW.cond_false (by simp) ?_
      replace h:=ltE h;obtain⟨v13,e13,h⟩:=h
      replace h:=bnE h;obtain⟨v14,e14,h⟩:=h
      apply AW.last
      ·simp[Ak e5,← e13,Aa e14]
       intros;rfl
      obtain rfl:=oi h
      refine nP_i ?_
      refine Weak.mixN [some 0] hn0 (by decide) ?_ ?_ rfl
      all_goals first|(simp[Ab,Ac,pickOb];done)|rfl
    ·rintro e s hp
     obtain⟨rfl,hw⟩:=hp
     refine⟨_,hw,?_⟩
     try simp only[nm]
     replace h:=bnE h;obtain⟨y15,g15,h⟩:=h
     refine AW.flow (p:=fun gh ls=>(nP (cx:=cx) (fun q=>(⟨[(0,.l (.d true 2 (encSpan a0))),(1,.l (.d false 2 (encSpan a1))),(5,.l (.d false 1 (encI q))),(6,.l (.s (.int .i64 y1.2))),(7,.l (.p 0 0))],[some ⟨43,2,false,none,[.s (.int .i64 y10.frm),.s (.int .i64 y10.to)]⟩],59,gh,ls⟩:St))) y15) ?_ ?_
     ·replace h:=g15;clear g15
      replace h:=ltE h;obtain⟨v16,e16,h⟩:=h
      apply AW.step
      ·simp[← e16]
       intros;rfl
      cases v16 with
      |true =>
       replace h:=iteT rfl h
       refine AW.cond_true (by simp) ?_
       replace h:=bnE h;obtain⟨v17,e17,h⟩:=h
       apply AW.last
       ·simp
        intros
        refine Ah Cs (CJ e17) rfl ⟨.same rfl,.same rfl,trivial⟩ ?_
        try simp
        intros;rfl
       obtain rfl:=oi h
       refine nP_i ?_
       refine Weak.mixN [some 0] hn0 (by decide) ?_ ?_ rfl
       all_goals first|(simp[Ab,Ac,pickOb];done)|rfl
      |false =>
       replace h:=iteF rfl h
       refine AW.cond_false (by simp) ?_
       refine AW.skip ?_
       try simp only[nm]
       obtain rfl:=oi h
       refine nP_i ?_
       refine Weak.mixN [some 0] hn0 (by decide) ?_ ?_ rfl
       all_goals first|(simp[Ab,Ac,pickOb];done)|rfl
     ·rintro e s hp
      obtain⟨rfl,hw⟩:=hp
      refine⟨_,hw,?_⟩
      try simp only[nm]
      replace h:=bnE h;obtain⟨y18,g18,h⟩:=h
      refine AW.flow (p:=fun gh ls=>(nP (cx:=cx) (fun q=>(⟨[(0,.l (.d true 2 (encSpan a0))),(1,.l (.d false 2 (encSpan a1))),(5,.l (.d false 1 (encI y15))),(6,.l (.s (.int .i64 y1.2))),(7,.l (.p 0 0)),(52,.l (.s (.bool q)))],[some ⟨43,2,false,none,[.s (.int .i64 y10.frm),.s (.int .i64 y10.to)]⟩],59,gh,ls⟩:St))) y18) ?_ ?_
      ·replace h:=g18;clear g18
       replace h:=ltE h;obtain⟨v19,e19,h⟩:=h
       cases v19 with
       |true =>
        replace h:=iteT rfl h
        replace h:=ltE h;obtain⟨v20,e20,h⟩:=h
        apply AW.last
        ·simp[← e19,← e20]
         intros;rfl
        obtain rfl:=oi h
        refine nP_i ?_
        refine Weak.mixN [some 0] hn0 (by decide) ?_ ?_ rfl
        all_goals first|(simp[Ab,Ac,pickOb];done)|rfl
       |false =>
        replace h:=iteF rfl h
        apply AW.last
        ·simp[← e19]
         intros;rfl
        obtain rfl:=oi h
        refine nP_i ?_
        refine Weak.mixN [some 0] hn0 (by decide) ?_ ?_ rfl
        all_goals first|(simp[Ab,Ac,pickOb];done)|rfl
      ·rintro e s hp
       obtain⟨rfl,hw⟩:=hp
       refine⟨_,hw,?_⟩
       try simp only[nm]
       replace h:=ltE h;obtain⟨v21,e21,h⟩:=h
       rw[← e21]
       cases v21 with
       |true =>
        replace h:=iteT rfl h
        refine AW.cond_true (by simp) ?_
        replace h:=ltE h;obtain⟨v22,e22,h⟩:=h
        replace h:=bnE h;obtain⟨v23,e23,h⟩:=h
        apply AW.last
        ·simp[← e22]
         intros
         refine Ah Cs (CJ e23) rfl ⟨.same rfl,.same rfl,trivial⟩ ?_
         try simp[← e22]
         intros;rfl
        obtain rfl:=oi h
        refine nP_i ?_
        refine Weak.mixN [] hn0 (by decide) ?_ ?_ rfl
        all_goals first|(simp[Ab,Ac,pickOb];done)|rfl
       |false =>
        replace h:=iteF rfl h
        refine AW.cond_false (by simp) ?_
        refine AW.skip ?_
        try simp only[nm]
        obtain rfl:=oi h
        refine nP_i ?_
        refine Weak.mixN [] hn0 (by decide) ?_ ?_ rfl
        all_goals first|(simp[Ab,Ac,pickOb];done)|rfl
   ·rintro e s hp
    obtain⟨rfl,hw⟩:=hp
    refine⟨_,hw,?_⟩
    try simp only[nm]
    replace h:=ltE h;obtain⟨v24,e24,h⟩:=h
    apply AW.last
    ·simp[← e24]
     intros;rfl
    obtain rfl:=oi h
    refine nP_i ?_
    refine Weak.mixN [] hn0 (by decide) ?_ ?_ rfl
    all_goals first|(simp[Ab,Ac,pickOb];done)|rfl
  |false =>
   replace h:=iteF rfl h
   refine AW.cond_false (by simp) ?_
   refine AW.exit ?_
   try simp only[nm]
   obtain rfl:=oi h
   refine xP_i ?_
   refine Weak.mixN [] hn0 (by decide) ?_ ?_ rfl
   all_goals first|(simp[Ab,Ac,pickOb];done)|rfl
 ·rintro e s hp
  obtain⟨rfl,hw⟩:=hp
  refine⟨_,hw,?_⟩
  try simp only[nm]
  apply AW.step
  ·simp
   intros;rfl
  obtain rfl:=oi h
  refine AW.ret ?_
  refine Left.plain hnb (by simp[Try.f50,resV,resC,comp];rfl) rfl rfl ?_
  simp
theorem Gz:Enters Try.prog 50:=enters Try.func50 (by kernel_rfl) rfl
def EC (n:Nat) (a0:List Span) (a1:Int):Option Bool :=
bn (iter n (fun (y1:Int) =>
lt (lenI a0) fun v4 =>
lt (ltI y1 v4) fun v5 =>
ite' v5 (bn (lt (geI a1 0) fun v7 =>
ite' v7 (lt (ltI a1 16384) fun v8 =>
ite' v8 (bn (nth a0 y1) fun v9 =>
lt (leI v9.frm a1) fun v10 =>
ite' v10 (lt (leI a1 v9.to) fun v11 =>
some (v11)) (some (false))) (some (false))) (some (false))) fun (y6:Bool) =>
lt (y6) fun v12 =>
ite' v12 (some (.inr (.inr true))) (lt (addI .i64 y1 1) fun v13 =>
some (.inl v13))) (some (.inr (.inl ())))) 0) fun (y2:Unit ⊕ Bool) =>
sm y2 (fun y14=>some false) (fun y15=>some y15)
theorem HY {n:Nat} {a0:List Span} {a1:Int} {r:Bool} (h:EC n a0 a1=some r):Sound Try.prog 21 [.l (.d true 2 (encSpan a0)),.l (.s (.int .i64 a1))] [] (.l (.s (.bool r))) []:=by
 unfold EC at h
 refine Sound.of_aw (fn:=Try.f21) (c:=_) Try.func21 rfl (by simp[Try.f21]) fun cx hG hnb=>?_
 rw[show Try.f21.ntmps=36 from rfl]
 have hn0:cx.nb=0:=hnb
 simp only[As,initTm,List.map_cons,List.map_nil]
 apply AW.step
 ·simp
  intros;rfl
 refine AW.seq ?_
 apply AW.step
 ·simp
  intros;rfl
 refine AW.block ?_
 replace h:=bnE h;obtain⟨y2,g2,h⟩:=h
 refine AW.iterP g2 (mk:=fun gh ls q=>(⟨[(0,.l (.d true 2 (encSpan a0))),(1,.l (.s (.int .i64 a1))),(5,.l (.s (.int .i64 q)))],[],36,gh,ls⟩:St)) (N:=fun gh ls=>(sp (xP 0 (cx:=cx) (fun _=>(⟨[],[],36,gh,ls⟩:St))) (rP (cx:=cx) (P:=Try.prog) Try.f21 (fun q=>.l (.s (.bool q))) (fun q=>[])))) ?_ (noS noX noR) ?_ ?_
 ·refine Weak.mixN [] hn0 (by decide) ?_ ?_ rfl
  all_goals first|(simp[Ab,Ac,pickOb];done)|rfl
 ·clear h;intro y1 y3 h
  refine AW.seq ?_
  replace h:=ltE h;obtain⟨v4,e4,h⟩:=h
  replace h:=ltE h;obtain⟨v5,e5,h⟩:=h
  apply AW.step
  ·simp[Ak e4,← e5]
   intros;rfl
  cases v5 with
  |true =>
   replace h:=iteT rfl h
   refine AW.cond_true (by simp) ?_
   refine AW.skip ?_
   try simp only[nm]
   refine AW.seq ?_
   refine AW.block ?_
   replace h:=bnE h;obtain⟨y6,g6,h⟩:=h
   refine AW.flow (p:=fun gh ls=>(nP (cx:=cx) (fun q=>(⟨[(0,.l (.d true 2 (encSpan a0))),(1,.l (.s (.int .i64 a1))),(5,.l (.s (.int .i64 y1))),(35,.l (.s (.bool q)))],[],36,gh,ls⟩:St))) y6) ?_ ?_
   ·replace h:=g6;clear g6
    replace h:=ltE h;obtain⟨v7,e7,h⟩:=h
    cases v7 with
    |true =>
     replace h:=iteT rfl h
     replace h:=ltE h;obtain⟨v8,e8,h⟩:=h
     cases v8 with
     |true =>
      replace h:=iteT rfl h
      replace h:=bnE h;obtain⟨v9,e9,h⟩:=h
      replace h:=ltE h;obtain⟨v10,e10,h⟩:=h
      cases v10 with
      |true =>
       replace h:=iteT rfl h
       replace h:=ltE h;obtain⟨v11,e11,h⟩:=h
       apply AW.last
       ·simp[← e7,← e8,Aa e9,← e10,← e11]
        intros;rfl
       obtain rfl:=oi h
       refine nP_i ?_
       refine Weak.mixN [] hn0 (by decide) ?_ ?_ rfl
       all_goals first|(simp[Ab,Ac,pickOb];done)|rfl
      |false =>
       replace h:=iteF rfl h
       apply AW.last
       ·simp[← e7,← e8,Aa e9,← e10]
        intros;rfl
       obtain rfl:=oi h
       refine nP_i ?_
       refine Weak.mixN [] hn0 (by decide) ?_ ?_ rfl
       all_goals first|(simp[Ab,Ac,pickOb];done)|rfl
     |false =>
      replace h:=iteF rfl h
      apply AW.last
      ·simp[← e7,← e8]
       intros;rfl
      obtain rfl:=oi h
      refine nP_i ?_
      refine Weak.mixN [] hn0 (by decide) ?_ ?_ rfl
      all_goals first|(simp[Ab,Ac,pickOb];done)|rfl
    |false =>
     replace h:=iteF rfl h
     apply AW.last
     ·simp[← e7]
      intros;rfl
     obtain rfl:=oi h
     refine nP_i ?_
     refine Weak.mixN [] hn0 (by decide) ?_ ?_ rfl
     all_goals first|(simp[Ab,Ac,pickOb];done)|rfl
   ·rintro e s hp
    obtain⟨rfl,hw⟩:=hp
    refine⟨_,hw,?_⟩
    try simp only[nm]
    replace h:=ltE h;obtain⟨v12,e12,h⟩:=h
    rw[← e12]
    cases v12 with
    |true =>
     replace h:=iteT rfl h
     refine AW.cond_true (by simp) ?_
     apply AW.step
     ·simp
      intros;rfl
     obtain rfl:=oi h
     refine AW.ret ?_
     try simp only[nm]
     refine rP_i ?_
     refine Left.plain hnb (by simp[Try.f21,resV,resC,comp];rfl) rfl rfl ?_
     simp
    |false =>
     replace h:=iteF rfl h
     refine AW.cond_false (by simp) ?_
     refine AW.skip ?_
     try simp only[nm]
     replace h:=ltE h;obtain⟨v13,e13,h⟩:=h
     apply AW.last
     ·simp[← e13]
      intros;rfl
     obtain rfl:=oi h
     refine nP_i ?_
     refine Weak.mixN [] hn0 (by decide) ?_ ?_ rfl
     all_goals first|(simp[Ab,Ac,pickOb];done)|rfl
  |false =>
   replace h:=iteF rfl h
   refine AW.cond_false (by simp) ?_
   refine AW.exit ?_
   try simp only[nm]
   obtain rfl:=oi h
   try simp only[sp_l,sp_r]
   refine xP_i ?_
   refine Weak.mixN [] hn0 (by decide) ?_ ?_ rfl
   all_goals first|(simp[Ab,Ac,pickOb];done)|rfl
 ·rintro e s hp
  rcases y2 with y14|y15
  ·replace h:=smL h
   obtain⟨rfl,hw⟩:=hp
   refine⟨_,hw,?_⟩
   try simp only[nm]
   apply AW.step
   ·simp
    intros;rfl
   obtain rfl:=oi h
   refine AW.ret ?_
   refine Left.plain hnb (by simp[Try.f21,resV,resC,comp];rfl) rfl rfl ?_
   simp
  ·replace h:=smR h
   obtain⟨rfl,hl⟩:=hp
   refine⟨_,Weak.refl _,?_⟩
   obtain rfl:=oi h
   exact hl
theorem HG:Enters Try.prog 21:=enters Try.func21 (by kernel_rfl) rfl
def El (n:Nat) (a0:Int) (a1:List Span) (a2:List Span):Option (List Span) :=
bn (Eb n a1 a2) fun v1 =>
bn (iter n (fun (y2:Int×List Span) =>
lt (addI .i64 y2.1 1) fun v5 =>
lt (lenI v1) fun v6 =>
lt (ltI v5 v6) fun v7 =>
ite' v7 (bn (bn (nth v1 y2.1) fun v9 =>
bn (EC n a1 v9) fun v10 =>
bn (CK n a2 v9) fun v11 =>
bn (ite' v10 (some ((true,true))) (some ((false,v11)))) fun (y12:Bool×Bool) =>
bn (lt (eqI a0 1) fun v14 =>
ite' v14 (lt (y12.1) fun v15 =>
ite' v15 (lt (notB v11) fun v16 =>
some (v16)) (some (false))) (lt (eqI a0 2) fun v17 =>
ite' v17 (lt (y12.1) fun v18 =>
ite' v18 (some (v11)) (some (false))) (some (y12.2)))) fun (y13:Bool) =>
lt (notB y13) fun v19 =>
ite' v19 (some (y2.2)) (bn (lt (lenI y2.2) fun v21 =>
lt (gtI v21 0) fun v22 =>
ite' v22 (lt (subI .i64 v21 1) fun v23 =>
bn (nth y2.2 v23) fun v24 =>
bn (nth v1 y2.1) fun v26 =>
lt (subI .i64 v26 1) fun v27 =>
lt (eqI v24.to v27) fun v28 =>
some (v28)) (some (false))) fun (y20:Bool) =>
lt (y20) fun v29 =>
ite' v29 (lt (lenI y2.2) fun v30 =>
lt (subI .i64 v30 1) fun v31 =>
lt (addI .i64 y2.1 1) fun v32 =>
bn (nth v1 v32) fun v33 =>
lt (subI .i64 v33 1) fun v34 =>
bn (nth y2.2 v31) fun v35 =>
lt (y2.2.set v31.toNat (⟨v35.frm,v34⟩:Span)) fun v37 =>
some (v37)) (bn (nth v1 y2.1) fun v40 =>
lt (addI .i64 y2.1 1) fun v41 =>
bn (nth v1 v41) fun v42 =>
lt (subI .i64 v42 1) fun v43 =>
chk (room (y2.2.length+1) 16) <|
lt (y2.2++[(⟨v40,v43⟩:Span)]) fun v45 =>
some (v45)))) fun (y8:List Span) =>
lt (addI .i64 y2.1 1) fun v46 =>
some (.inl (v46,y8))) (some (.inr y2.2))) (0,[])) fun (y3:List Span) =>
chk (room y3.length 1) <|
some y3
def DX5t1:List DI:=[⟨[0],[],[(8,none)],false⟩,⟨[0],[0],[(71,some 0)],false⟩,⟨[0],[0,1],[(72,some 1)],false⟩,⟨[0],[0,1,2],[(73,some 2)],false⟩,⟨[0],[0,1,2,3],[(8,none),(74,some 3)],false⟩,⟨[0],[0,1,2,3],[(8,none),(74,some 3)],false⟩,⟨[0],[0,1,2,3,5],[(74,some 3),(76,some 5)],false⟩,⟨[0],[0,1,2,3,5,6],[(74,some 3),(77,some 6)],false⟩,⟨[0],[0,1,2,3,4,5,6,7],[(74,some 3),(75,some 4),(78,some 7)],false⟩,⟨[0],[0,1,2,3,4,5,6,7,8],[(74,some 3),(79,some 8)],false⟩,⟨[0],[0,1,2,3,4,5,6,7,8,9],[(74,some 3),(80,some 9)],false⟩,⟨[0],[0,1,2,3],[(7,none),(74,some 3)],false⟩,⟨[0],[0,1,2,3],[(9,none),(74,some 3)],false⟩,⟨[0],[0,1,2,3,11,12],[(74,some 3),(82,some 11),(83,some 12)],false⟩,⟨[0],[0,1,2,3,11,12,13],[(74,some 3),(84,some 13)],false⟩,⟨[0],[0,1,2,3,11,12,13,14],[(74,some 3),(85,some 14)],false⟩,⟨[],[0,1,2,3,4,5,6,7,8,9,10,11,12,13,14,15],[],false⟩,⟨[],[0,1,2,3,4,5,6,7,8,9,10,11,12,13,14,15,16],[],false⟩,⟨[],[0,1,2,3,4,5,6,7,8,9,10,11,12,13,14,15,16,17],[],false⟩]
theorem HH {n:Nat} {a0:Int} {a1:List Span} {a2:List Span} {r:List Span} (h:El n a0 a1 a2=some r):Sound Try.prog 22 [.l (.s (.int .i64 a0)),.l (.d true 2 (encSpan a1)),.l (.d false 2 (encSpan a2))] [] (.l (.d false 2 (encSpan r))) []:=by
 unfold El at h
 refine Sound.of_aw (fn:=Try.f22) (c:=_) Try.func22 rfl (by simp[Try.f22]) fun cx hG hnb=>?_
 rw[show Try.f22.ntmps=102 from rfl]
 have hn0:cx.nb=0:=hnb
 simp only[As,initTm,List.map_cons,List.map_nil]
 apply AW.step
 ·simp
  intros;rfl
 replace h:=bnE h;obtain⟨v1,e1,h⟩:=h
 apply AW.step
 ·simp
  intros
  refine Ah Gz (G5 e1) rfl ⟨.d _ _ _,.same rfl,trivial⟩ ?_
  try simp
  intros;rfl
 apply AW.step
 ·simp
  intros;rfl
 refine AW.seq ?_
 apply AW.step
 ·simp
  intros;rfl
 refine AW.block ?_
 replace h:=bnE h;obtain⟨y3,g3,h⟩:=h
 refine AW.iterP g3 (mk:=fun gh ls q=>(⟨[(0,.l (.s (.int .i64 a0))),(1,.l (.d true 2 (encSpan a1))),(2,.l (.d false 2 (encSpan a2))),(7,.l (.d false 1 (encI v1))),(8,.l (.r 0 2 0 q.2.length)),(9,.l (.s (.int .i64 q.1)))],[some ⟨43,2,true,none,lvs (encSpan q.2)⟩],102,gh,ls⟩:St)) (N:=fun gh ls=>(xP 0 (cx:=cx) (fun q=>(⟨[(8,.l (.r 0 2 0 q.length))],[some ⟨43,2,true,none,lvs (encSpan q)⟩],102,gh,ls⟩:St)))) ?_ noX ?_ ?_
 ·refine W.nilRow 8 43 2 0 (by simp) rfl rfl ?_
  refine Weak.mixN [some 0] hn0 (by decide) ?_ ?_ rfl
  all_goals first|(simp[Ab,Ac,pickOb];done)|rfl
 ·clear h;intro y2 y4 h
  refine AW.seq ?_
  replace h:=ltE h;obtain⟨v5,e5,h⟩:=h
  replace h:=ltE h;obtain⟨v6,e6,h⟩:=h
  replace h:=ltE h;obtain⟨v7,e7,h⟩:=h
  apply AW.step
  ·simp[← e5,Ak e6,← e7]
   intros;rfl
  cases v7 with
  |true =>
   replace h:=iteT rfl h
   refine AW.cond_true (by simp) ?_
   refine AW.skip ?_
   try simp only[nm]
   replace h:=bnE h;obtain⟨y8,g8,h⟩:=h
   refine AW.flow (p:=fun gh ls=>(nP (cx:=cx) (fun q=>(⟨[(0,.l (.s (.int .i64 a0))),(1,.l (.d true 2 (encSpan a1))),(2,.l (.d false 2 (encSpan a2))),(7,.l (.d false 1 (encI v1))),(8,.l (.r 0 2 0 q.length)),(9,.l (.s (.int .i64 y2.1)))],[some ⟨43,2,true,none,lvs (encSpan q)⟩],102,gh,ls⟩:St))) y8) ?_ ?_
   ·replace h:=g8;clear g8
    refine AW.block ?_
    replace h:=bnE h;obtain⟨v9,e9,h⟩:=h
    replace h:=bnE h;obtain⟨v10,e10,h⟩:=h
    replace h:=bnE h;obtain⟨v11,e11,h⟩:=h
    apply AW.drawnP (V:=[_,_,_,_,_,_,_,_,_,_,_]) mixed [⟨[0],[],[(1,none)],false⟩,⟨[0],[],[(7,none)],false⟩,⟨[0],[],[(9,none)],false⟩,⟨[0],[1,2],[(24,some 1),(25,some 2)],false⟩,⟨[0],[1,2,3],[(26,some 3)],false⟩,⟨[0],[0,1,2,3,4],[(23,some 0),(27,some 4)],false⟩,⟨[0],[],[(2,none)],false⟩,⟨[0],[],[(7,none)],false⟩,⟨[0],[],[(9,none)],false⟩,⟨[0],[7,8],[(30,some 7),(31,some 8)],false⟩,⟨[0],[7,8,9],[(32,some 9)],false⟩,⟨[],[0,1,2,3,4,5,6,7,8,9,10],[],false⟩,⟨[],[0,1,2,3,4,5,6,7,8,9,10,11],[],false⟩,⟨[],[0,1,2,3,4,5,6,7,8,9,10,11,12],[],false⟩] 11 (by kernel_rfl) (by kernel_rfl)
    ·refine⟨?_,?_,?_,?_,?_,?_,?_,?_,?_,?_,?_,trivial⟩
     iterate 5 (· intro tm hr;simp[AllL,rdV] at hr;simp[hr,Aa e9];intros;first|exact KD.mk|exact KD.mkN)
     ·intro tm hr
      simp[AllL,rdV] at hr
      simp[hr,Aa e9]
      intros
      refine Ah HG (HY e10) rfl ⟨.d _ _ _,.same rfl,trivial⟩ ?_
      try simp[Aa e9]
      intros;first|exact KD.mk|exact KD.mkN
     iterate 5 (· intro tm hr;simp[AllL,rdV] at hr;simp[hr,Aa e9];intros;first|exact KD.mk|exact KD.mkN)
    ·rfl
    ·simp[tmD,putD,Aa e9];rfl
    ·simp[Aa e9]
     intros
     refine Ah EF (E3 e11) rfl ⟨.same rfl,.same rfl,trivial⟩ ?_
     try simp[Aa e9]
     intros;rfl
    replace h:=bnE h;obtain⟨y12,g12,h⟩:=h
    refine AW.flow (p:=fun gh ls=>(nP (cx:=cx) (fun q=>(⟨[(0,.l (.s (.int .i64 a0))),(1,.l (.d true 2 (encSpan a1))),(2,.l (.d false 2 (encSpan a2))),(7,.l (.d false 1 (encI v1))),(8,.l (.r 0 2 0 y2.2.length)),(9,.l (.s (.int .i64 y2.1))),(10,.l (.s (.bool q.1))),(11,.l (.s (.bool v11))),(12,.l (.s (.bool q.2)))],[some ⟨43,2,true,none,lvs (encSpan y2.2)⟩],102,gh,ls⟩:St))) y12) ?_ ?_
    ·replace h:=g12;clear g12
     cases v10 with
     |true =>
      replace h:=iteT rfl h
      apply AW.last
      ·simp
       intros;rfl
      obtain rfl:=oi h
      refine nP_i ?_
      refine Weak.mixN [some 0] hn0 (by decide) ?_ ?_ rfl
      all_goals first|(simp[Ab,Ac,pickOb];done)|rfl
     |false =>
      replace h:=iteF rfl h
      apply AW.last
      ·simp
       intros;rfl
      obtain rfl:=oi h
      refine nP_i ?_
      refine Weak.mixN [some 0] hn0 (by decide) ?_ ?_ rfl
      all_goals first|(simp[Ab,Ac,pickOb];done)|rfl
    ·rintro e s hp
     obtain⟨rfl,hw⟩:=hp
     refine⟨_,hw,?_⟩
     try simp only[nm]
     replace h:=bnE h;obtain⟨y13,g13,h⟩:=h
     refine AW.flow (p:=fun gh ls=>(nP (cx:=cx) (fun q=>(⟨[(0,.l (.s (.int .i64 a0))),(1,.l (.d true 2 (encSpan a1))),(2,.l (.d false 2 (encSpan a2))),(7,.l (.d false 1 (encI v1))),(8,.l (.r 0 2 0 y2.2.length)),(9,.l (.s (.int .i64 y2.1))),(12,.l (.s (.bool q)))],[some ⟨43,2,true,none,lvs (encSpan y2.2)⟩],102,gh,ls⟩:St))) y13) ?_ ?_
     ·replace h:=g13;clear g13
      apply AW.step
      ·simp
       intros;rfl
      refine AW.block ?_
      replace h:=ltE h;obtain⟨v14,e14,h⟩:=h
      apply AW.step
      ·simp[← e14]
       intros;rfl
      cases v14 with
      |true =>
       replace h:=iteT rfl h
       refine AW.cond_true (by simp) ?_
       replace h:=ltE h;obtain⟨v15,e15,h⟩:=h
       cases v15 with
       |true =>
        replace h:=iteT rfl h
        replace h:=ltE h;obtain⟨v16,e16,h⟩:=h
        apply AW.last
        ·simp[← e15,← e16]
         intros;rfl
        obtain rfl:=oi h
        refine nP_i ?_
        refine Weak.mixN [some 0] hn0 (by decide) ?_ ?_ rfl
        all_goals first|(simp[Ab,Ac,pickOb];done)|rfl
       |false =>
        replace h:=iteF rfl h
        apply AW.last
        ·simp[← e15]
         intros;rfl
        obtain rfl:=oi h
        refine nP_i ?_
        refine Weak.mixN [some 0] hn0 (by decide) ?_ ?_ rfl
        all_goals first|(simp[Ab,Ac,pickOb];done)|rfl
      |false =>
       replace h:=iteF rfl h
       refine AW.cond_false (by simp) ?_
       replace h:=ltE h;obtain⟨v17,e17,h⟩:=h
       apply AW.step
       ·simp[← e17]
        intros;rfl
       cases v17 with
       |true =>
        replace h:=iteT rfl h
        refine AW.cond_true (by simp) ?_
        replace h:=ltE h;obtain⟨v18,e18,h⟩:=h
        cases v18 with
        |true =>
         replace h:=iteT rfl h
         apply AW.last
         ·simp[← e18]
          intros;rfl
         obtain rfl:=oi h
         refine nP_i ?_
         refine Weak.mixN [some 0] hn0 (by decide) ?_ ?_ rfl
         all_goals first|(simp[Ab,Ac,pickOb];done)|rfl
        |false =>
         replace h:=iteF rfl h
         apply AW.last
         ·simp[← e18]
          intros;rfl
         obtain rfl:=oi h
         refine nP_i ?_
         refine Weak.mixN [some 0] hn0 (by decide) ?_ ?_ rfl
         all_goals first|(simp[Ab,Ac,pickOb];done)|rfl
       |false =>
        replace h:=iteF rfl h
        refine AW.cond_false (by simp) ?_
        refine AW.skip ?_
        try simp only[nm]
        obtain rfl:=oi h
        refine nP_i ?_
        refine Weak.mixN [some 0] hn0 (by decide) ?_ ?_ rfl
        all_goals first|(simp[Ab,Ac,pickOb];done)|rfl
     ·rintro e s hp
      obtain⟨rfl,hw⟩:=hp
      refine⟨_,hw,?_⟩
      try simp only[nm]
      refine AW.block ?_
      replace h:=ltE h;obtain⟨v19,e19,h⟩:=h
      apply AW.step
      ·simp[← e19]
       intros;rfl
      cases v19 with
      |true =>
       replace h:=iteT rfl h
       refine AW.cond_true (by simp) ?_
       refine AW.exit ?_
       try simp only[nm]
       obtain rfl:=oi h
       refine nP_i ?_
       refine Weak.mixN [some 0] hn0 (by decide) ?_ ?_ rfl
       all_goals first|(simp[Ab,Ac,pickOb];done)|rfl
      |false =>
       replace h:=iteF rfl h
       refine AW.cond_false (by simp) ?_
       replace h:=bnE h;obtain⟨y20,g20,h⟩:=h
       refine AW.flow (p:=fun gh ls=>(nP (cx:=cx) (fun q=>(⟨[(0,.l (.s (.int .i64 a0))),(1,.l (.d true 2 (encSpan a1))),(2,.l (.d false 2 (encSpan a2))),(7,.l (.d false 1 (encI v1))),(8,.l (.r 0 2 0 y2.2.length)),(9,.l (.s (.int .i64 y2.1))),(70,.l (.s (.bool q)))],[some ⟨43,2,true,none,lvs (encSpan y2.2)⟩],102,gh,ls⟩:St))) y20) ?_ ?_
       ·replace h:=g20;clear g20
        replace h:=ltE h;obtain⟨v21,e21,h⟩:=h
        replace h:=ltE h;obtain⟨v22,e22,h⟩:=h
        cases v22 with
        |true =>
         replace h:=iteT rfl h
         replace h:=ltE h;obtain⟨v23,e23,h⟩:=h
         replace h:=bnE h;obtain⟨v24,e24,h⟩:=h
         have f25:=Ai e24
         try simp[Ak e21,← e22,← e23,Aa e24] at f25
         replace h:=bnE h;obtain⟨v26,e26,h⟩:=h
         replace h:=ltE h;obtain⟨v27,e27,h⟩:=h
         replace h:=ltE h;obtain⟨v28,e28,h⟩:=h
         apply AW.drawnR (V:=[_,_,_,_,_,_,_,_,_,_,_,_,_,_,_,_]) mixed DX5t1 16 (by kernel_rfl) (by kernel_rfl)
         ·refine⟨?_,?_,?_,?_,?_,?_,?_,?_,?_,?_,?_,?_,?_,?_,?_,?_,trivial⟩
          iterate 16 (· intro tm hr;simp[AllL,rdV] at hr;simp[hr,Ak e21,← e22,← e23,Aa e24,f25,AR (Aa e24).2 (j:=1) (by decide),lvs1,Aa e26,← e27,← e28];intros;first|exact KD.mk|exact KD.mkN)
         ·rfl
         ·simp[tmD,putD,Ak e21,← e22,← e23,Aa e24,f25,AR (Aa e24).2 (j:=1) (by decide),lvs1,Aa e26,← e27,← e28];rfl
         ·simp[Ak e21,← e22,← e23,Aa e24,f25,AR (Aa e24).2 (j:=1) (by decide),lvs1,Aa e26,← e27,← e28]
          intros;rfl
         obtain rfl:=oi h
         refine nP_i ?_
         refine Weak.mixN [some 0] hn0 (by decide) ?_ ?_ rfl
         all_goals first|(simp[Ab,Ac,pickOb];done)|rfl
        |false =>
         replace h:=iteF rfl h
         apply AW.drawnR (V:=[_,_,_,_,_,_,_,_,_,_,_,_,_,_,_,_]) mixed DX5t1 16 (by kernel_rfl) (by kernel_rfl)
         ·refine⟨?_,?_,?_,?_,?_,?_,?_,?_,?_,?_,?_,?_,?_,?_,?_,?_,trivial⟩
          iterate 16 (· intro tm hr;simp[AllL,rdV] at hr;simp[hr,Ak e21,← e22];intros;first|exact KD.mk|exact KD.mkN)
         ·rfl
         ·simp[tmD,putD,Ak e21,← e22];rfl
         ·simp[Ak e21,← e22]
          intros;rfl
         obtain rfl:=oi h
         refine nP_i ?_
         refine Weak.mixN [some 0] hn0 (by decide) ?_ ?_ rfl
         all_goals first|(simp[Ab,Ac,pickOb];done)|rfl
       ·rintro e s hp
        obtain⟨rfl,hw⟩:=hp
        refine⟨_,hw,?_⟩
        try simp only[nm]
        replace h:=ltE h;obtain⟨v29,e29,h⟩:=h
        rw[← e29]
        cases v29 with
        |true =>
         replace h:=iteT rfl h
         refine AW.cond_true (by simp) ?_
         replace h:=ltE h;obtain⟨v30,e30,h⟩:=h
         replace h:=ltE h;obtain⟨v31,e31,h⟩:=h
         replace h:=ltE h;obtain⟨v32,e32,h⟩:=h
         replace h:=bnE h;obtain⟨v33,e33,h⟩:=h
         replace h:=ltE h;obtain⟨v34,e34,h⟩:=h
         replace h:=bnE h;obtain⟨v35,e35,h⟩:=h
         have f36:=Ai e35
         try simp[Ak e30,← e31,← e32,Aa e33,← e34,Aa e35] at f36
         replace h:=ltE h;obtain⟨v37,e37,h⟩:=h
         have f38:=Ed (Aa e35).2 e37 (j:=1) (cs:=[.s (.int .i64 v34)]) (by simp) rfl
         try simp at f38
         have f39:=f36
         try simp only[Af e37] at f39
         apply AW.last
         ·simp[Ak e30,← e31,← e32,Aa e33,← e34,Aa e35,f36,B0 (Aa e35).2 (j:=1) (m:=1) (by decide),f38,f39]
          intros;rfl
         obtain rfl:=oi h
         refine nP_i ?_
         refine Weak.mixN [some 0] hn0 (by decide) ?_ ?_ rfl
         all_goals first|(simp[Ab,Ac,pickOb,Af e37];done)|rfl
        |false =>
         replace h:=iteF rfl h
         refine AW.cond_false (by simp) ?_
         replace h:=bnE h;obtain⟨v40,e40,h⟩:=h
         replace h:=ltE h;obtain⟨v41,e41,h⟩:=h
         replace h:=bnE h;obtain⟨v42,e42,h⟩:=h
         replace h:=ltE h;obtain⟨v43,e43,h⟩:=h
         replace h:=chkE h;obtain⟨e44,h⟩:=h
         replace h:=ltE h;obtain⟨v45,e45,h⟩:=h
         apply AW.drawnF (V:=[_,_,_,_,_,_,_,_,_,_,_,_,_]) (M:=[[some ⟨43,2,true,none,lvs (encSpan y2.2)⟩],[some ⟨43,2,true,none,lvs (encSpan y2.2)⟩,some ⟨43,2,true,none,[.s (.int .i64 v40),.s (.int .i64 v43)]⟩]]) mixed [⟨[0,1],[],[(8,none)],false⟩,⟨[0],[],[(7,none)],false⟩,⟨[0],[],[(9,none)],false⟩,⟨[0],[1,2],[(54,some 1),(55,some 2)],false⟩,⟨[0],[1,2,3],[(56,some 3)],false⟩,⟨[0],[],[(7,none)],false⟩,⟨[0],[],[(9,none)],false⟩,⟨[0],[6],[(59,some 6)],false⟩,⟨[0],[5,6,7],[(58,some 5),(60,some 7)],false⟩,⟨[0],[5,6,7,8],[(61,some 8)],false⟩,⟨[0],[5,6,7,8,9],[(62,some 9)],false⟩,⟨[0],[1,2,3,4,5,6,7,8,9,10],[(57,some 4),(63,some 10)],false⟩,⟨[0],[1,2,3,4,5,6,7,8,9,10,11],[(64,some 11)],true⟩,⟨[],[0,1,2,3,4,5,6,7,8,9,10,11,12],[],false⟩,⟨[],[0,1,2,3,4,5,6,7,8,9,10,11,12,13],[],false⟩] 13 1 (by kernel_rfl) (by kernel_rfl)
         ·rfl
         ·refine⟨⟨?_,?_⟩,?_,?_,?_,?_,?_,?_,?_,?_,?_,?_,?_,?_,trivial⟩
          iterate 13 (· intro tm hr;simp[AllL,rdV] at hr;simp[hr,Aa e40,← e41,Aa e42,← e43,← Ao,← e45,Ar e45];intros;first|exact KD.mk|exact KD.mkN)
          ·intro tm hr
           simp[AllL,rdV] at hr
           simp[hr,Aa e40,← e41,Aa e42,← e43,← Ao,← e45,Ar e45]
           intros
           refine Bu ?_
           try simp[Aa e40,← e41,Aa e42,← e43,← Ao,← e45,Ar e45]
           intros;first|exact KD.mk|exact KD.mkN
         ·rfl
         ·simp[tmD,putD,Aa e40,← e41,Aa e42,← e43,← Ao,← e45,Ar e45];rfl
         ·simp[Aa e40,← e41,Aa e42,← e43,← Ao,← e45,Ar e45]
          intros
          refine Bt (acc:=encSpan y2.2) (ys:=encSpan [(⟨v40,v43⟩:Span)]) (cap:=none) (k:=1) Dl Dk (by simp) (by simp[encSpan,lvs]) (Bh _) (by simp) (by simp) (by first|(simp;done)|simpa using (Aw e44).1) ?_
          try simp[Aa e40,← e41,Aa e42,← e43,← Ao,← e45,Ar e45]
          intros;rfl
         obtain rfl:=oi h
         refine nP_i ?_
         refine Weak.mixN [some 2] hn0 (by decide) ?_ ?_ rfl
         all_goals first|(simp[Ab,Ac,pickOb,Bk];done)|rfl
   ·rintro e s hp
    obtain⟨rfl,hw⟩:=hp
    refine⟨_,hw,?_⟩
    try simp only[nm]
    replace h:=ltE h;obtain⟨v46,e46,h⟩:=h
    apply AW.last
    ·simp[← e46]
     intros;rfl
    obtain rfl:=oi h
    refine nP_i ?_
    refine Weak.mixN [some 0] hn0 (by decide) ?_ ?_ rfl
    all_goals first|(simp[Ab,Ac,pickOb];done)|rfl
  |false =>
   replace h:=iteF rfl h
   refine AW.cond_false (by simp) ?_
   refine AW.exit ?_
   try simp only[nm]
   obtain rfl:=oi h
   refine xP_i ?_
   refine Weak.mixN [some 0] hn0 (by decide) ?_ ?_ rfl
   all_goals first|(simp[Ab,Ac,pickOb];done)|rfl
 ·rintro e s hp
  obtain⟨rfl,hw⟩:=hp
  refine⟨_,hw,?_⟩
  try simp only[nm]
  apply AW.step
  ·simp
   intros;rfl
  replace h:=chkE h;obtain⟨e47,h⟩:=h
  refine AW.frzRow 0 (ty:=43) (cap:=none) (sz:=2) (es:=encSpan y3) (by simp) (by omega) (Bh _) (by first|exact (Aw e47).2|simpa using (Aw e47).2|simp) (by simp[Tm.frz,AV.frz,LV.frz];rfl) (by simp[Ob.frz,LV.frz];rfl) rfl ?_
  obtain rfl:=oi h
  refine AW.ret ?_
  refine Left.plain hnb (by simp[Try.f22,resV,resC,comp];rfl) rfl rfl ?_
  simp
theorem G6:Enters Try.prog 22:=enters Try.func22 (by kernel_rfl) rfl
def D0 (n:Nat) (a0:List Span):Option (List Span) :=
bn (El n 0 a0 []) fun v1 =>
some v1
theorem HZ {n:Nat} {a0:List Span} {r:List Span} (h:D0 n a0=some r):Sound Try.prog 28 [.l (.d true 2 (encSpan a0))] [] (.l (.d false 2 (encSpan r))) []:=by
 unfold D0 at h
 refine Sound.of_aw (fn:=Try.f28) (c:=_) Try.func28 rfl (by simp[Try.f28]) fun cx hG hnb=>?_
 rw[show Try.f28.ntmps=5 from rfl]
 have hn0:cx.nb=0:=hnb
 simp only[As,initTm,List.map_cons,List.map_nil]
 apply AW.step
 ·simp
  intros;rfl
 replace h:=bnE h;obtain⟨v1,e1,h⟩:=h
 apply AW.step
 ·simp
  intros
  refine Ah G6 (HH e1) rfl ⟨.same rfl,.d _ _ _,.nil _ _,trivial⟩ ?_
  try simp
  intros;rfl
 obtain rfl:=oi h
 refine AW.ret ?_
 refine Left.plain hnb (by simp[Try.f28,resV,resC,comp];rfl) rfl rfl ?_
 simp
theorem HI:Enters Try.prog 28:=enters Try.func28 (by kernel_rfl) rfl
def B5 (n:Nat) (a0:List Span) (a1:List Span):Option Bool :=
lt (lenI a0) fun v1 =>
lt (lenI a1) fun v2 =>
lt (neI v1 v2) fun v3 =>
ite' v3 (some false) (bn (iter n (fun (y4:Int) =>
lt (lenI a0) fun v7 =>
lt (ltI y4 v7) fun v8 =>
ite' v8 (bn (nth a0 y4) fun v9 =>
bn (nth a1 y4) fun v10 =>
lt (notB (andB (eqI v9.frm v10.frm) (andB (eqI v9.to v10.to) true))) fun v11 =>
ite' v11 (some (.inr (.inr false))) (lt (addI .i64 y4 1) fun v12 =>
some (.inl v12))) (some (.inr (.inl ())))) 0) fun (y5:Unit ⊕ Bool) =>
sm y5 (fun y13=>some true) (fun y14=>some y14))
theorem Ec {n:Nat} {a0:List Span} {a1:List Span} {r:Bool} (h:B5 n a0 a1=some r):Sound Try.prog 27 [.l (.d false 2 (encSpan a0)),.l (.d false 2 (encSpan a1))] [] (.l (.s (.bool r))) []:=by
 unfold B5 at h
 refine Sound.of_aw (fn:=Try.f27) (c:=_) Try.func27 rfl (by simp[Try.f27]) fun cx hG hnb=>?_
 rw[show Try.f27.ntmps=26 from rfl]
 have hn0:cx.nb=0:=hnb
 simp only[As,initTm,List.map_cons,List.map_nil]
 apply AW.step
 ·simp
  intros;rfl
 refine AW.seq ?_
 replace h:=ltE h;obtain⟨v1,e1,h⟩:=h
 replace h:=ltE h;obtain⟨v2,e2,h⟩:=h
 replace h:=ltE h;obtain⟨v3,e3,h⟩:=h
 apply AW.step
 ·simp[Ak e1,Ak e2,← e3]
  intros;rfl
 cases v3 with
 |true =>
  replace h:=iteT rfl h
  refine AW.cond_true (by simp) ?_
  apply AW.step
  ·simp
   intros;rfl
  obtain rfl:=oi h
  refine AW.ret ?_
  refine Left.plain hnb (by simp[Try.f27,resV,resC,comp];rfl) rfl rfl ?_
  simp
 |false =>
  replace h:=iteF rfl h
  refine AW.cond_false (by simp) ?_
  refine AW.skip ?_
  try simp only[nm]
  refine AW.seq ?_
  apply AW.step
  ·simp
   intros;rfl
  refine AW.block ?_
  replace h:=bnE h;obtain⟨y5,g5,h⟩:=h
  refine AW.iterP g5 (mk:=fun gh ls q=>(⟨[(0,.l (.d false 2 (encSpan a0))),(1,.l (.d false 2 (encSpan a1))),(5,.l (.s (.int .i64 q)))],[],26,gh,ls⟩:St)) (N:=fun gh ls=>(sp (xP 0 (cx:=cx) (fun _=>(⟨[],[],26,gh,ls⟩:St))) (rP (cx:=cx) (P:=Try.prog) Try.f27 (fun q=>.l (.s (.bool q))) (fun q=>[])))) ?_ (noS noX noR) ?_ ?_
  ·refine Weak.mixN [] hn0 (by decide) ?_ ?_ rfl
   all_goals first|(simp[Ab,Ac,pickOb];done)|rfl
  ·clear h;intro y4 y6 h
   refine AW.seq ?_
   replace h:=ltE h;obtain⟨v7,e7,h⟩:=h
   replace h:=ltE h;obtain⟨v8,e8,h⟩:=h
   apply AW.step
   ·simp[Ak e7,← e8]
    intros;rfl
   cases v8 with
   |true =>
    replace h:=iteT rfl h
    refine AW.cond_true (by simp) ?_
    refine AW.skip ?_
    try simp only[nm]
    refine AW.seq ?_
    refine AW.block ?_
    replace h:=bnE h;obtain⟨v9,e9,h⟩:=h
    replace h:=bnE h;obtain⟨v10,e10,h⟩:=h
    replace h:=ltE h;obtain⟨v11,e11,h⟩:=h
    apply AW.drawnP (V:=[_,_,_,_,_,_,_,_]) mixed [⟨[0],[],[(0,none)],false⟩,⟨[0],[],[(5,none)],false⟩,⟨[0],[0,1],[(17,some 0),(18,some 1)],false⟩,⟨[0],[0,1,2],[(19,some 2)],false⟩,⟨[0],[],[(1,none)],false⟩,⟨[0],[],[(5,none)],false⟩,⟨[0],[4,5],[(21,some 4),(22,some 5)],false⟩,⟨[0],[4,5,6],[(23,some 6)],false⟩,⟨[],[0,1,2,3,4,5,6,7],[],false⟩] 8 (by kernel_rfl) (by kernel_rfl)
    ·refine⟨?_,?_,?_,?_,?_,?_,?_,?_,trivial⟩
     iterate 8 (· intro tm hr;simp[AllL,rdV] at hr;simp[hr,Aa e9,Aa e10,← e11];intros;first|exact KD.mk|exact KD.mkN)
    ·rfl
    ·simp[tmD,putD,Aa e9,Aa e10,← e11];rfl
    ·simp[Aa e9,Aa e10,← e11]
     intros;rfl
    cases v11 with
    |true =>
     replace h:=iteT rfl h
     refine AW.cond_true (by simp) ?_
     apply AW.step
     ·simp
      intros;rfl
     obtain rfl:=oi h
     refine AW.ret ?_
     try simp only[nm]
     refine rP_i ?_
     refine Left.plain hnb (by simp[Try.f27,resV,resC,comp];rfl) rfl rfl ?_
     simp
    |false =>
     replace h:=iteF rfl h
     refine AW.cond_false (by simp) ?_
     refine AW.skip ?_
     try simp only[nm]
     replace h:=ltE h;obtain⟨v12,e12,h⟩:=h
     apply AW.last
     ·simp[← e12]
      intros;rfl
     obtain rfl:=oi h
     refine nP_i ?_
     refine Weak.mixN [] hn0 (by decide) ?_ ?_ rfl
     all_goals first|(simp[Ab,Ac,pickOb];done)|rfl
   |false =>
    replace h:=iteF rfl h
    refine AW.cond_false (by simp) ?_
    refine AW.exit ?_
    try simp only[nm]
    obtain rfl:=oi h
    try simp only[sp_l,sp_r]
    refine xP_i ?_
    refine Weak.mixN [] hn0 (by decide) ?_ ?_ rfl
    all_goals first|(simp[Ab,Ac,pickOb];done)|rfl
  ·rintro e s hp
   rcases y5 with y13|y14
   ·replace h:=smL h
    obtain⟨rfl,hw⟩:=hp
    refine⟨_,hw,?_⟩
    try simp only[nm]
    apply AW.step
    ·simp
     intros;rfl
    obtain rfl:=oi h
    refine AW.ret ?_
    refine Left.plain hnb (by simp[Try.f27,resV,resC,comp];rfl) rfl rfl ?_
    simp
   ·replace h:=smR h
    obtain⟨rfl,hl⟩:=hp
    refine⟨_,Weak.refl _,?_⟩
    obtain rfl:=oi h
    exact hl
theorem D1:Enters Try.prog 27:=enters Try.func27 (by kernel_rfl) rfl
end Go.Proofs.Ythjenkmbbnjcnaa
namespace Go.Proofs.Ythjenkmbbnjcnaa
open Go Go.RowKit
def cntP (p:Int→Prop) [DecidablePred p]:Nat:=(List.range 16384).countP fun k:Nat=>decide (p (k:Int))
def sumS (l:List Span):Int:=(l.map fun x=>x.to - x.frm+1).sum
theorem normRT:@D0=@CP:=rfl
theorem JF {l:List Span} (hl:l.length≤10000):Rn (CP big l) fun r=>SaysS r (inS l)∧r.length≤2+2*l.length:=If hl
theorem IG (l:List Span) (hl:l.length≤1000000):B5 big l l=some true:=by
 refine Rn.eqv ?_
 unfold B5
 refine Rn.lt (Rn.lt (Rn.lt (Rn.ite (fun h=>?_) fun _=>?_)))
 ·simp[neI] at h
 refine Rn.bn (P:=fun y=>y=.inl ()) (Rn.iter _ (fun j a=>a=(j:Int)) l.length (by unfold big;omega) rfl fun j a hj hI=>?_) fun y hy=>?_
 ·subst hI
  refine Rn.lt (Rn.lt (Rn.ite (fun hd=>?_) fun hd=>Rn.some rfl))
  have hjl:j<l.length:=by
   have:=of_decide_eq_true (p:=((j:Int)<(l.length:Int))) hd
   omega
  refine Rn.bnE (AC hjl) (Rn.bnE (AC hjl) (Rn.lt (Rn.ite (fun h=>?_) fun _=>Rn.lt (Rn.some ⟨hjl,?_⟩))))
  ·simp[notB,andB,eqI] at h
  ·rw[Am (by omega) (by omega)]
   rfl
 ·subst hy
  exact Rn.some rfl
theorem KL:∀ {a b:Span},sP a=sP b→a=b:=by
 intro a b h
 obtain⟨a1,a2⟩:=a
 obtain⟨b1,b2⟩:=b
 simp[sP] at h
 obtain⟨h1,h2⟩:=h
 subst h1 h2
 rfl
theorem SaysS.ext {l m:List Span} {p q:Int→Prop} [DecidablePred p] [DecidablePred q] (hl:SaysS l p) (hm:SaysS m q) (h:∀ s,p s↔q s):l=m :=
 Gv (f:=sP) KL (FinP.ext hl hm fun s=>by unfold fS;simp only[h s])
theorem FC (x:Int):∀ l:List Int,x∈compL l↔x∈l
 |[]=>by simp[compL]
 |[a]=>by simp[compL]
 |a::b::t=>by
  have ih:=FC x (b::t)
  simp only[compL]
  split
  ·rename_i h
   subst h
   rw[ih]
   simp
  ·rw[List.mem_cons,ih,List.mem_cons (a:=x) (b:=a)]
theorem FW:∀ {l:List Int},l.Pairwise (·≤·)→(compL l).Pairwise (·<·)
 |[],_=>List.Pairwise.nil
 |[a],_=>List.pairwise_singleton _ _
 |a::b::t,h=>by
  have ih:=FW (l:=b::t) (List.pairwise_cons.1 h).2
  simp only[compL]
  split
  ·exact ih
  ·rename_i hne
   refine List.pairwise_cons.2 ⟨fun x hx=>?_,ih⟩
   have hab:=(List.pairwise_cons.1 h).1 b (by simp)
   rcases List.mem_cons.1 ((FC x (b::t)).1 hx) with rfl|hx2
   ·omega
   ·have:=(List.pairwise_cons.1 (List.pairwise_cons.1 h).2).1 x hx2
    omega
theorem JG {l:List Int} (hl:l.length≤sortMost):Rn (B3 big l) fun r=>r.Perm l∧r.Pairwise (·≤·):=by
 unfold B3
 refine Rn.lt (Rn.lt ?_)
 obtain⟨v,ev,v0,v1,-⟩:=Jc (n:=l.length) (by unfold sortMost at hl;omega)
 refine Rn.bnE ev (Rn.bn (P:=fun r=>RP 0 l.length l r∧SortedI r 0 l.length) ?_ fun r hr=>Rn.chk (by simp[lenB,hr.1.len]) (Rn.some ⟨hr.1.perm,?_⟩))
 ·exact Ke big (l:=l) (a:=0) (b:=l.length) (lim:=v) (by unfold big;unfold sortMost at hl;omega) (Nat.zero_le _) (Nat.le_refl _) hl (fun h=>by omega) v0 v1
 ·have h2:=hr.2
  rw[← hr.1.len] at h2
  refine List.pairwise_iff_getElem.2 fun i j hi hj hij=>?_
  have:=h2 i j (Nat.zero_le _) hij hj
  unfold ksI keyI at this
  rw[List.getD_eq_getElem?_getD,List.getD_eq_getElem?_getD,List.getElem?_eq_getElem hi,List.getElem?_eq_getElem hj] at this
  exact this
theorem IH {l:List Claim} (hl:l.length≤sortMost):Rn (BU big l) fun r=>r.Pairwise (·<·)∧(∀ x,x∈r↔∃ c∈l,c.node=x)∧r.length≤1000:=by
 have hl':=hl
 unfold sortMost at hl'
 unfold BU
 refine Rn.lt (Rn.bn (P:=fun r=>r=l.map (·.node)) (Rn.iter _ (fun j y=>y=((j:Int),(l.take j).map (·.node))) l.length (by unfold big;omega) rfl fun j y hj hI=>?_) fun r hr=>?_)
 ·subst hI
  refine Rn.lt (Rn.ite (fun hd=>?_) fun hd=>?_)
  ·have hjl:j<l.length:=by
    have:=of_decide_eq_true (p:=((j:Int)<(l.length:Int))) hd
    omega
   refine Rn.bnE (AC hjl) (Rn.chk (by simp[room];omega) (Rn.lt (Rn.lt (Rn.some ⟨hjl,?_⟩))))
   rw[Am (by first|omega|(simp only;omega)) (by first|omega|(simp only;omega)),← List.take_append_getElem hjl,List.map_append]
   rfl
  ·have hjl:j=l.length:=by
    have:=of_decide_eq_false (p:=((j:Int)<(l.length:Int))) hd
    omega
   subst hjl
   exact Rn.some (by show _=_;rw[List.take_length])
 ·subst hr
  refine Rn.bn (JG (by simpa using hl)) fun v hv=>?_
  obtain⟨h1,h2⟩:=hv
  have hvl:v.length=l.length:=by rw[h1.length_eq,List.length_map]
  have hc:(compL v).length≤v.length:=by
   have:∀ l:List Int,(compL l).length≤l.length:=by
    intro l
    induction l using compL.induct with
    |case1=>simp[compL]
    |case2 a=>simp[compL]
    |case3 b t ih=>simp only[compL,if_true];simp at ih ⊢;omega
    |case4 a b t hne ih=>simp only[compL,if_neg hne];simp at ih ⊢;omega
   exact this v
  refine Rn.chk (by simp[lenB,h1.length_eq]) (Rn.chk (by simp[cmB];omega) (Rn.lt (Rn.chk (by simp[room];omega) (Rn.some ⟨FW h2,fun x=>?_,by omega⟩))))
  rw[FC,h1.mem_iff,List.mem_map]
def clmP (f:Int→Option (Int×Int)) (s:Int):Prop:=(f s).isSome=true
instance (f:Int→Option (Int×Int)) (s:Int):Decidable (clmP f s):=by unfold clmP;infer_instance
def ownU (f:Int→Option (Int×Int)) (n:Nat) (s:Int):Prop:=∃ i:Nat,i<n∧ownP f (i:Int) s
instance (f:Int→Option (Int×Int)) (n:Nat) (s:Int):Decidable (ownU f n s) :=
 decidable_of_iff (∃ i∈List.range n,ownP f (i:Int) s) ⟨fun ⟨i,h1,h2⟩=>⟨i,List.mem_range.1 h1,h2⟩,fun ⟨i,h1,h2⟩=>⟨i,List.mem_range.2 h1,h2⟩⟩
end Go.Proofs.Ythjenkmbbnjcnaa
namespace Go.Proofs.Ythjenkmbbnjcnaa
open Go Go.RowKit
def BV (n:Nat) (a0:List Claim):Option Bool :=
lt (lenI a0) fun v1 =>
bn (iter n (fun (y2:Int) =>
lt (ltI y2 v1) fun v5 =>
ite' v5 (bn (nth a0 y2) fun v6 =>
bn (lt (ltI v6.frm 0) fun v8 =>
ite' v8 (some (true)) (lt (ltI v6.to v6.frm) fun v9 =>
ite' v9 (some (true)) (lt (gtI v6.to 16383) fun v10 =>
ite' v10 (some (true)) (lt (ltI v6.node 0) fun v11 =>
ite' v11 (some (true)) (lt (geI v6.node 8) fun v12 =>
ite' v12 (some (true)) (lt (ltI v6.epoch 1) fun v13 =>
ite' v13 (some (true)) (lt (gtI v6.epoch 9007199254740992) fun v14 =>
some (v14)))))))) fun (y7:Bool) =>
lt (y7) fun v15 =>
ite' v15 (some (.inr (.inr false))) (bn (lt (gtI y2 0) fun v17 =>
ite' v17 (lt (subI .i64 y2 1) fun v18 =>
bn (nth a0 v18) fun v19 =>
lt (leI v6.frm v19.to) fun v20 =>
ite' v20 (some (true)) (bn (BG n v19 v6) fun v21 =>
some (v21))) (some (false))) fun (y16:Bool) =>
lt (y16) fun v22 =>
ite' v22 (some (.inr (.inr false))) (lt (addI .i64 y2 1) fun v23 =>
some (.inl v23)))) (some (.inr (.inl ())))) 0) fun (y3:Unit ⊕ Bool) =>
sm y3 (fun y24=>some true) (fun y25=>some y25)
def DX6t1:List DI:=[⟨[0],[],[(3,none)],false⟩,⟨[0],[0],[(47,some 0)],false⟩,⟨[0],[0,1],[(48,some 1)],false⟩,⟨[0],[0,1,2],[(4,none),(49,some 2)],false⟩,⟨[0],[0,1,2,3],[(49,some 2),(50,some 3)],false⟩,⟨[0],[0,1,2],[(0,none),(49,some 2)],false⟩,⟨[0],[0,1,2],[(3,none),(49,some 2)],false⟩,⟨[0],[0,1,2,6],[(49,some 2),(53,some 6)],false⟩,⟨[0],[0,1,2,5,6,7],[(49,some 2),(52,some 5),(54,some 7)],false⟩,⟨[0],[0,1,2,5,6,7,8],[(49,some 2),(55,some 8)],false⟩,⟨[0],[0,1,2,5,6,7,8,9],[(49,some 2),(56,some 9)],false⟩,⟨[0],[0,1,2,3,4,5,6,7,8,9,10],[(49,some 2),(51,some 4),(57,some 10)],false⟩,⟨[0],[0,1,2,3,4,5,6,7,8,9,10,11],[(49,some 2),(58,some 11)],false⟩,⟨[0],[0,1,2,3,4,5,6,7,8,9,10,11,12],[(0,none),(59,some 12)],false⟩,⟨[0],[0,1,2,3,4,5,6,7,8,9,10,11,12],[(3,none),(59,some 12)],false⟩,⟨[0],[0,1,2,3,4,5,6,7,8,9,10,11,12,14],[(59,some 12),(61,some 14)],false⟩,⟨[0],[0,1,2,3,4,5,6,7,8,9,10,11,12,13,14,15],[(59,some 12),(60,some 13),(62,some 15)],false⟩,⟨[0],[0,1,2,3,4,5,6,7,8,9,10,11,12,13,14,15,16],[(59,some 12),(63,some 16)],false⟩,⟨[0],[0,1,2,3,4,5,6,7,8,9,10,11,12],[(4,none),(59,some 12)],false⟩,⟨[],[0,1,2,3,4,5,6,7,8,9,10,11,12,13,14,15,16,17,18],[],false⟩,⟨[],[0,1,2,3,4,5,6,7,8,9,10,11,12,13,14,15,16,17,18,19],[],false⟩,⟨[],[0,1,2,3,4,5,6,7,8,9,10,11,12,13,14,15,16,17,18,19,20],[],false⟩]
theorem Bm {n:Nat} {a0:List Claim} {r:Bool} (h:BV n a0=some r):Sound Try.prog 29 [.l (.d false 4 (encClaim a0))] [] (.l (.s (.bool r))) []:=by
 unfold BV at h
 refine Sound.of_aw (fn:=Try.f29) (c:=_) Try.func29 rfl (by simp[Try.f29]) fun cx hG hnb=>?_
 rw[show Try.f29.ntmps=70 from rfl]
 have hn0:cx.nb=0:=hnb
 simp only[As,initTm,List.map_cons,List.map_nil]
 apply AW.step
 ·simp
  intros;rfl
 refine AW.seq ?_
 replace h:=ltE h;obtain⟨v1,e1,h⟩:=h
 apply AW.step
 ·simp[Ak e1]
  intros;rfl
 refine AW.block ?_
 replace h:=bnE h;obtain⟨y3,g3,h⟩:=h
 refine AW.iterP g3 (mk:=fun gh ls q=>(⟨[(0,.l (.d false 4 (encClaim a0))),(5,.l (.d false 4 (encClaim a0))),(6,.l (.s (.int .i64 v1))),(7,.l (.s (.int .i64 q)))],[],70,gh,ls⟩:St)) (N:=fun gh ls=>(sp (xP 0 (cx:=cx) (fun _=>(⟨[],[],70,gh,ls⟩:St))) (rP (cx:=cx) (P:=Try.prog) Try.f29 (fun q=>.l (.s (.bool q))) (fun q=>[])))) ?_ (noS noX noR) ?_ ?_
 ·refine Weak.mixN [] hn0 (by decide) ?_ ?_ rfl
  all_goals first|(simp[Ab,Ac,pickOb];done)|rfl
 ·clear h;intro y2 y4 h
  replace h:=ltE h;obtain⟨v5,e5,h⟩:=h
  apply AW.step
  ·simp[← e5]
   intros;rfl
  refine AW.seq ?_
  cases v5 with
  |true =>
   replace h:=iteT rfl h
   refine AW.cond_true (by simp) ?_
   refine AW.skip ?_
   try simp only[nm]
   refine AW.seq ?_
   refine AW.block ?_
   replace h:=bnE h;obtain⟨v6,e6,h⟩:=h
   apply AW.step
   ·simp[Aa e6]
    intros;rfl
   refine AW.seq ?_
   replace h:=bnE h;obtain⟨y7,g7,h⟩:=h
   refine AW.flow (p:=fun gh ls=>(nP (cx:=cx) (fun q=>(⟨[(0,.l (.d false 4 (encClaim a0))),(3,.l (.s (.int .i64 y2))),(4,.l (.p 0 0)),(5,.l (.d false 4 (encClaim a0))),(6,.l (.s (.int .i64 v1))),(7,.l (.s (.int .i64 y2))),(46,.l (.s (.bool q)))],[some ⟨41,4,false,none,[.s (.int .i64 v6.frm),.s (.int .i64 v6.to),.s (.int .i64 v6.node),.s (.int .i64 v6.epoch)]⟩],70,gh,ls⟩:St))) y7) ?_ ?_
   ·replace h:=g7;clear g7
    replace h:=ltE h;obtain⟨v8,e8,h⟩:=h
    cases v8 with
    |true =>
     replace h:=iteT rfl h
     apply AW.last
     ·simp[← e8]
      intros;rfl
     obtain rfl:=oi h
     refine nP_i ?_
     refine Weak.mixN [some 0] hn0 (by decide) ?_ ?_ rfl
     all_goals first|(simp[Ab,Ac,pickOb];done)|rfl
    |false =>
     replace h:=iteF rfl h
     replace h:=ltE h;obtain⟨v9,e9,h⟩:=h
     cases v9 with
     |true =>
      replace h:=iteT rfl h
      apply AW.last
      ·simp[← e8,← e9]
       intros;rfl
      obtain rfl:=oi h
      refine nP_i ?_
      refine Weak.mixN [some 0] hn0 (by decide) ?_ ?_ rfl
      all_goals first|(simp[Ab,Ac,pickOb];done)|rfl
     |false =>
      replace h:=iteF rfl h
      replace h:=ltE h;obtain⟨v10,e10,h⟩:=h
      cases v10 with
      |true =>
       replace h:=iteT rfl h
       apply AW.last
       ·simp[← e8,← e9,← e10]
        intros;rfl
       obtain rfl:=oi h
       refine nP_i ?_
       refine Weak.mixN [some 0] hn0 (by decide) ?_ ?_ rfl
       all_goals first|(simp[Ab,Ac,pickOb];done)|rfl
      |false =>
       replace h:=iteF rfl h
       replace h:=ltE h;obtain⟨v11,e11,h⟩:=h
       cases v11 with
       |true =>
        replace h:=iteT rfl h
        apply AW.last
        ·simp[← e8,← e9,← e10,← e11]
         intros;rfl
        obtain rfl:=oi h
        refine nP_i ?_
        refine Weak.mixN [some 0] hn0 (by decide) ?_ ?_ rfl
        all_goals first|(simp[Ab,Ac,pickOb];done)|rfl
       |false =>
        replace h:=iteF rfl h
        replace h:=ltE h;obtain⟨v12,e12,h⟩:=h
        cases v12 with
        |true =>
         replace h:=iteT rfl h
         apply AW.last
         ·simp[← e8,← e9,← e10,← e11,← e12]
          intros;rfl
         obtain rfl:=oi h
         refine nP_i ?_
         refine Weak.mixN [some 0] hn0 (by decide) ?_ ?_ rfl
         all_goals first|(simp[Ab,Ac,pickOb];done)|rfl
        |false =>
         replace h:=iteF rfl h
         replace h:=ltE h;obtain⟨v13,e13,h⟩:=h
         cases v13 with
         |true =>
          replace h:=iteT rfl h
          apply AW.last
          ·simp[← e8,← e9,← e10,← e11,← e12,← e13]
           intros;rfl
          obtain rfl:=oi h
          refine nP_i ?_
          refine Weak.mixN [some 0] hn0 (by decide) ?_ ?_ rfl
          all_goals first|(simp[Ab,Ac,pickOb];done)|rfl
         |false =>
          replace h:=iteF rfl h
          replace h:=ltE h;obtain⟨v14,e14,h⟩:=h
          apply AW.last
          ·simp[← e8,← e9,← e10,← e11,← e12,← e13,← e14]
           intros;rfl
          obtain rfl:=oi h
          refine nP_i ?_
          refine Weak.mixN [some 0] hn0 (by decide) ?_ ?_ rfl
          all_goals first|(simp[Ab,Ac,pickOb];done)|rfl
   ·rintro e s hp
    obtain⟨rfl,hw⟩:=hp
    refine⟨_,hw,?_⟩
    try simp only[nm]
    replace h:=ltE h;obtain⟨v15,e15,h⟩:=h
    rw[← e15]
    cases v15 with
    |true =>
     replace h:=iteT rfl h
     refine AW.cond_true (by simp) ?_
     apply AW.step
     ·simp
      intros;rfl
     obtain rfl:=oi h
     refine AW.ret ?_
     try simp only[nm]
     refine rP_i ?_
     refine Left.plain hnb (by simp[Try.f29,resV,resC,comp];rfl) rfl rfl ?_
     simp
    |false =>
     replace h:=iteF rfl h
     refine AW.cond_false (by simp) ?_
     refine AW.skip ?_
     try simp only[nm]
     replace h:=bnE h;obtain⟨y16,g16,h⟩:=h
     refine AW.flow (p:=fun gh ls=>(nP (cx:=cx) (fun q=>(⟨[(0,.l (.d false 4 (encClaim a0))),(5,.l (.d false 4 (encClaim a0))),(6,.l (.s (.int .i64 v1))),(7,.l (.s (.int .i64 y2))),(68,.l (.s (.bool q)))],[],70,gh,ls⟩:St))) y16) ?_ ?_
     ·replace h:=g16;clear g16
      replace h:=ltE h;obtain⟨v17,e17,h⟩:=h
      cases v17 with
      |true =>
       replace h:=iteT rfl h
       replace h:=ltE h;obtain⟨v18,e18,h⟩:=h
       replace h:=bnE h;obtain⟨v19,e19,h⟩:=h
       replace h:=ltE h;obtain⟨v20,e20,h⟩:=h
       cases v20 with
       |true =>
        replace h:=iteT rfl h
        apply AW.drawnR (V:=[_,_,_,_,_,_,_,_,_,_,_,_,_,_,_,_,_,_,_]) mixed DX6t1 19 (by kernel_rfl) (by kernel_rfl)
        ·refine⟨?_,?_,?_,?_,?_,?_,?_,?_,?_,?_,?_,?_,?_,?_,?_,?_,?_,?_,?_,trivial⟩
         iterate 19 (· intro tm hr;simp[AllL,rdV] at hr;simp[hr,← e17,← e18,Aa e19,← e20];intros;first|exact KD.mk|exact KD.mkN)
        ·rfl
        ·simp[tmD,putD,← e17,← e18,Aa e19,← e20];rfl
        ·simp[← e17,← e18,Aa e19,← e20]
         intros;rfl
        obtain rfl:=oi h
        refine nP_i ?_
        refine Weak.mixN [] hn0 (by decide) ?_ ?_ rfl
        all_goals first|(simp[Ab,Ac,pickOb];done)|rfl
       |false =>
        replace h:=iteF rfl h
        replace h:=bnE h;obtain⟨v21,e21,h⟩:=h
        apply AW.drawnR (V:=[_,_,_,_,_,_,_,_,_,_,_,_,_,_,_,_,_,_,_]) mixed DX6t1 19 (by kernel_rfl) (by kernel_rfl)
        ·refine⟨?_,?_,?_,?_,?_,?_,?_,?_,?_,?_,?_,?_,?_,?_,?_,?_,?_,?_,?_,trivial⟩
         iterate 19 (· intro tm hr;simp[AllL,rdV] at hr;simp[hr,← e17,← e18,Aa e19,← e20];intros;first|exact KD.mk|exact KD.mkN)
        ·rfl
        ·simp[tmD,putD,← e17,← e18,Aa e19,← e20];rfl
        ·simp[← e17,← e18,Aa e19,← e20]
         intros
         refine Ah EK (EW e21) rfl ⟨.same rfl,.same rfl,trivial⟩ ?_
         try simp[← e17,← e18,Aa e19,← e20]
         intros;rfl
        obtain rfl:=oi h
        refine nP_i ?_
        refine Weak.mixN [] hn0 (by decide) ?_ ?_ rfl
        all_goals first|(simp[Ab,Ac,pickOb];done)|rfl
      |false =>
       replace h:=iteF rfl h
       apply AW.drawnR (V:=[_,_,_,_,_,_,_,_,_,_,_,_,_,_,_,_,_,_,_]) mixed DX6t1 19 (by kernel_rfl) (by kernel_rfl)
       ·refine⟨?_,?_,?_,?_,?_,?_,?_,?_,?_,?_,?_,?_,?_,?_,?_,?_,?_,?_,?_,trivial⟩
        iterate 19 (· intro tm hr;simp[AllL,rdV] at hr;simp[hr,← e17];intros;first|exact KD.mk|exact KD.mkN)
       ·rfl
       ·simp[tmD,putD,← e17];rfl
       ·simp[← e17]
        intros;rfl
       obtain rfl:=oi h
       refine nP_i ?_
       refine Weak.mixN [] hn0 (by decide) ?_ ?_ rfl
       all_goals first|(simp[Ab,Ac,pickOb];done)|rfl
     ·rintro e s hp
      obtain⟨rfl,hw⟩:=hp
      refine⟨_,hw,?_⟩
      try simp only[nm]
      replace h:=ltE h;obtain⟨v22,e22,h⟩:=h
      rw[← e22]
      cases v22 with
      |true =>
       replace h:=iteT rfl h
       refine AW.cond_true (by simp) ?_
       apply AW.step
       ·simp
        intros;rfl
       obtain rfl:=oi h
       refine AW.ret ?_
       try simp only[nm]
       refine rP_i ?_
       refine Left.plain hnb (by simp[Try.f29,resV,resC,comp];rfl) rfl rfl ?_
       simp
      |false =>
       replace h:=iteF rfl h
       refine AW.cond_false (by simp) ?_
       refine AW.skip ?_
       try simp only[nm]
       replace h:=ltE h;obtain⟨v23,e23,h⟩:=h
       apply AW.last
       ·simp[← e23]
        intros;rfl
       obtain rfl:=oi h
       refine nP_i ?_
       refine Weak.mixN [] hn0 (by decide) ?_ ?_ rfl
       all_goals first|(simp[Ab,Ac,pickOb];done)|rfl
  |false =>
   replace h:=iteF rfl h
   refine AW.cond_false (by simp) ?_
   refine AW.exit ?_
   try simp only[nm]
   obtain rfl:=oi h
   try simp only[sp_l,sp_r]
   refine xP_i ?_
   refine Weak.mixN [] hn0 (by decide) ?_ ?_ rfl
   all_goals first|(simp[Ab,Ac,pickOb];done)|rfl
 ·rintro e s hp
  rcases y3 with y24|y25
  ·replace h:=smL h
   obtain⟨rfl,hw⟩:=hp
   refine⟨_,hw,?_⟩
   try simp only[nm]
   apply AW.step
   ·simp
    intros;rfl
   obtain rfl:=oi h
   refine AW.ret ?_
   refine Left.plain hnb (by simp[Try.f29,resV,resC,comp];rfl) rfl rfl ?_
   simp
  ·replace h:=smR h
   obtain⟨rfl,hl⟩:=hp
   refine⟨_,Weak.refl _,?_⟩
   obtain rfl:=oi h
   exact hl
theorem Bb:Enters Try.prog 29:=enters Try.func29 (by kernel_rfl) rfl
def CG (n:Nat) (a0:List Claim) (a1:Int):Option (List Span) :=
bn (iter n (fun (y1:Int×List Span) =>
lt (lenI a0) fun v4 =>
lt (ltI y1.1 v4) fun v5 =>
ite' v5 (bn (bn (nth a0 y1.1) fun v7 =>
lt (eqI v7.node a1) fun v8 =>
ite' v8 (chk (room (y1.2.length+1) 16) <|
lt (y1.2++[(⟨v7.frm,v7.to⟩:Span)]) fun v10 =>
some (v10)) (some (y1.2))) fun (y6:List Span) =>
lt (addI .i64 y1.1 1) fun v11 =>
some (.inl (v11,y6))) (some (.inr y1.2))) (0,[])) fun (y2:List Span) =>
chk (room y2.length 1) <|
bn (D0 n y2) fun v13 =>
some v13
theorem EQ {n:Nat} {a0:List Claim} {a1:Int} {r:List Span} (h:CG n a0 a1=some r):Sound Try.prog 33 [.l (.d false 4 (encClaim a0)),.l (.s (.int .i64 a1))] [] (.l (.d false 2 (encSpan r))) []:=by
 unfold CG at h
 refine Sound.of_aw (fn:=Try.f33) (c:=_) Try.func33 rfl (by simp[Try.f33]) fun cx hG hnb=>?_
 rw[show Try.f33.ntmps=36 from rfl]
 have hn0:cx.nb=0:=hnb
 simp only[As,initTm,List.map_cons,List.map_nil]
 apply AW.step
 ·simp
  intros;rfl
 apply AW.step
 ·simp
  intros;rfl
 refine AW.seq ?_
 apply AW.step
 ·simp
  intros;rfl
 refine AW.block ?_
 replace h:=bnE h;obtain⟨y2,g2,h⟩:=h
 refine AW.iterP g2 (mk:=fun gh ls q=>(⟨[(0,.l (.d false 4 (encClaim a0))),(1,.l (.s (.int .i64 a1))),(5,.l (.r 0 2 0 q.2.length)),(6,.l (.s (.int .i64 q.1)))],[some ⟨43,2,true,none,lvs (encSpan q.2)⟩],36,gh,ls⟩:St)) (N:=fun gh ls=>(xP 0 (cx:=cx) (fun q=>(⟨[(5,.l (.r 0 2 0 q.length))],[some ⟨43,2,true,none,lvs (encSpan q)⟩],36,gh,ls⟩:St)))) ?_ noX ?_ ?_
 ·refine W.nilRow 5 43 2 0 (by simp) rfl rfl ?_
  refine Weak.mixN [some 0] hn0 (by decide) ?_ ?_ rfl
  all_goals first|(simp[Ab,Ac,pickOb];done)|rfl
 ·clear h;intro y1 y3 h
  refine AW.seq ?_
  replace h:=ltE h;obtain⟨v4,e4,h⟩:=h
  replace h:=ltE h;obtain⟨v5,e5,h⟩:=h
  apply AW.step
  ·simp[Ak e4,← e5]
   intros;rfl
  cases v5 with
  |true =>
   replace h:=iteT rfl h
   refine AW.cond_true (by simp) ?_
   refine AW.skip ?_
   try simp only[nm]
   replace h:=bnE h;obtain⟨y6,g6,h⟩:=h
   refine AW.flow (p:=fun gh ls=>(nP (cx:=cx) (fun q=>(⟨[(0,.l (.d false 4 (encClaim a0))),(1,.l (.s (.int .i64 a1))),(5,.l (.r 0 2 0 q.length)),(6,.l (.s (.int .i64 y1.1)))],[some ⟨43,2,true,none,lvs (encSpan q)⟩],36,gh,ls⟩:St))) y6) ?_ ?_
   ·replace h:=g6;clear g6
    refine AW.block ?_
    replace h:=bnE h;obtain⟨v7,e7,h⟩:=h
    replace h:=ltE h;obtain⟨v8,e8,h⟩:=h
    apply AW.step
    ·simp[Aa e7,← e8]
     intros;rfl
    cases v8 with
    |true =>
     replace h:=iteT rfl h
     refine AW.cond_true (by simp) ?_
     replace h:=chkE h;obtain⟨e9,h⟩:=h
     replace h:=ltE h;obtain⟨v10,e10,h⟩:=h
     apply AW.drawnF (V:=[_,_,_,_,_,_,_,_,_,_,_,_,_]) (M:=[[some ⟨43,2,true,none,lvs (encSpan y1.2)⟩],[some ⟨43,2,true,none,lvs (encSpan y1.2)⟩,some ⟨43,2,true,none,[.s (.int .i64 v7.frm),.s (.int .i64 v7.to)]⟩]]) mixed [⟨[0,1],[],[(5,none)],false⟩,⟨[0],[],[(0,none)],false⟩,⟨[0],[],[(6,none)],false⟩,⟨[0],[1,2],[(21,some 1),(22,some 2)],false⟩,⟨[0],[1,2,3],[(23,some 3)],false⟩,⟨[0],[1,2,3,4],[(24,some 4)],false⟩,⟨[0],[],[(0,none)],false⟩,⟨[0],[],[(6,none)],false⟩,⟨[0],[6,7],[(26,some 6),(27,some 7)],false⟩,⟨[0],[6,7,8],[(28,some 8)],false⟩,⟨[0],[6,7,8,9],[(29,some 9)],false⟩,⟨[0],[1,2,3,4,5,6,7,8,9,10],[(25,some 5),(30,some 10)],false⟩,⟨[0],[1,2,3,4,5,6,7,8,9,10,11],[(31,some 11)],true⟩,⟨[],[0,1,2,3,4,5,6,7,8,9,10,11,12],[],false⟩,⟨[],[0,1,2,3,4,5,6,7,8,9,10,11,12,13],[],false⟩] 13 1 (by kernel_rfl) (by kernel_rfl)
     ·rfl
     ·refine⟨⟨?_,?_⟩,?_,?_,?_,?_,?_,?_,?_,?_,?_,?_,?_,?_,trivial⟩
      iterate 13 (· intro tm hr;simp[AllL,rdV] at hr;simp[hr,Aa e7,← Ao,← e10,Ar e10];intros;first|exact KD.mk|exact KD.mkN)
      ·intro tm hr
       simp[AllL,rdV] at hr
       simp[hr,Aa e7,← Ao,← e10,Ar e10]
       intros
       refine Bu ?_
       try simp[Aa e7,← Ao,← e10,Ar e10]
       intros;first|exact KD.mk|exact KD.mkN
     ·rfl
     ·simp[tmD,putD,Aa e7,← Ao,← e10,Ar e10];rfl
     ·simp[Aa e7,← Ao,← e10,Ar e10]
      intros
      refine Bt (acc:=encSpan y1.2) (ys:=encSpan [(⟨v7.frm,v7.to⟩:Span)]) (cap:=none) (k:=1) Dl Dk (by simp) (by simp[encSpan,lvs]) (Bh _) (by simp) (by simp) (by first|(simp;done)|simpa using (Aw e9).1) ?_
      try simp[Aa e7,← Ao,← e10,Ar e10]
      intros;rfl
     obtain rfl:=oi h
     refine nP_i ?_
     refine Weak.mixN [some 2] hn0 (by decide) ?_ ?_ rfl
     all_goals first|(simp[Ab,Ac,pickOb,Bk];done)|rfl
    |false =>
     replace h:=iteF rfl h
     refine AW.cond_false (by simp) ?_
     refine AW.skip ?_
     try simp only[nm]
     obtain rfl:=oi h
     refine nP_i ?_
     refine Weak.mixN [some 0] hn0 (by decide) ?_ ?_ rfl
     all_goals first|(simp[Ab,Ac,pickOb];done)|rfl
   ·rintro e s hp
    obtain⟨rfl,hw⟩:=hp
    refine⟨_,hw,?_⟩
    try simp only[nm]
    replace h:=ltE h;obtain⟨v11,e11,h⟩:=h
    apply AW.last
    ·simp[← e11]
     intros;rfl
    obtain rfl:=oi h
    refine nP_i ?_
    refine Weak.mixN [some 0] hn0 (by decide) ?_ ?_ rfl
    all_goals first|(simp[Ab,Ac,pickOb];done)|rfl
  |false =>
   replace h:=iteF rfl h
   refine AW.cond_false (by simp) ?_
   refine AW.exit ?_
   try simp only[nm]
   obtain rfl:=oi h
   refine xP_i ?_
   refine Weak.mixN [some 0] hn0 (by decide) ?_ ?_ rfl
   all_goals first|(simp[Ab,Ac,pickOb];done)|rfl
 ·rintro e s hp
  obtain⟨rfl,hw⟩:=hp
  refine⟨_,hw,?_⟩
  try simp only[nm]
  replace h:=chkE h;obtain⟨e12,h⟩:=h
  replace h:=bnE h;obtain⟨v13,e13,h⟩:=h
  apply AW.step
  ·simp
   intros
   refine Ah HI (HZ e13) rfl ⟨.rowd (by simp) rfl (by omega) (Bh _) (by simp) (by first|exact (Aw e12).2|simpa using (Aw e12).2|simp),trivial⟩ ?_
   try simp
   intros;rfl
  obtain rfl:=oi h
  refine AW.ret ?_
  refine Left.plain hnb (by simp[Try.f33,resV,resC,comp];rfl) rfl rfl ?_
  simp
theorem ED:Enters Try.prog 33:=enters Try.func33 (by kernel_rfl) rfl
def Cf (n:Nat) (a0:List Claim):Option (List Int) :=
bn (iter n (fun (y1:Int×List Int) =>
lt (ltI y1.1 8) fun v4 =>
ite' v4 (bn (iter n (fun (y5:Int) =>
lt (lenI a0) fun v8 =>
lt (ltI y5 v8) fun v9 =>
ite' v9 (bn (nth a0 y5) fun v10 =>
lt (eqI v10.node y1.1) fun v11 =>
ite' v11 (chk (room (y1.2.length+1) 8) <|
lt (y1.2++[y1.1]) fun v13 =>
some (.inr v13)) (lt (addI .i64 y5 1) fun v14 =>
some (.inl v14))) (some (.inr y1.2))) 0) fun (y6:List Int) =>
lt (addI .i64 y1.1 1) fun v15 =>
some (.inl (v15,y6))) (some (.inr y1.2))) (0,[])) fun (y2:List Int) =>
chk (room y2.length 1) <|
some y2
theorem Fe {n:Nat} {a0:List Claim} {r:List Int} (h:Cf n a0=some r):Sound Try.prog 35 [.l (.d false 4 (encClaim a0))] [] (.l (.d false 1 (encI r))) []:=by
 unfold Cf at h
 refine Sound.of_aw (fn:=Try.f35) (c:=_) Try.func35 rfl (by simp[Try.f35]) fun cx hG hnb=>?_
 rw[show Try.f35.ntmps=28 from rfl]
 have hn0:cx.nb=0:=hnb
 simp only[As,initTm,List.map_cons,List.map_nil]
 apply AW.step
 ·simp
  intros;rfl
 apply AW.step
 ·simp
  intros;rfl
 refine AW.seq ?_
 apply AW.step
 ·simp
  intros;rfl
 refine AW.block ?_
 replace h:=bnE h;obtain⟨y2,g2,h⟩:=h
 refine AW.iterP g2 (mk:=fun gh ls q=>(⟨[(0,.l (.d false 4 (encClaim a0))),(3,.l (.r 0 1 0 q.2.length)),(4,.l (.s (.int .i64 q.1)))],[some ⟨3,1,true,none,lvs (encI q.2)⟩],28,gh,ls⟩:St)) (N:=fun gh ls=>(xP 0 (cx:=cx) (fun q=>(⟨[(3,.l (.r 0 1 0 q.length))],[some ⟨3,1,true,none,lvs (encI q)⟩],28,gh,ls⟩:St)))) ?_ noX ?_ ?_
 ·refine W.nilRow 3 3 1 0 (by simp) rfl rfl ?_
  refine Weak.mixN [some 0] hn0 (by decide) ?_ ?_ rfl
  all_goals first|(simp[Ab,Ac,pickOb];done)|rfl
 ·clear h;intro y1 y3 h
  refine AW.seq ?_
  replace h:=ltE h;obtain⟨v4,e4,h⟩:=h
  apply AW.step
  ·simp[← e4]
   intros;rfl
  cases v4 with
  |true =>
   replace h:=iteT rfl h
   refine AW.cond_true (by simp) ?_
   refine AW.skip ?_
   try simp only[nm]
   refine AW.seq ?_
   refine AW.block ?_
   apply AW.step
   ·simp
    intros;rfl
   refine AW.block ?_
   replace h:=bnE h;obtain⟨y6,g6,h⟩:=h
   refine AW.iterP g6 (mk:=fun gh ls q=>(⟨[(0,.l (.d false 4 (encClaim a0))),(3,.l (.r 0 1 0 y1.2.length)),(4,.l (.s (.int .i64 y1.1))),(5,.l (.s (.int .i64 q)))],[some ⟨3,1,true,none,lvs (encI y1.2)⟩],28,gh,ls⟩:St)) (N:=fun gh ls=>(xP 2 (cx:=cx) (fun q=>(⟨[(0,.l (.d false 4 (encClaim a0))),(3,.l (.r 0 1 0 q.length)),(4,.l (.s (.int .i64 y1.1)))],[some ⟨3,1,true,none,lvs (encI q)⟩],28,gh,ls⟩:St)))) ?_ noX ?_ ?_
   ·refine Weak.mixN [some 0] hn0 (by decide) ?_ ?_ rfl
    all_goals first|(simp[Ab,Ac,pickOb];done)|rfl
   ·clear h;intro y5 y7 h
    refine AW.seq ?_
    replace h:=ltE h;obtain⟨v8,e8,h⟩:=h
    replace h:=ltE h;obtain⟨v9,e9,h⟩:=h
    apply AW.step
    ·simp[Ak e8,← e9]
     intros;rfl
    cases v9 with
    |true =>
     replace h:=iteT rfl h
     refine AW.cond_true (by simp) ?_
     refine AW.skip ?_
     try simp only[nm]
     refine AW.seq ?_
     refine AW.block ?_
     replace h:=bnE h;obtain⟨v10,e10,h⟩:=h
     replace h:=ltE h;obtain⟨v11,e11,h⟩:=h
     apply AW.step
     ·simp[Aa e10,← e11]
      intros;rfl
     cases v11 with
     |true =>
      replace h:=iteT rfl h
      refine AW.cond_true (by simp) ?_
      replace h:=chkE h;obtain⟨e12,h⟩:=h
      replace h:=ltE h;obtain⟨v13,e13,h⟩:=h
      apply AW.step
      ·simp[← BC,← e13,Ar e13]
       intros
       refine Bu ?_
       try simp[← BC,← e13,Ar e13]
       intros
       refine Bt (acc:=encI y1.2) (ys:=encI [y1.1]) (cap:=none) (k:=1) EU Fr (by simp) (by simp[encI,lvs]) (Cn _) (by simp) (by simp) (by first|(simp;done)|simpa using (Aw e12).1) ?_
       try simp[← BC,← e13,Ar e13]
       intros;rfl
      refine AW.exit ?_
      try simp only[nm]
      obtain rfl:=oi h
      refine xP_i ?_
      refine Weak.mixN [some 2] hn0 (by decide) ?_ ?_ rfl
      all_goals first|(simp[Ab,Ac,pickOb,GO];done)|rfl
     |false =>
      replace h:=iteF rfl h
      refine AW.cond_false (by simp) ?_
      refine AW.skip ?_
      try simp only[nm]
      replace h:=ltE h;obtain⟨v14,e14,h⟩:=h
      apply AW.last
      ·simp[← e14]
       intros;rfl
      obtain rfl:=oi h
      refine nP_i ?_
      refine Weak.mixN [some 0] hn0 (by decide) ?_ ?_ rfl
      all_goals first|(simp[Ab,Ac,pickOb];done)|rfl
    |false =>
     replace h:=iteF rfl h
     refine AW.cond_false (by simp) ?_
     refine AW.exit ?_
     try simp only[nm]
     obtain rfl:=oi h
     refine xP_i ?_
     refine Weak.mixN [some 0] hn0 (by decide) ?_ ?_ rfl
     all_goals first|(simp[Ab,Ac,pickOb];done)|rfl
   ·rintro e s hp
    obtain⟨rfl,hw⟩:=hp
    refine⟨_,hw,?_⟩
    try simp only[nm]
    replace h:=ltE h;obtain⟨v15,e15,h⟩:=h
    apply AW.last
    ·simp[← e15]
     intros;rfl
    obtain rfl:=oi h
    refine nP_i ?_
    refine Weak.mixN [some 0] hn0 (by decide) ?_ ?_ rfl
    all_goals first|(simp[Ab,Ac,pickOb];done)|rfl
  |false =>
   replace h:=iteF rfl h
   refine AW.cond_false (by simp) ?_
   refine AW.exit ?_
   try simp only[nm]
   obtain rfl:=oi h
   refine xP_i ?_
   refine Weak.mixN [some 0] hn0 (by decide) ?_ ?_ rfl
   all_goals first|(simp[Ab,Ac,pickOb];done)|rfl
 ·rintro e s hp
  obtain⟨rfl,hw⟩:=hp
  refine⟨_,hw,?_⟩
  try simp only[nm]
  apply AW.step
  ·simp
   intros;rfl
  replace h:=chkE h;obtain⟨e16,h⟩:=h
  refine AW.frzRow 0 (ty:=3) (cap:=none) (sz:=1) (es:=encI y2) (by simp) (by omega) (Cn _) (by first|exact (Aw e16).2|simpa using (Aw e16).2|simp) (by simp[Tm.frz,AV.frz,LV.frz];rfl) (by simp[Ob.frz,LV.frz];rfl) rfl ?_
  obtain rfl:=oi h
  refine AW.ret ?_
  refine Left.plain hnb (by simp[Try.f35,resV,resC,comp];rfl) rfl rfl ?_
  simp
theorem EZ:Enters Try.prog 35:=enters Try.func35 (by kernel_rfl) rfl
def Dp (n:Nat) (a0:List Int) (a1:List Int):Option Bool :=
lt (lenI a0) fun v1 =>
lt (lenI a1) fun v2 =>
lt (neI v1 v2) fun v3 =>
ite' v3 (some false) (bn (iter n (fun (y4:Int) =>
lt (lenI a0) fun v7 =>
lt (ltI y4 v7) fun v8 =>
ite' v8 (bn (nth a0 y4) fun v9 =>
bn (nth a1 y4) fun v10 =>
lt (neI v9 v10) fun v11 =>
ite' v11 (some (.inr (.inr false))) (lt (addI .i64 y4 1) fun v12 =>
some (.inl v12))) (some (.inr (.inl ())))) 0) fun (y5:Unit ⊕ Bool) =>
sm y5 (fun y13=>some true) (fun y14=>some y14))
theorem GV {n:Nat} {a0:List Int} {a1:List Int} {r:Bool} (h:Dp n a0 a1=some r):Sound Try.prog 34 [.l (.d false 1 (encI a0)),.l (.d false 1 (encI a1))] [] (.l (.s (.bool r))) []:=by
 unfold Dp at h
 refine Sound.of_aw (fn:=Try.f34) (c:=_) Try.func34 rfl (by simp[Try.f34]) fun cx hG hnb=>?_
 rw[show Try.f34.ntmps=26 from rfl]
 have hn0:cx.nb=0:=hnb
 simp only[As,initTm,List.map_cons,List.map_nil]
 apply AW.step
 ·simp
  intros;rfl
 refine AW.seq ?_
 replace h:=ltE h;obtain⟨v1,e1,h⟩:=h
 replace h:=ltE h;obtain⟨v2,e2,h⟩:=h
 replace h:=ltE h;obtain⟨v3,e3,h⟩:=h
 apply AW.step
 ·simp[Ak e1,Ak e2,← e3]
  intros;rfl
 cases v3 with
 |true =>
  replace h:=iteT rfl h
  refine AW.cond_true (by simp) ?_
  apply AW.step
  ·simp
   intros;rfl
  obtain rfl:=oi h
  refine AW.ret ?_
  refine Left.plain hnb (by simp[Try.f34,resV,resC,comp];rfl) rfl rfl ?_
  simp
 |false =>
  replace h:=iteF rfl h
  refine AW.cond_false (by simp) ?_
  refine AW.skip ?_
  try simp only[nm]
  refine AW.seq ?_
  apply AW.step
  ·simp
   intros;rfl
  refine AW.block ?_
  replace h:=bnE h;obtain⟨y5,g5,h⟩:=h
  refine AW.iterP g5 (mk:=fun gh ls q=>(⟨[(0,.l (.d false 1 (encI a0))),(1,.l (.d false 1 (encI a1))),(5,.l (.s (.int .i64 q)))],[],26,gh,ls⟩:St)) (N:=fun gh ls=>(sp (xP 0 (cx:=cx) (fun _=>(⟨[],[],26,gh,ls⟩:St))) (rP (cx:=cx) (P:=Try.prog) Try.f34 (fun q=>.l (.s (.bool q))) (fun q=>[])))) ?_ (noS noX noR) ?_ ?_
  ·refine Weak.mixN [] hn0 (by decide) ?_ ?_ rfl
   all_goals first|(simp[Ab,Ac,pickOb];done)|rfl
  ·clear h;intro y4 y6 h
   refine AW.seq ?_
   replace h:=ltE h;obtain⟨v7,e7,h⟩:=h
   replace h:=ltE h;obtain⟨v8,e8,h⟩:=h
   apply AW.step
   ·simp[Ak e7,← e8]
    intros;rfl
   cases v8 with
   |true =>
    replace h:=iteT rfl h
    refine AW.cond_true (by simp) ?_
    refine AW.skip ?_
    try simp only[nm]
    refine AW.seq ?_
    refine AW.block ?_
    replace h:=bnE h;obtain⟨v9,e9,h⟩:=h
    replace h:=bnE h;obtain⟨v10,e10,h⟩:=h
    replace h:=ltE h;obtain⟨v11,e11,h⟩:=h
    apply AW.drawnP (V:=[_,_,_,_,_,_,_,_]) mixed [⟨[0],[],[(0,none)],false⟩,⟨[0],[],[(5,none)],false⟩,⟨[0],[0,1],[(17,some 0),(18,some 1)],false⟩,⟨[0],[0,1,2],[(19,some 2)],false⟩,⟨[0],[],[(1,none)],false⟩,⟨[0],[],[(5,none)],false⟩,⟨[0],[4,5],[(21,some 4),(22,some 5)],false⟩,⟨[0],[4,5,6],[(23,some 6)],false⟩,⟨[],[0,1,2,3,4,5,6,7],[],false⟩] 8 (by kernel_rfl) (by kernel_rfl)
    ·refine⟨?_,?_,?_,?_,?_,?_,?_,?_,trivial⟩
     iterate 8 (· intro tm hr;simp[AllL,rdV] at hr;simp[hr,Aa e9,Aa e10,← e11];intros;first|exact KD.mk|exact KD.mkN)
    ·rfl
    ·simp[tmD,putD,Aa e9,Aa e10,← e11];rfl
    ·simp[Aa e9,Aa e10,← e11]
     intros;rfl
    cases v11 with
    |true =>
     replace h:=iteT rfl h
     refine AW.cond_true (by simp) ?_
     apply AW.step
     ·simp
      intros;rfl
     obtain rfl:=oi h
     refine AW.ret ?_
     try simp only[nm]
     refine rP_i ?_
     refine Left.plain hnb (by simp[Try.f34,resV,resC,comp];rfl) rfl rfl ?_
     simp
    |false =>
     replace h:=iteF rfl h
     refine AW.cond_false (by simp) ?_
     refine AW.skip ?_
     try simp only[nm]
     replace h:=ltE h;obtain⟨v12,e12,h⟩:=h
     apply AW.last
     ·simp[← e12]
      intros;rfl
     obtain rfl:=oi h
     refine nP_i ?_
     refine Weak.mixN [] hn0 (by decide) ?_ ?_ rfl
     all_goals first|(simp[Ab,Ac,pickOb];done)|rfl
   |false =>
    replace h:=iteF rfl h
    refine AW.cond_false (by simp) ?_
    refine AW.exit ?_
    try simp only[nm]
    obtain rfl:=oi h
    try simp only[sp_l,sp_r]
    refine xP_i ?_
    refine Weak.mixN [] hn0 (by decide) ?_ ?_ rfl
    all_goals first|(simp[Ab,Ac,pickOb];done)|rfl
  ·rintro e s hp
   rcases y5 with y13|y14
   ·replace h:=smL h
    obtain⟨rfl,hw⟩:=hp
    refine⟨_,hw,?_⟩
    try simp only[nm]
    apply AW.step
    ·simp
     intros;rfl
    obtain rfl:=oi h
    refine AW.ret ?_
    refine Left.plain hnb (by simp[Try.f34,resV,resC,comp];rfl) rfl rfl ?_
    simp
   ·replace h:=smR h
    obtain⟨rfl,hl⟩:=hp
    refine⟨_,Weak.refl _,?_⟩
    obtain rfl:=oi h
    exact hl
theorem Gp:Enters Try.prog 34:=enters Try.func34 (by kernel_rfl) rfl
def CB (n:Nat) (a0:List Int) (a1:List Int) (a2:List Int) (a3:Int) (a4:Int) (a5:Int):Option Bool :=
bn (lt (lenI a0) fun v2 =>
lt (gtI v2 60) fun v3 =>
ite' v3 (some (true)) (lt (lenI a1) fun v4 =>
lt (gtI v4 60) fun v5 =>
ite' v5 (some (true)) (lt (lenI a2) fun v6 =>
lt (gtI v6 30) fun v7 =>
some (v7)))) fun (y1:Bool) =>
lt (y1) fun v8 =>
ite' v8 (bn (Dj n) fun v9 =>
some v9) (bn (C2 n a0) fun v10 =>
bn (C2 n a1) fun v11 =>
bn (Dn n a2) fun v12 =>
lt (cvI .i64 a5) fun v13 =>
bn (remI .i64 v13 16384) fun v14 =>
bn (Ck n v10 v14) fun v15 =>
bn (CL n v10 v14) fun v16 =>
bn (BY n v10 v11) fun v17 =>
lt (cvI .i64 a3) fun v18 =>
bn (remI .i64 v18 8) fun v19 =>
lt (cvI .i64 a4) fun v20 =>
lt (addI .i64 1 v20) fun v21 =>
bn (BX n v10 v12 v19 v21) fun v22 =>
bn (lt (geI v16.1 0) fun v24 =>
lt (eqB v15.2.2 v24) fun v25 =>
ite' v25 (lt (maxI 0 v16.1) fun v26 =>
lt (eqI v15.1 v26) fun v27 =>
ite' v27 (lt (eqI v15.2.1 v16.2) fun v28 =>
ite' v28 (bn (C1 n v10 v11) fun v29 =>
bn (Bc n v17 v29) fun v30 =>
ite' v30 (bn (B9 n v10 v12 v19 v21) fun v31 =>
bn (Bc n v22 v31) fun v32 =>
ite' v32 (bn (BV n v10) fun v33 =>
ite' v33 (bn (BV n v17) fun v34 =>
ite' v34 (bn (BV n v22) fun v35 =>
ite' v35 (bn (remI .i64 v18 4) fun v36 =>
bn (B4 n v10 v36) fun v37 =>
bn (CG n v10 v36) fun v38 =>
bn (B5 n v37 v38) fun v39 =>
ite' v39 (bn (BU n v10) fun v40 =>
bn (Cf n v10) fun v41 =>
bn (Dp n v40 v41) fun v42 =>
ite' v42 (bn (Dj n) fun v43 =>
some (v43)) (some (false))) (some (false))) (some (false))) (some (false))) (some (false))) (some (false))) (some (false))) (some (false))) (some (false))) (some (false))) fun (y23:Bool) =>
some y23)
theorem F9 {n:Nat} {a0:List Int} {a1:List Int} {a2:List Int} {a3:Int} {a4:Int} {a5:Int} {r:Bool} (h:CB n a0 a1 a2 a3 a4 a5=some r):Sound Try.prog 8 [.l (.d false 1 (encIu16 a0)),.l (.d false 1 (encIu16 a1)),.l (.d false 1 (encIu16 a2)),.l (.s (.int .u8 a3)),.l (.s (.int .u8 a4)),.l (.s (.int .u16 a5))] [] (.l (.s (.bool r))) []:=by
 unfold CB at h
 refine Sound.of_aw (fn:=Try.f8) (c:=_) Try.func8 rfl (by simp[Try.f8]) fun cx hG hnb=>?_
 rw[show Try.f8.ntmps=142 from rfl]
 have hn0:cx.nb=0:=hnb
 simp only[As,initTm,List.map_cons,List.map_nil]
 apply AW.step
 ·simp
  intros;rfl
 refine AW.seq ?_
 replace h:=bnE h;obtain⟨y1,g1,h⟩:=h
 refine AW.flow (p:=fun gh ls=>(nP (cx:=cx) (fun q=>(⟨[(0,.l (.d false 1 (encIu16 a0))),(1,.l (.d false 1 (encIu16 a1))),(2,.l (.d false 1 (encIu16 a2))),(3,.l (.s (.int .u8 a3))),(4,.l (.s (.int .u8 a4))),(5,.l (.s (.int .u16 a5))),(36,.l (.s (.bool q)))],[],142,gh,ls⟩:St))) y1) ?_ ?_
 ·replace h:=g1;clear g1
  replace h:=ltE h;obtain⟨v2,e2,h⟩:=h
  replace h:=ltE h;obtain⟨v3,e3,h⟩:=h
  cases v3 with
  |true =>
   replace h:=iteT rfl h
   apply AW.last
   ·simp[Ak e2,← e3]
    intros;rfl
   obtain rfl:=oi h
   refine nP_i ?_
   refine Weak.mixN [] hn0 (by decide) ?_ ?_ rfl
   all_goals first|(simp[Ab,Ac,pickOb];done)|rfl
  |false =>
   replace h:=iteF rfl h
   replace h:=ltE h;obtain⟨v4,e4,h⟩:=h
   replace h:=ltE h;obtain⟨v5,e5,h⟩:=h
   cases v5 with
   |true =>
    replace h:=iteT rfl h
    apply AW.last
    ·simp[Ak e2,← e3,Ak e4,← e5]
     intros;rfl
    obtain rfl:=oi h
    refine nP_i ?_
    refine Weak.mixN [] hn0 (by decide) ?_ ?_ rfl
    all_goals first|(simp[Ab,Ac,pickOb];done)|rfl
   |false =>
    replace h:=iteF rfl h
    replace h:=ltE h;obtain⟨v6,e6,h⟩:=h
    replace h:=ltE h;obtain⟨v7,e7,h⟩:=h
    apply AW.last
    ·simp[Ak e2,← e3,Ak e4,← e5,Ak e6,← e7]
     intros;rfl
    obtain rfl:=oi h
    refine nP_i ?_
    refine Weak.mixN [] hn0 (by decide) ?_ ?_ rfl
    all_goals first|(simp[Ab,Ac,pickOb];done)|rfl
 ·rintro e s hp
  obtain⟨rfl,hw⟩:=hp
  refine⟨_,hw,?_⟩
  try simp only[nm]
  replace h:=ltE h;obtain⟨v8,e8,h⟩:=h
  rw[← e8]
  cases v8 with
  |true =>
   replace h:=iteT rfl h
   refine AW.cond_true (by simp) ?_
   replace h:=bnE h;obtain⟨v9,e9,h⟩:=h
   apply AW.step
   ·simp
    intros
    refine Ah FA (FS e9) rfl trivial ?_
    try simp
    intros;rfl
   obtain rfl:=oi h
   refine AW.ret ?_
   refine Left.plain hnb (by simp[Try.f8,resV,resC,comp];rfl) rfl rfl ?_
   simp
  |false =>
   replace h:=iteF rfl h
   refine AW.cond_false (by simp) ?_
   refine AW.skip ?_
   try simp only[nm]
   replace h:=bnE h;obtain⟨v10,e10,h⟩:=h
   replace h:=bnE h;obtain⟨v11,e11,h⟩:=h
   replace h:=bnE h;obtain⟨v12,e12,h⟩:=h
   apply AW.step
   ·simp
    intros
    refine Ah FT (Gk e10) rfl ⟨.same rfl,trivial⟩ ?_
    try simp
    intros
    refine Ah FT (Gk e11) rfl ⟨.same rfl,trivial⟩ ?_
    try simp
    intros
    refine Ah Gj (GP e12) rfl ⟨.same rfl,trivial⟩ ?_
    try simp
    intros;rfl
   replace h:=ltE h;obtain⟨v13,e13,h⟩:=h
   replace h:=bnE h;obtain⟨v14,e14,h⟩:=h
   apply AW.step
   ·simp[← e13,e14]
    intros;rfl
   replace h:=bnE h;obtain⟨v15,e15,h⟩:=h
   apply AW.step
   ·simp
    intros
    refine Ah Fy (FR e15) rfl ⟨.same rfl,.same rfl,trivial⟩ ?_
    try simp
    intros;rfl
   replace h:=bnE h;obtain⟨v16,e16,h⟩:=h
   apply AW.step
   ·simp
    intros
    refine Ah EH (E4 e16) rfl ⟨.same rfl,.same rfl,trivial⟩ ?_
    try simp
    intros;rfl
   replace h:=bnE h;obtain⟨v17,e17,h⟩:=h
   replace h:=ltE h;obtain⟨v18,e18,h⟩:=h
   replace h:=bnE h;obtain⟨v19,e19,h⟩:=h
   replace h:=ltE h;obtain⟨v20,e20,h⟩:=h
   replace h:=ltE h;obtain⟨v21,e21,h⟩:=h
   replace h:=bnE h;obtain⟨v22,e22,h⟩:=h
   apply AW.step
   ·simp[← e18,e19,← e20,← e21]
    intros
    refine Ah EX (Fd e17) rfl ⟨.same rfl,.same rfl,trivial⟩ ?_
    try simp[← e18,e19,← e20,← e21]
    intros
    refine Ah Gw (G4 e22) rfl ⟨.same rfl,.same rfl,.same rfl,.same rfl,trivial⟩ ?_
    try simp[← e18,e19,← e20,← e21]
    intros;rfl
   replace h:=bnE h;obtain⟨y23,g23,h⟩:=h
   refine AW.flow (p:=fun gh ls=>(nP (cx:=cx) (fun q=>(⟨[(12,.l (.s (.bool q)))],[],142,gh,ls⟩:St))) y23) ?_ ?_
   ·replace h:=g23;clear g23
    replace h:=ltE h;obtain⟨v24,e24,h⟩:=h
    replace h:=ltE h;obtain⟨v25,e25,h⟩:=h
    cases v25 with
    |true =>
     replace h:=iteT rfl h
     replace h:=ltE h;obtain⟨v26,e26,h⟩:=h
     replace h:=ltE h;obtain⟨v27,e27,h⟩:=h
     cases v27 with
     |true =>
      replace h:=iteT rfl h
      replace h:=ltE h;obtain⟨v28,e28,h⟩:=h
      cases v28 with
      |true =>
       replace h:=iteT rfl h
       replace h:=bnE h;obtain⟨v29,e29,h⟩:=h
       replace h:=bnE h;obtain⟨v30,e30,h⟩:=h
       cases v30 with
       |true =>
        replace h:=iteT rfl h
        replace h:=bnE h;obtain⟨v31,e31,h⟩:=h
        replace h:=bnE h;obtain⟨v32,e32,h⟩:=h
        cases v32 with
        |true =>
         replace h:=iteT rfl h
         replace h:=bnE h;obtain⟨v33,e33,h⟩:=h
         cases v33 with
         |true =>
          replace h:=iteT rfl h
          replace h:=bnE h;obtain⟨v34,e34,h⟩:=h
          cases v34 with
          |true =>
           replace h:=iteT rfl h
           replace h:=bnE h;obtain⟨v35,e35,h⟩:=h
           cases v35 with
           |true =>
            replace h:=iteT rfl h
            replace h:=bnE h;obtain⟨v36,e36,h⟩:=h
            replace h:=bnE h;obtain⟨v37,e37,h⟩:=h
            replace h:=bnE h;obtain⟨v38,e38,h⟩:=h
            replace h:=bnE h;obtain⟨v39,e39,h⟩:=h
            cases v39 with
            |true =>
             replace h:=iteT rfl h
             replace h:=bnE h;obtain⟨v40,e40,h⟩:=h
             replace h:=bnE h;obtain⟨v41,e41,h⟩:=h
             replace h:=bnE h;obtain⟨v42,e42,h⟩:=h
             cases v42 with
             |true =>
              replace h:=iteT rfl h
              replace h:=bnE h;obtain⟨v43,e43,h⟩:=h
              apply AW.last
              ·simp[← e24,← e25,← e26,← e27,← e28,← e18,e19,← e20,← e21,e36]
               intros
               refine Ah Cb (Cu e29) rfl ⟨.same rfl,.same rfl,trivial⟩ ?_
               try simp[← e24,← e25,← e26,← e27,← e28,← e18,e19,← e20,← e21,e36]
               intros
               refine Ah AI (AP e30) rfl ⟨.same rfl,.same rfl,trivial⟩ ?_
               try simp[← e24,← e25,← e26,← e27,← e28,← e18,e19,← e20,← e21,e36]
               intros
               refine Ah Ca (Ct e31) rfl ⟨.same rfl,.same rfl,.same rfl,.same rfl,trivial⟩ ?_
               try simp[← e24,← e25,← e26,← e27,← e28,← e18,e19,← e20,← e21,e36]
               intros
               refine Ah AI (AP e32) rfl ⟨.same rfl,.same rfl,trivial⟩ ?_
               try simp[← e24,← e25,← e26,← e27,← e28,← e18,e19,← e20,← e21,e36]
               intros
               refine Ah Bb (Bm e33) rfl ⟨.same rfl,trivial⟩ ?_
               try simp[← e24,← e25,← e26,← e27,← e28,← e18,e19,← e20,← e21,e36]
               intros
               refine Ah Bb (Bm e34) rfl ⟨.same rfl,trivial⟩ ?_
               try simp[← e24,← e25,← e26,← e27,← e28,← e18,e19,← e20,← e21,e36]
               intros
               refine Ah Bb (Bm e35) rfl ⟨.same rfl,trivial⟩ ?_
               try simp[← e24,← e25,← e26,← e27,← e28,← e18,e19,← e20,← e21,e36]
               intros
               refine Ah DY (D8 e37) rfl ⟨.same rfl,.same rfl,trivial⟩ ?_
               try simp[← e24,← e25,← e26,← e27,← e28,← e18,e19,← e20,← e21,e36]
               intros
               refine Ah ED (EQ e38) rfl ⟨.same rfl,.same rfl,trivial⟩ ?_
               try simp[← e24,← e25,← e26,← e27,← e28,← e18,e19,← e20,← e21,e36]
               intros
               refine Ah D1 (Ec e39) rfl ⟨.same rfl,.same rfl,trivial⟩ ?_
               try simp[← e24,← e25,← e26,← e27,← e28,← e18,e19,← e20,← e21,e36]
               intros
               refine Ah En (EB e40) rfl ⟨.same rfl,trivial⟩ ?_
               try simp[← e24,← e25,← e26,← e27,← e28,← e18,e19,← e20,← e21,e36]
               intros
               refine Ah EZ (Fe e41) rfl ⟨.same rfl,trivial⟩ ?_
               try simp[← e24,← e25,← e26,← e27,← e28,← e18,e19,← e20,← e21,e36]
               intros
               refine Ah Gp (GV e42) rfl ⟨.same rfl,.same rfl,trivial⟩ ?_
               try simp[← e24,← e25,← e26,← e27,← e28,← e18,e19,← e20,← e21,e36]
               intros
               refine Ah FA (FS e43) rfl trivial ?_
               try simp[← e24,← e25,← e26,← e27,← e28,← e18,e19,← e20,← e21,e36]
               intros;rfl
              obtain rfl:=oi h
              refine nP_i ?_
              refine Weak.mixN [] hn0 (by decide) ?_ ?_ rfl
              all_goals first|(simp[Ab,Ac,pickOb];done)|rfl
             |false =>
              replace h:=iteF rfl h
              apply AW.last
              ·simp[← e24,← e25,← e26,← e27,← e28,← e18,e19,← e20,← e21,e36]
               intros
               refine Ah Cb (Cu e29) rfl ⟨.same rfl,.same rfl,trivial⟩ ?_
               try simp[← e24,← e25,← e26,← e27,← e28,← e18,e19,← e20,← e21,e36]
               intros
               refine Ah AI (AP e30) rfl ⟨.same rfl,.same rfl,trivial⟩ ?_
               try simp[← e24,← e25,← e26,← e27,← e28,← e18,e19,← e20,← e21,e36]
               intros
               refine Ah Ca (Ct e31) rfl ⟨.same rfl,.same rfl,.same rfl,.same rfl,trivial⟩ ?_
               try simp[← e24,← e25,← e26,← e27,← e28,← e18,e19,← e20,← e21,e36]
               intros
               refine Ah AI (AP e32) rfl ⟨.same rfl,.same rfl,trivial⟩ ?_
               try simp[← e24,← e25,← e26,← e27,← e28,← e18,e19,← e20,← e21,e36]
               intros
               refine Ah Bb (Bm e33) rfl ⟨.same rfl,trivial⟩ ?_
               try simp[← e24,← e25,← e26,← e27,← e28,← e18,e19,← e20,← e21,e36]
               intros
               refine Ah Bb (Bm e34) rfl ⟨.same rfl,trivial⟩ ?_
               try simp[← e24,← e25,← e26,← e27,← e28,← e18,e19,← e20,← e21,e36]
               intros
               refine Ah Bb (Bm e35) rfl ⟨.same rfl,trivial⟩ ?_
               try simp[← e24,← e25,← e26,← e27,← e28,← e18,e19,← e20,← e21,e36]
               intros
               refine Ah DY (D8 e37) rfl ⟨.same rfl,.same rfl,trivial⟩ ?_
               try simp[← e24,← e25,← e26,← e27,← e28,← e18,e19,← e20,← e21,e36]
               intros
               refine Ah ED (EQ e38) rfl ⟨.same rfl,.same rfl,trivial⟩ ?_
               try simp[← e24,← e25,← e26,← e27,← e28,← e18,e19,← e20,← e21,e36]
               intros
               refine Ah D1 (Ec e39) rfl ⟨.same rfl,.same rfl,trivial⟩ ?_
               try simp[← e24,← e25,← e26,← e27,← e28,← e18,e19,← e20,← e21,e36]
               intros
               refine Ah En (EB e40) rfl ⟨.same rfl,trivial⟩ ?_
               try simp[← e24,← e25,← e26,← e27,← e28,← e18,e19,← e20,← e21,e36]
               intros
               refine Ah EZ (Fe e41) rfl ⟨.same rfl,trivial⟩ ?_
               try simp[← e24,← e25,← e26,← e27,← e28,← e18,e19,← e20,← e21,e36]
               intros
               refine Ah Gp (GV e42) rfl ⟨.same rfl,.same rfl,trivial⟩ ?_
               try simp[← e24,← e25,← e26,← e27,← e28,← e18,e19,← e20,← e21,e36]
               intros;rfl
              obtain rfl:=oi h
              refine nP_i ?_
              refine Weak.mixN [] hn0 (by decide) ?_ ?_ rfl
              all_goals first|(simp[Ab,Ac,pickOb];done)|rfl
            |false =>
             replace h:=iteF rfl h
             apply AW.last
             ·simp[← e24,← e25,← e26,← e27,← e28,← e18,e19,← e20,← e21,e36]
              intros
              refine Ah Cb (Cu e29) rfl ⟨.same rfl,.same rfl,trivial⟩ ?_
              try simp[← e24,← e25,← e26,← e27,← e28,← e18,e19,← e20,← e21,e36]
              intros
              refine Ah AI (AP e30) rfl ⟨.same rfl,.same rfl,trivial⟩ ?_
              try simp[← e24,← e25,← e26,← e27,← e28,← e18,e19,← e20,← e21,e36]
              intros
              refine Ah Ca (Ct e31) rfl ⟨.same rfl,.same rfl,.same rfl,.same rfl,trivial⟩ ?_
              try simp[← e24,← e25,← e26,← e27,← e28,← e18,e19,← e20,← e21,e36]
              intros
              refine Ah AI (AP e32) rfl ⟨.same rfl,.same rfl,trivial⟩ ?_
              try simp[← e24,← e25,← e26,← e27,← e28,← e18,e19,← e20,← e21,e36]
              intros
              refine Ah Bb (Bm e33) rfl ⟨.same rfl,trivial⟩ ?_
              try simp[← e24,← e25,← e26,← e27,← e28,← e18,e19,← e20,← e21,e36]
              intros
              refine Ah Bb (Bm e34) rfl ⟨.same rfl,trivial⟩ ?_
              try simp[← e24,← e25,← e26,← e27,← e28,← e18,e19,← e20,← e21,e36]
              intros
              refine Ah Bb (Bm e35) rfl ⟨.same rfl,trivial⟩ ?_
              try simp[← e24,← e25,← e26,← e27,← e28,← e18,e19,← e20,← e21,e36]
              intros
              refine Ah DY (D8 e37) rfl ⟨.same rfl,.same rfl,trivial⟩ ?_
              try simp[← e24,← e25,← e26,← e27,← e28,← e18,e19,← e20,← e21,e36]
              intros
              refine Ah ED (EQ e38) rfl ⟨.same rfl,.same rfl,trivial⟩ ?_
              try simp[← e24,← e25,← e26,← e27,← e28,← e18,e19,← e20,← e21,e36]
              intros
              refine Ah D1 (Ec e39) rfl ⟨.same rfl,.same rfl,trivial⟩ ?_
              try simp[← e24,← e25,← e26,← e27,← e28,← e18,e19,← e20,← e21,e36]
              intros;rfl
             obtain rfl:=oi h
             refine nP_i ?_
             refine Weak.mixN [] hn0 (by decide) ?_ ?_ rfl
             all_goals first|(simp[Ab,Ac,pickOb];done)|rfl
           |false =>
            replace h:=iteF rfl h
            apply AW.last
            ·simp[← e24,← e25,← e26,← e27,← e28,← e18,e19,← e20,← e21]
             intros
             refine Ah Cb (Cu e29) rfl ⟨.same rfl,.same rfl,trivial⟩ ?_
             try simp[← e24,← e25,← e26,← e27,← e28,← e18,e19,← e20,← e21]
             intros
             refine Ah AI (AP e30) rfl ⟨.same rfl,.same rfl,trivial⟩ ?_
             try simp[← e24,← e25,← e26,← e27,← e28,← e18,e19,← e20,← e21]
             intros
             refine Ah Ca (Ct e31) rfl ⟨.same rfl,.same rfl,.same rfl,.same rfl,trivial⟩ ?_
             try simp[← e24,← e25,← e26,← e27,← e28,← e18,e19,← e20,← e21]
             intros
             refine Ah AI (AP e32) rfl ⟨.same rfl,.same rfl,trivial⟩ ?_
             try simp[← e24,← e25,← e26,← e27,← e28,← e18,e19,← e20,← e21]
             intros
             refine Ah Bb (Bm e33) rfl ⟨.same rfl,trivial⟩ ?_
             try simp[← e24,← e25,← e26,← e27,← e28,← e18,e19,← e20,← e21]
             intros
             refine Ah Bb (Bm e34) rfl ⟨.same rfl,trivial⟩ ?_
             try simp[← e24,← e25,← e26,← e27,← e28,← e18,e19,← e20,← e21]
             intros
             refine Ah Bb (Bm e35) rfl ⟨.same rfl,trivial⟩ ?_
             try simp[← e24,← e25,← e26,← e27,← e28,← e18,e19,← e20,← e21]
             intros;rfl
            obtain rfl:=oi h
            refine nP_i ?_
            refine Weak.mixN [] hn0 (by decide) ?_ ?_ rfl
            all_goals first|(simp[Ab,Ac,pickOb];done)|rfl
          |false =>
           replace h:=iteF rfl h
           apply AW.last
           ·simp[← e24,← e25,← e26,← e27,← e28,← e18,e19,← e20,← e21]
            intros
            refine Ah Cb (Cu e29) rfl ⟨.same rfl,.same rfl,trivial⟩ ?_
            try simp[← e24,← e25,← e26,← e27,← e28,← e18,e19,← e20,← e21]
            intros
            refine Ah AI (AP e30) rfl ⟨.same rfl,.same rfl,trivial⟩ ?_
            try simp[← e24,← e25,← e26,← e27,← e28,← e18,e19,← e20,← e21]
            intros
            refine Ah Ca (Ct e31) rfl ⟨.same rfl,.same rfl,.same rfl,.same rfl,trivial⟩ ?_
            try simp[← e24,← e25,← e26,← e27,← e28,← e18,e19,← e20,← e21]
            intros
            refine Ah AI (AP e32) rfl ⟨.same rfl,.same rfl,trivial⟩ ?_
            try simp[← e24,← e25,← e26,← e27,← e28,← e18,e19,← e20,← e21]
            intros
            refine Ah Bb (Bm e33) rfl ⟨.same rfl,trivial⟩ ?_
            try simp[← e24,← e25,← e26,← e27,← e28,← e18,e19,← e20,← e21]
            intros
            refine Ah Bb (Bm e34) rfl ⟨.same rfl,trivial⟩ ?_
            try simp[← e24,← e25,← e26,← e27,← e28,← e18,e19,← e20,← e21]
            intros;rfl
           obtain rfl:=oi h
           refine nP_i ?_
           refine Weak.mixN [] hn0 (by decide) ?_ ?_ rfl
           all_goals first|(simp[Ab,Ac,pickOb];done)|rfl
         |false =>
          replace h:=iteF rfl h
          apply AW.last
          ·simp[← e24,← e25,← e26,← e27,← e28,← e18,e19,← e20,← e21]
           intros
           refine Ah Cb (Cu e29) rfl ⟨.same rfl,.same rfl,trivial⟩ ?_
           try simp[← e24,← e25,← e26,← e27,← e28,← e18,e19,← e20,← e21]
           intros
           refine Ah AI (AP e30) rfl ⟨.same rfl,.same rfl,trivial⟩ ?_
           try simp[← e24,← e25,← e26,← e27,← e28,← e18,e19,← e20,← e21]
           intros
           refine Ah Ca (Ct e31) rfl ⟨.same rfl,.same rfl,.same rfl,.same rfl,trivial⟩ ?_
           try simp[← e24,← e25,← e26,← e27,← e28,← e18,e19,← e20,← e21]
           intros
           refine Ah AI (AP e32) rfl ⟨.same rfl,.same rfl,trivial⟩ ?_
           try simp[← e24,← e25,← e26,← e27,← e28,← e18,e19,← e20,← e21]
           intros
           refine Ah Bb (Bm e33) rfl ⟨.same rfl,trivial⟩ ?_
           try simp[← e24,← e25,← e26,← e27,← e28,← e18,e19,← e20,← e21]
           intros;rfl
          obtain rfl:=oi h
          refine nP_i ?_
          refine Weak.mixN [] hn0 (by decide) ?_ ?_ rfl
          all_goals first|(simp[Ab,Ac,pickOb];done)|rfl
        |false =>
         replace h:=iteF rfl h
         apply AW.last
         ·simp[← e24,← e25,← e26,← e27,← e28,← e18,e19,← e20,← e21]
          intros
          refine Ah Cb (Cu e29) rfl ⟨.same rfl,.same rfl,trivial⟩ ?_
          try simp[← e24,← e25,← e26,← e27,← e28,← e18,e19,← e20,← e21]
          intros
          refine Ah AI (AP e30) rfl ⟨.same rfl,.same rfl,trivial⟩ ?_
          try simp[← e24,← e25,← e26,← e27,← e28,← e18,e19,← e20,← e21]
          intros
          refine Ah Ca (Ct e31) rfl ⟨.same rfl,.same rfl,.same rfl,.same rfl,trivial⟩ ?_
          try simp[← e24,← e25,← e26,← e27,← e28,← e18,e19,← e20,← e21]
          intros
          refine Ah AI (AP e32) rfl ⟨.same rfl,.same rfl,trivial⟩ ?_
          try simp[← e24,← e25,← e26,← e27,← e28,← e18,e19,← e20,← e21]
          intros;rfl
         obtain rfl:=oi h
         refine nP_i ?_
         refine Weak.mixN [] hn0 (by decide) ?_ ?_ rfl
         all_goals first|(simp[Ab,Ac,pickOb];done)|rfl
       |false =>
        replace h:=iteF rfl h
        apply AW.last
        ·simp[← e24,← e25,← e26,← e27,← e28]
         intros
         refine Ah Cb (Cu e29) rfl ⟨.same rfl,.same rfl,trivial⟩ ?_
         try simp[← e24,← e25,← e26,← e27,← e28]
         intros
         refine Ah AI (AP e30) rfl ⟨.same rfl,.same rfl,trivial⟩ ?_
         try simp[← e24,← e25,← e26,← e27,← e28]
         intros;rfl
        obtain rfl:=oi h
        refine nP_i ?_
        refine Weak.mixN [] hn0 (by decide) ?_ ?_ rfl
        all_goals first|(simp[Ab,Ac,pickOb];done)|rfl
      |false =>
       replace h:=iteF rfl h
       apply AW.last
       ·simp[← e24,← e25,← e26,← e27,← e28]
        intros;rfl
       obtain rfl:=oi h
       refine nP_i ?_
       refine Weak.mixN [] hn0 (by decide) ?_ ?_ rfl
       all_goals first|(simp[Ab,Ac,pickOb];done)|rfl
     |false =>
      replace h:=iteF rfl h
      apply AW.last
      ·simp[← e24,← e25,← e26,← e27]
       intros;rfl
      obtain rfl:=oi h
      refine nP_i ?_
      refine Weak.mixN [] hn0 (by decide) ?_ ?_ rfl
      all_goals first|(simp[Ab,Ac,pickOb];done)|rfl
    |false =>
     replace h:=iteF rfl h
     apply AW.last
     ·simp[← e24,← e25]
      intros;rfl
     obtain rfl:=oi h
     refine nP_i ?_
     refine Weak.mixN [] hn0 (by decide) ?_ ?_ rfl
     all_goals first|(simp[Ab,Ac,pickOb];done)|rfl
   ·rintro e s hp
    obtain⟨rfl,hw⟩:=hp
    refine⟨_,hw,?_⟩
    try simp only[nm]
    obtain rfl:=oi h
    refine AW.ret ?_
    refine Left.plain hnb (by simp[Try.f8,resV,resC,comp];rfl) rfl rfl ?_
    simp
end Go.Proofs.Ythjenkmbbnjcnaa
namespace Go.Proofs.Ythjenkmbbnjcnaa
open Go Go.RowKit
theorem orC (P Q:Prop) [Decidable P] [Decidable Q]:ite' (decide P) (some true) (some (decide Q))=some (decide (P∨Q)):=by
 by_cases h:P <;> simp[ite',h]
def badC (c:Claim):Prop:=c.frm<0∨c.to<c.frm∨16383<c.to∨c.node<0∨8≤c.node∨c.epoch<1∨9007199254740992<c.epoch
instance (c:Claim):Decidable (badC c):=by unfold badC;infer_instance
def bad2 (b c:Claim):Prop:=c.frm≤b.to∨(b.to+1=c.frm∧(b.node,b.epoch)=(c.node,c.epoch))
instance (b c:Claim):Decidable (bad2 b c):=by unfold bad2;infer_instance
def prevBad (l:List Claim) (j:Nat):Prop:=∃ (h0:0<j) (h:j<l.length),bad2 (l[j - 1]'(by omega)) l[j]
noncomputable instance (l:List Claim) (j:Nat):Decidable (prevBad l j):=Classical.propDecidable _
def MayC (l:List Claim):Prop:=(∀ c∈l,¬ badC c)∧∀ (i:Nat) (b c:Claim),l[i]?=some b→l[i+1]?=some c→¬ bad2 b c
theorem MayC.good {l:List Claim} (h:MayC l):GoodC l:=by
 refine⟨?_,fun c hc=>?_⟩
 ·have:∀ l:List Claim,MayC l→canP (l.map cP):=by
   intro l
   induction l with
   |nil=>intro _;trivial
   |cons b l ih =>
    intro h
    have hb:=h.1 b (by simp)
    unfold badC at hb
    have ih':=ih ⟨fun c hc=>h.1 c (by simp[hc]),fun i x y h1 h2=>h.2 (i+1) x y h1 h2⟩
    cases l with
    |nil =>
     show b.frm≤b.to
     omega
    |cons c l =>
     have h2:=h.2 0 b c rfl rfl
     unfold bad2 at h2
     refine⟨?_,?_,?_,ih'⟩
     ·show b.frm≤b.to
      omega
     ·show b.to<c.frm
      omega
     ·intro hc
      exact h2 (.inr hc)
  exact this l h
 ·have:=h.1 c hc
  unfold badC at this
  omega
theorem JH {x c:Claim} (hx:-1000000≤x.to∧x.to≤1000000):BG big x c=some (decide (x.to+1=c.frm∧(x.node,x.epoch)=(c.node,c.epoch))):=by
 unfold BG
 simp only[Av]
 rw[Am (by omega) (by omega)]
 rcases Decidable.em (x.to+1=c.frm) with h1|h1
 ·rw[eq_t h1,AF]
  rcases Decidable.em (x.node=c.node) with h2|h2
  ·rw[eq_t h2,AF]
   simp[eqI,h1,h2,An]
  ·rw[eq_f h2,AT]
   simp[h2,An]
 ·rw[eq_f h1,AT]
  simp[h1,An]
theorem JI {l:List Claim} {F:Int→Option (Int ⊕ (Unit ⊕ Bool))} (hl:l.length≤1000000) (hE:F (l.length:Int)=some (.inr (.inl ())))
  (hF:∀ (j:Nat) (h:j<l.length),(∀ c∈l.take j,¬ badC c)→F (j:Int)=some (if badC l[j] then .inr (.inr false) else if prevBad l j then .inr (.inr false) else .inl ((j+1:Nat):Int))) :
  Rn (iter big F 0) fun y=>(y=.inl ()∧MayC l)∨(y=.inr false∧¬ MayC l):=by
 refine Rn.iter _ (fun j a=>a=(j:Int)∧(∀ c∈l.take j,¬ badC c)∧∀ (i:Nat) (b c:Claim),i+1<j→l[i]?=some b→l[i+1]?=some c→¬ bad2 b c) l.length (by unfold big;omega) ⟨rfl,by simp,fun i b c h=>by omega⟩ fun j a hj hI=>?_
 obtain⟨rfl,h1,h2⟩:=hI
 rcases Nat.lt_or_ge j l.length with h|h
 ·rw[hF j h h1]
  split
  ·rename_i hb
   exact Rn.some (.inr ⟨rfl,fun hm=>hm.1 _ (List.getElem_mem h) hb⟩)
  ·rename_i hb
   split
   ·rename_i hc
    obtain⟨h0,_,hc⟩:=hc
    refine Rn.some (.inr ⟨rfl,fun hm=>hm.2 (j - 1) _ _ (List.getElem?_eq_getElem (by omega)) ?_ hc⟩)
    rw[show j - 1+1=j by omega]
    exact List.getElem?_eq_getElem h
   ·rename_i hc
    refine Rn.some ⟨h,rfl,fun c hcm=>?_,fun i b c g1 g2 g3=>?_⟩
    ·rw[← List.take_append_getElem h] at hcm
     rcases List.mem_append.1 hcm with hcm|hcm
     ·exact h1 c hcm
     ·simp at hcm
      subst hcm
      exact hb
    ·rcases Nat.lt_or_ge (i+1) j with h5|h5
     ·exact h2 i b c h5 g2 g3
     ·have e:j=i+1:=by omega
      subst e
      rw[List.getElem?_eq_getElem (by omega)] at g2 g3
      have e1:=Option.some.inj g2
      have e2:=Option.some.inj g3
      subst e1 e2
      exact fun g=>hc ⟨by omega,h,g⟩
 ·have e:j=l.length:=by omega
  subst e
  rw[hE]
  refine Rn.some (.inl ⟨rfl,by rwa [List.take_length] at h1,fun i b c g1 g2=>h2 i b c ?_ g1 g2⟩)
  exact (List.getElem?_eq_some_iff.1 g2).1
theorem Kf (l:List Claim) (hl:l.length≤1000000):Rn (BV big l) fun b=>(b=true↔MayC l):=by
 unfold BV
 refine Rn.lt (Rn.bn (JI hl ?_ fun j h hbef=>?_) fun y hy=>?_)
 ·simp only[Av]
  rw[lt_f (by rw[BA];omega),AT]
 ·refine Rn.eqv ?_
  refine Rn.lt ?_
  rw[lt_t (show (j:Int)<lenI l by rw[BA];omega)]
  refine Rn.ite (fun _=>Rn.bnE (AC h) (Rn.bnE (v:=decide (badC l[j])) ?_ (Rn.lt (Rn.ite (fun hb=>?_) fun hb=>?_)))) fun hc=>by simp at hc
  ·simp only[Av,ltI,gtI,geI,orC]
   rfl
  ·rw[if_pos (of_decide_eq_true hb)]
   exact Rn.some rfl
  ·rw[if_neg (of_decide_eq_false hb)]
   rcases Nat.eq_zero_or_pos j with e|h0
   ·subst e
    refine Rn.bnE (v:=false) rfl (Rn.lt (Rn.ite (fun hc=>by simp at hc) fun _=>Rn.lt (Rn.some ?_)))
    rw[if_neg (fun h=>absurd h.1 (by omega))]
    rfl
   ·have hprev:¬ badC (l[j - 1]'(by omega)):=hbef _ (List.mem_take_iff_getElem.2 ⟨j - 1,by omega,rfl⟩)
    unfold badC at hprev
    refine Rn.bnE (v:=decide (bad2 (l[j - 1]'(by omega)) l[j])) ?_ (Rn.lt (Rn.ite (fun hc=>?_) fun hc=>?_))
    ·simp only[Av]
     rw[gt_t (show (0:Int)<(j:Int) by omega),AF,Ap (by omega) (by omega),show (j:Int) - 1=((j - 1:Nat):Int) by omega,AC (show j - 1<l.length by omega)]
     simp only[An]
     rw[JH (by omega)]
     simp only[An,leI,orC]
     rfl
    ·rw[if_pos (show prevBad l j from ⟨h0,h,of_decide_eq_true hc⟩)]
     exact Rn.some rfl
    ·rw[if_neg (fun g:prevBad l j=>of_decide_eq_false hc g.2.2)]
     refine Rn.lt (Rn.some ?_)
     rw[Am (by omega) (by omega)]
     rfl
 ·rcases hy with ⟨rfl,h⟩|⟨rfl,h⟩
  ·rw[Ft]
   exact Rn.some (by simp[h])
  ·rw[B7]
   exact Rn.some (by simp[h])
theorem II {l:List Claim} {nd:Int} (hl:GoodC l) (h200:l.length≤200):Rn (CG big l nd) fun r=>SaysS r (ownP (fC l) nd):=by
 unfold CG
 refine Rn.bn (P:=fun r=>r.length≤l.length∧∀ t,(∃ x∈r,x.frm≤t∧t≤x.to)↔∃ c∈l,(c.frm≤t∧t≤c.to)∧c.node=nd) (Rn.iter _ (fun j y=>∃ r:List Span,y=((j:Int),r)∧r.length≤j∧∀ t,(∃ x∈r,x.frm≤t∧t≤x.to)↔∃ c∈l.take j,(c.frm≤t∧t≤c.to)∧c.node=nd) l.length (by unfold big;omega) ⟨[],rfl,by simp,by simp⟩ fun j y hj hI=>?_) fun r hr=>?_
 ·obtain⟨r,rfl,r2,r4⟩:=hI
  refine Rn.lt (Rn.lt (Rn.ite (fun hd=>?_) fun hd=>?_))
  ·have hjl:j<l.length:=by
    have:=of_decide_eq_true (p:=((j:Int)<(l.length:Int))) hd
    omega
   have hnth:=AC hjl
   have htk:l.take (j+1)=l.take j++[l[j]]:=(List.take_append_getElem hjl).symm
   generalize l[j]=c at hnth htk
   refine Rn.bn (P:=fun r'=>r'.length≤j+1∧∀ t,(∃ x∈r',x.frm≤t∧t≤x.to)↔∃ c∈l.take (j+1),(c.frm≤t∧t≤c.to)∧c.node=nd) ?_ fun r' hr'=>Rn.lt (Rn.some ⟨hjl,r',?_,hr'⟩)
   ·refine Rn.bnE hnth (Rn.lt (Rn.ite (fun hc=>Rn.chk (by simp[room];omega) (Rn.lt (Rn.some ⟨by simp;omega,fun t=>?_⟩))) fun hc=>Rn.some ⟨Nat.le_succ_of_le r2,fun t=>?_⟩))
    ·have hn:c.node=nd:=of_decide_eq_true hc
     rw[htk]
     constructor
     ·rintro⟨x,hx,h⟩
      rcases List.mem_append.1 hx with hx|hx
      ·obtain⟨y,hy,h2⟩:=(r4 t).1 ⟨x,hx,h⟩
       exact⟨y,by simp[hy],h2⟩
      ·simp at hx
       subst hx
       exact⟨c,by simp,h,hn⟩
     ·rintro⟨y,hy,h,h2⟩
      rcases List.mem_append.1 hy with hy|hy
      ·obtain⟨x,hx,h3⟩:=(r4 t).2 ⟨y,hy,h,h2⟩
       exact⟨x,by simp[hx],h3⟩
      ·simp at hy
       subst hy
       exact⟨⟨y.frm,y.to⟩,by simp,h⟩
    ·have hn:c.node≠nd:=of_decide_eq_false hc
     rw[r4 t,htk]
     constructor
     ·rintro⟨y,hy,h⟩
      exact⟨y,by simp[hy],h⟩
     ·rintro⟨y,hy,h,h2⟩
      rcases List.mem_append.1 hy with hy|hy
      ·exact⟨y,hy,h,h2⟩
      ·simp at hy
       subst hy
       exact absurd h2 hn
   ·rw[Am (by first|omega|(simp only;omega)) (by first|omega|(simp only;omega))]
    rfl
  ·have hjl:j=l.length:=by
    have:=of_decide_eq_false (p:=((j:Int)<(l.length:Int))) hd
    omega
   subst hjl
   rw[List.take_length] at r4
   exact Rn.some ⟨r2,r4⟩
 ·obtain⟨r2,r3⟩:=hr
  refine Rn.chk (by simp[room];omega) ?_
  rw[normRT]
  refine Rn.bn (JF (by omega)) fun v hv=>Rn.some ?_
  refine SaysS.of hv.1.1 fun t=>?_
  rw[hv.1.iff]
  unfold inS ownP
  rw[r3 t]
  constructor
  ·rintro⟨h1,c,hc,h2,h3⟩
   rw[(hl.iff t _).2 ⟨c,hc,h2,rfl⟩,← h3]
   rfl
  ·intro h
   cases hf:fC l t with
   |none=>rw[hf] at h;simp at h
   |some w =>
    rw[hf] at h
    obtain⟨c,hc,h2,rfl⟩:=(hl.iff t w).1 hf
    have:=(hl.tells t _ hf).1
    exact⟨by omega,c,hc,h2,by simpa using h⟩
theorem GW:∀ {l m:List Int},l.Pairwise (·<·)→m.Pairwise (·<·)→(∀ x,x∈l↔x∈m)→l=m
 |[],[],_,_,_=>rfl
 |[],b::m,_,_,h=>absurd ((h b).2 (by simp)) (by simp)
 |a::l,[],_,_,h=>absurd ((h a).1 (by simp)) (by simp)
 |a::l,b::m,hl,hm,h=>by
  rw[List.pairwise_cons] at hl hm
  have hab:a=b:=by
   have h1:=(h a).1 (by simp)
   have h2:=(h b).2 (by simp)
   rcases List.mem_cons.1 h1 with e|h1
   ·exact e
   ·rcases List.mem_cons.1 h2 with e|h2
    ·exact e.symm
    ·have:=hl.1 b h2
     have:=hm.1 a h1
     omega
  subst hab
  rw[GW hl.2 hm.2 fun x=>?_]
  have:=h x
  simp only[List.mem_cons] at this
  constructor
  ·intro hx
   have h3:=hl.1 x hx
   rcases this.1 (.inr hx) with e|h2
   ·omega
   ·exact h2
  ·intro hx
   have h3:=hm.1 x hx
   rcases this.2 (.inr hx) with e|h2
   ·omega
   ·exact h2
theorem HJ {l:List Claim} (hl:l.length≤1000):Rn (Cf big l) fun r=>r.Pairwise (·<·)∧∀ x,x∈r↔(0≤x∧x<8)∧∃ c∈l,c.node=x:=by
 unfold Cf
 refine Rn.bn (P:=fun r=>r.length≤8∧r.Pairwise (·<·)∧∀ x,x∈r↔(0≤x∧x<8)∧∃ c∈l,c.node=x) (Rn.iter _ (fun j y=>∃ r:List Int,y=((j:Int),r)∧r.length≤j∧r.Pairwise (·<·)∧∀ x,x∈r↔(0≤x∧x<(j:Int))∧∃ c∈l,c.node=x) 8 (by unfold big;omega) ⟨[],rfl,by simp,List.Pairwise.nil,fun x=>by simp;omega⟩ fun j y hj hI=>?_) fun r hr=>Rn.chk (by have:=hr.1;simp[room];omega) (Rn.some hr.2)
 obtain⟨r,rfl,r1,r2,r3⟩:=hI
 refine Rn.lt (Rn.ite (fun hd=>?_) fun hd=>?_)
 ·have hj8:j<8:=by
   have:=of_decide_eq_true (p:=((j:Int)<8)) hd
   omega
  refine Rn.bn (P:=fun r'=>r'=if ∃ c∈l,c.node=(j:Int) then r++[(j:Int)] else r) (Rn.iter _ (fun i y=>y=(i:Int)∧∀ c∈l.take i,c.node≠(j:Int)) l.length (by unfold big;omega) ⟨rfl,by simp⟩ fun i y hi hI=>?_) fun r' hr'=>Rn.lt (Rn.some ⟨hj8,r',?_,?_⟩)
  ·obtain⟨rfl,h1⟩:=hI
   refine Rn.lt (Rn.lt (Rn.ite (fun hd=>?_) fun hd=>?_))
   ·have hil:i<l.length:=by
     have:=of_decide_eq_true (p:=((i:Int)<(l.length:Int))) hd
     omega
    refine Rn.bnE (AC hil) (Rn.lt (Rn.ite (fun hc=>Rn.chk (by simp[room];omega) (Rn.lt (Rn.some ?_))) fun hc=>Rn.lt (Rn.some ⟨hil,?_,fun c hcm=>?_⟩)))
    ·rw[if_pos ⟨_,List.getElem_mem hil,of_decide_eq_true hc⟩]
    ·rw[Am (by omega) (by omega)]
     rfl
    ·rw[← List.take_append_getElem hil] at hcm
     rcases List.mem_append.1 hcm with hcm|hcm
     ·exact h1 c hcm
     ·simp at hcm
      subst hcm
      exact of_decide_eq_false hc
   ·have hil:i=l.length:=by
     have:=of_decide_eq_false (p:=((i:Int)<(l.length:Int))) hd
     omega
    subst hil
    rw[List.take_length] at h1
    exact Rn.some (by rw[if_neg fun ⟨c,hc,e⟩=>h1 c hc e])
  ·rw[Am (by first|omega|(simp only;omega)) (by first|omega|(simp only;omega))]
   rfl
  ·subst hr'
   split
   ·rename_i hex
    refine⟨by simp;omega,List.pairwise_append.2 ⟨r2,List.pairwise_singleton _ _,fun x hx y hy=>?_⟩,fun x=>?_⟩
    ·simp at hy
     subst hy
     exact ((r3 x).1 hx).1.2
    ·rw[List.mem_append,r3 x,List.mem_singleton]
     constructor
     ·rintro (⟨h1,h2⟩|rfl)
      ·exact⟨by omega,h2⟩
      ·exact⟨by omega,hex⟩
     ·rintro⟨h1,h2⟩
      rcases Decidable.em (x=(j:Int)) with e|e
      ·exact .inr e
      ·exact .inl ⟨by omega,h2⟩
   ·rename_i hex
    refine⟨by omega,r2,fun x=>?_⟩
    rw[r3 x]
    constructor
    ·rintro⟨h1,h2⟩
     exact⟨by omega,h2⟩
    ·rintro⟨h1,h2⟩
     refine⟨?_,h2⟩
     rcases Decidable.em (x=(j:Int)) with e|e
     ·subst e
      exact absurd h2 hex
     ·omega
 ·have hj8:j=8:=by
   have:=of_decide_eq_false (p:=((j:Int)<8)) hd
   omega
  subst hj8
  exact Rn.some ⟨r1,r2,r3⟩
theorem Jf (l:List Int) (hl:l.length≤1000000):Dp big l l=some true:=by
 refine Rn.eqv ?_
 unfold Dp
 refine Rn.lt (Rn.lt (Rn.lt (Rn.ite (fun h=>?_) fun _=>?_)))
 ·simp[neI] at h
 refine Rn.bn (P:=fun y=>y=.inl ()) (Rn.iter _ (fun j a=>a=(j:Int)) l.length (by unfold big;omega) rfl fun j a hj hI=>?_) fun y hy=>?_
 ·subst hI
  refine Rn.lt (Rn.lt (Rn.ite (fun hd=>?_) fun hd=>Rn.some rfl))
  have hjl:j<l.length:=by
   have:=of_decide_eq_true (p:=((j:Int)<(l.length:Int))) hd
   omega
  refine Rn.bnE (AC hjl) (Rn.bnE (AC hjl) (Rn.lt (Rn.ite (fun h=>?_) fun _=>Rn.lt (Rn.some ⟨hjl,?_⟩))))
  ·simp[neI] at h
  ·rw[Am (by omega) (by omega)]
   rfl
 ·subst hy
  exact Rn.some rfl
theorem JJ {x y:Option (Int×Int)} (hx:okV x) (hy:okV y):(if (x.getD (-1,0)).2<(y.getD (-1,0)).2∨((y.getD (-1,0)).2=(x.getD (-1,0)).2∧(x.getD (-1,0)).1<(y.getD (-1,0)).1) then y.getD (-1,0) else x.getD (-1,0))=(joinV x y).getD (-1,0):=by
 cases x with
 |none =>
  cases y with
  |none=>rfl
  |some v =>
   have:=hy v rfl
   have e:joinV none (some v)=some v:=by
    unfold joinV
    rw[if_neg]
    show ¬ (v.2<0∨((0:Int)=v.2∧v.1<0))
    omega
   rw[e,if_pos (.inl (show (0:Int)<v.2 by omega))]
 |some u =>
  have hu:=hx u rfl
  cases y with
  |none =>
   have e:joinV (some u) none=some u:=by
    unfold joinV
    rw[if_pos (.inl (show (0:Int)<u.2 by omega))]
   rw[e,if_neg]
   show ¬ (u.2<0∨((0:Int)=u.2∧u.1 < -1))
   omega
  |some v =>
   have hv:=hy v rfl
   show (if u.2<v.2∨(v.2=u.2∧u.1<v.1) then v else u)=(joinV (some u) (some v)).getD (-1,0)
   unfold joinV
   show _=(if v.2<u.2∨(u.2=v.2∧v.1<u.1) then some u else some v).getD (-1,0)
   by_cases h1:u.2<v.2∨(v.2=u.2∧u.1<v.1)
   ·rw[if_pos h1,if_neg (by omega)]
    rfl
   ·rw[if_neg h1]
    by_cases h2:v.2<u.2∨(u.2=v.2∧v.1<u.1)
    ·rw[if_pos h2]
     rfl
    ·rw[if_neg h2]
     exact Prod.ext (by show u.1=v.1;omega) (by show u.2=v.2;omega)
theorem Jg {a b:List Claim} (ha:GoodC a) (hb:GoodC b):Rn (C1 big a b) fun r=>FinP (r.map cP) (joinF (fC a) (fC b)):=by
 unfold C1
 have hal:=ha.len
 have hbl:=hb.len
 have htell:=Ee ha.tells hb.tells
 refine Rn.bn (F6 SM.nil (by simp;omega) fun c hc=>by have:=ha.2 c hc;unfold inB;omega) fun m0 hm0=>?_
 obtain⟨s1,s2,s3⟩:=hm0
 simp only[List.length_nil,Nat.zero_add] at s3
 refine Rn.bn (F6 s1 (by omega) fun c hc=>by have:=hb.2 c hc;unfold inB;omega) fun m hm=>?_
 obtain⟨t1,t2,t3⟩:=hm
 have hma:∀ c∈a,c.frm∈m∧c.to+1∈m:=by
  intro c hc
  have hr:=ha.2 c hc
  exact⟨(t2 _).2 (.inl ((s2 _).2 (.inr ⟨⟨c,hc,.inl rfl⟩,by omega⟩))),(t2 _).2 (.inl ((s2 _).2 (.inr ⟨⟨c,hc,.inr rfl⟩,by omega⟩)))⟩
 have hmb:∀ c∈b,c.frm∈m∧c.to+1∈m:=by
  intro c hc
  have hr:=hb.2 c hc
  exact⟨(t2 _).2 (.inr ⟨⟨c,hc,.inl rfl⟩,by omega⟩),(t2 _).2 (.inr ⟨⟨c,hc,.inr rfl⟩,by omega⟩)⟩
 have hst:Stp m (joinF (fC a) (fC b)):=by
  refine⟨fun s hs=>?_,fun s hs=>htell.none hs⟩
  unfold joinF
  rw[ha.step hma s hs,hb.step hmb s hs]
 rcases Nat.eq_zero_or_pos m.length with hm0|hpos
 ·have hm0':m=[]:=List.length_eq_zero_iff.1 hm0
  subst hm0'
  refine Rn.bn (P:=fun r=>r=[]) (Rn.iter _ (fun j y=>y=((0:Int),([]:List Claim))∧j=0) 0 (by unfold big;omega) ⟨rfl,rfl⟩ fun j y hj hI=>?_) fun r h=>?_
  ·obtain⟨rfl,rfl⟩:=hI
   exact Rn.lt (Rn.lt (Rn.lt (Rn.ite (fun h=>absurd h (by decide)) fun _=>Rn.some rfl)))
  ·subst h
   exact Rn.chk rfl (Rn.some hst.none)
 refine Rn.bn (P:=fun r=>FinP (r.map cP) (joinF (fC a) (fC b))∧r.length≤m.length) (Rn.iter _ (fun j y=>∃ out:List Claim,y=((j:Int),out)∧out.length≤j∧∃ h:j<m.length,BdP m[j] (out.map cP) (joinF (fC a) (fC b))) m.length (by unfold big;omega) ⟨[],rfl,by simp,hpos,hst.first t1 hpos⟩ fun j y hj hI=>?_) fun r h=>Rn.chk (by have:=h.2;simp[room];omega) (Rn.some h.1)
 obtain⟨out,rfl,o1,hjm,o3⟩:=hI
 refine Rn.lt (Rn.lt (Rn.lt ?_))
 rw[Am (by omega) (by omega),BA]
 refine Rn.ite (fun hd=>?_) fun hd=>?_
 ·have hj1:j+1<m.length:=by
   have:=of_decide_eq_true (p:=((j:Int)+1<(m.length:Int))) hd
   omega
  have hn0:nth m (j:Int)=some m[j]:=AC hjm
  have hn1:nth m ((j:Int)+1)=some m[j+1]:=AC (i:=j+1) hj1
  have hm0:=t1.2 _ (List.getElem_mem hjm)
  have hm1:=t1.2 _ (List.getElem_mem hj1)
  obtain⟨g1,g2⟩:=hst.next t1 hj1 o3
  have hout:=o3.rng fun s hs=>htell.none (.inl hs)
  refine Rn.bn (P:=fun o=>o.length≤j+1∧BdP m[j+1] (o.map cP) (joinF (fC a) (fC b))) ?_ fun o ho=>Rn.lt (Rn.some ⟨by omega,o,?_,ho.1,hj1,ho.2⟩)
  ·refine Rn.bnE hn0 (Rn.bnE (Ha a _ (by omega)) (Rn.bnE (Ha b _ (by omega)) ?_))
   have hj:=JJ (ha.tells.okV m[j]) (hb.tells.okV m[j])
   have hok:=Jw (ha.tells.okV m[j]) (hb.tells.okV m[j])
   have hF:joinF (fC a) (fC b) m[j]=joinV (fC a m[j]) (fC b m[j]):=rfl
   rw[hF] at g1 g2
   generalize (fC a m[j]).getD (-1,0)=u at hj
   generalize (fC b m[j]).getD (-1,0)=v at hj
   generalize joinV (fC a m[j]) (fC b m[j])=w at hj hok g1 g2
   refine Rn.bnE (v:=w.getD (-1,0)) ?_ ?_
   ·rw[← hj]
    refine Rn.eqv (Rn.bnE (v:=decide (u.2<v.2∨(v.2=u.2∧u.1<v.1))) ?_ (Rn.lt (Rn.ite (fun h=>Rn.some ?_) fun h=>Rn.some ?_)))
    ·simp only[Av]
     rcases Int.lt_trichotomy u.2 v.2 with h|h|h
     ·rw[gt_t h,AF]
      simp[h]
     ·rw[gt_f (by omega),AT,eq_t h.symm,AF]
      simp[h,gtI]
     ·rw[gt_f (by omega),AT,eq_f (by omega),AT]
      have e1:¬ u.2<v.2:=by omega
      have e2:¬ v.2=u.2:=by omega
      simp[e1,e2]
    ·rw[if_pos (of_decide_eq_true h)]
    ·rw[if_neg (of_decide_eq_false h)]
   ·cases w with
    |none=>exact Rn.lt (Rn.ite (fun h=>absurd h (by decide)) fun _=>Rn.some ⟨Nat.le_succ_of_le o1,g1 rfl⟩)
    |some w =>
     have hw:=hok w rfl
     refine Rn.lt ?_
     rw[show ((some w:Option (Int×Int)).getD (-1,0))=w from rfl,ge_t hw.1]
     refine Rn.ite (fun _=>Rn.bnE hn0 (Rn.lt (Rn.bnE hn1 (Rn.lt ?_)))) fun h=>by simp at h
     rw[Ap (by omega) (by omega)]
     refine Rn.bn (Ie (show out.length≤1000000 by omega) (fun x hx=>by have:=hout x hx;unfold inB;omega) (by unfold inB;show _∧_;simp only;omega)) fun o ho=>Rn.some ?_
     have p3:BdP m[j+1] (o.map cP) (joinF (fC a) (fC b)):=by rw[ho.1];exact g2 w rfl
     exact⟨by have:=ho.2;have:=o1;simp only at *;omega,p3⟩
  ·rfl
 ·have hj1:m.length≤j+1:=by
   have:=of_decide_eq_false (p:=((j:Int)+1<(m.length:Int))) hd
   omega
  exact Rn.some ⟨hst.last t1 hjm hj1 o3,show out.length≤m.length by omega⟩
end Go.Proofs.Ythjenkmbbnjcnaa
namespace Go.Proofs.Ythjenkmbbnjcnaa
open Go Go.RowKit
theorem Kg {a:List Claim} (ha:GoodC a) (t:Int):(∃ n e ok,Ck big a t=some (n,e,ok)∧ok=decide (0≤((fC a t).getD (-1,0)).1)∧n=max 0 ((fC a t).getD (-1,0)).1∧e=((fC a t).getD (-1,0)).2):=by
 rw[KJ a t (by have:=ha.len;omega)]
 cases hf:fC a t with
 |none=>exact⟨0,0,false,rfl,rfl,rfl,rfl⟩
 |some v =>
  have:=(ha.tells t v hf).2
  refine⟨v.1,v.2,true,rfl,?_,?_,rfl⟩
  ·show true=decide (0≤v.1)
   rw[decide_eq_true this.1]
  ·show v.1=max 0 v.1
   omega
theorem JK {f:Int→Option (Int×Int)} {j k:List Claim} (ht:Tells f) (h1:FinP (j.map cP) f) (h2:FinP (k.map cP) f):Bc big j k=some true :=
 Ig (h1.good ht) (h2.good ht) fun t=>by rw[show fC j t=f t from h1.2 t,show fC k t=f t from h2.2 t]
theorem MayC.of {l:List Claim} (h:GoodC l) (hv:∀ t v,fC l t=some v→v.1<8∧v.2≤9007199254740992):MayC l:=by
 refine⟨fun c hc hb=>?_,fun i b c g1 g2 hb=>?_⟩
 ·have h1:=h.2 c hc
  have h2:=hv c.frm (c.node,c.epoch) ((h.iff _ _).2 ⟨c,hc,by omega,rfl⟩)
  unfold badC at hb
  simp only at h2
  omega
 ·have:∀ (l:List Claim) (i:Nat),canP (l.map cP)→l[i]?=some b→l[i+1]?=some c→¬ bad2 b c:=by
   intro l
   induction l with
   |nil=>intro i _ h;simp at h
   |cons x l ih =>
    intro i h g1 g2
    cases i with
    |zero =>
     cases l with
     |nil=>simp at g2
     |cons y l =>
      have e1:x=b:=by simpa using g1
      have e2:y=c:=by simpa using g2
      subst e1 e2
      obtain⟨-,p2,p3,-⟩:=h
      unfold bad2
      rintro (q|q)
      ·have:x.to<y.frm:=p2
       omega
      ·exact p3 q
    |succ i=>exact ih i (canP.tail h) (by simpa using g1) (by simpa using g2)
  exact this l i h.1 g1 g2 hb
theorem HK {a:List Claim} (ha:GoodC a) (hl:a.length≤sortMost) (h8:∀ c∈a,c.node<8):Rn (BU big a) fun r=>Rn (Cf big a) fun s=>Dp big r s=some true:=by
 refine (IH hl).mono fun r hr=>(HJ (by unfold sortMost at hl;omega)).mono fun s hs=>?_
 have e:r=s:=GW hr.1 hs.1 fun x=>by
  rw[hr.2.1 x,hs.2 x]
  constructor
  ·rintro⟨c,hc,rfl⟩
   have:=ha.2 c hc
   exact⟨⟨by omega,h8 c hc⟩,c,hc,rfl⟩
  ·exact fun h=>h.2
 subst e
 exact Jf r (by have:=hr.2.2;omega)
theorem IJ {a:List Claim} {nd:Int} (ha:GoodC a) (hl:a.length≤200):Rn (B4 big a nd) fun r=>Rn (CG big a nd) fun s=>B5 big r s=some true:=by
 refine (JC ha hl).mono fun r hr=>(II ha hl).mono fun s hs=>?_
 have e:r=s:=hr.1.ext hs fun t=>Iff.rfl
 subst e
 exact IG r (by have:=hr.2;omega)
theorem Jh {a b:List Claim} (ha:GoodC a) (hb:GoodC b):Rn (BY big a b) fun r=>(GoodC r∧∀ t,fC r t=joinV (fC a t) (fC b t))∧Rn (C1 big a b) fun s=>Bc big r s=some true:=by
 refine (J6 ha hb).mono fun r hr=>⟨⟨hr.good (Ee ha.tells hb.tells),hr.2⟩,(Jg ha hb).mono fun s hs=>?_⟩
 exact JK (Ee ha.tells hb.tells) hr hs
theorem Ji {a:List Claim} {l:List Span} {nd ep:Int} (ha:GoodC a) (hl:SortableS l) (h1:0≤nd) (h2:1≤ep):Rn (BX big a l nd ep) fun r=>(GoodC r∧∀ t,fC r t=giveF (fC a) (inS l) (nd,ep) t)∧Rn (B9 big a l nd ep) fun s=>Bc big r s=some true:=by
 refine (IC ha hl h1 h2).mono fun r hr=>⟨hr,(FV ha hl h1 h2).mono fun s hs=>?_⟩
 exact Ig hr.1 hs.1 fun t=>by rw[hr.2 t,hs.2.1 t]
theorem G7 (xs bs ss:List Int) (nd ep sl:Int) (g1:rngH xs) (g2:rngH bs) (g3:rngH ss) (g4:0≤nd∧nd≤255) (g5:0≤ep∧ep≤255) (g6:0≤sl∧sl≤65535):CB big xs bs ss nd ep sl=some true:=by
 refine Rn.eqv ?_
 unfold CB
 refine Rn.bn (P:=fun y=>y=false→xs.length≤60∧bs.length≤60∧ss.length≤30) ?_ fun y hy=>Rn.lt (Rn.ite (fun _=>Rn.bnE Gm (Rn.some rfl)) fun hf=>?_)
 ·refine Rn.lt (Rn.lt (Rn.ite (fun h=>Rn.some (by simp)) fun a1=>Rn.lt (Rn.lt (Rn.ite (fun h=>Rn.some (by simp)) fun a2=>Rn.lt (Rn.lt (Rn.some fun a3=>?_))))))
  have b1:=of_decide_eq_false (p:=(60:Int)<(xs.length:Int)) a1
  have b2:=of_decide_eq_false (p:=(60:Int)<(bs.length:Int)) a2
  have b3:=of_decide_eq_false (p:=(30:Int)<(ss.length:Int)) a3
  omega
 obtain⟨l1,l2,l3⟩:=hy hf
 refine Rn.bn (HE g1 l1) fun a ha=>Rn.bn (HE g2 l2) fun b hb=>Rn.bn (GQ g3 (by omega)) fun s hs=>Rn.lt ?_
 have hss:SortableS s:=⟨by omega,.inl (by unfold sortMost;omega)⟩
 rw[DV (by omega) (by omega)]
 refine Rn.bnE (vrem g6.1 (by omega)) ?_
 obtain⟨k,ek⟩:∃ k,k=sl % 16384:=⟨_,rfl⟩
 rw[← ek]
 have ga:=ha.good
 have fa:=ha.few
 obtain⟨n,e,ok,h0,h1,h2,h3⟩:=Kg ga k
 refine Rn.bnE h0 (Rn.bnE (Ha a k (by omega)) ?_)
 refine Rn.bn (Jh ga hb.good) fun j hj=>Rn.lt ?_
 rw[DV (by omega) (by omega)]
 refine Rn.bnE (vrem g4.1 (by omega)) (Rn.lt (Rn.lt ?_))
 rw[DV (show -9223372036854775808≤ep by omega) (by omega),Am (by omega) (by omega)]
 obtain⟨q,eq⟩:∃ q,q=nd % 8:=⟨_,rfl⟩
 rw[← eq]
 refine Rn.bn (Ji ga hss (show 0≤q by omega) (show (1:Int)≤1+ep by omega)) fun g hg=>?_
 refine Rn.bn (P:=fun y=>y=true) ?_ fun y hy=>Rn.some hy
 refine Rn.lt ?_
 rw[show geI ((fC a k).getD (-1,0)).1 0=ok by rw[h1];rfl]
 refine Rn.lt ?_
 rw[show eqB ok ok=true by simp[eqB]]
 refine Rn.ite (fun _=>Rn.lt (Rn.lt ?_)) fun h=>by cases h
 rw[show eqI n (maxI 0 ((fC a k).getD (-1,0)).1)=true by rw[h2];simp[eqI,maxI]]
 refine Rn.ite (fun _=>Rn.lt ?_) fun h=>by cases h
 rw[show eqI e ((fC a k).getD (-1,0)).2=true by rw[h3];simp[eqI]]
 refine Rn.ite (fun _=>?_) fun h=>by cases h
 refine Rn.bn hj.2 fun x hx=>Rn.bnE hx (Rn.ite (fun _=>?_) fun h=>by cases h)
 refine Rn.bn hg.2 fun x hx=>Rn.bnE hx (Rn.ite (fun _=>?_) fun h=>by cases h)
 have hlow:∀ {t:Int} {v:Int×Int},fC a t=some v→v.1<8∧v.2≤9007199254740992:=fun h=>by have:=ha.low _ _ h;omega
 have hlowb:∀ {t:Int} {v:Int×Int},fC b t=some v→v.1<8∧v.2≤9007199254740992:=fun h=>by have:=hb.low _ _ h;omega
 have jlen:=hj.1.1.len
 have glen:=hg.1.1.len
 have hmay:∀ {l:List Claim},GoodC l→(∀ t v,fC l t=some v→v.1<8∧v.2≤9007199254740992)→BV big l=some true:=by
  intro l h1 h2
  obtain⟨x,e1,i1⟩:=Kf l (by have:=h1.len;omega)
  rw[e1,i1.2 (MayC.of h1 h2)]
 refine Rn.bnE (hmay ga fun t v h=>hlow h) (Rn.ite (fun _=>?_) fun h=>by cases h)
 refine Rn.bnE (hmay hj.1.1 fun t v h=>?_) (Rn.ite (fun _=>?_) fun h=>by cases h)
 ·rw[hj.1.2 t] at h
  rcases (Gl (fC a t) (fC b t)).1 with e|e
  ·rw[e] at h;exact hlow h
  ·rw[e] at h;exact hlowb h
 refine Rn.bnE (hmay hg.1.1 fun t v h=>?_) (Rn.ite (fun _=>?_) fun h=>by cases h)
 ·rw[hg.1.2 t] at h
  unfold giveF at h
  split at h
  ·have:=Option.some.inj h
   subst this
   exact⟨by simp only;omega,by simp only;omega⟩
  ·exact hlow h
 refine Rn.bnE (vrem g4.1 (by omega)) ?_
 refine Rn.bn (IJ ga (by omega)) fun o ho=>Rn.bn ho fun p hp=>Rn.bnE hp (Rn.ite (fun _=>?_) fun h=>by cases h)
 refine Rn.bn (HK ga (by unfold sortMost;omega) fun c hc=>?_) fun o ho=>Rn.bn ho fun p hp=>Rn.bnE hp (Rn.ite (fun _=>Rn.bnE Gm (Rn.some rfl)) fun h=>by cases h)
 have h4:=ga.2 c hc
 exact (hlow ((ga.iff c.frm (c.node,c.epoch)).2 ⟨c,hc,by omega,rfl⟩)).1
end Go.Proofs.Ythjenkmbbnjcnaa
namespace Go.Proofs.Ythjenkmbbnjcnaa
open Go Go.RowKit
set_option maxRecDepth 100000
section
variable {P:Program} {n t:Nat} {ts:List T}
theorem WfT.bool (hu:P.underlying t=some .bool) (h:WfT P (n+1) t ts):∃ b,ts=[.v (.bool b)]:=by rw[WfT,hu] at h;exact h
theorem WfT.int {k:IntKind} (hu:P.underlying t=some (.int k)) (h:WfT P (n+1) t ts):∃ i,ts=[.v (.int k i)]∧(Lit.int k i).wf=true:=by rw[WfT,hu] at h;exact h
theorem WfT.slice {e:Nat} (hu:P.underlying t=some (.slice e)) (h:WfT P (n+1) t ts):∃ es,ts=[.sl (P.cellsOf e) es]∧es.length*P.bytesOf e≤reachBytes∧∀ x∈es,WfT P n e x:=by rw[WfT,hu] at h;exact h
theorem WfT.struct {fs:Array Go.Field} (hu:P.underlying t=some (.struct fs)) (h:WfT P (n+1) t ts):∃ ps:List (List T),ts=ps.flatten∧All2 (fun p f=>WfT P n f p) ps (fs.toList.map (·.type)):=by rw[WfT,hu] at h;exact h
end
theorem All2.cons_r {α β:Type} {R:α→β→Prop} {l:List α} {b:β} {bs:List β} (h:All2 R l (b::bs)):∃ x xs,l=x::xs∧R x b∧All2 R xs bs:=by
 cases l with
 |nil=>exact h.elim
 |cons x xs=>exact⟨x,xs,rfl,h⟩
theorem All2.nil_r {α β:Type} {R:α→β→Prop} {l:List α} (h:All2 R l ([]:List β)):l=[]:=by
 cases l with
 |nil=>rfl
 |cons x xs=>exact h.elim
def rngI (i:Int):Prop:=-9223372036854775808≤i∧i≤9223372036854775807
theorem Ii {α:Type} {enc:List α→List (List T)} {R:List T→Prop} {rng:α→Prop} (hn:enc []=[]) (hc:∀ x l,enc (x::l)=enc [x]++enc l) (h1:∀ e,R e→∃ x,enc [x]=[e]∧rng x) :
  ∀ es,(∀ x∈es,R x)→∃ l,es=enc l∧∀ x∈l,rng x
 |[],_=>⟨[],hn.symm,fun x h=>by cases h⟩
 |e::es,h=>by
  obtain⟨x,hx,rx⟩:=h1 e (h e (by simp))
  obtain⟨l,rfl,rl⟩:=Ii hn hc h1 es fun y hy=>h y (by simp[hy])
  refine⟨x::l,by rw[hc,hx];rfl,?_⟩
  intro y hy
  rcases List.mem_cons.1 hy with rfl|hy
  ·exact rx
  ·exact rl y hy
def rngU (i:Int):Prop:=0≤i∧i≤255
theorem Ij {i:Int} (h:(Lit.int .u8 i).wf=true):rngU i:=by
 have h':=(Bool.and_eq_true _ _ ▸ h:_∧_)
 exact⟨of_decide_eq_true h'.1,of_decide_eq_true h'.2⟩
def rngField (x:Field):Prop:=True
def rngItem (x:Item):Prop:=(rngI x.kind)∧(x.f.length≤4398046510976∧∀ y∈x.f,rngField y)∧(x.l.length≤8796093021952)∧(rngI x.exp)
def rngPair (x:Pair):Prop:=(rngItem x.item)
def rngEffect (x:Effect):Prop:=(rngItem x.item)
def rngRid (x:Rid):Prop:=(rngI x.node)∧(rngI x.epoch)
def rngFeed (x:Feed):Prop:=(rngRid x.rid)∧(rngI x.off)∧(x.back.length≤1353245080300∧∀ y∈x.back,rngEffect y)∧(rngRid x.prev)∧(rngI x.upto)
def rngClaim (x:Claim):Prop:=(rngI x.frm)∧(rngI x.to)∧(rngI x.node)∧(rngI x.epoch)
def rngMsg (x:Msg):Prop:=(rngI x.kind)∧(rngI x.frm)∧(rngI x.to)∧(rngI x.epoch)∧(x.claims.length≤4398046510976∧∀ y∈x.claims,rngClaim y)∧(x.nodes.length≤17592186043904∧∀ y∈x.nodes,rngI y)∧(rngI x.node)∧(rngI x.slot)∧(rngI x.num)∧(rngRid x.rid)∧(rngRid x.prev)∧(rngI x.off)∧(x.effects.length≤1353245080300∧∀ y∈x.effects,rngEffect y)
end Go.Proofs.Ythjenkmbbnjcnaa
namespace Go.Proofs.Ythjenkmbbnjcnaa
open Go Go.RowKit
open Go.ChangeShapes Go.WideShapes Go.ChangeAt Go.RowKit
theorem Try.own:ownKnob Try.prog.godebug=none:=by kernel_rfl
theorem Try.laidOut:laidOutB Try.prog=true:=by kernel_rfl
end Go.Proofs.Ythjenkmbbnjcnaa
namespace Go.Proofs.Ythjenkmbbnjcnaa
open Go Go.RowKit
set_option maxRecDepth 100000
def rngH1 (i:Int):Prop:=0≤i∧i≤65535
theorem Kh {i:Int} (h:(Lit.int .u16 i).wf=true):rngH1 i:=by
 have h':=(Bool.and_eq_true _ _ ▸ h:_∧_)
 exact⟨of_decide_eq_true h'.1,of_decide_eq_true h'.2⟩
theorem wf_H (n:Nat) (e:List T) (h:WfT Try.prog (n+1) 33 e):∃ x:Int,encIu16 [x]=[e]∧rngH1 x:=by
 obtain⟨f,rfl,h2⟩:=WfT.int (t:=33) Try.underlying33 h
 have h':=(Bool.and_eq_true _ _ ▸ h2:_∧_)
 have h1:=of_decide_eq_true h'.1
 have h2:=of_decide_eq_true h'.2
 exact⟨f,rfl,h1,h2⟩
theorem IK {n:Nat} {es:List (List T)} (h:∀ x∈es,WfT Try.prog (n+1) 33 x):∃ l:List Int,es=encIu16 l∧∀ x∈l,rngH1 x :=
 Ii (enc:=encIu16) (R:=fun e=>WfT Try.prog (n+1) 33 e) (rng:=rngH1) rfl (fun _ _=>rfl) (@wf_H n) es h
end Go.Proofs.Ythjenkmbbnjcnaa
