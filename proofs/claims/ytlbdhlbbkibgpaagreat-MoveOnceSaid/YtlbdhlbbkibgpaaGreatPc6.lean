/- Part 6 of the proof. -/
import Derived.Test.YtlbdhlbbkibgpaaGreatPc5
import Derived.Test.YtlbdhlbbkibgpaaGreatRows
import Derived.ProofKit
set_option linter.unusedVariables false
set_option linter.unusedSimpArgs false
set_option linter.constructorNameAsVariable false
set_option maxRecDepth 8000
set_option maxHeartbeats 8000000
namespace Go.Proofs.YtlbdhlbbkibgpaaGreat
open Go Go.RowKit
theorem gtT {a b:Int} (h:b<a):gtI a b=true:=decide_eq_true h
theorem gtF {a b:Int} (h:¬ b<a):gtI a b=false:=decide_eq_false h
theorem OT {a b:Int}:gtI a b=false↔a≤b:=⟨Oe,fun h=>gtF (by omega)⟩
theorem OU {a b:Int}:ltI a b=false↔b≤a:=⟨fun h=>DH h,fun h=>A5 (by omega)⟩
theorem OV {a b:Int}:leI a b=true↔a≤b:=⟨fun h=>leI_d h,fun h=>decide_eq_true h⟩
theorem OW {a b:Int}:geI a b=true↔b≤a:=⟨fun h=>geI_d h,fun h=>decide_eq_true h⟩
theorem G9 {s:ByteArray} (h:¬ s.size≤300):gtI (lenS s) 300=true:=gtT (by simp only[lenS];omega)
theorem F2 {s:ByteArray} (h:s.size≤300):gtI (lenS s) 300=false:=gtF (by simp only[lenS];omega)
theorem allN {ρ:Type} (n:Nat) (hn:n<big) (ok:Nat→Prop) (r:ρ) (f:Int→Option (Int ⊕ (Unit ⊕ ρ))) (h1:∀ i,i<n→ok i→f (i:Int)=some (.inl ((i+1:Nat):Int)))
  (h2:∀ i,i<n→¬ ok i→f (i:Int)=some (.inr (.inr r))) (he:f (n:Int)=some (.inr (.inl ()))):Rn (iter big f 0) fun y=>(y=.inl ()∧∀ i,i<n→ok i)∨(y=.inr r∧∃ i,i<n∧¬ ok i):=by
 refine Rn.iter _ (fun q a=>a=(q:Int)∧∀ i,i<q→ok i) n hn ⟨rfl,fun i h=>by omega⟩ fun q a hq hI=>?_
 obtain⟨rfl,hI⟩:=hI
 by_cases hl:q<n
 ·by_cases h:ok q
  ·rw[h1 q hl h]
   refine⟨_,rfl,hl,rfl,fun i hi=>?_⟩
   by_cases hiq:i=q
   ·subst hiq;exact h
   ·exact hI i (by omega)
  ·rw[h2 q hl h]
   exact⟨_,rfl,.inr ⟨rfl,q,hl,h⟩⟩
 ·obtain rfl:q=n:=by omega
  rw[he]
  exact⟨_,rfl,.inl ⟨rfl,hI⟩⟩
def risesAt {α:Type} (key:α→ByteArray) (l:List α) (i:Nat):Prop:=∀ (h:0<i) (hi:i<l.length),slt (key l[i - 1]) (key l[i])=true
def rises {α:Type} (key:α→ByteArray) (l:List α):Prop:=l.Pairwise fun a b=>slt (key a) (key b)=true
theorem Je {α:Type} (key:α→ByteArray) (l:List α):rises key l↔∀ i,i<l.length→risesAt key l i:=by
 constructor
 ·intro h i hi h0 hi2
  exact List.pairwise_iff_getElem.1 h (i - 1) i (by omega) hi2 (by omega)
 ·intro h
  refine List.pairwise_iff_getElem.2 fun i j hi hj hij=>?_
  obtain⟨d,rfl⟩:∃ d,j=i+1+d:=⟨j - (i+1),by omega⟩
  clear hij
  induction d with
  |zero=>exact h (i+1) hj (by omega) hj
  |succ d ih=>exact C3 (ih (by omega)) (h (i+1+(d+1)) hj (by omega) hj)
def okFld (x:Field):Prop:=x.name.size≤300∧x.val.size≤300
def shapeI (it:Item):Prop:=(it.kind=1∧it.f=[]∧it.l=[])∨(it.kind=2∧it.s=⟨#[]⟩∧it.l=[]∧it.f≠[])∨((it.kind=3∨it.kind=4)∧it.s=⟨#[]⟩∧it.f=[]∧it.l≠[])
def sizesI (it:Item):Prop:=it.s.size≤300∧(∀ x∈it.f,okFld x)∧∀ x∈it.l,x.size≤300
def mayI (it:Item):Prop:=shapeI it∧sizesI it∧it.f.length≤40∧it.l.length≤40∧0≤it.exp∧it.exp≤9007199254740992∧rises (fun x:Field=>x.name) it.f∧(it.kind=4→rises (fun x=>x) it.l)
theorem len0 {α:Type} (l:List α):eqI (lenI l) 0=decide (l=[]):=by
 cases l with
 |nil=>rfl
 |cons x l=>rw[decide_eq_false (by simp)];exact decide_eq_false (by simp only[lenI,List.length_cons];omega)
theorem risingLoop {α:Type} (key:α→ByteArray) (l:List α) (hl:l.length≤140737488355328) :
  Rn (bn (lt (lenI l) fun v2=>bn (iter big (fun (y3:Int×Bool×ByteArray)=>lt (ltI y3.1 v2) fun v6=>ite' v6 (bn (nth l y3.1) fun v7=>bn (bn (lt (notB y3.2.1) fun v10=>ite' v10 (lt (leS (key v7) y3.2.2) fun v11=>some (v11)) (some (false))) fun (y9:Bool)=>lt (y9) fun v12=>ite' v12 (some (.inr ())) (some (.inl ()))) fun (y8:Unit ⊕ Unit) =>
   sm y8 (fun y13=>lt (addI .i64 y3.1 1) fun v15=>some (.inl (v15,false,key v7))) (fun y14=>some (.inr (.inr (y3.2.1,y3.2.2))))) (some (.inr (.inl (y3.2.1,y3.2.2))))) (0,true,⟨#[]⟩)) fun (y4:(Bool×ByteArray) ⊕ (Bool×ByteArray))=>sm y4 (fun y16=>some (.inl ())) (fun y17=>some (.inr false))) fun (y1:Unit ⊕ Bool)=>sm y1 (fun y18=>some true) (fun y19=>some y19))
   fun b=>(b=true↔rises key l):=by
 refine Rn.bn (P:=fun y=>(y=.inl ()∧rises key l)∨(y=.inr false∧¬ rises key l)) ?_ fun y hy=>?_
 ·refine Rn.lt (Rn.bn (P:=fun y=>(∃ z,y=.inl z∧rises key l)∨(∃ z,y=.inr z∧¬ rises key l)) (Rn.iter _ (fun q a=>a.1=(q:Int)∧(a.2.1=true↔q=0)∧(∀ (h:0<q) (hq:q - 1<l.length),a.2.2=key l[q - 1])∧∀ i,i<q→risesAt key l i) l.length (by unfold big;omega) ⟨rfl,by simp,fun h=>by omega,fun i h=>by omega⟩ fun q a hq hI=>?_) fun y hy=>?_)
  ·obtain⟨i,first,ahead⟩:=a
   obtain⟨rfl,h1,h2,h3⟩:=hI
   simp only at h1 h2
   simp only[Ai,Af,Al,Am,Ak,Aj,Ag,Option.some.injEq]
   by_cases hl2:q<l.length
   ·rw[A4 (by omega),Aq hl2]
    simp only[Ai,Af,Al,Am,Ak,Aj,Ag,Option.some.injEq]
    by_cases hr:risesAt key l q
    ·have e:ite' (notB first) (some (leS (key l[q]) ahead)) (some false)=some false:=by
      cases first
      ·have hq0:0<q:=by
        apply Nat.pos_of_ne_zero
        intro h
        simpa using h1.2 h
       rw[h2 hq0 (by omega),GD,Al]
       simp[leS,hr hq0 hl2]
      ·rfl
     rw[e]
     simp only[Ai,Af,Al,Am,Ak,Aj,Ag,Option.some.injEq]
     refine⟨_,rfl,hl2,?_,by simp,fun _ _=>by simp,fun i hi=>?_⟩
     ·rw[Ar (by omega) (by omega)];omega
     ·by_cases hiq:i=q
      ·subst hiq;exact hr
      ·exact h3 i (by omega)
    ·have hq0:0<q:=by
      apply Nat.pos_of_ne_zero
      intro h
      exact hr fun h0=>by omega
     have hf:first=false:=by
      cases first
      ·rfl
      ·have:=h1.1 rfl
       omega
     subst hf
     have hn:slt (key l[q - 1]) (key l[q])=false:=by
      cases h:slt (key l[q - 1]) (key l[q])
      ·rfl
      ·exact absurd (fun _ _=>h) hr
     rw[h2 hq0 (by omega),GD,Al]
     simp only[leS,hn,Ai,Af,Al,Am,Ak,Aj,Ag,Option.some.injEq,Bool.not_false]
     exact⟨_,rfl,.inr ⟨_,rfl,fun h=>hr ((Je key l).1 h q hl2)⟩⟩
   ·obtain rfl:q=l.length:=by omega
    rw[A5 (by omega)]
    exact⟨_,rfl,.inl ⟨_,rfl,(Je key l).2 h3⟩⟩
  ·rcases hy with ⟨z,rfl,h⟩|⟨z,rfl,h⟩
   ·exact⟨_,rfl,.inl ⟨rfl,h⟩⟩
   ·exact⟨_,rfl,.inr ⟨rfl,h⟩⟩
 ·rcases hy with ⟨rfl,h⟩|⟨rfl,h⟩
  ·exact⟨_,rfl,by simp[h]⟩
  ·exact⟨_,rfl,by simp[h]⟩
theorem NY (l:List Field) (hl:l.length≤140737488355328):Rn (Di big l) fun b=>(b=true↔rises (fun x:Field=>x.name) l):=risingLoop (fun x:Field=>x.name) l hl
theorem NZ (l:List ByteArray) (hl:l.length≤140737488355328):Rn (B4 big l) fun b=>(b=true↔rises (fun x=>x) l):=risingLoop (fun x=>x) l hl
def shapeP (it:Item):Prop:=shapeI it∧it.f.length≤40∧it.l.length≤40∧rises (fun x:Field=>x.name) it.f∧(it.kind=4→rises (fun x=>x) it.l)
theorem IO {α:Type} (l:List α):B0 big (lenI l)=some (decide (l≠[]∧l.length≤40)):=by
 unfold B0
 simp only[Ai,OM,Af]
 congr 1
 rw[Bool.eq_iff_iff]
 simp only[Bool.and_eq_true,decide_eq_true_eq,OV,OW,lenI]
 cases l with
 |nil=>simp
 |cons x l =>
  simp only[List.length_cons,ne_eq,reduceCtorEq,not_false_eq_true,true_and]
  constructor
  ·rintro⟨-,h⟩
   omega
  ·intro h
   omega
theorem GT {α:Type} (key:α→ByteArray):rises key []:=.nil
theorem Mx (it:Item) (ho:okI it):Rn (Cs big it) fun b=>(b=true↔shapeP it):=by
 unfold Cs
 obtain⟨o1,o2⟩:=ho
 refine Rn.lt (Rn.ite (fun h1=>?_) (fun h1=>Rn.lt (Rn.ite (fun h2=>?_) (fun h2=>Rn.lt (Rn.ite (fun h3=>?_) (fun h3=>Rn.lt (Rn.ite (fun h4=>?_) (fun h4=>?_))))))))
 ·have h1:it.kind=1:=by simpa [eqI] using h1
  refine Rn.lt (Rn.lt (Rn.lt (Rn.lt (Rn.some ?_))))
  simp only[lenI]
  rw[Ar (by omega) (by omega)]
  unfold shapeP shapeI
  simp only[h1,eqI,decide_eq_true_eq]
  constructor
  ·intro h
   have hf:it.f=[]:=List.length_eq_zero_iff.1 (by omega)
   have hl:it.l=[]:=List.length_eq_zero_iff.1 (by omega)
   simp[hf,hl,GT]
  ·intro h
   simp at h
   simp[h.1]
 ·have h2:it.kind=2:=by simpa [eqI] using h2
  refine Rn.bn (P:=fun b=>(b=true↔shapeP it)) ?_ fun b hb=>Rn.some hb
  refine Rn.lt (Rn.ite (fun hs=>?_) (fun hs=>Rn.some ?_))
  rotate_left
  ·have hs:it.s≠⟨#[]⟩:=by simpa [eqS] using hs
   simp[shapeP,shapeI,h2,hs]
  have hs:it.s=⟨#[]⟩:=by simpa [eqS] using hs
  refine Rn.lt (Rn.lt ?_)
  rw[len0]
  refine Rn.ite (fun hl=>?_) (fun hl=>Rn.some ?_)
  rotate_left
  ·have hl:it.l≠[]:=by simpa using hl
   simp[shapeP,shapeI,h2,hl]
  have hl:it.l=[]:=by simpa using hl
  refine Rn.lt (Rn.bnE (IO it.f) (Rn.ite (fun hf=>?_) (fun hf=>Rn.some ?_)))
  rotate_left
  ·have hf:¬ (it.f≠[]∧it.f.length≤40):=of_decide_eq_false hf
   unfold shapeP shapeI
   simp only[h2,hs,hl]
   constructor
   ·intro h;simp at h
   ·rintro⟨h,h',-⟩
    simp at h
    exact absurd ⟨h,h'⟩ hf
  have hf:it.f≠[]∧it.f.length≤40:=of_decide_eq_true hf
  unfold DF
  refine Rn.bnE rfl (Rn.bn (NY it.f (by omega)) fun b hb=>Rn.some (hb.trans ?_))
  unfold shapeP shapeI
  simp[h2,hs,hl,hf.1,hf.2]
 ·have h3:it.kind=3:=by simpa [eqI] using h3
  refine Rn.bn (P:=fun b=>(b=true↔shapeP it)) ?_ fun b hb=>Rn.some hb
  refine Rn.lt (Rn.ite (fun hs=>?_) (fun hs=>Rn.some ?_))
  rotate_left
  ·have hs:it.s≠⟨#[]⟩:=by simpa [eqS] using hs
   simp[shapeP,shapeI,h3,hs]
  have hs:it.s=⟨#[]⟩:=by simpa [eqS] using hs
  refine Rn.lt (Rn.lt ?_)
  rw[len0]
  refine Rn.ite (fun hf=>?_) (fun hf=>Rn.some ?_)
  rotate_left
  ·have hf:it.f≠[]:=by simpa using hf
   simp[shapeP,shapeI,h3,hf]
  have hf:it.f=[]:=by simpa using hf
  refine Rn.lt (Rn.bnE (IO it.l) (Rn.some ?_))
  unfold shapeP shapeI
  simp[h3,hs,hf,GT]
 ·have h4:it.kind=4:=by simpa [eqI] using h4
  refine Rn.bn (P:=fun b=>(b=true↔shapeP it)) ?_ fun b hb=>Rn.some hb
  refine Rn.lt (Rn.ite (fun hs=>?_) (fun hs=>Rn.some ?_))
  rotate_left
  ·have hs:it.s≠⟨#[]⟩:=by simpa [eqS] using hs
   simp[shapeP,shapeI,h4,hs]
  have hs:it.s=⟨#[]⟩:=by simpa [eqS] using hs
  refine Rn.lt (Rn.lt ?_)
  rw[len0]
  refine Rn.ite (fun hf=>?_) (fun hf=>Rn.some ?_)
  rotate_left
  ·have hf:it.f≠[]:=by simpa using hf
   simp[shapeP,shapeI,h4,hf]
  have hf:it.f=[]:=by simpa using hf
  refine Rn.lt (Rn.bnE (IO it.l) (Rn.ite (fun hl=>?_) (fun hl=>Rn.some ?_)))
  rotate_left
  ·have hl:¬ (it.l≠[]∧it.l.length≤40):=of_decide_eq_false hl
   unfold shapeP shapeI
   simp only[h4,hs,hf]
   constructor
   ·intro h;simp at h
   ·rintro⟨h,-,h',-⟩
    simp at h
    exact absurd ⟨h,h'⟩ hl
  have hl:it.l≠[]∧it.l.length≤40:=of_decide_eq_true hl
  unfold Bt
  refine Rn.bnE rfl (Rn.bn (NZ it.l (by omega)) fun b hb=>Rn.some (hb.trans ?_))
  unfold shapeP shapeI
  simp[h4,hs,hf,hl.1,hl.2,GT]
 ·have h1:it.kind≠1:=by simpa [eqI] using h1
  have h2:it.kind≠2:=by simpa [eqI] using h2
  have h3:it.kind≠3:=by simpa [eqI] using h3
  have h4:it.kind≠4:=by simpa [eqI] using h4
  refine Rn.some ?_
  simp[shapeP,shapeI,h1,h2,h3,h4]
theorem KG (it:Item) (ho:okI it):Rn (Dy big it) fun b=>(b=true↔mayI it):=by
 unfold Dy
 refine Rn.bn (P:=fun b=>(b=false↔(shapeP it∧0≤it.exp∧it.exp≤9007199254740992))) ?_ fun b hb=>Rn.lt (Rn.ite (fun hd=>Rn.some ?_) (fun hd=>?_))
 ·obtain⟨v,hv,hv2⟩:=Mx it ho
  refine Rn.bnE hv ⟨_,by simp only[Ai,PE];rfl,?_⟩
  cases v
  ·have:¬ shapeP it:=fun h=>by simpa using hv2.2 h
   simp[notB,this]
  ·have:shapeP it:=hv2.1 rfl
   simp only[this,Cb,Bool.false_or,OT,OU,Bool.or_eq_false_iff,true_and]
 ·have hno:¬ mayI it:=fun h=>by
   have:=hb.2 ⟨⟨h.1,h.2.2.1,h.2.2.2.1,h.2.2.2.2.2.2⟩,h.2.2.2.2.1,h.2.2.2.2.2.1⟩
   rw[hd] at this
   simp at this
  simp[hno]
 ·obtain⟨⟨b1,b2,b3,b4⟩,b5,b6⟩:=hb.1 hd
  refine Rn.bn (P:=fun y=>(y=.inl ()∧sizesI it)∨(y=.inr false∧¬ sizesI it)) ?_ fun y hy=>?_
  rotate_left
  ·rcases hy with ⟨rfl,h⟩|⟨rfl,h⟩
   ·exact⟨_,rfl,fun _=>⟨b1,h,b2,b3,b5,b6,b4⟩,fun _=>rfl⟩
   ·have:¬ mayI it:=fun hm=>h hm.2.1
    exact⟨_,rfl,by simp[this]⟩
  unfold DG
  refine Rn.bnE rfl ?_
  by_cases hs:it.s.size≤300
  rotate_left
  ·have:¬ sizesI it:=fun h=>hs h.1
   refine⟨_,by simp only[Ai];rw[G9 (s:=it.s) (by omega)];rfl,.inr ⟨rfl,this⟩⟩
  simp only[Ai]
  rw[F2 (s:=it.s) (by omega)]
  simp only[Ai,Af,Al,Am,Ak,Aj,Ag,Option.some.injEq]
  refine Rn.bn (allN it.f.length (by unfold big;omega) (fun i=>(hi:i<it.f.length)→okFld it.f[i]) () _ (fun i hi hok=>?_) (fun i hi hok=>?_) ?_) fun y hy=>?_
  ·obtain⟨o1,o2⟩:=hok hi
   rw[A4 (by omega),Aq hi]
   simp only[Ai,Af,Al,Am,Ak,Aj,Ag,Option.some.injEq]
   rw[F2 (s:=it.f[i].name) (by omega),F2 (s:=it.f[i].val) (by omega)]
   simp only[Ai,Af,Al,Am,Ak,Aj,Ag,Option.some.injEq]
   rw[Ar (by omega) (by omega)]
   rfl
  ·rw[A4 (by omega),Aq hi]
   simp only[Ai,Af,Al,Am,Ak,Aj,Ag,Option.some.injEq]
   by_cases o1:it.f[i].name.size≤300
   ·by_cases o2:it.f[i].val.size≤300
    ·exact absurd (fun _=>⟨o1,o2⟩) hok
    ·rw[F2 (s:=it.f[i].name) (by omega),G9 (s:=it.f[i].val) (by omega)]
     rfl
   ·rw[G9 (s:=it.f[i].name) (by omega)]
    rfl
  ·rw[A5 (by omega)]
   rfl
  ·rcases hy with ⟨rfl,hy⟩|⟨rfl,i,hi,hy⟩
   rotate_left
   ·have:¬ sizesI it:=fun h=>hy fun _=>h.2.1 _ (List.getElem_mem hi)
    exact⟨_,rfl,.inr ⟨rfl,this⟩⟩
   simp only[Ai,Af,Al,Am,Ak,Aj,Ag,Option.some.injEq]
   refine Rn.bn (allN it.l.length (by unfold big;omega) (fun i=>(hi:i<it.l.length)→it.l[i].size≤300) () _ (fun i hi hok=>?_) (fun i hi hok=>?_) ?_) fun y hy2=>?_
   ·have o1:=hok hi
    rw[A4 (by omega),Aq hi]
    simp only[Ai,Af,Al,Am,Ak,Aj,Ag,Option.some.injEq]
    rw[F2 (s:=it.l[i]) (by omega)]
    simp only[Ai,Af,Al,Am,Ak,Aj,Ag,Option.some.injEq]
    rw[Ar (by omega) (by omega)]
    rfl
   ·rw[A4 (by omega),Aq hi]
    simp only[Ai,Af,Al,Am,Ak,Aj,Ag,Option.some.injEq]
    by_cases o1:it.l[i].size≤300
    ·exact absurd (fun _=>o1) hok
    ·rw[G9 (s:=it.l[i]) (by omega)]
     rfl
   ·rw[A5 (by omega)]
    rfl
   ·rcases hy2 with ⟨rfl,hy2⟩|⟨rfl,i,hi,hy2⟩
    ·refine⟨_,rfl,.inl ⟨rfl,hs,fun x hx=>?_,fun x hx=>?_⟩⟩
     ·obtain⟨i,hi,rfl⟩:=List.getElem_of_mem hx
      exact hy i hi hi
     ·obtain⟨i,hi,rfl⟩:=List.getElem_of_mem hx
      exact hy2 i hi hi
    ·have:¬ sizesI it:=fun h=>hy2 fun _=>h.2.2 _ (List.getElem_mem hi)
     exact⟨_,rfl,.inr ⟨rfl,this⟩⟩
def mayP (p:Pair):Prop:=p.key.size≤40∧mayI p.item
def mayS (l:List Pair):Prop:=(∀ p∈l,mayP p)∧SrtP l
end Go.Proofs.YtlbdhlbbkibgpaaGreat
namespace Go.Proofs.YtlbdhlbbkibgpaaGreat
open Go Go.RowKit
def SrtH (l:List Field):Prop:=rises (fun x:Field=>x.name) l
def applyH (l:List Field) (e:Field):List Field:=l.filter (fun p=>slt p.name e.name)++[e]++l.filter (fun p=>slt e.name p.name)
theorem GU {A B C:List Field} {e:Field} (hA:∀ a∈A,slt a.name e.name=true) (hC:∀ c∈C,slt e.name c.name=true) (hB:B=[]∨∃ x,B=[x]∧x.name=e.name):applyH (A++B++C) e=A++[e]++C:=by
 have hB1:∀ b∈B,slt b.name e.name=false:=fun b hb=>by
  rcases hB with rfl|⟨x,rfl,hx⟩
  ·simp at hb
  ·simp at hb;subst hb;rw[hx];exact BA _
 have hB2:∀ b∈B,slt e.name b.name=false:=fun b hb=>by
  rcases hB with rfl|⟨x,rfl,hx⟩
  ·simp at hb
  ·simp at hb;subst hb;rw[hx];exact BA _
 unfold applyH
 rw[List.filter_append,List.filter_append,List.filter_append,List.filter_append,FC hA,Da hB1,Da (fun c hc=>Cw (hC c hc)),Da (fun a ha=>Cw (hA a ha)),Da hB2,FC hC]
 simp
theorem My {l:List Field} (h:SrtH l) (e:Field):SrtH (applyH l e):=by
 unfold SrtH applyH
 have h1:SrtH (l.filter (fun p=>slt p.name e.name)):=List.Pairwise.filter _ h
 have h2:SrtH (l.filter (fun p=>slt e.name p.name)):=List.Pairwise.filter _ h
 refine List.pairwise_append.2 ⟨List.pairwise_append.2 ⟨h1,by simp,fun a ha b hb=>?_⟩,h2,fun a ha b hb=>?_⟩
 ·simp at hb;subst hb;exact (List.mem_filter.1 ha).2
 ·have hb2:=(List.mem_filter.1 hb).2
  rcases List.mem_append.1 ha with ha|ha
  ·exact C3 (List.mem_filter.1 ha).2 hb2
  ·simp at ha;subst ha;exact hb2
theorem Ij (l:List Field) (e:Field) (h:SrtH l):(applyH l e).length≤l.length+1:=by
 obtain⟨A,B,C,rfl,hA,hC,hB⟩:=shapeG (key:=Field.name) e.name l h
 rw[GU hA hC hB]
 simp;omega
def stepH (e:Field) (a:Bool×List Field) (x:Field):Bool×List Field :=
 let a1:=if a.1=false∧slt x.name e.name=false then (true,a.2++[e]) else a
 if x.name=e.name then a1 else (a1.1,a1.2++[x])
theorem Ns (e:Field) (a:Bool×List Field) (x:Field):(stepH e a x).2.length≤a.2.length+2:=by
 unfold stepH
 dsimp only
 split <;> split <;> simp <;> omega
theorem GV (e:Field):∀ (l:List Field) (a:Bool×List Field),(l.foldl (stepH e) a).2.length≤a.2.length+2*l.length
 |[],a=>by simp
 |x::l,a=>by
  have h1:=GV e l (stepH e a x)
  have h2:=Ns e a x
  simp only[List.foldl_cons,List.length_cons]
  omega
theorem Jf {e:Field}:∀ (A:List Field) (d:Bool) (out:List Field),(∀ a∈A,slt a.name e.name=true)→A.foldl (stepH e) (d,out)=(d,out++A)
 |[],d,out,_=>by simp
 |a::A,d,out,h=>by
  have h1:=h a (by simp)
  have e1:stepH e (d,out) a=(d,out++[a]):=by simp[stepH,h1,D4 h1]
  rw[List.foldl_cons,e1,Jf A d (out++[a]) fun b hb=>h b (by simp[hb])]
  simp
theorem Gc {e:Field}:∀ (A:List Field) (out:List Field),(∀ a∈A,slt e.name a.name=true)→A.foldl (stepH e) (true,out)=(true,out++A)
 |[],out,_=>by simp
 |a::A,out,h=>by
  have h1:=h a (by simp)
  have hne:¬ a.name=e.name:=fun h=>D4 h1 h.symm
  have e1:stepH e (true,out) a=(true,out++[a]):=by simp[stepH,hne]
  rw[List.foldl_cons,e1,Gc A (out++[a]) fun b hb=>h b (by simp[hb])]
  simp
theorem Nt {e:Field} {l:List Field} (h:SrtH l):(bif (l.foldl (stepH e) (false,[])).1 then (l.foldl (stepH e) (false,[])).2 else (l.foldl (stepH e) (false,[])).2++[e])=applyH l e:=by
 obtain⟨A,B,C,rfl,hA,hC,hB⟩:=shapeG (key:=Field.name) e.name l h
 rw[GU hA hC hB,List.foldl_append,List.foldl_append,Jf A _ _ hA]
 rcases hB with rfl|⟨x,rfl,hx⟩
 ·cases C with
  |nil=>simp
  |cons c C =>
   have h1:=hC c (by simp)
   have hne:¬ c.name=e.name:=fun h=>D4 h1 h.symm
   have e1:stepH e (false,[]++A) c=(true,A++[e,c]):=by simp[stepH,Cw h1,hne]
   rw[List.foldl_nil,List.foldl_cons,e1,Gc C _ fun b hb=>hC b (by simp[hb])]
   simp
 ·have e1:stepH e (false,[]++A) x=(true,A++[e]):=by simp[stepH,hx,BA]
  rw[List.foldl_cons,List.foldl_nil,e1,Gc C _ hC]
  simp
theorem Nu (l:List Field) (e:Field) (h:SrtH l) (hl:l.length≤100000000):CF big l e.name e.val=some (applyH l e):=by
 unfold CF
 refine G7 l (stepH e) (fun i a=>(a.1,(i:Int),a.2)) (false,[]) (l.foldl (stepH e) (false,[])) (by omega) rfl (fun i hi a ha=>?_) ?_ ?_
 ·have hlen:a.2.length≤2*i:=by
   have:=GV e (l.take i) (false,[])
   rw[← ha] at this
   simp at this
   omega
  simp only[Ai,Af,Al,Am,Ak,Aj,Ag,Option.some.injEq]
  rw[A4 (by omega)]
  simp only[Ai,Af,Al,Am,Ak,Aj,Ag,Option.some.injEq,Aq hi]
  have e2:(ite' (ite' (notB a.1) (some (geS l[i].name e.name)) (some false)).get! (some (true,a.2++[(e:Field)])) (some (a.1,a.2)))=some (if a.1=false∧slt l[i].name e.name=false then (true,a.2++[e]) else a):=by
   cases h1:a.1 <;> cases h2:slt l[i].name e.name <;> simp[notB,geS,h1,h2,ite'] <;> (rw[← h1])
  rw[AR (by omega) (by omega)]
  have e3:ite' (notB a.1) (some (geS l[i].name e.name)) (some false)=some (ite' (notB a.1) (some (geS l[i].name e.name)) (some false)).get!:=by
   cases a.1 <;> rfl
  rw[e3]
  simp only[Ai,Af,Al,Am,Ak,Aj,Ag,Option.some.injEq]
  rw[e2]
  simp only[Ai,Af,Al,Am,Ak,Aj,Ag,Option.some.injEq]
  rw[Ar (by omega) (by omega)]
  unfold stepH
  dsimp only
  generalize hq:(if a.1=false∧slt l[i].name e.name=false then (true,a.2++[(e:Field)]) else a)=q
  have hq2:q.2.length≤2*i+1:=by
   rw[← hq]
   split
   ·simp only[List.length_append,List.length_cons,List.length_nil];omega
   ·omega
  by_cases hk:l[i].name=e.name
  ·rw[hk,Fj]
   simp[Am,Af]
  ·rw[show neS l[i].name e.name=true by simp[neS,hk],if_neg hk,Al,AR (by omega) (by omega)]
   simp only[Ai,Af,Al,Am,Ak,Aj,Ag,Option.some.injEq]
   simp
 ·simp only[Ai,Af,Al,Am,Ak,Aj,Ag,Option.some.injEq]
  rw[A5 (by omega)]
  rfl
 ·have hlen:(l.foldl (stepH e) (false,[])).2.length≤2*l.length:=by
   have:=GV e l (false,[])
   simp at this
   omega
  have hA:=Nt (e:=e) h
  have hn:=Ij l e h
  simp only[Ai,Af,Al,Am,Ak,Aj,Ag,Option.some.injEq]
  rw[AR (by omega) (by omega)]
  revert hA
  cases (l.foldl (stepH e) (false,[])).1 <;> intro hA <;> simp at hA <;> rw[hA] <;> simp[notB,ite',Af] <;> rw[AR (by omega) (by omega)]
theorem Mz {l:List Field} {e x:Field} (h:x∈applyH l e):x∈l∨x=e:=by
 unfold applyH at h
 rcases List.mem_append.1 h with h|h
 ·rcases List.mem_append.1 h with h|h
  ·exact .inl (List.mem_filter.1 h).1
  ·exact .inr (List.mem_singleton.1 h)
 ·exact .inl (List.mem_filter.1 h).1
theorem Nv (l:List Field) (e:Field):applyH l e≠[]:=by simp[applyH]
theorem Lg (l:List ByteArray) (x:ByteArray) (h:l.length≤1000000000):B6 big l x=some (hasS l x):=Nr l x h
theorem MA (l:List ByteArray) (x:ByteArray) (h:l.length≤1000000000) (hr:rises (fun x=>x) l):Rn (BK big l x) fun m=>rises (fun x=>x) m∧(∀ y∈m,y∈l∨y=x)∧m≠[]∧m.length≤l.length+1:=by
 unfold BK
 refine Rn.bnE (Lg l x h) (Rn.ite (fun hd=>Rn.room (by omega) (by omega) (Rn.some ⟨hr,fun y hy=>.inl hy,fun e=>?_,by omega⟩)) (fun hd=>?_))
 ·rw[e] at hd
  simp[hasS] at hd
 have hx:x ∉ l:=fun h=>by
  rw[Nq h] at hd
  simp at hd
 refine Rn.bn (P:=fun i:Int=>∃ k:Nat,i=k∧k≤l.length∧(∀ i (hi:i<l.length),i<k→slt l[i] x=true)∧(∀ hk:k<l.length,slt l[k] x=false)) (Rn.iter _ (fun q a=>a=(q:Int)∧∀ i (hi:i<l.length),i<q→slt l[i] x=true) l.length (by unfold big;omega) ⟨rfl,fun i hi h=>by omega⟩ fun q a hq hI=>?_) fun b hb=>?_
 ·obtain⟨rfl,hI⟩:=hI
  simp only[Ai,Af,Al,Am,Ak,Aj,Ag,Option.some.injEq]
  by_cases hq2:q<l.length
  ·rw[A4 (by omega),Aq hq2]
   simp only[Ai,Af,Al,Am,Ak,Aj,Ag,Option.some.injEq,ltS]
   cases hs:slt l[q] x
   ·exact⟨_,rfl,q,rfl,hq,hI,fun _=>hs⟩
   ·refine⟨_,rfl,hq2,by rw[Ar (by omega) (by omega)];omega,fun i hi h1=>?_⟩
    by_cases hiq:i=q
    ·subst hiq;exact hs
    ·exact hI i hi (by omega)
  ·obtain rfl:q=l.length:=by omega
   rw[A5 (by omega)]
   exact⟨_,rfl,l.length,rfl,Nat.le_refl _,hI,fun h=>by omega⟩
 ·obtain⟨k,rfl,hk,h1,h2⟩:=hb
  refine Rn.bnE (KA hk) (Rn.room ?_ ?_ (Rn.room ?_ ?_ (Rn.lt (Rn.bnE (HH hk) (Rn.room ?_ ?_ (Rn.lt (Rn.some ?_)))))))
  iterate 6 (simp only[List.length_append,List.length_cons,List.length_nil,List.length_take,List.length_drop];omega)
  have hlow:∀ a∈l.take k,slt a x=true:=fun a ha=>by
   obtain⟨i,hi,rfl⟩:=List.getElem_of_mem ha
   rw[List.length_take] at hi
   rw[List.getElem_take]
   exact h1 i (by omega) (by omega)
  have hhigh:∀ b∈l.drop k,slt x b=true:=fun b hb=>by
   obtain⟨i,hi,rfl⟩:=List.getElem_of_mem hb
   rw[List.length_drop] at hi
   rw[List.getElem_drop]
   have hk2:k<l.length:=by omega
   have hxk:slt x l[k]=true:=by
    rcases (MS _ _).1 (h2 hk2) with e|e
    ·exact absurd (e ▸ List.getElem_mem hk2) hx
    ·exact e
   by_cases hi0:i=0
   ·subst hi0;exact hxk
   ·exact C3 hxk (List.pairwise_iff_getElem.1 hr k (k+i) hk2 (by omega) (by omega))
  refine⟨?_,fun y hy=>?_,by simp,by simp only[List.length_append,List.length_cons,List.length_nil,List.length_take,List.length_drop];omega⟩
  ·refine List.pairwise_append.2 ⟨List.pairwise_append.2 ⟨List.Pairwise.sublist (List.take_sublist _ _) hr,by simp,fun a ha b hb=>?_⟩,List.Pairwise.sublist (List.drop_sublist _ _) hr,fun a ha b hb=>?_⟩
   ·simp only[List.mem_singleton] at hb;subst hb;exact hlow a ha
   ·rcases List.mem_append.1 ha with ha|ha
    ·exact C3 (hlow a ha) (hhigh b hb)
    ·simp only[List.mem_singleton] at ha;subst ha;exact hhigh b hb
  ·rcases List.mem_append.1 hy with hy|hy
   ·rcases List.mem_append.1 hy with hy|hy
    ·exact .inl (List.mem_of_mem_take hy)
    ·exact .inr (List.mem_singleton.1 hy)
   ·exact .inl (List.mem_of_mem_drop hy)
def keepM (kind:Int) (q:Nat) (s:ByteArray) (f:List Field) (l:List ByteArray):Prop :=
 s.size≤40*q∧f.length≤q∧l.length≤q∧(∀ x∈f,okFld x)∧SrtH f∧(∀ x∈l,x.size≤300)∧(kind=4→rises (fun x=>x) l) ∧
 ((kind=1∧f=[]∧l=[])∨(kind=2∧s=⟨#[]⟩∧l=[]∧(0<q→f≠[]))∨((kind=3∨kind=4)∧s=⟨#[]⟩∧f=[]∧(0<q→l≠[])))
theorem N0 (l:List Int) (e:Int) (hl:u8s l) (hlen:2≤l.length) (hlen2:l.length≤4) (h:0≤e) (h2:e≤255):Rn (Cd big l e) mayI:=by
 unfold Cd
 have hb0:=hl _ (List.getElem_mem (show 0<l.length by omega))
 refine Rn.lt (Rn.lt (Rn.ite (fun hg=>?_) (fun _=>?_)))
 ·have:(l.length:Int)=0:=of_decide_eq_true hg
  omega
 refine Rn.bnE (Aq (i:=0) (show 0<l.length by omega)) (Rn.lt ?_)
 rw[Ch (by omega) (by omega)]
 refine Rn.bnE (AY hb0.1 (by omega)) (Rn.lt ?_)
 rw[Ar (by omega) (by omega)]
 have hkind:1+l[0] % 4=1∨1+l[0] % 4=2∨1+l[0] % 4=3∨1+l[0] % 4=4:=by omega
 generalize 1+l[0] % 4=kind at hkind
 refine Rn.bn (P:=fun x:Int=>0≤x∧x≤255) (Rn.bnE (AY h (by omega)) (Rn.lt (Rn.ite (fun _=>Rn.lt (Rn.some ?_)) (fun _=>Rn.some (by omega))))) fun ex hex=>?_
 ·rw[Ch (by omega) (by omega)];omega
 refine Rn.bn (P:=fun b:ByteArray×List Field×List ByteArray=>∃ q,1≤q∧q≤3∧keepM kind q b.1 b.2.1 b.2.2)
  (Rn.iter _ (fun q a=>a.1=((q+1:Nat):Int)∧q+1≤l.length∧keepM kind q a.2.1 a.2.2.1 a.2.2.2) 4 (by unfold big;omega) ⟨rfl,by omega,by decide,by simp,by simp,by simp,.nil,by simp,fun _=>.nil,?_⟩ fun q a hq hI=>?_) fun b hb=>?_
 ·rcases hkind with h|h|h|h <;> simp[h]
 ·obtain⟨i,s,f,t⟩:=a
  obtain⟨i1,i2,i3⟩:=hI
  simp only at i1 i3
  subst i1
  refine Rn.bn (P:=fun b:Bool=>(b=true→q+1<l.length)∧(b=false→q+1=l.length)) ?_ fun b hb=>Rn.lt (Rn.ite (fun hd=>?_) (fun hd=>Rn.some ⟨q,by have:=hb.2 hd;omega,by have:=hb.2 hd;omega,i3⟩))
  ·refine Rn.lt (Rn.lt (Rn.ite (fun hg=>Rn.lt (Rn.some ?_)) (fun hg=>Rn.some ?_)))
   ·have hg:=Ef hg
    simp only[lenI] at hg
    refine⟨fun _=>by omega,fun h=>?_⟩
    have h:=DH h
    omega
   ·have hg:=DH hg
    simp only[lenI] at hg
    exact⟨fun h=>by simp at h,fun _=>by omega⟩
  ·have hql:=hb.1 hd
   have hb1:=hl _ (List.getElem_mem hql)
   refine Rn.bn (P:=fun b:ByteArray×List Field×List ByteArray=>keepM kind (q+1) b.1 b.2.1 b.2.2) ?_ fun b hb=>Rn.lt (Rn.some ⟨by omega,?_,hql,hb⟩)
   rotate_left
   ·show addI .i64 ((q+1:Nat):Int) 1=_
    rw[Ar (by omega) (by omega)];omega
   refine Rn.bnE (Aq hql) (Rn.bnE (AY hb1.1 (by omega)) (Rn.lt (Rn.lt (Rn.lt ?_))))
   rw[Ch (by omega) (by omega)]
   refine Rn.bnE (AY hb1.1 (by omega)) ?_
   refine Rn.bn (DW _ (by omega) (by omega)) fun d hd=>?_
   refine Rn.cat (by rw[strL1];omega) ?_
   have hw:∀ x:Int,(strL [x]++d).size≤31:=fun x=>by
    rw[ByteArray.size_append,strL1];omega
   have hw:=hw (addI .u8 97 (l[q+1] % 5))
   revert hw
   generalize strL [addI .u8 97 (l[q+1] % 5)]++d=w
   intro hw
   obtain⟨k1,k2,k3,k4,k5,k6,k7,k8⟩:=i3
   refine Rn.lt (Rn.ite (fun e1=>?_) (fun e1=>?_))
   ·have e1:kind=1:=of_decide_eq_true e1
    refine Rn.cat (by simp only;omega) (Rn.some ?_)
    rcases k8 with k8|k8|k8
    ·refine⟨?_,?_,?_,k4,k5,k6,k7,.inl k8⟩
     ·rw[ByteArray.size_append];simp only;omega
     ·simp only;omega
     ·simp only;omega
    ·omega
    ·omega
   have e1:kind≠1:=of_decide_eq_false e1
   refine Rn.lt (Rn.ite (fun e2=>?_) (fun e2=>?_))
   ·have e2:kind=2:=of_decide_eq_true e2
    refine Rn.lt ?_
    rw[IL (by omega) (by omega)]
    refine Rn.bn (DW _ (by omega) (by omega)) fun v hv=>?_
    refine Rn.bnE (Nu f ⟨w,v⟩ k5 (by omega)) (Rn.some ?_)
    rcases k8 with k8|k8|k8
    ·omega
    ·have hn:=Ij f ⟨w,v⟩ k5
     refine⟨by simp only;omega,by simp only;omega,by simp only;omega,fun x hx=>?_,My k5 _,k6,k7,.inr (.inl ⟨e2,k8.2.1,k8.2.2.1,fun _=>Nv f _⟩)⟩
     rcases Mz hx with hx|rfl
     ·exact k4 x hx
     ·exact⟨by simp only;omega,by simp only;omega⟩
    ·omega
   have e2:kind≠2:=of_decide_eq_false e2
   have k8:(kind=3∨kind=4)∧s=⟨#[]⟩∧f=[]∧(0<q→t≠[]):=by
    rcases k8 with k8|k8|k8
    ·omega
    ·omega
    ·exact k8
   refine Rn.lt (Rn.ite (fun e3=>?_) (fun e3=>?_))
   ·have e3:kind=3:=of_decide_eq_true e3
    refine Rn.room (by simp only;omega) (by simp only;omega) (Rn.lt (Rn.some ?_))
    refine⟨by simp only;omega,by simp only;omega,by simp only[List.length_append,List.length_cons,List.length_nil];omega,k4,k5,fun x hx=>?_,fun h=>by omega,.inr (.inr ⟨k8.1,k8.2.1,k8.2.2.1,fun _=>by simp⟩)⟩
    rcases List.mem_append.1 hx with hx|hx
    ·exact k6 x hx
    ·simp only[List.mem_singleton] at hx;subst hx;omega
   ·have e3:kind≠3:=of_decide_eq_false e3
    have e4:kind=4:=by omega
    refine Rn.room (by simp only;omega) (by simp only;omega) ?_
    refine Rn.bn (MA t w (by omega) (k7 e4)) fun z hz=>Rn.some ?_
    obtain⟨z1,z2,z3,z4⟩:=hz
    refine⟨by simp only;omega,by simp only;omega,by simp only at z4 ⊢;omega,k4,k5,fun x hx=>?_,fun _=>z1,.inr (.inr ⟨k8.1,k8.2.1,k8.2.2.1,fun _=>z3⟩)⟩
    rcases z2 x hx with hx|rfl
    ·exact k6 x hx
    ·omega
 ·obtain⟨s,f,t⟩:=b
  obtain⟨q,q1,q2,k1,k2,k3,k4,k5,k6,k7,k8⟩:=hb
  simp only at k1 k2 k3 k4 k5 k6 k7 k8
  refine Rn.bnE (v:=false) ?_ (Rn.lt ?_)
  ·simp only[Ai,Af,Al,Am,Ak,Aj,Ag,Option.some.injEq]
   rw[show eqI (l.length:Int) 1=false by simp[eqI];omega,Am]
  ·rw[Am]
   refine Rn.room (by simp only;omega) (by simp only;omega) (Rn.some ⟨?_,⟨by simp only;omega,k4,k6⟩,by simp only;omega,by simp only;omega,hex.1,by simp only;omega,k5,k7⟩)
   rcases k8 with k8|k8|k8
   ·exact .inl k8
   ·exact .inr (.inl ⟨k8.1,k8.2.1,k8.2.2.1,k8.2.2.2 (by omega)⟩)
   ·exact .inr (.inr ⟨k8.1,k8.2.1,k8.2.2.1,k8.2.2.2 (by omega)⟩)
theorem Nw (l:List Int) (hl:u8s l) (i:Nat) (h:4*i+3<l.length) (e:Effect) (he:effAt l i=some e) (hg:e.gone=false):mayI e.item:=by
 have hb0:=hl _ (List.getElem_mem (show 4*i<l.length by omega))
 have hb1:=hl _ (List.getElem_mem (show 4*i+1<l.length by omega))
 have hb2:=hl _ (List.getElem_mem (show 4*i+2<l.length by omega))
 unfold effAt at he
 rw[Aq (show 4*i<l.length by omega),Aq (show 4*i+1<l.length by omega),Aq (show 4*i+2<l.length by omega),Ja (by omega) (by omega)] at he
 simp only[Af] at he
 obtain⟨j,hj,-,hk⟩:=KF _ hb0.1 hb0.2
 rw[hk,AY hb1.1 (by omega)] at he
 simp only[Af] at he
 obtain⟨it,hit,hit2⟩:=N0 ((l.drop (4*i+1)).take (4*i+4 - (4*i+1))) l[4*i+2] (hl.seg _ _) (by simp;omega) (by simp;omega) hb2.1 hb2.2
 rw[hit] at he
 cases hg2:eqI (l[4*i+1] % 4) 0
 ·rw[hg2] at he
  simp only[GD,Al,Af,Option.some.injEq] at he
  subst he
  exact hit2
 ·rw[hg2] at he
  simp only[Cb,Am,Af,Option.some.injEq] at he
  subst he
  simp at hg
def okM2 (m:List Effect):Prop:=okM m∧∀ e∈m,e.gone=false→mayI e.item
theorem Lh (l:List Int) (hl:u8s l) (h:l.length≤1000000000):Rn (Bi big l) okM2:=by
 obtain⟨m,hm,h1,h2,h3⟩:=GR l hl h
 obtain⟨m',hm',h4⟩:=GS l hl h
 obtain rfl:m'=m:=Option.some.inj (hm'.symm.trans hm)
 refine⟨_,hm,h4,fun e he hg=>?_⟩
 obtain⟨i,hi,rfl⟩:=List.getElem_of_mem he
 exact Nw l hl i (by omega) _ (by rw[h2 i hi,List.getElem?_eq_getElem hi]) hg
end Go.Proofs.YtlbdhlbbkibgpaaGreat
namespace Go.Proofs.YtlbdhlbbkibgpaaGreat
open Go Go.RowKit
structure OkN (n:Node):Prop where
 srt:SrtP n.db
 okd:okP n.db
 dl:n.db.length≤1000
 key:∀ p∈n.db,keyed p.key
 bk:okE n.feed.back
 bl:n.feed.back.length≤64
 cl:n.claims.length≤1000
 mv:n.moves.length≤1000
 sn:n.seen.length≤1000
 vt:n.votes.length≤1000
 hd:n.watch.heard.length≤1000
 sy:n.watch.says.length≤1000
 sz:∀ x∈n.watch.says,x.length≤1000
theorem KH (i:Item) (h:okI i):Bs big i=some i:=by
 unfold Bs
 have h1:=h.1
 have h2:=h.2
 rw[C9 (by omega) (by omega),C9 (by omega) (by omega),AR (by omega) (by omega),AR (by omega) (by omega)]
theorem GW {α γ:Type} [Inhabited α] (l:List α) (hl:l.length≤1000000000) (f:Int×List α→Option ((Int×List α) ⊕ List α)) (k:List α→Option γ) (r:Option γ)
  (h:∀ i (hi:i<l.length),f ((i:Int),l)=some (.inl ((i:Int)+1,l.set i l[i]))) (he:f ((l.length:Int),l)=some (.inr l)) (hk:k l=r):bn (iter big f (0,l)) k=r:=by
 refine A7 l (fun i=>((i:Int),l)) l.length (by unfold big;omega) rfl (fun i hi=>?_) he hk
 rw[h i hi,List.set_getElem_self]
 exact congrArg (fun z=>some (Sum.inl (z,l))) (by omega)
theorem CH {α:Type} {c:Nat} {l:List α} {γ:Type} {k:Option γ} (h:l.length≤1000000000) (hc:c≤1000:=by omega):chk (small c l) k=k:=by
 have h3:l.length*c≤1000000000*1000:=Nat.mul_le_mul h hc
 exact C9 (by omega) (by omega)
theorem Ct {α:Type} {l:List α} {γ:Type} {k:Option γ} (h:l.length≤1000000000):chk (room l.length 1) k=k:=AR (by omega) (by omega)
theorem PI {γ:Type} (l:List Pair) (hl:l.length≤1000000000) (ho:okP l) (k:List Pair→Option γ):bn (iter big (fun (y8:Int×List Pair) =>
  lt (ltI y8.1 (lenI l)) fun v11 =>
  ite' v11 (bn (nth y8.2 y8.1) fun v12 =>
  bn (Bs big v12.item) fun v14 =>
  lt (y8.2.set y8.1.toNat (⟨v12.key,v14⟩:Pair)) fun v16 =>
  lt (addI .i64 y8.1 1) fun v20 =>
  some (.inl (v20,v16))) (some (.inr y8.2))) (0,l)) k=k l:=by
 have:Inhabited Pair:=⟨⟨⟨#[]⟩,noI⟩⟩
 refine GW l hl _ k _ (fun i hi=>?_) ?_ rfl
 ·simp only[Ai,Af,Al,Am,Ak,Aj,Ag,Option.some.injEq]
  rw[A4 (by omega),Al,Aq hi,Af,KH _ (ho _ (List.getElem_mem hi)),Af,Ar (by omega) (by omega)]
  rfl
 ·simp only[Ai,Af,Al,Am,Ak,Aj,Ag,Option.some.injEq]
  rw[A5 (by omega),Am]
theorem PJ {γ:Type} (l:List Effect) (ho:okE l) (k:List Effect→Option γ):bn (iter big (fun (y22:Int×List Effect) =>
  lt (ltI y22.1 (lenI l)) fun v25 =>
  ite' v25 (bn (nth y22.2 y22.1) fun v26 =>
  bn (Bs big v26.item) fun v28 =>
  lt (y22.2.set y22.1.toNat (⟨v26.key,v26.gone,v28⟩:Effect)) fun v30 =>
  lt (addI .i64 y22.1 1) fun v34 =>
  some (.inl (v34,v30))) (some (.inr y22.2))) (0,l)) k=k l:=by
 have hl:=ho.1
 have:Inhabited Effect:=⟨⟨⟨#[]⟩,false,noI⟩⟩
 refine GW l hl _ k _ (fun i hi=>?_) ?_ rfl
 ·simp only[Ai,Af,Al,Am,Ak,Aj,Ag,Option.some.injEq]
  rw[A4 (by omega),Al,Aq hi,Af,KH _ (ho.2 _ (List.getElem_mem hi)),Af,Ar (by omega) (by omega)]
  rfl
 ·simp only[Ai,Af,Al,Am,Ak,Aj,Ag,Option.some.injEq]
  rw[A5 (by omega),Am]
theorem N1 {γ:Type} (l:List (List Int)) (hl:l.length≤1000000000) (ho:∀ x∈l,x.length≤1000) (k:List (List Int)→Option γ):bn (iter big (fun (y38:Int×List (List Int)) =>
  lt (ltI y38.1 (lenI l)) fun v41 =>
  ite' v41 (bn (nth y38.2 y38.1) fun v42 =>
  chk (small 8 v42) <|
  lt (y38.2.set y38.1.toNat v42) fun v46 =>
  lt (addI .i64 y38.1 1) fun v49 =>
  some (.inl (v49,v46))) (some (.inr y38.2))) (0,l)) k=k l:=by
 refine GW l hl _ k _ (fun i hi=>?_) ?_ rfl
 ·have h2:=ho _ (List.getElem_mem hi)
  simp only[Ai,Af,Al,Am,Ak,Aj,Ag,Option.some.injEq]
  rw[A4 (by omega),Al,Aq hi,Af,CH (by omega),Ar (by omega) (by omega)]
  rfl
 ·simp only[Ai,Af,Al,Am,Ak,Aj,Ag,Option.some.injEq]
  rw[A5 (by omega),Am]
theorem OX (n:Node) (h:OkN n):A9 big n=some n:=by
 have h1:=h.cl
 have h2:=h.mv
 have h3:=h.sn
 have h4:=h.vt
 have h5:=h.dl
 have h6:=h.bl
 have h7:=h.hd
 have h8:=h.sy
 unfold A9
 rw[CH (by omega),CH (by omega),CH (by omega),CH (by omega),CH (by omega),CH (by omega),Ai,PI _ (by omega) h.okd,Ai,PJ _ h.bk,CH (by omega),CH (by omega),Ai,N1 _ (by omega) h.sz]
 rw[Ct (by omega),Ct (by omega),Ct (by omega),Ct (by omega),Ct (by omega),Ct (by omega)]
theorem MB (w:Watch) (h:w.heard.length≤1000) (h2:w.says.length≤1000) (h3:∀ x∈w.says,x.length≤1000):B2 big w w=some true:=by
 unfold B2
 simp only[Ai,Af,Al,Am,Ak,Aj,Ag,Option.some.injEq,FL _ (show w.heard.length≤1000000000 by omega),Cb,Cl]
 refine A7 (.inl ()) (fun i=>(i:Int)) w.says.length (by unfold big;omega) rfl (fun i hi=>?_) ?_ rfl
 ·have h4:=h3 _ (List.getElem_mem hi)
  rw[A4 (by omega)]
  simp only[Ai,Af,Al,Am,Ak,Aj,Ag,Option.some.injEq,Aq hi,FL _ (show (w.says[i]).length≤1000000000 by omega),Cb]
  rw[Ar (by omega) (by omega)]
  rfl
 ·rw[A5 (by omega)];rfl
theorem Gm (n:Node) (h:OkN n):BI big n n=some true:=by
 have h1:=h.mv
 have h2:=h.sn
 have h3:=h.cl
 have h4:=h.dl
 have h5:=h.vt
 unfold BI
 simp only[Ai,Af,Al,Am,Ak,Aj,Ag,Option.some.injEq,Cl,JG _ (show n.claims.length≤1000000000 by omega),HI _ h.okd (by omega),Ie _ h.bk,MB _ h.hd h.sy h.sz,FL _ (show n.votes.length≤1000000000 by omega)]
 refine A7 (.inl ()) (fun i=>(i:Int)) n.moves.length (by unfold big;omega) rfl (fun i hi=>?_) ?_ ?_
 ·rw[A4 (by omega)]
  simp only[Ai,Af,Al,Am,Ak,Aj,Ag,Option.some.injEq,Aq hi,Fk,Ga,FZ,Cb]
  rw[Ar (by omega) (by omega)]
  rfl
 ·rw[A5 (by omega)];rfl
 simp only[Ai,Af,Al,Am,Ak,Aj,Ag,Option.some.injEq]
 refine A7 (.inl ()) (fun i=>(i:Int)) n.seen.length (by unfold big;omega) rfl (fun i hi=>?_) ?_ rfl
 ·rw[A4 (by omega)]
  simp only[Ai,Af,Al,Am,Ak,Aj,Ag,Option.some.injEq,Aq hi,Fk,Ga,FZ,Cb]
  rw[Ar (by omega) (by omega)]
  rfl
 ·rw[A5 (by omega)];rfl
def cmpI (a b:Int):Int:=if a<b then -1 else if b<a then 1 else 0
theorem N2 (x:Int):By big x=some false:=by
 unfold By
 simp[neI,Ai]
theorem Ik (a b:Int):AS big a b=some (cmpI a b):=by
 unfold AS cmpI
 simp only[N2,Ai,Af,Al,Am,Ak,Aj,Ag,Option.some.injEq]
 by_cases h:a<b
 ·simp[h,ltI,ite',Ai,Af,Al,Am,Ak,Aj,Ag,Option.some.injEq]
 ·by_cases h2:b<a <;> simp[h,h2,ltI,gtI,ite',Ai,Af,Al,Am,Ak,Aj,Ag,Option.some.injEq]
theorem LJ {a b:Int}:cmpI a b<0↔a<b:=by unfold cmpI;split <;> (try split) <;> omega
theorem LK {a b:Int}:0<cmpI a b↔b<a:=by unfold cmpI;split <;> (try split) <;> omega
theorem Ha {a b:Int}:cmpI a b=0↔a=b:=by unfold cmpI;split <;> (try split) <;> omega
def bsG {α:Type} (cmp:α→Option Int) (a0:List α):Option (Int×Bool) :=
lt (lenI a0) fun v1 =>
bn (iter big (fun (y2:Int×Int) =>
lt (ltI y2.1 y2.2) fun v5 =>
ite' v5 (lt (addI .i64 y2.1 y2.2) fun v6 =>
lt (cvI .u64 v6) fun v7 =>
bn (shrI .u64 v7 1) fun v8 =>
lt (cvI .i64 v8) fun v9 =>
bn (nth a0 v9) fun v10 =>
bn (cmp v10) fun v11 =>
lt (ltI v11 0) fun v12 =>
ite' v12 (lt (addI .i64 v9 1) fun v13 =>
some (.inl (v13,y2.2))) (some (.inl (y2.1,v9)))) (some (.inr y2.1))) (0,v1)) fun (y3:Int) =>
bn (lt (ltI y3 v1) fun v15 =>
ite' v15 (bn (nth a0 y3) fun v16 =>
bn (cmp v16) fun v17 =>
lt (eqI v17 0) fun v18 =>
some (v18)) (some (false))) fun (y14:Bool) =>
some (y3,y14)
theorem PK {α:Type} (cmp:α→Option Int) (c:α→Int) (hc:∀ x,cmp x=some (c x)) (A B C:List α) (hA:∀ a∈A,c a<0) (hC:∀ x∈C,0<c x) (hB:B=[]∨∃ x,B=[x]∧c x=0) (hl:(A++B++C).length≤1000000000) :
  bsG cmp (A++B++C)=some ((A.length:Int),!B.isEmpty):=by
 have hget:∀ i x,(A++B++C)[i]?=some x→decide (c x<0)=decide (i<A.length):=fun i x hx=>by
  rw[List.append_assoc] at hx
  by_cases h:i<A.length
  ·rw[List.getElem?_append_left h] at hx
   simp only[h,decide_true,decide_eq_true_eq]
   exact hA _ (List.mem_of_getElem? hx)
  ·rw[List.getElem?_append_right (by omega)] at hx
   simp only[h,decide_false,decide_eq_false_iff_not]
   rcases List.mem_append.1 (List.mem_of_getElem? hx) with hm|hm
   ·rcases hB with rfl|⟨y,rfl,hy⟩
    ·simp at hm
    ·simp at hm;rw[hm,hy];omega
   ·have:=hC _ hm;omega
 have hB2:(A++B++C)[A.length]?=(B++C)[0]?:=by rw[List.append_assoc,List.getElem?_append_right (Nat.le_refl _),Nat.sub_self]
 have hAL:A.length≤(A++B++C).length:=by simp
 generalize A++B++C=L at hget hB2 hl hAL ⊢
 refine Rn.eq ?_
 unfold bsG
 refine Rn.lt (Rn.bn (P:=fun i=>i=(A.length:Int)) (Rn.iter _ (fun q a=>∃ lo hi:Nat,a=((lo:Int),(hi:Int))∧lo≤A.length∧A.length≤hi∧hi≤L.length∧hi - lo<2 ^ (48 - q)) 48 (by unfold big;omega) ⟨0,L.length,rfl,by omega,hAL,Nat.le_refl _,by omega⟩ fun q a hq hI=>?_) fun i hi=>?_)
 ·obtain⟨lo,hi,rfl,h1,h2,h3,h4⟩:=hI
  refine Rn.lt (Rn.ite (fun hg=>?_) (fun hg=>Rn.some ?_))
  ·have hg:=Ef hg
   simp only at hg
   have hq2:q<48:=by
    apply Nat.lt_of_not_le
    intro h
    have:48 - q=0:=by omega
    rw[this] at h4
    omega
   have e48:48 - q=(48 - (q+1))+1:=by omega
   rw[e48,Nat.pow_succ] at h4
   refine Rn.lt (Rn.lt ?_)
   rw[Ar (by simp only;omega) (by simp only;omega),Nj (by simp only;omega) (by simp only;omega)]
   refine Rn.bnE (shr1 (by simp only;omega)) (Rn.lt ?_)
   rw[Ch (by simp only;omega) (by simp only;omega)]
   have em:((lo:Int)+(hi:Int)) / 2=(((lo+hi) / 2:Nat):Int):=by omega
   simp only
   rw[em]
   have hm:(lo+hi) / 2<L.length:=by omega
   have hge:=hget _ _ (List.getElem?_eq_getElem hm)
   refine Rn.bnE (Aq hm) (Rn.bnE (hc _) (Rn.lt (Rn.ite (fun hc=>Rn.lt (Rn.some ⟨hq2,(lo+hi) / 2+1,hi,?_,?_⟩)) (fun hc=>Rn.some ⟨hq2,lo,(lo+hi) / 2,rfl,?_⟩))))
   ·rw[Ar (by omega) (by omega)]
    exact congrArg (·,(hi:Int)) (by omega)
   ·rw[decide_eq_true (Ef hc)] at hge
    have:=of_decide_eq_true hge.symm
    refine⟨?_,h2,h3,?_⟩ <;> omega
   ·rw[decide_eq_false (show ¬ _ by have:=DH hc;omega)] at hge
    have:=of_decide_eq_false hge.symm
    refine⟨h1,?_,?_,?_⟩ <;> omega
  ·have hg:=DH hg
   simp only at hg ⊢
   omega
 ·subst hi
  refine Rn.bn (P:=fun b=>b=!B.isEmpty) ?_ fun b hb=>Rn.some (by rw[hb])
  refine Rn.lt (Rn.ite (fun hg=>?_) (fun hg=>Rn.some ?_))
  ·have hg:=Ef hg
   simp only[lenI] at hg
   have hm:A.length<L.length:=by omega
   refine Rn.bnE (Aq hm) (Rn.bnE (hc _) (Rn.lt (Rn.some ?_)))
   rw[List.getElem?_eq_getElem hm] at hB2
   rcases hB with rfl|⟨y,rfl,hy⟩
   ·have hc:=hC L[A.length] (List.mem_of_getElem? (by simpa using hB2.symm))
    have hne:¬ c L[A.length]=0:=by omega
    simp[eqI,hne]
   ·simp at hB2
    rw[hB2,hy]
    simp[eqI]
  ·have hg:=DH hg
   simp only[lenI] at hg
   have e:L[A.length]?=none:=List.getElem?_eq_none (by omega)
   rw[e] at hB2
   rcases hB with rfl|⟨y,rfl,hy⟩
   ·rfl
   ·simp at hB2
end Go.Proofs.YtlbdhlbbkibgpaaGreat
namespace Go.Proofs.YtlbdhlbbkibgpaaGreat
open Go Go.RowKit
def nd (id:Int) (db:List Pair):Node:=⟨4,id,-1,1,0,[⟨0,16383,id,1⟩],db,[],0,[],⟨⟨id,0⟩,0,[],⟨0,0⟩,0⟩,⟨[0,0,0,0],[[],[],[],[]]⟩,0,[],0⟩
def newB (id:Int):Bool:=(D7 big 4 id 4).any fun v=>decide ({ v with claims:=(nd id []).claims,db:=[] }=nd id [])
theorem OY:(newB 0 && newB 1 && newB 2 && newB 3)=true:=by kernel_rfl
theorem OZ (id:Int) (hid:0≤id∧id≤3) (ns:List Int) (db:List Pair) (hdb:CR big ns=some db):CS big id ns=some (nd id db):=by
 have h4:newB id=true∧cvI .i64 id=id∧remI .i64 id 4=some id:=by
  have h:=OY
  simp only[Bool.and_eq_true] at h
  have h5:id=0∨id=1∨id=2∨id=3:=by omega
  rcases h5 with rfl|rfl|rfl|rfl
  ·exact⟨h.1.1.1,rfl,rfl⟩
  ·exact⟨h.1.1.2,rfl,rfl⟩
  ·exact⟨h.1.2,rfl,rfl⟩
  ·exact⟨h.2,rfl,rfl⟩
 obtain⟨h1,h2,h3⟩:=h4
 unfold newB at h1
 cases hv:D7 big 4 id 4 with
 |none=>rw[hv] at h1;cases h1
 |some v =>
  rw[hv] at h1
  have e:{ v with claims:=(nd id []).claims,db:=[] }=nd id []:=of_decide_eq_true h1
  unfold CS
  rw[h2,Ai,h3,Af,hv,Af,hdb,Af,AR (by omega) (by omega)]
  exact congrArg (fun n:Node=>some (⟨n.count,n.id,n.master,n.epoch,n.voted,[⟨0,16383,n.id,1⟩],db,n.moves,n.last,n.seen,n.feed,n.watch,n.asked,n.votes,n.wait⟩:Node)) e
theorem nd_ok {id:Int} {db:List Pair} (h:okDB db):OkN (nd id db) where
 srt:=h.1
 okd:=h.2.1
 dl:=Nat.le_trans h.2.2.1 (by omega)
 key:=h.2.2.2
 bk:=⟨Nat.zero_le _,fun e he=>absurd he List.not_mem_nil⟩
 bl:=Nat.zero_le _
 cl:=by show 1≤1000;omega
 mv:=Nat.zero_le _
 sn:=Nat.zero_le _
 vt:=Nat.zero_le _
 hd:=by show 4≤1000;omega
 sy:=by show 4≤1000;omega
 sz:=fun x hx=>by
  have:x∈([[],[],[],[]]:List (List Int)):=hx
  simp at this
  subst this
  exact Nat.zero_le _
def slotKB:Bool:=(List.range 20).all fun j=>decide (0≤slotOf (keyT j)) && decide (slotOf (keyT j)<16384)
theorem O0 {α:Type} (A C:List α) (x:α):insL (A++[]++C) A.length x=A++[x]++C:=by
 unfold insL
 rw[List.append_nil,List.take_left',List.drop_left'] <;> simp
def giveP (cl:List Claim) (s tt ep:Int):List Claim:=(Cq big cl [⟨s,s⟩] tt ep).getD []
def msgP (n:Node) (m:Move):Msg:=⟨2,n.id,m.to,0,[],[],0,m.slot,m.num,⟨0,0⟩,⟨0,0⟩,0,[⟨m.key,false,(rawP n.db m.key).getD noI⟩]⟩
def relT (n:Node) (m:Move):Node:={ n with epoch:=n.epoch+1,claims:=giveP n.claims m.slot m.to (n.epoch+1) }
def lockT (n:Node):Node:={ n with last:=n.last+1 }
def lockM (n:Node) (m:Move):Move:=⟨m.slot,m.to,n.last+1,(inP n.db m.slot).headD ⟨#[]⟩⟩
def stepT (a:Node×List Move×List Msg) (m:Move):Node×List Move×List Msg :=
 if m.num=0 then
  if inP a.1.db m.slot=[] then (relT a.1 m,a.2.1,a.2.2)
  else (lockT a.1,a.2.1++[lockM a.1 m],a.2.2++[msgP (lockT a.1) (lockM a.1 m)])
 else (a.1,a.2.1++[m],a.2.2++[msgP a.1 m])
def TickP (n:Node):Node×List Msg:=({ (n.moves.foldl stepT (n,[],[])).1 with moves:=(n.moves.foldl stepT (n,[],[])).2.1 },(n.moves.foldl stepT (n,[],[])).2.2)
structure InT (G:Nat→List Claim→Prop) (n:Node) (i:Nat) (a:Node×List Move×List Msg):Prop where
 db:a.1.db=n.db
 l0:n.last≤a.1.last
 l1:a.1.last≤n.last+i
 e0:n.epoch≤a.1.epoch
 e1:a.1.epoch≤n.epoch+i
 g:G i a.1.claims
 m1:a.2.1.length≤i
 m2:a.2.2.length≤i
 same:a.1={ n with last:=a.1.last,epoch:=a.1.epoch,claims:=a.1.claims }
def GiveOk (G:Nat→List Claim→Prop) (l:List Move):Prop:=(∀ i cl,G i cl→G (i+1) cl)∧∀ i cl ep (hi:i<l.length),G i cl→1≤ep→ep≤2000000→Cq big cl [⟨l[i].slot,l[i].slot⟩] l[i].to ep=some (giveP cl l[i].slot l[i].to ep)∧G (i+1) (giveP cl l[i].slot l[i].to ep)
def goneE (k:ByteArray):Effect:=⟨k,true,noI⟩
theorem MC (n:Node) (h:OkN n) (e:Effect) (he:okI e.item) (f:Node→List Effect→Option Node) (hf:f=Fy big∨f=Bk big):f n [e]=some { n with db:=applyP n.db e,feed:=addF n.feed [e] }:=by
 have h1:=h.dl
 have h2:=h.bl
 have ha:=IN n.db [e] h.srt h.okd (fun x hx=>by simp at hx;subst hx;exact he) (by simp;omega)
 have hb:=NU n.feed [e] h.bk ⟨by simp,fun x hx=>by simp at hx;subst hx;exact he⟩ (by simp;omega)
 rcases hf with rfl|rfl
 ·unfold Fy
  rw[ha,Af,hb,Af]
  rfl
 ·unfold Bk
  rw[ha,Af,hb,Af]
  rfl
def AckedP (n:Node) (A:List Move) (x:Move) (C:List Move):Node:={ n with db:=applyP n.db (goneE x.key),feed:=addF n.feed [goneE x.key],moves:=A++[⟨x.slot,x.to,0,⟨#[]⟩⟩]++C }
theorem LL {α:Type} (A C:List α) (x y:α):(A++[x]++C).set A.length y=A++[y]++C:=by
 rw[List.append_assoc,List.append_assoc,List.set_append_right _ _ (Nat.le_refl _),Nat.sub_self]
 rfl
theorem IP {α:Type} (A C:List α) (x:α):nth (A++[x]++C) (A.length:Int)=some x:=by
 rw[Iw,List.append_assoc,List.getElem?_append_right (Nat.le_refl _),Nat.sub_self]
 rfl
end Go.Proofs.YtlbdhlbbkibgpaaGreat
namespace Go.Proofs.YtlbdhlbbkibgpaaGreat
open Go Go.RowKit
section
variable {β:Type}
def fnP:List (Int×Int×β)→Int→Option β
 |[],_=>none
 |p::l,s=>if p.1≤s∧s≤p.2.1 then some p.2.2 else fnP l s
def canP:List (Int×Int×β)→Prop
 |[]=>True
 |[p]=>p.1≤p.2.1
 |p::q::l=>p.1≤p.2.1∧p.2.1<q.1∧¬ (p.2.1+1=q.1∧p.2.2=q.2.2)∧canP (q::l)
theorem canP.head {p:Int×Int×β} {l:List (Int×Int×β)} (h:canP (p::l)):p.1≤p.2.1:=by
 cases l with
 |nil=>exact h
 |cons q l=>exact h.1
theorem canP.tail {p:Int×Int×β} {l:List (Int×Int×β)} (h:canP (p::l)):canP l:=by
 cases l with
 |nil=>trivial
 |cons q l=>exact h.2.2.2
theorem canP.lt {p:Int×Int×β}:∀ {l:List (Int×Int×β)},canP (p::l)→∀ q∈l,p.2.1<q.1
 |[],_,q,hq=>by simp at hq
 |r::l,h,q,hq=>by
  rcases List.mem_cons.1 hq with rfl|hq
  ·exact h.2.1
  ·have h1:=canP.lt h.2.2.2 q hq
   have h2:=canP.head h.2.2.2
   have h3:=h.2.1
   omega
theorem Db {l:List (Int×Int×β)} {s:Int} (h:∀ p∈l,¬ (p.1≤s∧s≤p.2.1)):fnP l s=none:=by
 induction l with
 |nil=>rfl
 |cons p l ih =>
  simp only[fnP]
  rw[if_neg (h p (by simp)),ih fun q hq=>h q (by simp[hq])]
theorem EE {p:Int×Int×β} {l:List (Int×Int×β)} (h:canP (p::l)) {s:Int} (hs:s≤p.2.1):fnP l s=none :=
 Db fun q hq hc=>by have:=h.lt q hq;omega
theorem B3 {p:Int×Int×β} {l:List (Int×Int×β)} {s:Int} (h1:p.1≤s) (h2:s≤p.2.1):fnP (p::l) s=some p.2.2:=by
 simp only[fnP]
 rw[if_pos ⟨h1,h2⟩]
theorem Dk {p:Int×Int×β} {l:List (Int×Int×β)} {s:Int} (h:¬ (p.1≤s∧s≤p.2.1)):fnP (p::l) s=fnP l s:=by
 simp only[fnP]
 rw[if_neg h]
theorem HL:∀ {l m:List (Int×Int×β)},canP l→canP m→(∀ s,fnP l s=fnP m s)→l=m
 |[],[],_,_,_=>rfl
 |[],q::m,_,hm,h=>by
  have:=h q.1
  rw[B3 (Int.le_refl _) hm.head] at this
  simp[fnP] at this
 |p::l,[],hl,_,h=>by
  have:=h p.1
  rw[B3 (Int.le_refl _) hl.head] at this
  simp[fnP] at this
 |p::l,q::m,hl,hm,h=>by
  have hp:=hl.head
  have hq:=hm.head
  have e1:p.1=q.1:=by
   rcases Int.lt_trichotomy p.1 q.1 with hlt|he|hgt
   ·exfalso
    have:=h p.1
    rw[B3 (Int.le_refl _) hp,Dk (by omega),EE hm (by omega)] at this
    simp at this
   ·exact he
   ·exfalso
    have:=h q.1
    rw[B3 (p:=q) (Int.le_refl _) hq,Dk (by omega),EE hl (by omega)] at this
    simp at this
  have e2:p.2.2=q.2.2:=by
   have:=h p.1
   rw[B3 (Int.le_refl _) hp,B3 (by omega) (by omega)] at this
   exact Option.some.inj this
  have key:∀ {p q:Int×Int×β} {l m:List (Int×Int×β)},canP (p::l)→canP (q::m)→(∀ s,fnP (p::l) s=fnP (q::m) s)→p.1=q.1→p.2.2=q.2.2→¬ p.2.1<q.2.1:=by
   intro p q l m hl hm h e1 e2 hlt
   have hp:=hl.head
   have:=h (p.2.1+1)
   rw[Dk (by omega),B3 (p:=q) (by omega) (by omega)] at this
   cases l with
   |nil=>simp[fnP] at this
   |cons r l =>
    have hr:=hl.2.1
    have hr2:=canP.head hl.2.2.2
    rcases Decidable.em (p.2.1+1=r.1) with e|e
    ·rw[B3 (by omega) (by omega)] at this
     have:=Option.some.inj this
     exact hl.2.2.1 ⟨e,by rw[e2,this]⟩
    ·rw[Dk (by omega),EE hl.2.2.2 (by omega)] at this
     simp at this
  have e3:p.2.1=q.2.1:=by
   have a:=key hl hm h e1 e2
   have b:=key hm hl (fun s=>(h s).symm) e1.symm e2.symm
   omega
  have e4:p=q:=Prod.ext e1 (Prod.ext e3 e2)
  subst e4
  rw[HL hl.tail hm.tail fun s=>?_]
  rcases Decidable.em (s≤p.2.1) with hs|hs
  ·rw[EE hl hs,EE hm hs]
  ·have:=h s
   rwa [Dk (by omega),Dk (by omega)] at this
theorem Gd (l m:List (Int×Int×β)) (s:Int):fnP (l++m) s=match fnP l s with|some v=>some v|none=>fnP m s:=by
 induction l with
 |nil=>rfl
 |cons p l ih =>
  simp only[List.cons_append,fnP]
  split
  ·rfl
  ·exact ih
theorem GX:∀ {l:List (Int×Int×β)} {p:Int×Int×β},canP l→p.1≤p.2.1→(∀ q,l.getLast?=some q→q.2.1<p.1∧¬ (q.2.1+1=p.1∧q.2.2=p.2.2))→canP (l++[p])
 |[],p,_,hp,_=>hp
 |[q],p,hq,hp,h=>by
  obtain⟨h1,h2⟩:=h q rfl
  exact⟨hq,h1,h2,hp⟩
 |q::r::l,p,hl,hp,h=>by
  refine⟨hl.1,hl.2.1,hl.2.2.1,?_⟩
  exact GX (l:=r::l) hl.2.2.2 hp fun x hx=>h x (by rw[List.getLast?_cons_cons];exact hx)
theorem Jg:∀ {l:List (Int×Int×β)} {p:Int×Int×β},canP (l++[p])→canP l∧p.1≤p.2.1∧(∀ q,l.getLast?=some q→q.2.1<p.1∧¬ (q.2.1+1=p.1∧q.2.2=p.2.2))
 |[],p,h=>⟨trivial,h,fun q hq=>by simp at hq⟩
 |[q],p,h=>by
  refine⟨h.1,h.2.2.2,fun x hx=>?_⟩
  simp at hx
  subst hx
  exact⟨h.2.1,h.2.2.1⟩
 |q::r::l,p,h=>by
  have h':canP ((r::l)++[p]):=h.2.2.2
  obtain⟨a,b,c⟩:=Jg h'
  exact⟨⟨h.1,h.2.1,h.2.2.1,a⟩,b,fun x hx=>c x (by rw[List.getLast?_cons_cons] at hx;exact hx)⟩
structure BdP (at_:Int) (out:List (Int×Int×β)) (f:Int→Option β):Prop where
 can:canP out
 pos:∀ p∈out,p.2.1<at_
 fn:∀ s,s<at_→fnP out s=f s
def putP [DecidableEq β] (l:List (Int×Int×β)) (p:Int×Int×β):List (Int×Int×β) :=
 match l.getLast? with
 |some q=>if q.2.1+1=p.1∧q.2.2=p.2.2 then l.dropLast++[(q.1,p.2.1,q.2.2)] else l++[p]
 |none=>[p]
theorem BdP.skip {a b:Int} {out:List (Int×Int×β)} {f:Int→Option β} (h:BdP a out f) (hab:a≤b) (hf:∀ s,a≤s→s<b→f s=none):BdP b out f:=by
 refine⟨h.can,fun p hp=>by have:=h.pos p hp;omega,fun s hs=>?_⟩
 rcases Decidable.em (s<a) with h1|h1
 ·exact h.fn s h1
 ·rw[hf s (by omega) hs]
  exact Db fun p hp hc=>by have:=h.pos p hp;omega
theorem BdP.put [DecidableEq β] {a b:Int} {v:β} {out:List (Int×Int×β)} {f:Int→Option β} (h:BdP a out f) (hab:a≤b) (hf:∀ s,a≤s→s≤b→f s=some v):BdP (b+1) (putP out (a,b,v)) f:=by
 have hcan:=h.can
 unfold putP
 split
 ·rename_i q hq
  obtain⟨l,hl⟩:=List.getLast?_eq_some_iff.1 hq
  subst hl
  have hqp:=h.pos q (by simp)
  obtain⟨c1,c2,c3⟩:=Jg hcan
  split
  ·rename_i hc
   obtain⟨g1,g2⟩:=hc
   rw[List.dropLast_concat]
   refine⟨GX c1 (by simp only at g1 ⊢;omega) (fun x hx=>?_),?_,?_⟩
   ·exact c3 x hx
   ·intro p hp
    rcases List.mem_append.1 hp with hp|hp
    ·have:=h.pos p (by simp[hp])
     omega
    ·simp at hp
     subst hp
     simp only
     omega
   ·intro s hs
    rw[Gd]
    rcases Decidable.em (s<a) with h1|h1
    ·have:=h.fn s h1
     rw[← this,Gd]
     cases fnP l s with
     |some w=>rfl
     |none =>
      simp only[fnP]
      simp only at g1
      rcases Decidable.em (q.1≤s∧s≤q.2.1) with h2|h2
      ·rw[if_pos h2,if_pos ⟨h2.1,by omega⟩]
      ·rw[if_neg h2,if_neg (by omega)]
    ·rw[hf s (by omega) (by omega)]
     have:fnP l s=none:=Db fun p hp hc=>by have:=h.pos p (by simp[hp]);omega
     rw[this]
     simp only[fnP]
     simp only at g1 g2
     rw[if_pos ⟨by omega,by omega⟩,g2]
  ·rename_i hc
   refine⟨GX hcan hab fun x hx=>?_,?_,?_⟩
   ·rw[hq] at hx
    have:=Option.some.inj hx
    subst this
    exact⟨hqp,hc⟩
   ·intro p hp
    rcases List.mem_append.1 hp with hp|hp
    ·have:=h.pos p hp
     omega
    ·simp at hp
     subst hp
     simp only
     omega
   ·intro s hs
    rw[Gd]
    rcases Decidable.em (s<a) with h1|h1
    ·rw[h.fn s h1]
     cases f s with
     |some w=>rfl
     |none =>
      simp only[fnP]
      rw[if_neg (by omega)]
    ·rw[hf s (by omega) (by omega)]
     have:fnP (l++[q]) s=none:=Db fun p hp hc=>by have:=h.pos p hp;omega
     rw[this]
     simp only[fnP]
     rw[if_pos ⟨by omega,by omega⟩]
 ·rename_i hn
  have:out=[]:=List.getLast?_eq_none_iff.1 hn
  subst this
  refine⟨hab,?_,?_⟩
  ·intro p hp
   simp at hp
   subst hp
   simp only
   omega
  ·intro s hs
   simp only[fnP]
   rcases Decidable.em (s<a) with h1|h1
   ·have:=h.fn s h1
    rw[if_neg (by omega),← this]
    rfl
   ·rw[if_pos ⟨by omega,by omega⟩,hf s (by omega) (by omega)]
theorem BdP.nil {a:Int} {f:Int→Option β} (hf:∀ s,s<a→f s=none):BdP a [] f:=⟨trivial,fun p hp=>by simp at hp,fun s hs=>by rw[hf s hs];rfl⟩
theorem BdP.ext {a b:Int} {l m:List (Int×Int×β)} {f:Int→Option β} (hl:BdP a l f) (hm:BdP b m f) (hf:∀ s,a≤s∨b≤s→f s=none):l=m:=by
 refine HL hl.can hm.can fun s=>?_
 have h1:fnP l s=f s:=by
  rcases Decidable.em (s<a) with h|h
  ·exact hl.fn s h
  ·rw[hf s (.inl (by omega))]
   exact Db fun p hp hc=>by have:=hl.pos p hp;omega
 have h2:fnP m s=f s:=by
  rcases Decidable.em (s<b) with h|h
  ·exact hm.fn s h
  ·rw[hf s (.inr (by omega))]
   exact Db fun p hp hc=>by have:=hm.pos p hp;omega
 rw[h1,h2]
theorem HM {s:Int}:∀ {l:List (Int×Int×β)},(∀ p∈l,s+1≠p.1∧s+1≠p.2.1+1)→fnP l (s+1)=fnP l s
 |[],_=>rfl
 |p::l,h=>by
  have h1:=h p (by simp)
  have ih:=HM (l:=l) fun q hq=>h q (by simp[hq])
  simp only[fnP]
  rcases Decidable.em (p.1≤s∧s≤p.2.1) with h2|h2
  ·rw[if_pos h2,if_pos (by omega)]
  ·rw[if_neg h2,ih]
   rcases Decidable.em (p.1≤s+1∧s+1≤p.2.1) with h3|h3
   ·omega
   ·rw[if_neg h3]
end
end Go.Proofs.YtlbdhlbbkibgpaaGreat
namespace Go.Proofs.YtlbdhlbbkibgpaaGreat
open Go Go.RowKit
def SM (m:List Int):Prop:=m.Pairwise (·<·)∧∀ x∈m,0≤x∧x≤16384
theorem SM.nil:SM []:=⟨List.Pairwise.nil,fun x hx=>by simp at hx⟩
def cP (c:Claim):Int×Int×(Int×Int):=(c.frm,c.to,(c.node,c.epoch))
def fC (l:List Claim) (s:Int):Option (Int×Int):=fnP (l.map cP) s
def inB (x:Int):Prop:=-1000000≤x∧x≤1000000
end Go.Proofs.YtlbdhlbbkibgpaaGreat
namespace Go.Proofs.YtlbdhlbbkibgpaaGreat
open Go Go.RowKit
section
variable {β:Type}
def FinP (out:List (Int×Int×β)) (f:Int→Option β):Prop:=canP out∧∀ s,fnP out s=f s
theorem FinP.ext {l m:List (Int×Int×β)} {f g:Int→Option β} (hl:FinP l f) (hm:FinP m g) (h:∀ s,f s=g s):l=m:=HL hl.1 hm.1 fun s=>by rw[hl.2,hm.2,h]
def Stp (m:List Int) (f:Int→Option β):Prop:=(∀ s,s+1 ∉ m→f (s+1)=f s)∧∀ s,s<0∨16384≤s→f s=none
theorem Stp.const {m:List Int} {f:Int→Option β} (h:Stp m f) {a s:Int} (h1:a≤s) (h2:∀ x∈m,¬ (a<x∧x≤s)):f s=f a:=by
 obtain⟨n,hn⟩:=Int.eq_ofNat_of_zero_le (show 0≤s - a by omega)
 have key:∀ k:Nat,k≤n→f (a+k)=f a:=by
  intro k
  induction k with
  |zero=>intro _;simp
  |succ k ih =>
   intro hk
   have e:a+((k+1:Nat):Int)=(a+k)+1:=by omega
   rw[e,h.1 (a+k) (fun hmem=>h2 _ hmem (by omega)),ih (by omega)]
 have:=key n (Nat.le_refl _)
 rwa [← hn,show a+(s - a)=s by omega] at this
theorem Stp.first {m:List Int} {f:Int→Option β} (h:Stp m f) (hm:SM m) (hl:0<m.length):BdP m[0] [] f:=by
 refine BdP.nil fun s hs=>?_
 rcases Decidable.em (s<0) with h0|h0
 ·exact h.2 s (.inl h0)
 ·rw[h.const (a:=-1) (by omega) fun x hx hc=>?_]
  ·exact h.2 _ (.inl (by omega))
  ·obtain⟨i,hi,rfl⟩:=List.mem_iff_getElem.1 hx
   rcases Nat.eq_zero_or_pos i with rfl|hp
   ·omega
   ·have:=List.pairwise_iff_getElem.1 hm.1 0 i hl hi hp
    omega
theorem Stp.next [DecidableEq β] {m:List Int} {f:Int→Option β} (h:Stp m f) (hm:SM m) {j:Nat} (hj:j+1<m.length) {out:List (Int×Int×β)} (hb:BdP m[j] out f) :
  (f m[j]=none→BdP m[j+1] out f)∧∀ v,f m[j]=some v→BdP m[j+1] (putP out (m[j],m[j+1] - 1,v)) f:=by
 have hlt:=List.pairwise_iff_getElem.1 hm.1 j (j+1) (by omega) hj (by omega)
 have hc:∀ s,m[j]≤s→s<m[j+1]→f s=f m[j]:=by
  intro s h1 h2
  refine h.const h1 fun x hx hc=>?_
  obtain⟨i,hi,rfl⟩:=List.mem_iff_getElem.1 hx
  rcases Nat.lt_trichotomy i j with h3|rfl|h3
  ·have:=List.pairwise_iff_getElem.1 hm.1 i j hi (by omega) h3
   omega
  ·omega
  ·rcases Nat.eq_or_lt_of_le h3 with h4|h4
   ·subst h4
    have h5:m[j.succ]=m[j+1]:=rfl
    omega
   ·have:=List.pairwise_iff_getElem.1 hm.1 (j+1) i hj hi h4
    omega
 refine⟨fun hn=>hb.skip (by omega) fun s h1 h2=>by rw[hc s h1 h2,hn],fun v hv=>?_⟩
 have:=hb.put (b:=m[j+1] - 1) (v:=v) (by omega) fun s h1 h2=>by rw[hc s h1 (by omega),hv]
 rwa [show m[j+1] - 1+1=m[j+1] by omega] at this
theorem Stp.last {m:List Int} {f:Int→Option β} (h:Stp m f) (hm:SM m) {j:Nat} (hj:j<m.length) (hl:m.length≤j+1) {out:List (Int×Int×β)} (hb:BdP m[j] out f):FinP out f:=by
 refine⟨hb.can,fun s=>?_⟩
 rcases Decidable.em (s<m[j]) with h1|h1
 ·exact hb.fn s h1
 ·have e:f s=none:=by
   rcases Decidable.em (16384≤s) with h2|h2
   ·exact h.2 s (.inr h2)
   ·have:=h.const (a:=s) (s:=16384) (by omega) fun x hx hc=>by
     obtain⟨i,hi,rfl⟩:=List.mem_iff_getElem.1 hx
     rcases Nat.eq_or_lt_of_le (show i≤j by omega) with h3|h3
     ·subst h3
      omega
     ·have:=List.pairwise_iff_getElem.1 hm.1 i j hi hj h3
      omega
    rw[← this]
    exact h.2 _ (.inr (Int.le_refl _))
  rw[e]
  exact Db fun p hp hc=>by have:=hb.pos p hp;omega
theorem Stp.none {f:Int→Option β} (h:Stp [] f):FinP ([]:List (Int×Int×β)) f:=by
 refine⟨trivial,fun s=>?_⟩
 rcases Decidable.em (s<0) with h0|h0
 ·rw[h.2 s (.inl h0)];rfl
 ·rw[h.const (a:=-1) (by omega) (fun x hx=>by simp at hx),h.2 _ (.inl (by omega))];rfl
end
def sP (x:Span):Int×Int×Unit:=(x.frm,x.to,())
def inS (l:List Span) (s:Int):Prop:=(0≤s∧s<16384)∧∃ x∈l,x.frm≤s∧s≤x.to
instance (l:List Span) (s:Int):Decidable (inS l s):=by unfold inS;infer_instance
def fS (p:Int→Prop) [DecidablePred p] (s:Int):Option Unit:=if p s then some () else none
theorem Stp.inS {m:List Int} {l:List Span} (h0:(0:Int)∈m) (h1:(16384:Int)∈m) (h:∀ x∈l,x.frm≤x.to→(0≤x.frm∧x.frm≤16384→x.frm∈m)∧(x.to<16384→0≤x.to+1→x.to+1∈m)):∀ s,s+1 ∉ m→(Go.Proofs.YtlbdhlbbkibgpaaGreat.inS l (s+1)↔Go.Proofs.YtlbdhlbbkibgpaaGreat.inS l s):=by
 intro s hs
 have n0:s+1≠0:=fun e=>hs (e ▸ h0)
 have n1:s+1≠16384:=fun e=>hs (e ▸ h1)
 unfold Go.Proofs.YtlbdhlbbkibgpaaGreat.inS
 constructor
 ·rintro⟨a,x,hx,b,c⟩
  refine⟨by omega,x,hx,?_,by omega⟩
  rcases Decidable.em (x.frm≤s) with h2|h2
  ·exact h2
  ·exfalso
   have e:x.frm=s+1:=by omega
   have:=(h x hx (by omega)).1 (by omega)
   rw[e] at this
   exact hs this
 ·rintro⟨a,x,hx,b,c⟩
  refine⟨by omega,x,hx,by omega,?_⟩
  rcases Decidable.em (s+1≤x.to) with h2|h2
  ·exact h2
  ·exfalso
   have e:x.to=s:=by omega
   have:=(h x hx (by omega)).2 (by omega) (by omega)
   rw[e] at this
   exact hs this
end Go.Proofs.YtlbdhlbbkibgpaaGreat
namespace Go.Proofs.YtlbdhlbbkibgpaaGreat
open Go Go.RowKit
theorem O1 {p:Int→Prop} [DecidablePred p] {s:Int} (h:¬ p s):fS p s=none:=if_neg h
theorem O2 {p:Int→Prop} [DecidablePred p] {s:Int} (h:p s):fS p s=some ():=if_pos h
end Go.Proofs.YtlbdhlbbkibgpaaGreat
namespace Go.Proofs.YtlbdhlbbkibgpaaGreat
open Go Go.RowKit
section
variable {β:Type}
theorem Ge:∀ {l:List (Int×Int×β)} {p:Int×Int×β},canP l→p∈l→(p.1≤p.2.1∧∀ s,p.1≤s→s≤p.2.1→fnP l s=some p.2.2)
 |[],p,_,hp=>by simp at hp
 |q::l,p,h,hp=>by
  rcases List.mem_cons.1 hp with rfl|hp
  ·exact⟨h.head,fun s h1 h2=>B3 h1 h2⟩
  ·obtain⟨h1,h2⟩:=Ge h.tail hp
   have h3:=h.lt p hp
   exact⟨h1,fun s g1 g2=>by rw[Dk (by omega),h2 s g1 g2]⟩
theorem HN:∀ {l:List (Int×Int×β)} {a b:Int},canP l→(∀ p∈l,a≤p.1∧p.2.1≤b)→a≤b+1→(l.length:Int)≤b+1 - a
 |[],a,b,_,_,h=>by simp;omega
 |p::l,a,b,hc,hp,h=>by
  have h1:=hp p (by simp)
  have h2:=hc.head
  have:=HN (a:=p.2.1+1) (b:=b) hc.tail (fun q hq=>⟨by have:=hc.lt q hq;omega,(hp q (by simp[hq])).2⟩) (by omega)
  simp
  omega
end
def RngC (l:List Claim):Prop:=∀ c∈l,0≤c.frm∧c.frm≤c.to∧c.to≤16383∧0≤c.node∧1≤c.epoch
def GoodC (l:List Claim):Prop:=canP (l.map cP)∧RngC l
def Tells (f:Int→Option (Int×Int)):Prop:=∀ s v,f s=some v→(0≤s∧s≤16383)∧0≤v.1∧1≤v.2
theorem FinP.good {l:List Claim} {f:Int→Option (Int×Int)} (h:FinP (l.map cP) f) (ht:Tells f):GoodC l:=by
 refine⟨h.1,fun c hc=>?_⟩
 obtain⟨h1,h2⟩:=Ge h.1 (List.mem_map_of_mem hc)
 have a:=ht c.frm _ ((h.2 _).symm.trans (h2 c.frm (Int.le_refl _) h1))
 have b:=ht c.to _ ((h.2 _).symm.trans (h2 c.to h1 (Int.le_refl _)))
 have h1':c.frm≤c.to:=h1
 have e1:(cP c).2.2.1=c.node:=rfl
 have e2:(cP c).2.2.2=c.epoch:=rfl
 rw[e1,e2] at a
 exact⟨a.1.1,h1',b.1.2,a.2.1,a.2.2⟩
theorem GoodC.tells {l:List Claim} (h:GoodC l):Tells (fC l):=by
 intro s v hv
 have key:∀ l:List Claim,RngC l→fC l s=some v→(0≤s∧s≤16383)∧0≤v.1∧1≤v.2:=by
  intro l
  induction l with
  |nil=>intro _ h;simp[fC,fnP] at h
  |cons c l ih =>
   intro hr hf
   have hc:=hr c (by simp)
   rcases Decidable.em (c.frm≤s∧s≤c.to) with h1|h1
   ·have:fC (c::l) s=some (c.node,c.epoch):=B3 (p:=cP c) h1.1 h1.2
    rw[this] at hf
    have:=Option.some.inj hf
    subst this
    exact⟨by omega,hc.2.2.2.1,hc.2.2.2.2⟩
   ·have:fC (c::l) s=fC l s:=Dk (p:=cP c) h1
    rw[this] at hf
    exact ih (fun x hx=>hr x (by simp[hx])) hf
 exact key l h.2 hv
theorem GoodC.len {l:List Claim} (h:GoodC l):l.length≤16384:=by
 have:=HN (a:=0) (b:=16383) h.1 (fun p hp=>by
  obtain⟨c,hc,rfl⟩:=List.mem_map.1 hp
  have:=h.2 c hc
  exact⟨this.1,this.2.2.1⟩) (by omega)
 simp at this
 omega
theorem GoodC.fin {l:List Claim} (h:GoodC l):FinP (l.map cP) (fC l):=⟨h.1,fun _=>rfl⟩
theorem GoodC.step {l:List Claim} (h:GoodC l) {m:List Int} (hm:∀ c∈l,c.frm∈m∧c.to+1∈m):∀ s,s+1 ∉ m→fC l (s+1)=fC l s:=by
 intro s hs
 refine HM fun p hp=>?_
 obtain⟨c,hc,rfl⟩:=List.mem_map.1 hp
 obtain⟨h1,h2⟩:=hm c hc
 exact⟨fun e=>hs (by rw[e];exact h1),fun e=>hs (by rw[e];exact h2)⟩
def giveF (f:Int→Option (Int×Int)) (p:Int→Prop) [DecidablePred p] (v:Int×Int) (s:Int):Option (Int×Int):=if p s then some v else f s
theorem Of {l:List Span} {s:Int}:fnP (l.map sP) s=fS (fun s=>∃ x∈l,x.frm≤s∧s≤x.to) s:=by
 induction l with
 |nil=>rw[O1 (by simp)];rfl
 |cons x l ih =>
  rcases Decidable.em (x.frm≤s∧s≤x.to) with h|h
  ·rw[O2 ⟨x,by simp,h⟩]
   exact B3 (p:=sP x) h.1 h.2
  ·have:fnP ((x::l).map sP) s=fnP (l.map sP) s:=Dk (p:=sP x) h
   rw[this,ih]
   unfold fS
   have:(∃ y∈x::l,y.frm≤s∧s≤y.to)↔(∃ y∈l,y.frm≤s∧s≤y.to):=by
    constructor
    ·rintro⟨y,hy,h2⟩
     rcases List.mem_cons.1 hy with rfl|hy
     ·exact absurd h2 h
     ·exact⟨y,hy,h2⟩
    ·rintro⟨y,hy,h2⟩
     exact⟨y,by simp[hy],h2⟩
   simp only[this]
def SaysS (l:List Span) (p:Int→Prop) [DecidablePred p]:Prop:=FinP (l.map sP) (fS p)
theorem SaysS.iff {l:List Span} {p:Int→Prop} [DecidablePred p] (h:SaysS l p) (s:Int):(∃ x∈l,x.frm≤s∧s≤x.to)↔p s:=by
 have:=h.2 s
 rw[Of] at this
 unfold fS at this
 constructor
 ·intro h1
  rw[if_pos h1] at this
  rcases Decidable.em (p s) with h2|h2
  ·exact h2
  ·rw[if_neg h2] at this
   simp at this
 ·intro h1
  rw[if_pos h1] at this
  rcases Decidable.em (∃ x∈l,x.frm≤s∧s≤x.to) with h2|h2
  ·exact h2
  ·rw[if_neg h2] at this
   simp at this
theorem SaysS.rng {l:List Span} {p:Int→Prop} [DecidablePred p] (h:SaysS l p) (hp:∀ s,p s→0≤s∧s≤16383):∀ x∈l,0≤x.frm∧x.frm≤x.to∧x.to≤16383:=by
 intro x hx
 obtain⟨h1,-⟩:=Ge h.1 (List.mem_map_of_mem hx)
 have h1':x.frm≤x.to:=h1
 have a:=hp x.frm ((h.iff _).1 ⟨x,hx,Int.le_refl _,h1'⟩)
 have b:=hp x.to ((h.iff _).1 ⟨x,hx,h1',Int.le_refl _⟩)
 omega
theorem SaysS.len {l:List Span} {p:Int→Prop} [DecidablePred p] (h:SaysS l p) (hp:∀ s,p s→0≤s∧s≤16383):l.length≤16384:=by
 have:=HN (a:=0) (b:=16383) h.1 (fun q hq=>by
  obtain⟨c,hc,rfl⟩:=List.mem_map.1 hq
  have:=h.rng hp c hc
  exact⟨this.1,this.2.2⟩) (by omega)
 simp at this
 omega
theorem SaysS.inS {l:List Span} {p:Int→Prop} [DecidablePred p] (h:SaysS l p) (hp:∀ s,p s→0≤s∧s≤16383) (s:Int):Go.Proofs.YtlbdhlbbkibgpaaGreat.inS l s↔p s:=by
 unfold Go.Proofs.YtlbdhlbbkibgpaaGreat.inS
 rw[h.iff]
 constructor
 ·exact fun h=>h.2
 ·intro h1
  have:=hp s h1
  exact⟨by omega,h1⟩
theorem SaysS.step {l:List Span} {p:Int→Prop} [DecidablePred p] (h:SaysS l p) {m:List Int} (hm:∀ x∈l,x.frm∈m∧x.to+1∈m):∀ s,s+1 ∉ m→(p (s+1)↔p s):=by
 intro s hs
 have:fnP (l.map sP) (s+1)=fnP (l.map sP) s:=HM fun q hq=>by
  obtain⟨c,hc,rfl⟩:=List.mem_map.1 hq
  obtain⟨h1,h2⟩:=hm c hc
  exact⟨fun e=>hs (by rw[e];exact h1),fun e=>hs (by rw[e];exact h2)⟩
 rw[h.2,h.2] at this
 unfold fS at this
 constructor
 ·intro h1
  rw[if_pos h1] at this
  rcases Decidable.em (p s) with h2|h2
  ·exact h2
  ·rw[if_neg h2] at this
   simp at this
 ·intro h1
  rw[if_pos h1] at this
  rcases Decidable.em (p (s+1)) with h2|h2
  ·exact h2
  ·rw[if_neg h2] at this
   simp at this
end Go.Proofs.YtlbdhlbbkibgpaaGreat
namespace Go.Proofs.YtlbdhlbbkibgpaaGreat
open Go Go.RowKit
theorem BdP.fin {β:Type} {a:Int} {out:List (Int×Int×β)} {f:Int→Option β} (h:BdP a out f) (hf:∀ s,a≤s→f s=none):FinP out f:=by
 refine⟨h.can,fun s=>?_⟩
 rcases Decidable.em (s<a) with h1|h1
 ·exact h.fn s h1
 ·rw[hf s (by omega)]
  exact Db fun p hp hc=>by have:=h.pos p hp;omega
theorem BdP.rng {a:Int} {out:List Claim} {f:Int→Option (Int×Int)} (h:BdP a (out.map cP) f) (hf:∀ s,s<0→f s=none):∀ x∈out,0≤x.frm∧x.frm≤x.to∧x.to<a:=by
 intro x hx
 have a1:x.to<a:=h.pos _ (List.mem_map_of_mem hx)
 obtain⟨a2,a3⟩:=Ge h.can (List.mem_map_of_mem hx)
 have a5:x.frm≤x.to:=a2
 have a6:=h.fn x.frm (by omega)
 rw[a3 x.frm (Int.le_refl _) a5] at a6
 refine⟨?_,a5,a1⟩
 rcases Decidable.em (x.frm<0) with h1|h1
 ·rw[hf x.frm h1] at a6
  simp at a6
 ·omega
def valC (c:Claim):Option (Int×Int):=if c.epoch=0 then none else some (c.node,c.epoch)
theorem GoodC.tail {c:Claim} {l:List Claim} (h:GoodC (c::l)):GoodC l:=⟨canP.tail (p:=cP c) h.1,fun x hx=>h.2 x (by simp[hx])⟩
structure NextC (l:List Claim) (at_:Int) (c:Claim) (r:List Claim):Prop where
 frm:c.frm=at_
 le:at_≤c.to
 last:c.to≤16383
 val:∀ s,at_≤s→s≤c.to→fC l s=valC c
 good:GoodC r
 rest:∀ s,at_≤s→fC r s=fC l s
 num:0≤c.node∧0≤c.epoch∧(c.epoch=0→c.node=0)
def epo:Option (Int×Int)→Int
 |some v=>v.2
 |none=>0
def nod:Option (Int×Int)→Int
 |some v=>v.1
 |none=>0
def joinV (x y:Option (Int×Int)):Option (Int×Int):=if epo y<epo x∨(epo x=epo y∧nod y<nod x) then x else y
def joinF (f g:Int→Option (Int×Int)) (s:Int):Option (Int×Int):=joinV (f s) (g s)
theorem Tells.none {f:Int→Option (Int×Int)} (h:Tells f) {s:Int} (hs:s<0∨16384≤s):f s=Option.none:=by
 cases hf:f s with
 |none=>rfl
 |some v=>exact absurd (h s v hf).1 (by omega)
end Go.Proofs.YtlbdhlbbkibgpaaGreat
namespace Go.Proofs.YtlbdhlbbkibgpaaGreat
open Go Go.RowKit
def SortableS (l:List Span):Prop:=∃ s:Int,l=[⟨s,s⟩]∧0≤s∧s≤16383
theorem SaysS.of {l:List Span} {p:Int→Prop} [DecidablePred p] (h:canP (l.map sP)) (hp:∀ t,(∃ x∈l,x.frm≤t∧t≤x.to)↔p t):SaysS l p:=by
 refine⟨h,fun s=>?_⟩
 rw[Of]
 unfold fS
 simp only[hp s]
end Go.Proofs.YtlbdhlbbkibgpaaGreat
namespace Go.Proofs.YtlbdhlbbkibgpaaGreat
open Go Go.RowKit
end Go.Proofs.YtlbdhlbbkibgpaaGreat
namespace Go.Proofs.YtlbdhlbbkibgpaaGreat
open Go Go.RowKit
theorem OkN.app {n:Node} (h:OkN n) {e:Effect} (hk:keyed e.key) (he:okI e.item) (hl:(applyP n.db e).length≤1000) {mv:List Move} {sn:List Seen} (hm:mv.length≤1000) (hs:sn.length≤1000):OkN { n with db:=applyP n.db e,feed:=addF n.feed [e],moves:=mv,seen:=sn } where
 srt:=Id h.srt e
 okd:=Jb h.okd he
 dl:=hl
 key:=fun p hp=>by
  have hp:p∈applyP n.db e:=hp
  unfold applyP newP at hp
  simp only[List.mem_append,List.mem_filter] at hp
  rcases hp with (h1|h1)|h1
  ·exact h.key p h1.1
  ·split at h1
   ·cases h1
   ·simp at h1;subst h1;exact hk
  ·exact h.key p h1.1
 bk:=by
  refine okE.drop ?_ _
  exact okE.app h.bk ⟨by simp,fun x hx=>by simp at hx;subst hx;exact he⟩ (by have:=h.bl;simp;omega)
 bl:=by
  show (lastN _).length≤64
  unfold lastN
  simp
  omega
 cl:=h.cl
 mv:=hm
 sn:=hs
 vt:=h.vt
 hd:=h.hd
 sy:=h.sy
 sz:=h.sz
theorem HO:Cr big=some true:=by kernel_rfl
end Go.Proofs.YtlbdhlbbkibgpaaGreat
namespace Go.Proofs.YtlbdhlbbkibgpaaGreat
open Go Go.RowKit
def cmpS (x:Seen) (m:Msg):Int:=if cmpI x.node m.frm=0 then cmpI x.slot m.slot else cmpI x.node m.frm
def sLt (x:Seen) (f s:Int):Prop:=x.node<f∨(x.node=f∧x.slot<s)
def sGt (x:Seen) (f s:Int):Prop:=f<x.node∨(f=x.node∧s<x.slot)
theorem O3 {x:Seen} {m:Msg} (h:sLt x m.frm m.slot):cmpS x m<0:=by
 unfold cmpS
 rcases h with h|⟨h,h2⟩
 ·have:=LJ.2 h
  rw[if_neg (by omega)]
  exact this
 ·rw[if_pos (Ha.2 h)]
  exact LJ.2 h2
theorem O4 {x:Seen} {m:Msg} (h:sGt x m.frm m.slot):0<cmpS x m:=by
 unfold cmpS
 rcases h with h|⟨h,h2⟩
 ·have:=LK.2 h
  rw[if_neg (by omega)]
  exact this
 ·rw[if_pos (Ha.2 h.symm)]
  exact LK.2 h2
theorem O5 {x:Seen} {m:Msg} (h:x.node=m.frm∧x.slot=m.slot):cmpS x m=0:=by
 unfold cmpS
 rw[if_pos (Ha.2 h.1)]
 exact Ha.2 h.2
theorem Or_ok (a b:Int):CK big [a,b]=some (if a=0 then b else a):=by
 refine Rn.eq ?_
 unfold CK
 have h2:(lenI [a,b])=2:=rfl
 refine Rn.lt ?_
 rw[h2]
 by_cases ha:a=0
 ·rw[if_pos ha]
  by_cases hb:b=0
  ·refine Rn.bnE (v:=.inl ()) (F9 (fun i=>(i:Int)) 2 (by unfold big;omega) rfl (fun i hi=>?_) rfl) (by rw[Ak];exact Rn.some hb.symm)
   have:i=0∨i=1:=by omega
   rcases this with rfl|rfl
   ·rw[Ai,show ltI ((0:Nat):Int) 2=true from rfl,Al,show nth [a,b] ((0:Nat):Int)=some a from rfl,Af,Ai,ha]
    rfl
   ·rw[Ai,show ltI ((1:Nat):Int) 2=true from rfl,Al,show nth [a,b] ((1:Nat):Int)=some b from rfl,Af,Ai,hb]
    rfl
  ·refine Rn.bnE (v:=.inr b) (F9 (fun i=>(i:Int)) 1 (by unfold big;omega) rfl (fun i hi=>?_) ?_) (by rw[Aj];exact Rn.some rfl)
   ·obtain rfl:i=0:=by omega
    rw[Ai,show ltI ((0:Nat):Int) 2=true from rfl,Al,show nth [a,b] ((0:Nat):Int)=some a from rfl,Af,Ai,ha]
    rfl
   ·rw[Ai,show ltI ((1:Nat):Int) 2=true from rfl,Al,show nth [a,b] ((1:Nat):Int)=some b from rfl,Af,Ai,neT hb]
    rfl
 ·rw[if_neg ha]
  refine Rn.bnE (v:=.inr a) (F9 (fun i=>(i:Int)) 0 (by unfold big;omega) rfl (fun i hi=>by omega) ?_) (by rw[Aj];exact Rn.some rfl)
  rw[Ai,show ltI ((0:Nat):Int) 2=true from rfl,Al,show nth [a,b] ((0:Nat):Int)=some a from rfl,Af,Ai,neT ha]
  rfl
theorem N3 (x:Seen) (m:Msg):Bj big x m=some (cmpS x m):=by
 unfold Bj
 rw[Ik,Af,Ik,Af,AR (by omega) (by omega),Or_ok,Af]
 rfl
theorem N4 (A B C:List Seen) (m:Msg) (hA:∀ a∈A,sLt a m.frm m.slot) (hC:∀ x∈C,sGt x m.frm m.slot) (hB:B=[]∨∃ x,B=[x]∧x.node=m.frm∧x.slot=m.slot) (hl:(A++B++C).length≤1000) :
  AL big (A++B++C) m=some ((A.length:Int),!B.isEmpty):=by
 have h:=PK (fun x:Seen=>Bj big x m) (fun x=>cmpS x m) (fun x=>N3 x m) A B C (fun a ha=>O3 (hA a ha)) (fun a ha=>O4 (hC a ha)) (hB.imp id fun ⟨x,h1,h2⟩=>⟨x,h1,O5 h2⟩) (by omega)
 rw[show AL big (A++B++C) m=bsG (fun x:Seen=>Bj big x m) (A++B++C) from rfl,h]
structure MayM (m:Msg) (e:Effect):Prop where
 eff:m.effects=[e]
 num:1≤m.num
 gone:e.gone=false
 key:keyed e.key
 item:mayI e.item
 ok:okI e.item
 slot:slotOf e.key=m.slot
theorem PL {m:Msg} {e:Effect} (h:MayM m e):Dz big m=some true:=by
 refine Rn.eq ?_
 unfold Dz
 refine Rn.bnE (v:=false) ?_ (Rn.lt (Rn.ite (fun h=>by cases h) fun _=>?_))
 ·rw[h.eff,Ai,Ai,show neI (lenI [e]) 1=false from rfl,Am,Ai,A5 (by have:=h.num;omega)]
 ·have hk:=Ii h.key
  refine Rn.bnE (v:=e) (by rw[h.eff];rfl) (Rn.bn (P:=fun b=>b=true) ?_ fun b hb=>Rn.some hb)
  refine Rn.lt (Rn.lt (Rn.ite (fun _=>Rn.lt (Rn.ite (fun _=>?_) fun h2=>?_)) fun h2=>?_))
  ·obtain⟨b,hb,hb2⟩:=KG e.item h.ok
   rw[hb2.2 h.item] at hb
   refine Rn.bnE hb (Rn.ite (fun _=>?_) fun h=>by cases h)
   refine Rn.bnE (LH _ (by omega)).2 (Rn.lt (Rn.some ?_))
   rw[h.slot]
   exact decide_eq_true rfl
  ·rw[h.gone] at h2;cases h2
  ·have:=of_decide_eq_false (p:=(lenS e.key≤40)) h2
   exfalso
   apply this
   show ((e.key.size:Nat):Int)≤40
   omega
def ackP (n:Node) (m:Msg):Msg:=⟨3,n.id,m.frm,0,[],[],0,m.slot,m.num,⟨0,0⟩,⟨0,0⟩,0,[]⟩
def takeN (n:Node) (m:Msg) (e:Effect) (A C:List Seen):Node:={ n with db:=applyP n.db e,feed:=addF n.feed [e],seen:=A++[⟨m.frm,m.slot,m.num⟩]++C }
theorem Hb (n:Node) (h:OkN n) (hm:n.master=-1) (m:Msg) (e:Effect) (hM:MayM m e) (A B C:List Seen) (hs:n.seen=A++B++C) (hA:∀ a∈A,sLt a m.frm m.slot) (hC:∀ x∈C,sGt x m.frm m.slot) (hB:B=[]∨∃ x,B=[x]∧x.node=m.frm∧x.slot=m.slot) :
  BG big n m=some (if ∀ x∈B,x.num<m.num then takeN n m e A C else n,[ackP n m]):=by
 have hsl:=h.sn
 have hml:=h.mv
 have hf:=N4 A B C m hA hC hB (by rw[← hs];exact hsl)
 rw[← hs] at hf
 have hlen:n.seen.length=A.length+B.length+C.length:=by rw[hs];simp[Nat.add_assoc]
 unfold BG
 rw[OX n h,Af,hm]
 simp only[Ai,Af,Al,Am,Ak,Aj,Ag,Option.some.injEq,Cl,PL hM,Cb,Ct (show n.seen.length≤1000000000 by omega),Ct (show n.moves.length≤1000000000 by omega),hf]
 have hap:=MC n h e hM.ok (Bk big) (.inr rfl)
 rw[hM.eff]
 rcases hB with rfl|⟨x,rfl,hx1,hx2⟩
 ·rw[if_pos (by simp)]
  simp only[List.isEmpty_nil,Bool.not_true,GD,Ai,Af,Al,Am,Ak,Aj,Ag,Option.some.injEq,hap]
  rw[G6 (show insB n.seen (A.length:Int)=true from decide_eq_true (by simp at hlen;omega))]
  simp only[Ai,Af,Al,Am,Ak,Aj,Ag,Option.some.injEq]
  rw[show ((A.length:Int)).toNat=A.length from rfl,hs,O0,IP]
  simp only[Ai,Af,Al,Am,Ak,Aj,Ag,Option.some.injEq]
  rw[LL,Ct (by simp at hlen ⊢;omega)]
  unfold takeN ackP
  rw[hm]
 ·simp only[List.isEmpty_cons,Bool.not_false,Cb,Ai,Af,Al,Am,Ak,Aj,Ag,Option.some.injEq]
  rw[hs,IP]
  simp only[Ai,Af,Al,Am,Ak,Aj,Ag,Option.some.injEq]
  by_cases hlt:x.num<m.num
  ·rw[if_pos (by simpa using hlt),A4 hlt]
   simp only[Ai,Af,Al,Am,Ak,Aj,Ag,Option.some.injEq,hap]
   rw[hs,IP]
   simp only[Ai,Af,Al,Am,Ak,Aj,Ag,Option.some.injEq]
   rw[show ((A.length:Int)).toNat=A.length from rfl,LL,Ct (by simp at hlen ⊢;omega)]
   unfold takeN ackP
   rw[hm,hx1,hx2]
  ·rw[if_neg (by simpa using hlt),A5 hlt]
   simp only[Ai,Af,Al,Am,Ak,Aj,Ag,Option.some.injEq]
   rw[← hs,Ct (by omega)]
   unfold ackP
   rw[← hm]
theorem OkN.take {n:Node} (h:OkN n) {m:Msg} {e:Effect} (hM:MayM m e) {A C:List Seen} (hl:(applyP n.db e).length≤1000) (hs:(A++[(⟨m.frm,m.slot,m.num⟩:Seen)]++C).length≤1000):OkN (takeN n m e A C):=OkN.app h hM.key hM.ok hl h.mv hs
end Go.Proofs.YtlbdhlbbkibgpaaGreat
namespace Go.Proofs.YtlbdhlbbkibgpaaGreat
open Go Go.RowKit
inductive RQ
 |tm
 |op (j:Nat)
 |ef (k:Nat)
structure DQ where
 ef:Bool
 ks:List (Nat×Nat×List (Nat×RQ))
def rdQ (V E:List AV) (tm0:Tm) (r:Nat×RQ):AV :=
 match r.2 with
 |.tm=>lk tm0 r.1
 |.op j=>V.getD j (.l .u)
 |.ef k=>E.getD k (.l .u)
def OblQ (P:Program) (ops:Array Oper) (V E:List AV) (M:List (List (Option Ob))) (tm0:Tm) (nt:Nat) (gh:List Tm) (ls:Option Code):List Oper→List DQ→List AV→Prop
 |o::os,d::ds,v::vs=>(AllL (fun y:Nat×Nat×List (Nat×RQ)=>∀ tm,AllL (fun r=>lk tm r.1=rdQ V E tm0 r) y.2.2→xg P ops o ⟨tm,M.getD y.1 [],nt,gh,ls⟩ (KD o.dst (bif d.ef then E.getD y.2.1 (.l .u) else v) tm (M.getD y.2.1 []) nt gh ls)) d.ks)∧OblQ P ops V E M tm0 nt gh ls os ds vs
 |_,_,[]=>True
 |_,_,_=>False
def efQ (S:List DQ) (i:Nat):Bool:=(S[i]?).any (·.ef)
def rdOk (ops:Array Oper) (D:List DI) (S:List DQ) (G:List (List Nat)) (n1 i:Nat) (q:List Nat) (r:Nat×RQ):Bool :=
 match r.2 with
 |.tm=>(List.range n1).all fun j=>!(dsOf ops j == some r.1) || i == j || inAn D j i
 |.op j=>inAn D i j && decide (j<n1) && !efQ S j && dsOf ops j == some r.1
 |.ef kk=>decide (kk<G.length) && (List.range q.length).any fun m=>G.getD kk [] == q.take (m+1) && dsOf ops (q.getD m 0) == some r.1
def chkQ (ops:Array Oper) (D:List DI) (S:List DQ) (G:List (List Nat)) (n1:Nat) (FS:List Nat):Bool :=
 S.length == n1 && decide (0<G.length) && G.getD 0 [0] == [] &&
 ((List.range G.length).all fun a=>(List.range G.length).all fun b=>a == b || !(G.getD a [] == G.getD b [])) &&
 ((List.range n1).all fun i=>(List.range G.length).all fun k =>
  (G.getD k []).contains i || (List.range n1).any (fun e=>efQ S e && inAn D i e && !(G.getD k []).contains e) || (G.getD k []).any (fun e=>inAn D e i) ||
  ((S[i]?).any fun d=>d.ks.any fun x=>x.1 == k && (if d.ef then decide (x.2.1<G.length) && G.getD x.2.1 [] == G.getD k []++[i] else x.2.1 == k) && x.2.2.all (rdOk ops D S G n1 i (G.getD k [])))) &&
 (List.range G.length).all fun k=>(List.range n1).any (fun e=>efQ S e && !(G.getD k []).contains e) || FS.contains k
def eIdx (G:List (List Nat)) (q:List Nat) (j:Nat):Nat:=((List.range G.length).find? fun kk=>G.getD kk [] == q.takeWhile (· != j)++[j]).getD 0
def Wof (S:List DQ) (G:List (List Nat)) (n1:Nat) (V E:List AV) (k:Nat):List AV:=(List.range n1).map fun j=>bif efQ S j then E.getD (eIdx G (G.getD k []) j) (.l .u) else V.getD j (.l .u)
section
variable {P:Program} {cx:Cx} {st:St} {ops:Array Oper} {D:List DI} {S:List DQ} {G:List (List Nat)} {n1:Nat} {FS:List Nat} {V E:List AV} {M:List (List (Option Ob))} {Q:Post} {R:Option Nat} {listed:Array Bool} {tm0:Tm} {nt:Nat} {gh:List Tm} {ls:Option Code}
theorem OblQ.get:∀ {os:List Oper} {ds:List DQ} {vs:List AV} (i:Nat),OblQ P ops V E M tm0 nt gh ls os ds vs→i<vs.length→∃ o d v,os[i]?=some o∧ds[i]?=some d∧vs[i]?=some v ∧
  AllL (fun y:Nat×Nat×List (Nat×RQ)=>∀ tm,AllL (fun r=>lk tm r.1=rdQ V E tm0 r) y.2.2→xg P ops o ⟨tm,M.getD y.1 [],nt,gh,ls⟩ (KD o.dst (bif d.ef then E.getD y.2.1 (.l .u) else v) tm (M.getD y.2.1 []) nt gh ls)) d.ks
 |o::os,d::ds,v::vs,0,h,_=>⟨o,d,v,rfl,rfl,rfl,h.1⟩
 |o::os,d::ds,v::vs,i+1,h,hi=>by
  obtain⟨o',d',v',h1,h2,h3,h4⟩:=OblQ.get i h.2 (by simpa using hi)
  exact⟨o',d',v',by simpa using h1,by simpa using h2,by simpa using h3,h4⟩
 |[],_,_::_,_,h,_=>by simp[OblQ] at h
 |_::_,[],_::_,_,h,_=>by simp[OblQ] at h
 |_,_,[],i,_,hi=>by simp at hi
structure RightQ (ops:Array Oper) (D:List DI) (S:List DQ) (G:List (List Nat)) (n1:Nat) (FS:List Nat):Prop where
 len:S.length=n1
 pos:0<G.length
 zero:G.getD 0 [0]=[]
 nd:∀ a b,a<G.length→b<G.length→G.getD a []=G.getD b []→a=b
 go:∀ i k,i<n1→k<G.length→i ∉ G.getD k []→(∀ e,e<n1→efQ S e=true→inAn D i e=true→e∈G.getD k [])→(∀ e∈G.getD k [],inAn D e i=false) →
  ∃ d,S[i]?=some d∧∃ x∈d.ks,x.1=k∧(d.ef=true→x.2.1<G.length∧G.getD x.2.1 []=G.getD k []++[i])∧(d.ef=false→x.2.1=k)∧∀ r∈x.2.2,rdOk ops D S G n1 i (G.getD k []) r=true
 fin:∀ k,k<G.length→(∀ e,e<n1→efQ S e=true→e∈G.getD k [])→k∈FS
theorem MD (h:chkQ ops D S G n1 FS=true):RightQ ops D S G n1 FS:=by
 unfold chkQ at h
 simp only[Bool.and_eq_true,List.all_eq_true,List.mem_range,beq_iff_eq,decide_eq_true_eq] at h
 obtain⟨⟨⟨⟨⟨h1,h2⟩,h3⟩,h4⟩,h5⟩,h6⟩:=h
 refine⟨h1,h2,h3,fun a b ha hb e=>?_,fun i k hi hk hn ha hb=>?_,fun k hk ha=>?_⟩
 ·have:=h4 a ha b hb
  simp only[Bool.or_eq_true,beq_iff_eq,Bool.not_eq_true',beq_eq_false_iff_ne] at this
  rcases this with h|h
  ·exact h
  ·exact absurd e h
 ·have:=h5 i hi k hk
  simp only[Bool.or_eq_true,List.any_eq_true,List.mem_range,Bool.and_eq_true,Bool.not_eq_true',List.contains_iff_mem] at this
  rcases this with ((h7|h7)|h7)|h7
  ·exact absurd h7 hn
  ·obtain⟨e,he,⟨h8,h9⟩,h10⟩:=h7
   have:=ha e he h8 h9
   rw[List.contains_iff_mem.2 this] at h10
   cases h10
  ·obtain⟨e,he,h8⟩:=h7
   rw[hb e he] at h8
   cases h8
  ·cases hd:S[i]? with
   |none=>rw[hd] at h7;simp at h7
   |some d =>
    rw[hd] at h7
    simp only[Option.any_some,List.any_eq_true,Bool.and_eq_true,beq_iff_eq,List.all_eq_true] at h7
    obtain⟨x,hx,⟨h8,h9⟩,h10⟩:=h7
    refine⟨d,rfl,x,hx,h8,fun he=>?_,fun he=>?_,h10⟩
    ·rw[if_pos he] at h9
     simpa using h9
    ·rw[he] at h9
     simpa using h9
 ·have:=h6 k hk
  simp only[Bool.or_eq_true,List.any_eq_true,List.mem_range,Bool.and_eq_true,Bool.not_eq_true',List.contains_iff_mem] at this
  rcases this with h7|h7
  ·obtain⟨e,he,h8,h9⟩:=h7
   have:=ha e he h8
   rw[List.contains_iff_mem.2 this] at h9
   cases h9
  ·exact h7
structure InQ (ops:Array Oper) (D:List DI) (S:List DQ) (G:List (List Nat)) (n1:Nat) (V E:List AV) (M:List (List (Option Ob))) (st:St) (k:Nat) (listed:Array Bool) (s:St):Prop where
 nt:s.nt=st.nt
 gh:s.gh=st.gh
 ls:s.ls=st.ls
 hk:k<G.length
 ob:s.ob=M.getD k []
 eff:∀ e,e∈G.getD k []↔e<n1∧efQ S e=true∧Ls listed e=true
 nd:(G.getD k []).Nodup
 pc:∀ p e r,G.getD k []=p++e::r→∃ kk,kk<G.length∧G.getD kk []=p++[e]
 wr:∀ (t j:Nat),j<n1→efQ S j=false→Ls listed j=true→dsOf ops j=some t→lk s.tm t=V.getD j (.l .u)
 we:∀ p e r t kk,G.getD k []=p++e::r→kk<G.length→G.getD kk []=p++[e]→dsOf ops e=some t→lk s.tm t=E.getD kk (.l .u)
 un:∀ t,(∀ j,j<n1→Ls listed j=true→dsOf ops j≠some t)→lk s.tm t=lk st.tm t
theorem Il {p r:List Nat} {j:Nat} (h:j ∉ p):(p++j::r).takeWhile (· != j)=p:=by
 induction p with
 |nil=>simp
 |cons a p ih =>
  have h1:a≠j:=fun e=>h (by simp[e])
  have h2:j ∉ p:=fun e=>h (by simp[e])
  rw[List.cons_append,List.takeWhile_cons,if_pos (by simpa using h1),ih h2]
theorem O6 (hR:RightQ ops D S G n1 FS) {k kk j:Nat} {p r:List Nat} (hnd:(G.getD k []).Nodup) (h:G.getD k []=p++j::r) (hkk:kk<G.length) (h2:G.getD kk []=p++[j]):eIdx G (G.getD k []) j=kk:=by
 have hj:j ∉ p:=by
  rw[h] at hnd
  have:=(List.nodup_append.1 hnd).2.2
  exact fun hm=>this j hm j (by simp) rfl
 unfold eIdx
 rw[h,Il hj]
 cases hf:(List.range G.length).find? fun a=>G.getD a [] == p++[j] with
 |none =>
  have:=List.find?_eq_none.1 hf kk (List.mem_range.2 hkk)
  rw[h2] at this
  simp at this
 |some a =>
  have h3:=List.find?_some hf
  have h4:=List.mem_range.1 (List.mem_of_find?_eq_some hf)
  exact hR.nd a kk h4 hkk (by rw[h2];simpa using h3)
theorem drawnQ1 (hc:chkD ops D n1=true) (hq:RightQ ops D S G n1 FS) (hV:V.length=n1) (hn:n1≤ops.size) (hO:OblQ P ops V E M st.tm st.nt st.gh st.ls ops.toList S V)
  (hx:∀ k∈FS,xopsY P R cx ops (ops.toList.drop n1) n1 ⟨tmD ops.toList (Wof S G n1 V E k) st.tm,M.getD k [],st.nt,st.gh,st.ls⟩ (fun s=>Q .normal s)) :
  ∀ (fuel:Nat) (listed:Array Bool) (k:Nat) (s:St) (σ:Nat→Hd) (a:Act) (w:World),listed.size=ops.size→Clo ops D listed→((List.range n1).filter fun i=>!Ls listed i).length+(ops.size - n1)≤fuel →
   (∀ j,n1≤j→j<ops.size→Ls listed j=false)→InQ ops D S G n1 V E M st k listed s→RelS cx σ s a w→wpAnyIn (fR R) 0 P .any ops (post cx Q) fuel listed a w:=by
 intro fuel
 have whole:∀ (fuel:Nat) (listed:Array Bool) (k:Nat) (s:St) (σ:Nat→Hd) (a:Act) (w:World),listed.size=ops.size→ops.size - n1≤fuel →
   (∀ j,n1≤j→j<ops.size→Ls listed j=false)→(∀ j,j<n1→Ls listed j=true)→InQ ops D S G n1 V E M st k listed s→RelS cx σ s a w→wpAnyIn (fR R) 0 P .any ops (post cx Q) fuel listed a w:=by
  intro fuel listed k s σ a w hs hf hlate hall hI hr
  have hkF:k∈FS:=hq.fin k hI.hk fun e he hee=>(hI.eff e).2 ⟨he,hee,hall e he⟩
  refine drawn2 hc fuel listed n1 ⟨tmD ops.toList (Wof S G n1 V E k) st.tm,M.getD k [],st.nt,st.gh,st.ls⟩ σ a w hs (by omega) (Nat.le_refl _) (fun j hj=>?_) (hx k hkF) ?_
  ·constructor
   ·intro h
    apply Nat.lt_of_not_le
    intro h'
    rw[hlate j h' hj] at h
    simp at h
   ·exact hall j
  ·have hWl:(Wof S G n1 V E k).length=n1:=by unfold Wof;simp
   have hW:∀ j,j<n1→(Wof S G n1 V E k)[j]?=some (bif efQ S j then E.getD (eIdx G (G.getD k []) j) (.l .u) else V.getD j (.l .u)):=fun j hj=>by
    unfold Wof
    rw[List.getElem?_map,List.getElem?_range hj]
    rfl
   have hlk:∀ t,lk (tmD ops.toList (Wof S G n1 V E k) st.tm) t=lk s.tm t:=by
    intro t
    by_cases h:∃ j,j<n1∧dsOf ops j=some t
    ·obtain⟨j,hj,hjt⟩:=h
     have hjW:lk s.tm t=(bif efQ S j then E.getD (eIdx G (G.getD k []) j) (.l .u) else V.getD j (.l .u)):=by
      cases hef:efQ S j
      ·exact hI.wr t j hj hef (hall j hj) hjt
      ·have hm:=(hI.eff j).2 ⟨hj,hef,hall j hj⟩
       obtain⟨p,r,hpr⟩:=List.append_of_mem hm
       obtain⟨kk,hkk,hkk2⟩:=hI.pc p j r hpr
       rw[O6 hq hI.nd hpr hkk hkk2]
       exact hI.we p j r t kk hpr hkk hkk2 hjt
     rw[hjW]
     refine (Gy ops.toList (Wof S G n1 V E k) st.tm t).1 j _ (hW j hj) (by rw[← DU];exact hjt) fun i v' hi hit=>?_
     rw[← DU] at hit
     apply Classical.byContradiction
     intro hne
     have hi':i<n1:=by have:=(List.getElem?_eq_some_iff.1 hi).1;omega
     have hil:i<ops.size:=by omega
     have ho:ops[i]?=some (ops[i]'hil):=Array.getElem?_eq_getElem hil
     obtain⟨d,hd,hR⟩:=Cv hc ho
     refine hR.dst hi' j hj hne (by rw[hjt];simp) ?_
     rw[hjt,← hit,dsOf,ho]
     rfl
    ·rw[hI.un t fun j hj _ e=>h ⟨j,hj,e⟩]
     refine (Gy ops.toList (Wof S G n1 V E k) st.tm t).2 fun j v hv e=>h ⟨j,by have:=(List.getElem?_eq_some_iff.1 hv).1;omega,by rw[DU];exact e⟩
   have e1:=hI.ob
   refine⟨?_,fun t=>?_,?_,?_,hr.dm⟩
   ·have:=hr.h
    rw[e1,hI.ls] at this
    exact this
   ·have:=hr.tm t
    rw[e1] at this
    rw[hlk]
    exact this
   ·rw[hr.nt,hI.nt]
   ·have:=hr.gh
    rw[e1,hI.gh] at this
    exact this
 induction fuel with
 |zero =>
  intro listed k s σ a w hs hcl hf hlate hI hr
  have h0:((List.range n1).filter fun i=>!Ls listed i).length=0:=by omega
  refine whole 0 listed k s σ a w hs (by omega) hlate (fun j hj=>?_) hI hr
  have:=List.filter_eq_nil_iff.1 (List.eq_nil_of_length_eq_zero h0) j (List.mem_range.2 hj)
  simpa using this
 |succ fuel ih =>
  intro listed k s σ a w hs hcl hf hlate hI hr
  by_cases hall:∀ j,j<n1→Ls listed j=true
  ·exact whole (fuel+1) listed k s σ a w hs (by omega) hlate hall hI hr
  ·refine⟨fun hnil=>?_,fun i hi=>?_⟩
   ·exact absurd (fun j hj=>Gx hc hs hnil j (by omega)) hall
   ·obtain⟨o,ho,hfl,hp⟩:=Fo hs hi
    have hin:i<ops.size:=(Array.getElem?_eq_some_iff.1 ho).1
    obtain⟨d,hd,hR⟩:=Cv hc ho
    have han:=hcl.an hc ho hR hp
    have hi1:i<n1:=by
     apply Classical.byContradiction
     intro h
     exact hall fun j hj=>han j ((hR.late h).2 j (by omega))
    have hanI:∀ j,inAn D i j=true→Ls listed j=true:=fun j hj=>by
     rw[inAn,hd] at hj
     exact han j (by simpa using hj)
    obtain⟨o',d',v,h1,h2,h3,h4⟩:=hO.get i (by omega)
    have:o'=o:=by
     have:ops.toList[i]?=some o:=by simpa using ho
     rw[h1] at this
     simpa using this
    subst this
    have hv:=Io h3
    obtain⟨d2,hd2,x,hx1,hx2,hx3,hx4,hx5⟩:=hq.go i k hi1 hI.hk (fun hm=>by have:=((hI.eff i).1 hm).2.2;rw[hfl] at this;simp at this) (fun e he hee hae=>(hI.eff e).2 ⟨he,hee,hanI e hae⟩) (fun e he=>by
     cases h5:inAn D e i
     ·rfl
     ·have h6:=(hI.eff e).1 he
      have:=hcl e (by omega) h6.2.2 i h5
      rw[hfl] at this
      simp at this)
    rw[h2] at hd2
    cases hd2
    have hefS:efQ S i=d'.ef:=by unfold efQ;rw[h2];rfl
    have hrd:AllL (fun r=>lk s.tm r.1=rdQ V E st.tm r) x.2.2:=AllL.of fun r hr'=>by
     have h5:=hx5 r hr'
     obtain⟨t,y⟩:=r
     cases y with
     |tm =>
      simp only[rdOk,List.all_eq_true,List.mem_range,Bool.or_eq_true,Bool.not_eq_true',beq_iff_eq,beq_eq_false_iff_ne] at h5
      refine hI.un t fun j hj hlj hjt=>?_
      rcases h5 j hj with (h6|h6)|h6
      ·exact h6 hjt
      ·subst h6;rw[hfl] at hlj;simp at hlj
      ·have:=hcl j (by omega) hlj i h6
       rw[hfl] at this
       simp at this
     |op j =>
      simp only[rdOk,Bool.and_eq_true,decide_eq_true_eq,Bool.not_eq_true',beq_iff_eq] at h5
      exact hI.wr t j h5.1.1.2 h5.1.2 (hanI j h5.1.1.1) h5.2
     |ef kk =>
      simp only[rdOk,Bool.and_eq_true,decide_eq_true_eq,List.any_eq_true,List.mem_range,beq_iff_eq] at h5
      obtain⟨h6,m,hm,h7,h8⟩:=h5
      have h9:(G.getD k []).getD m 0=(G.getD k [])[m]:=by rw[List.getD_eq_getElem?_getD,List.getElem?_eq_getElem hm];rfl
      rw[h9] at h8
      have h10:(G.getD k []).take (m+1)=(G.getD k []).take m++[(G.getD k [])[m]]:=(List.take_append_getElem hm).symm
      refine hI.we ((G.getD k []).take m) (G.getD k [])[m] ((G.getD k []).drop (m+1)) t kk ?_ h6 (by rw[h7,h10]) h8
      rw[← List.drop_eq_getElem_cons hm,List.take_append_drop]
    have hxg:=AllL.mem h4 x hx1 s.tm hrd
    have hsE:s=⟨s.tm,M.getD x.1 [],st.nt,st.gh,st.ls⟩:=by
     rw[hx2,← hI.ob,← hI.nt,← hI.gh,← hI.ls]
    rw[← hsE] at hxg
    refine HW ho hxg (fun σ' s' a' w' hk' hr'=>?_) hr
    obtain⟨v',hlk,hvv,hob,hnt,hgh,hls⟩:=hk'
    have hsz:i<listed.size:=by omega
    refine ih _ x.2.1 s' σ' a' w' (by simpa using hs) (hcl.set (by omega) hd han) ?_ (fun j hj hjs=>?_) ?_ hr'
    ·have:=EX (i:=i) (p:=fun j=>!Ls (listed.setIfInBounds i true) j) (q:=fun j=>!Ls listed j) (List.nodup_range (n:=n1)) (List.mem_range.2 hi1) (by simp[Bg hsz]) (by simp[hfl]) (fun e he=>by simp[Bg hsz,he])
     omega
    ·rw[Bg (by omega),if_neg (by omega)]
     exact hlate j hj hjs
    ·have hun:∀ t,(∀ j,j<n1→Ls (listed.setIfInBounds i true) j=true→dsOf ops j≠some t)→lk s'.tm t=lk st.tm t:=fun t hun=>by
      rw[hlk]
      have hne:o'.dst≠some t:=fun h=>hun i hi1 (by rw[Bg hsz,if_pos rfl]) (by rw[dsOf,ho];exact h)
      rw[B5,if_neg hne]
      refine hI.un t fun j hj hlj=>hun j hj ?_
      rw[Bg hsz]
      split
      ·rfl
      ·exact hlj
     have hdne:∀ (t j:Nat),j<n1→j≠i→dsOf ops j=some t→o'.dst≠some t:=fun t j hj e hjt h=>hR.dst hi1 j hj (Ne.symm e) (by rw[hjt];simp) (by rw[hjt,h])
     cases hef:d'.ef
     ·have hxk:=hx4 hef
      rw[hef] at hvv hefS
      rw[hxk] at hob ⊢
      refine⟨hnt,hgh,hls,hI.hk,hob,fun e=>?_,hI.nd,hI.pc,fun t j hj hej hlj hjt=>?_,fun p e r t kk hp hkk hkk2 het=>?_,hun⟩
      ·rw[hI.eff e,Bg hsz]
       by_cases he:e=i
       ·subst he
        rw[hefS]
        simp
       ·rw[if_neg he]
      ·rw[hlk,B5]
       by_cases e:j=i
       ·subst e
        have:o'.dst=some t:=by rw[dsOf,ho] at hjt;exact hjt
        rw[if_pos this,hvv,hv]
        rfl
       ·rw[if_neg (hdne t j hj e hjt)]
        rw[Bg hsz,if_neg e] at hlj
        exact hI.wr t j hj hej hlj hjt
      ·have hm:e∈G.getD k []:=by rw[hp];simp
       have hm2:=(hI.eff e).1 hm
       have hei:e≠i:=fun h=>by subst h;rw[hefS] at hm2;simp at hm2
       rw[hlk,B5,if_neg (hdne t e hm2.1 hei het)]
       exact hI.we p e r t kk hp hkk hkk2 het
     ·obtain⟨hx6,hx7⟩:=hx3 hef
      rw[hef] at hvv hefS
      have hni:i ∉ G.getD k []:=fun hm=>by have:=((hI.eff i).1 hm).2.2;rw[hfl] at this;simp at this
      refine⟨hnt,hgh,hls,hx6,hob,fun e=>?_,?_,fun p e r hp=>?_,fun t j hj hej hlj hjt=>?_,fun p e r t kk hp hkk hkk2 het=>?_,hun⟩
      ·rw[hx7,List.mem_append,hI.eff e,Bg hsz,List.mem_singleton]
       by_cases he:e=i
       ·subst he
        rw[hefS]
        simp[hi1]
       ·rw[if_neg he]
        simp[he]
      ·rw[hx7,List.nodup_append]
       exact⟨hI.nd,by simp,fun a ha b hb e=>hni (by simp at hb;rw[← hb,← e];exact ha)⟩
      ·rw[hx7] at hp
       rcases List.eq_nil_or_concat r with hr0|⟨r',b,hr0⟩
       ·subst hr0
        exact⟨x.2.1,hx6,by rw[hx7,hp]⟩
       ·subst hr0
        have h8:G.getD k []++[i]=(p++e::r')++[b]:=by rw[hp];simp
        have h9:=(List.append_inj' h8 rfl).1
        exact hI.pc p e r' h9
      ·have hji:j≠i:=fun h=>by subst h;rw[hefS] at hej;cases hej
       rw[hlk,B5,if_neg (hdne t j hj hji hjt)]
       rw[Bg hsz,if_neg hji] at hlj
       exact hI.wr t j hj hej hlj hjt
      ·rw[hx7] at hp
       rcases List.eq_nil_or_concat r with hr0|⟨r',b,hr0⟩
       ·subst hr0
        have h9:=List.append_inj' hp rfl
        have hei:i=e:=by simpa using h9.2
        subst hei
        have hkx:kk=x.2.1:=hq.nd kk x.2.1 hkk hx6 (by rw[hkk2,hx7,h9.1])
        have:o'.dst=some t:=by rw[dsOf,ho] at het;exact het
        rw[hlk,B5,if_pos this,hvv,hkx]
        rfl
       ·subst hr0
        have h8:G.getD k []++[i]=(p++e::r')++[b]:=by rw[hp];simp
        have h9:=(List.append_inj' h8 rfl).1
        have hm:e∈G.getD k []:=by rw[h9];simp
        have hm2:=(hI.eff e).1 hm
        have hei:e≠i:=fun h=>hni (h ▸ hm)
        rw[hlk,B5,if_neg (hdne t e hm2.1 hei het)]
        exact hI.we p e r' t kk h9 hkk hkk2 het
theorem AW.drawnQ (hm:P.follows .mixedOrders=true) {id:Nat} {c:Code} {tm:Tm} {ob:List (Option Ob)} {st':St} (D:List DI) (n1:Nat) (S:List DQ) (G:List (List Nat)) (FS:List Nat) (V E:List AV) (M:List (List (Option Ob))) (hc:chkD ops D n1=true) (hq:chkQ ops D S G n1 FS=true) (hV:V.length=n1) (hM:M.getD 0 []=ob)
  (hO:OblQ P ops V E M tm nt gh ls ops.toList S V)
  (hx:AllL (fun k=>xops P ops (ops.toList.drop n1) ⟨tmD ops.toList (Wof S G n1 V E k) tm,M.getD k [],nt,gh,ls⟩ (fun s=>Weak cx s st')) FS) (k:AW P R cx c Q st'):AW P R cx (.seq (.region id ops true) c) Q ⟨tm,ob,nt,gh,ls⟩:=by
 have hn:n1≤ops.size:=by
  simp only[chkD,Bool.and_eq_true,decide_eq_true_eq] at hc
  exact hc.1.2
 have hR:=MD hq
 have hG0:G.getD 0 []=[]:=by
  have:=hR.zero
  rw[List.getD_eq_getElem?_getD,List.getElem?_eq_getElem hR.pos] at this ⊢
  exact this
 have h1:AW P R cx (.region id ops true) (fun e s=>e=.normal∧Weak cx s st') ⟨tm,ob,nt,gh,ls⟩:=by
  intro σ a w hr
  refine wpIn_region_any hm ?_
  have hLf:∀ j,Ls (Array.replicate ops.size false) j=false:=fun j=>by
   simp only[Ls,Array.getD_eq_getD_getElem?,Array.getElem?_replicate]
   split <;> rfl
  have hr':RelS cx σ ⟨tm,ob,nt,gh,ls⟩ a { w with drawn:=w.drawn+1 }:=hr.drewN 1
  refine drawnQ1 (st:=⟨tm,ob,nt,gh,ls⟩) hc hR hV hn hO (fun k hk=>?_) ops.size _ 0 ⟨tm,ob,nt,gh,ls⟩ σ a _ (by simp) (fun i hi h=>by rw[hLf] at h;simp at h) ?_ (fun j _ _=>hLf j) ⟨rfl,rfl,rfl,hR.pos,hM.symm,fun e=>?_,?_,fun p e r h=>?_,fun t j _ _ h=>by rw[hLf] at h;simp at h,fun p e r t kk h=>?_,fun t _=>rfl⟩ hr'
  ·refine Bl _ _ _ rfl ?_
   have h5:=AllL.mem hx k hk
   have e5:(fun s=>(fun e s=>e=Exit.normal∧Weak cx s st') Exit.normal s)=fun s=>Weak cx s st':=by
    funext s
    simp
   rw[e5]
   exact h5
  ·have:((List.range n1).filter fun i=>!Ls (Array.replicate ops.size false) i).length≤n1:=by
    have:=List.length_filter_le (fun i=>!Ls (Array.replicate ops.size false) i) (List.range n1)
    simpa using this
   omega
  ·rw[hG0,hLf]
   simp
  ·rw[hG0]
   exact List.nodup_nil
  ·rw[hG0] at h
   simp at h
  ·rw[hG0] at h
   simp at h
 refine AW.seq (AW.mono h1 ?_)
 rintro e s ⟨rfl,hs⟩
 exact AW.weak hs k
def wof:List (Option Nat)→List AV→List AV→List AV
 |none::ws,v::vs,E=>v::wof ws vs E
 |some kk::ws,_::vs,E=>E.getD kk (.l .u)::wof ws vs E
 |_,_,_=>[]
def chkW (S:List DQ) (G:List (List Nat)) (n1 k:Nat) (ws:List (Option Nat)):Bool:=ws == (List.range n1).map fun j=>if efQ S j then some (eIdx G (G.getD k []) j) else none
theorem IQ:∀ (ws:List (Option Nat)) (V E:List AV) (j:Nat),ws.length=V.length→(wof ws V E)[j]?=(ws[j]?).map fun x=>match x with|none=>V.getD j (.l .u)|some kk=>E.getD kk (.l .u)
 |[],[],E,j,_=>by simp[wof]
 |[],v::V,E,j,h=>by simp at h
 |w::ws,[],E,j,h=>by simp at h
 |none::ws,v::V,E,0,_=>by simp[wof]
 |some k::ws,v::V,E,0,_=>by simp[wof]
 |none::ws,v::V,E,j+1,h=>by
  have:=IQ ws V E j (by simpa using h)
  simpa [wof] using this
 |some k::ws,v::V,E,j+1,h=>by
  have:=IQ ws V E j (by simpa using h)
  simpa [wof] using this
theorem Nx {k:Nat} {ws:List (Option Nat)} (h:chkW S G n1 k ws=true) (hV:V.length=n1):wof ws V E=Wof S G n1 V E k:=by
 unfold chkW at h
 have h:=beq_iff_eq.1 h
 have hl:ws.length=V.length:=by rw[h,hV];simp
 refine List.ext_getElem? fun j=>?_
 rw[IQ ws V E j hl,h]
 unfold Wof
 rw[List.getElem?_map,List.getElem?_map]
 cases hj:(List.range n1)[j]? with
 |none=>rfl
 |some x =>
  have hx:x=j:=by
   have:=List.getElem?_eq_some_iff.1 hj
   obtain⟨h1,h2⟩:=this
   rw[List.getElem_range] at h2
   exact h2.symm
  subst hx
  simp only[Option.map_some]
  cases efQ S x <;> rfl
theorem AW.drawnQ2 (hm:P.follows .mixedOrders=true) {id:Nat} {c:Code} {tm tm1 tm2:Tm} {ob:List (Option Ob)} {st':St} (D:List DI) (n1:Nat) (S:List DQ) (G:List (List Nat)) (k1 k2:Nat) (V E:List AV) (M:List (List (Option Ob))) (w1 w2:List (Option Nat)) (hc:chkD ops D n1=true) (hq:(chkQ ops D S G n1 [k1,k2] && chkW S G n1 k1 w1 && chkW S G n1 k2 w2)=true)
  (hM:M.getD 0 []=ob) (hO:OblQ P ops V E M tm nt gh ls ops.toList S V) (hV:V.length=n1) (h1:tmD ops.toList (wof w1 V E) tm=tm1) (x1:xops P ops (ops.toList.drop n1) ⟨tm1,M.getD k1 [],nt,gh,ls⟩ (fun s=>Weak cx s st'))
  (h2:tmD ops.toList (wof w2 V E) tm=tm2) (x2:xops P ops (ops.toList.drop n1) ⟨tm2,M.getD k2 [],nt,gh,ls⟩ (fun s=>Weak cx s st')) (k:AW P R cx c Q st'):AW P R cx (.seq (.region id ops true) c) Q ⟨tm,ob,nt,gh,ls⟩:=by
 simp only[Bool.and_eq_true] at hq
 rw[Nx hq.1.2 hV] at h1
 rw[Nx hq.2 hV] at h2
 subst h1
 subst h2
 exact AW.drawnQ hm D n1 S G [k1,k2] V E M hc hq.1.1 hV hM hO ⟨x1,x2⟩ k
end
end Go.Proofs.YtlbdhlbbkibgpaaGreat
namespace Go.Proofs.YtlbdhlbbkibgpaaGreat
open Go Go.RowKit
def CY (n:Nat) (a0:List Int) (a1:Int) (a2:Int) (a3:List Int):Option Bool :=
bn (lt (lenI a0) fun v2 =>
lt (gtI v2 100) fun v3 =>
ite' v3 (some (true)) (lt (lenI a3) fun v4 =>
lt (ltI v4 4) fun v5 =>
some (v5))) fun (y1:Bool) =>
lt (y1) fun v6 =>
ite' v6 (bn (Cr n) fun v7 =>
some v7) (bn (CS n 1 a0) fun v8 =>
bn (nth a3 1) fun v9 =>
lt (orI .u8 v9 1) fun v10 =>
bn (nth a3 2) fun v11 =>
bn (nth a3 3) fun v12 =>
bn (Bi n [a1,v10,v11,v12]) fun v13 =>
bn (lt (lenI v13) fun v15 =>
lt (neI v15 1) fun v16 =>
ite' v16 (some (true)) (bn (nth v13 0) fun v17 =>
some (v17.gone))) fun (y14:Bool) =>
lt (y14) fun v18 =>
ite' v18 (bn (Cr n) fun v19 =>
some v19) (bn (nth v13 0) fun v20 =>
bn (CC n v20.key) fun v21 =>
lt (cvI .i64 a2) fun v22 =>
lt (addI .i64 2 v22) fun v23 =>
bn (BG n v8 (⟨2,0,1,0,[],[],0,v21,v23,(⟨0,0⟩:Rid),(⟨0,0⟩:Rid),0,v13⟩:Msg)) fun v24 =>
bn (BG n v24.1 (⟨2,0,1,0,[],[],0,v21,v23,(⟨0,0⟩:Rid),(⟨0,0⟩:Rid),0,v13⟩:Msg)) fun v25 =>
lt (addI .i64 1 v22) fun v26 =>
chk (room 1 1) <|
bn (BG n v25.1 (⟨2,0,1,0,[],[],0,v21,v26,(⟨0,0⟩:Rid),(⟨0,0⟩:Rid),0,[(⟨v20.key,false,(⟨1,⟨#[111,108,100]⟩,[],[],0⟩:Item)⟩:Effect)]⟩:Msg)) fun v28 =>
bn (BG n v28.1 (⟨2,2,1,0,[],[],0,v21,v26,(⟨0,0⟩:Rid),(⟨0,0⟩:Rid),0,[(⟨v20.key,false,(⟨1,⟨#[111,108,100]⟩,[],[],0⟩:Item)⟩:Effect)]⟩:Msg)) fun v29 =>
bn (DV n v24.1.db v20.key) fun v30 =>
bn (DV n v29.1.db v20.key) fun v31 =>
bn (lt (lenI v24.2) fun v33 =>
lt (eqI v33 1) fun v34 =>
ite' v34 (lt (lenI v25.2) fun v35 =>
lt (eqI v35 1) fun v36 =>
ite' v36 (lt (lenI v28.2) fun v37 =>
lt (eqI v37 1) fun v38 =>
ite' v38 (lt (lenI v29.2) fun v39 =>
lt (eqI v39 1) fun v40 =>
ite' v40 (bn (nth v25.2 0) fun v41 =>
lt (eqI v41.num v23) fun v42 =>
ite' v42 (bn (nth v28.2 0) fun v43 =>
lt (eqI v43.num v26) fun v44 =>
ite' v44 (bn (BI n v24.1 v25.1) fun v45 =>
ite' v45 (bn (BI n v25.1 v28.1) fun v46 =>
ite' v46 (lt (v30.ok) fun v47 =>
ite' v47 (bn (Bz n v30.i v20.item) fun v48 =>
ite' v48 (lt (eqS v31.i.s ⟨#[111,108,100]⟩) fun v49 =>
ite' v49 (lt (lenI v29.1.seen) fun v50 =>
lt (eqI v50 2) fun v51 =>
ite' v51 (bn (Cr n) fun v52 =>
some (v52)) (some (false))) (some (false))) (some (false))) (some (false))) (some (false))) (some (false))) (some (false))) (some (false))) (some (false))) (some (false))) (some (false))) (some (false))) fun (y32:Bool) =>
some y32))
def DY7t1:List DI:=[⟨[0],[],[(14,none)],false⟩,⟨[0],[0],[(123,some 0)],false⟩,⟨[0],[0,1],[(124,some 1)],false⟩,⟨[0],[0,1,2],[(125,some 2)],false⟩,⟨[0],[0,1,2,3],[(16,none),(126,some 3)],false⟩,⟨[0],[0,1,2,3,4],[(126,some 3),(127,some 4)],false⟩,⟨[0],[0,1,2,3,4,5],[(126,some 3),(128,some 5)],false⟩,⟨[0],[0,1,2,3,4,5,6],[(126,some 3),(129,some 6)],false⟩,⟨[0],[0,1,2,3,4,5,6,7],[(130,some 7)],false⟩,⟨[0],[0,1,2,3,4,5,6,7,8],[(19,none),(131,some 8)],false⟩,⟨[0],[0,1,2,3,4,5,6,7,8,9],[(131,some 8),(132,some 9)],false⟩,⟨[0],[0,1,2,3,4,5,6,7,8,9,10],[(131,some 8),(133,some 10)],false⟩,⟨[0],[0,1,2,3,4,5,6,7,8,9,10,11],[(131,some 8),(134,some 11)],false⟩,⟨[0],[0,1,2,3,4,5,6,7,8,9,10,11,12],[(135,some 12)],false⟩,⟨[0],[0,1,2,3,4,5,6,7,8,9,10,11,12,13],[(22,none),(136,some 13)],false⟩,⟨[0],[0,1,2,3,4,5,6,7,8,9,10,11,12,13,14],[(136,some 13),(137,some 14)],false⟩,⟨[0],[0,1,2,3,4,5,6,7,8,9,10,11,12,13,14,15],[(136,some 13),(138,some 15)],false⟩,⟨[0],[0,1,2,3,4,5,6,7,8,9,10,11,12,13,14,15,16],[(136,some 13),(139,some 16)],false⟩,⟨[0],[0,1,2,3,4,5,6,7,8,9,10,11,12,13,14,15,16,17],[(140,some 17)],false⟩,⟨[0],[0,1,2,3,4,5,6,7,8,9,10,11,12,13,14,15,16,17,18],[(16,none),(141,some 18)],false⟩,⟨[0],[0,1,2,3,4,5,6,7,8,9,10,11,12,13,14,15,16,17,18,19],[(141,some 18),(142,some 19)],false⟩,⟨[0],[0,1,2,3,4,5,6,7,8,9,10,11,12,13,14,15,16,17,18,19,20],[(141,some 18),(143,some 20)],false⟩,⟨[0],[0,1,2,3,4,5,6,7,8,9,10,11,12,13,14,15,16,17,18,19,20,21],[(141,some 18),(144,some 21)],false⟩,⟨[0],[0,1,2,3,4,5,6,7,8,9,10,11,12,13,14,15,16,17,18],[(12,none),(141,some 18)],false⟩,⟨[0],[0,1,2,3,4,5,6,7,8,9,10,11,12,13,14,15,16,17,18,23],[(141,some 18),(146,some 23)],false⟩,⟨[0],[0,1,2,3,4,5,6,7,8,9,10,11,12,13,14,15,16,17,18,19,20,21,22,23,24],[(141,some 18),(145,some 22),(147,some 24)],false⟩,⟨[0],[0,1,2,3,4,5,6,7,8,9,10,11,12,13,14,15,16,17,18,19,20,21,22,23,24,25],[(141,some 18),(148,some 25)],false⟩,⟨[0],[0,1,2,3,4,5,6,7,8,9,10,11,12,13,14,15,16,17,18,19,20,21,22,23,24,25,26],[(149,some 26)],false⟩,⟨[0],[0,1,2,3,4,5,6,7,8,9,10,11,12,13,14,15,16,17,18,19,20,21,22,23,24,25,26,27],[(19,none),(150,some 27)],false⟩,⟨[0],[0,1,2,3,4,5,6,7,8,9,10,11,12,13,14,15,16,17,18,19,20,21,22,23,24,25,26,27,28],[(150,some 27),(151,some 28)],false⟩,⟨[0],[0,1,2,3,4,5,6,7,8,9,10,11,12,13,14,15,16,17,18,19,20,21,22,23,24,25,26,27,28,29],[(150,some 27),(152,some 29)],false⟩,⟨[0],[0,1,2,3,4,5,6,7,8,9,10,11,12,13,14,15,16,17,18,19,20,21,22,23,24,25,26,27,28,29,30],[(150,some 27),(153,some 30)],false⟩,⟨[0],[0,1,2,3,4,5,6,7,8,9,10,11,12,13,14,15,16,17,18,19,20,21,22,23,24,25,26,27],[(17,none),(150,some 27)],false⟩,⟨[0],[0,1,2,3,4,5,6,7,8,9,10,11,12,13,14,15,16,17,18,19,20,21,22,23,24,25,26,27,32],[(150,some 27),(155,some 32)],false⟩,⟨[0],[0,1,2,3,4,5,6,7,8,9,10,11,12,13,14,15,16,17,18,19,20,21,22,23,24,25,26,27,28,29,30,31,32,33],[(150,some 27),(154,some 31),(156,some 33)],false⟩,⟨[0],[0,1,2,3,4,5,6,7,8,9,10,11,12,13,14,15,16,17,18,19,20,21,22,23,24,25,26,27,28,29,30,31,32,33,34],[(150,some 27),(157,some 34)],false⟩,⟨[0],[0,1,2,3,4,5,6,7,8,9,10,11,12,13,14,15,16,17,18,19,20,21,22,23,24,25,26,27,28,29,30,31,32,33,34,35],[(158,some 35)],false⟩,⟨[0],[0,1,2,3,4,5,6,7,8,9,10,11,12,13,14,15,16,17,18,19,20,21,22,23,24,25,26,27,28,29,30,31,32,33,34,35,36],[(13,none),(159,some 36)],false⟩,⟨[0],[0,1,2,3,4,5,6,7,8,9,10,11,12,13,14,15,16,17,18,19,20,21,22,23,24,25,26,27,28,29,30,31,32,33,34,35,36],[(15,none),(159,some 36)],false⟩,⟨[0],[0,1,2,3,4,5,6,7,8,9,10,11,12,13,14,15,16,17,18,19,20,21,22,23,24,25,26,27,28,29,30,31,32,33,34,35,36,37,38],[(159,some 36),(160,some 37),(161,some 38)],false⟩,⟨[0],[0,1,2,3,4,5,6,7,8,9,10,11,12,13,14,15,16,17,18,19,20,21,22,23,24,25,26,27,28,29,30,31,32,33,34,35,36,37,38,39],[(159,some 36),(162,some 39)],false⟩,⟨[0],[0,1,2,3,4,5,6,7,8,9,10,11,12,13,14,15,16,17,18,19,20,21,22,23,24,25,26,27,28,29,30,31,32,33,34,35,36,37,38,39,40],[(163,some 40)],false⟩,⟨[0],[0,1,2,3,4,5,6,7,8,9,10,11,12,13,14,15,16,17,18,19,20,21,22,23,24,25,26,27,28,29,30,31,32,33,34,35,36,37,38,39,40,41],[(15,none),(164,some 41)],false⟩,⟨[0],[0,1,2,3,4,5,6,7,8,9,10,11,12,13,14,15,16,17,18,19,20,21,22,23,24,25,26,27,28,29,30,31,32,33,34,35,36,37,38,39,40,41],[(18,none),(164,some 41)],false⟩,⟨[0],[0,1,2,3,4,5,6,7,8,9,10,11,12,13,14,15,16,17,18,19,20,21,22,23,24,25,26,27,28,29,30,31,32,33,34,35,36,37,38,39,40,41,42,43],[(164,some 41),(165,some 42),(166,some 43)],false⟩,⟨[0],[0,1,2,3,4,5,6,7,8,9,10,11,12,13,14,15,16,17,18,19,20,21,22,23,24,25,26,27,28,29,30,31,32,33,34,35,36,37,38,39,40,41,42,43,44],[(164,some 41),(167,some 44)],false⟩,⟨[0],[0,1,2,3,4,5,6,7,8,9,10,11,12,13,14,15,16,17,18,19,20,21,22,23,24,25,26,27,28,29,30,31,32,33,34,35,36,37,38,39,40,41,42,43,44,45],[(168,some 45)],false⟩,⟨[0],[0,1,2,3,4,5,6,7,8,9,10,11,12,13,14,15,16,17,18,19,20,21,22,23,24,25,26,27,28,29,30,31,32,33,34,35,36,37,38,39,40,41,42,43,44,45,46],[(23,none),(169,some 46)],false⟩,⟨[0],[0,1,2,3,4,5,6,7,8,9,10,11,12,13,14,15,16,17,18,19,20,21,22,23,24,25,26,27,28,29,30,31,32,33,34,35,36,37,38,39,40,41,42,43,44,45,46,47],[(169,some 46),(170,some 47)],false⟩,⟨[0],[0,1,2,3,4,5,6,7,8,9,10,11,12,13,14,15,16,17,18,19,20,21,22,23,24,25,26,27,28,29,30,31,32,33,34,35,36,37,38,39,40,41,42,43,44,45,46,47,48],[(169,some 46),(171,some 48)],false⟩,⟨[0],[0,1,2,3,4,5,6,7,8,9,10,11,12,13,14,15,16,17,18,19,20,21,22,23,24,25,26,27,28,29,30,31,32,33,34,35,36,37,38,39,40,41,42,43,44,45,46,47,48,49],[(172,some 49)],false⟩,⟨[0],[0,1,2,3,4,5,6,7,8,9,10,11,12,13,14,15,16,17,18,19,20,21,22,23,24,25,26,27,28,29,30,31,32,33,34,35,36,37,38,39,40,41,42,43,44,45,46,47,48,49,50],[(23,none),(173,some 50)],false⟩,⟨[0],[0,1,2,3,4,5,6,7,8,9,10,11,12,13,14,15,16,17,18,19,20,21,22,23,24,25,26,27,28,29,30,31,32,33,34,35,36,37,38,39,40,41,42,43,44,45,46,47,48,49,50,51],[(173,some 50),(174,some 51)],false⟩,⟨[0],[0,1,2,3,4,5,6,7,8,9,10,11,12,13,14,15,16,17,18,19,20,21,22,23,24,25,26,27,28,29,30,31,32,33,34,35,36,37,38,39,40,41,42,43,44,45,46,47,48,49,50],[(10,none),(173,some 50)],false⟩,⟨[0],[0,1,2,3,4,5,6,7,8,9,10,11,12,13,14,15,16,17,18,19,20,21,22,23,24,25,26,27,28,29,30,31,32,33,34,35,36,37,38,39,40,41,42,43,44,45,46,47,48,49,50,53],[(173,some 50),(176,some 53)],false⟩,⟨[0],[0,1,2,3,4,5,6,7,8,9,10,11,12,13,14,15,16,17,18,19,20,21,22,23,24,25,26,27,28,29,30,31,32,33,34,35,36,37,38,39,40,41,42,43,44,45,46,47,48,49,50,53,54],[(173,some 50),(177,some 54)],false⟩,⟨[0],[0,1,2,3,4,5,6,7,8,9,10,11,12,13,14,15,16,17,18,19,20,21,22,23,24,25,26,27,28,29,30,31,32,33,34,35,36,37,38,39,40,41,42,43,44,45,46,47,48,49,50,53,54,55],[(173,some 50),(178,some 55)],false⟩,⟨[],[0,1,2,3,4,5,6,7,8,9,10,11,12,13,14,15,16,17,18,19,20,21,22,23,24,25,26,27,28,29,30,31,32,33,34,35,36,37,38,39,40,41,42,43,44,45,46,47,48,49,50,51,52,53,54,55,56],[],false⟩,⟨[],[0,1,2,3,4,5,6,7,8,9,10,11,12,13,14,15,16,17,18,19,20,21,22,23,24,25,26,27,28,29,30,31,32,33,34,35,36,37,38,39,40,41,42,43,44,45,46,47,48,49,50,51,52,53,54,55,56,57],[],false⟩,⟨[],[0,1,2,3,4,5,6,7,8,9,10,11,12,13,14,15,16,17,18,19,20,21,22,23,24,25,26,27,28,29,30,31,32,33,34,35,36,37,38,39,40,41,42,43,44,45,46,47,48,49,50,51,52,53,54,55,56,57,58],[],false⟩,⟨[],[0,1,2,3,4,5,6,7,8,9,10,11,12,13,14,15,16,17,18,19,20,21,22,23,24,25,26,27,28,29,30,31,32,33,34,35,36,37,38,39,40,41,42,43,44,45,46,47,48,49,50,51,52,53,54,55,56,57,58,59],[],false⟩,⟨[],[0,1,2,3,4,5,6,7,8,9,10,11,12,13,14,15,16,17,18,19,20,21,22,23,24,25,26,27,28,29,30,31,32,33,34,35,36,37,38,39,40,41,42,43,44,45,46,47,48,49,50,51,52,53,54,55,56,57,58,59,60],[],false⟩,⟨[],[0,1,2,3,4,5,6,7,8,9,10,11,12,13,14,15,16,17,18,19,20,21,22,23,24,25,26,27,28,29,30,31,32,33,34,35,36,37,38,39,40,41,42,43,44,45,46,47,48,49,50,51,52,53,54,55,56,57,58,59,60,61],[],false⟩,⟨[],[0,1,2,3,4,5,6,7,8,9,10,11,12,13,14,15,16,17,18,19,20,21,22,23,24,25,26,27,28,29,30,31,32,33,34,35,36,37,38,39,40,41,42,43,44,45,46,47,48,49,50,51,52,53,54,55,56,57,58,59,60,61,62],[],false⟩,⟨[],[0,1,2,3,4,5,6,7,8,9,10,11,12,13,14,15,16,17,18,19,20,21,22,23,24,25,26,27,28,29,30,31,32,33,34,35,36,37,38,39,40,41,42,43,44,45,46,47,48,49,50,51,52,53,54,55,56,57,58,59,60,61,62,63],[],false⟩,⟨[],[0,1,2,3,4,5,6,7,8,9,10,11,12,13,14,15,16,17,18,19,20,21,22,23,24,25,26,27,28,29,30,31,32,33,34,35,36,37,38,39,40,41,42,43,44,45,46,47,48,49,50,51,52,53,54,55,56,57,58,59,60,61,62,63,64],[],false⟩,⟨[],[0,1,2,3,4,5,6,7,8,9,10,11,12,13,14,15,16,17,18,19,20,21,22,23,24,25,26,27,28,29,30,31,32,33,34,35,36,37,38,39,40,41,42,43,44,45,46,47,48,49,50,51,52,53,54,55,56,57,58,59,60,61,62,63,64,65],[],false⟩,⟨[],[0,1,2,3,4,5,6,7,8,9,10,11,12,13,14,15,16,17,18,19,20,21,22,23,24,25,26,27,28,29,30,31,32,33,34,35,36,37,38,39,40,41,42,43,44,45,46,47,48,49,50,51,52,53,54,55,56,57,58,59,60,61,62,63,64,65,66],[],false⟩,⟨[],[0,1,2,3,4,5,6,7,8,9,10,11,12,13,14,15,16,17,18,19,20,21,22,23,24,25,26,27,28,29,30,31,32,33,34,35,36,37,38,39,40,41,42,43,44,45,46,47,48,49,50,51,52,53,54,55,56,57,58,59,60,61,62,63,64,65,66,67],[],false⟩,⟨[],[0,1,2,3,4,5,6,7,8,9,10,11,12,13,14,15,16,17,18,19,20,21,22,23,24,25,26,27,28,29,30,31,32,33,34,35,36,37,38,39,40,41,42,43,44,45,46,47,48,49,50,51,52,53,54,55,56,57,58,59,60,61,62,63,64,65,66,67,68],[],false⟩,⟨[],[0,1,2,3,4,5,6,7,8,9,10,11,12,13,14,15,16,17,18,19,20,21,22,23,24,25,26,27,28,29,30,31,32,33,34,35,36,37,38,39,40,41,42,43,44,45,46,47,48,49,50,51,52,53,54,55,56,57,58,59,60,61,62,63,64,65,66,67,68,69],[],false⟩,⟨[],[0,1,2,3,4,5,6,7,8,9,10,11,12,13,14,15,16,17,18,19,20,21,22,23,24,25,26,27,28,29,30,31,32,33,34,35,36,37,38,39,40,41,42,43,44,45,46,47,48,49,50,51,52,53,54,55,56,57,58,59,60,61,62,63,64,65,66,67,68,69,70],[],false⟩,⟨[],[0,1,2,3,4,5,6,7,8,9,10,11,12,13,14,15,16,17,18,19,20,21,22,23,24,25,26,27,28,29,30,31,32,33,34,35,36,37,38,39,40,41,42,43,44,45,46,47,48,49,50,51,52,53,54,55,56,57,58,59,60,61,62,63,64,65,66,67,68,69,70,71],[],false⟩,⟨[],[0,1,2,3,4,5,6,7,8,9,10,11,12,13,14,15,16,17,18,19,20,21,22,23,24,25,26,27,28,29,30,31,32,33,34,35,36,37,38,39,40,41,42,43,44,45,46,47,48,49,50,51,52,53,54,55,56,57,58,59,60,61,62,63,64,65,66,67,68,69,70,71,72],[],false⟩,⟨[],[0,1,2,3,4,5,6,7,8,9,10,11,12,13,14,15,16,17,18,19,20,21,22,23,24,25,26,27,28,29,30,31,32,33,34,35,36,37,38,39,40,41,42,43,44,45,46,47,48,49,50,51,52,53,54,55,56,57,58,59,60,61,62,63,64,65,66,67,68,69,70,71,72,73],[],false⟩]
theorem IR {n:Nat} {a0:List Int} {a1:Int} {a2:Int} {a3:List Int} {r:Bool} (h:CY n a0 a1 a2 a3=some r):Sound Tryz.prog 4 [.l (.d false 1 (encU a0)),.l (.s (.int .u8 a1)),.l (.s (.int .u8 a2)),.l (.d false 1 (encU a3))] [] (.l (.s (.bool r))) []:=by
 unfold CY at h
 refine Sound.of_aw (fn:=Tryz.f4) (c:=_) Tryz.func4 rfl (by simp[Tryz.f4]) fun cx hG hnb=>?_
 rw[show Tryz.f4.ntmps=197 from rfl]
 have hn0:cx.nb=0:=hnb
 simp only[An,initTm,List.map_cons,List.map_nil]
 apply AW.step
 ·simp
  intros;rfl
 refine AW.seq ?_
 replace h:=bnE h;obtain⟨y1,g1,h⟩:=h
 refine AW.flow (p:=fun gh ls=>(nP (cx:=cx) (fun q=>(⟨[(0,.l (.d false 1 (encU a0))),(1,.l (.s (.int .u8 a1))),(2,.l (.s (.int .u8 a2))),(3,.l (.d false 1 (encU a3))),(32,.l (.s (.bool q)))],[],197,gh,ls⟩:St))) y1) ?_ ?_
 ·replace h:=g1;clear g1
  replace h:=ltE h;obtain⟨v2,e2,h⟩:=h
  replace h:=ltE h;obtain⟨v3,e3,h⟩:=h
  cases v3 with
  |true =>
   replace h:=iteT rfl h
   apply AW.last
   ·simp[Aa e2,← e3]
    intros;rfl
   obtain rfl:=oi h
   refine nP_i ?_
   refine Weak.mixN [] hn0 (by decide) ?_ ?_ rfl
   all_goals first|(simp[Ab,Ac,pickOb];done)|rfl
  |false =>
   replace h:=iteF rfl h
   replace h:=ltE h;obtain⟨v4,e4,h⟩:=h
   replace h:=ltE h;obtain⟨v5,e5,h⟩:=h
   apply AW.last
   ·simp[Aa e2,← e3,Aa e4,← e5]
    intros;rfl
   obtain rfl:=oi h
   refine nP_i ?_
   refine Weak.mixN [] hn0 (by decide) ?_ ?_ rfl
   all_goals first|(simp[Ab,Ac,pickOb];done)|rfl
 ·rintro e s hp
  obtain⟨rfl,hw⟩:=hp
  refine⟨_,hw,?_⟩
  try simp only[nm]
  replace h:=ltE h;obtain⟨v6,e6,h⟩:=h
  rw[← e6]
  cases v6 with
  |true =>
   replace h:=iteT rfl h
   refine AW.cond_true (by simp) ?_
   replace h:=bnE h;obtain⟨v7,e7,h⟩:=h
   apply AW.step
   ·simp
    intros
    refine Ae Fg (FJ e7) rfl trivial ?_
    try simp
    intros;rfl
   obtain rfl:=oi h
   refine AW.ret ?_
   refine Left.plain hnb (by simp[Tryz.f4,resV,resC,comp];rfl) rfl rfl ?_
   simp
  |false =>
   replace h:=iteF rfl h
   refine AW.cond_false (by simp) ?_
   refine AW.skip ?_
   try simp only[nm]
   replace h:=bnE h;obtain⟨v8,e8,h⟩:=h
   apply AW.step
   ·simp
    intros
    refine Ae Ho (H6 e8) rfl ⟨.same rfl,.same rfl,trivial⟩ ?_
    try simp
    intros;rfl
   replace h:=bnE h;obtain⟨v9,e9,h⟩:=h
   replace h:=ltE h;obtain⟨v10,e10,h⟩:=h
   replace h:=bnE h;obtain⟨v11,e11,h⟩:=h
   replace h:=bnE h;obtain⟨v12,e12,h⟩:=h
   replace h:=bnE h;obtain⟨v13,e13,h⟩:=h
   apply AW.drawnP (V:=[_,_,_,_,_,_,_,_,_,_,_]) mixed [⟨[0],[],[(1,none)],false⟩,⟨[0],[],[(3,none)],false⟩,⟨[0],[1],[(37,some 1)],false⟩,⟨[0],[1,2],[(38,some 2)],false⟩,⟨[0],[1,2,3],[(39,some 3)],false⟩,⟨[0],[],[(3,none)],false⟩,⟨[0],[5],[(41,some 5)],false⟩,⟨[0],[5,6],[(42,some 6)],false⟩,⟨[0],[],[(3,none)],false⟩,⟨[0],[8],[(44,some 8)],false⟩,⟨[0],[8,9],[(45,some 9)],false⟩,⟨[],[0,1,2,3,4,5,6,7,8,9,10],[],false⟩,⟨[],[0,1,2,3,4,5,6,7,8,9,10,11],[],false⟩,⟨[],[0,1,2,3,4,5,6,7,8,9,10,11,12],[],false⟩] 11 (by kernel_rfl) (by kernel_rfl)
   ·refine⟨?_,?_,?_,?_,?_,?_,?_,?_,?_,?_,?_,trivial⟩
    iterate 11 (· intro tm hr;simp[AllL,rdV] at hr;simp[hr,(show a3[1]?=some v9 from (Ad e9).2),← e10,(show a3[2]?=some v11 from (Ad e11).2),(show a3[3]?=some v12 from (Ad e12).2)];intros;first|exact KD.mk|exact KD.mkN)
   ·rfl
   ·simp[tmD,putD,(show a3[1]?=some v9 from (Ad e9).2),← e10,(show a3[2]?=some v11 from (Ad e11).2),(show a3[3]?=some v12 from (Ad e12).2)];rfl
   ·simp[(show a3[1]?=some v9 from (Ad e9).2),← e10,(show a3[2]?=some v11 from (Ad e11).2),(show a3[3]?=some v12 from (Ad e12).2)]
    intros
    refine Fv (es:=encU [a1,v10,v11,v12]) (by simp[encU,lvs,All2]) (Oo _) (by omega) (by simp) ?_
    try simp[(show a3[1]?=some v9 from (Ad e9).2),← e10,(show a3[2]?=some v11 from (Ad e11).2),(show a3[3]?=some v12 from (Ad e12).2)]
    intros
    refine Ae FV (Gh e13) rfl ⟨.same rfl,trivial⟩ ?_
    try simp[(show a3[1]?=some v9 from (Ad e9).2),← e10,(show a3[2]?=some v11 from (Ad e11).2),(show a3[3]?=some v12 from (Ad e12).2)]
    intros;rfl
   refine AW.seq ?_
   replace h:=bnE h;obtain⟨y14,g14,h⟩:=h
   refine AW.flow (p:=fun gh ls=>(nP (cx:=cx) (fun q=>(⟨[(2,.l (.s (.int .u8 a2))),(9,.l (.p 0 0)),(10,.l (.d false 7 (encEffect v13))),(57,.l (.s (.bool q)))],[some ⟨38,22,false,none,[.s (.int .i64 v8.count),.s (.int .i64 v8.id),.s (.int .i64 v8.master),.s (.int .i64 v8.epoch),.s (.int .i64 v8.voted),.d false 4 (encClaim v8.claims),.d false 6 (encPair v8.db),.d false 4 (encMove v8.moves),.s (.int .i64 v8.last),.d false 3 (encSeen v8.seen),.s (.int .i64 v8.feed.rid.node),.s (.int .i64 v8.feed.rid.epoch),.s (.int .i64 v8.feed.off),.d false 7 (encEffect v8.feed.back),.s (.int .i64 v8.feed.prev.node),.s (.int .i64 v8.feed.prev.epoch),.s (.int .i64 v8.feed.upto),.d false 1 (encI v8.watch.heard),.d false 1 (encLI v8.watch.says),.s (.int .i64 v8.asked),.d false 1 (encI v8.votes),.s (.int .i64 v8.wait)]⟩],197,gh,ls⟩:St))) y14) ?_ ?_
   ·replace h:=g14;clear g14
    replace h:=ltE h;obtain⟨v15,e15,h⟩:=h
    replace h:=ltE h;obtain⟨v16,e16,h⟩:=h
    cases v16 with
    |true =>
     replace h:=iteT rfl h
     apply AW.last
     ·simp[Aa e15,← e16]
      intros;rfl
     obtain rfl:=oi h
     refine nP_i ?_
     refine Weak.mixN [some 0] hn0 (by decide) ?_ ?_ rfl
     all_goals first|(simp[Ab,Ac,pickOb];done)|rfl
    |false =>
     replace h:=iteF rfl h
     replace h:=bnE h;obtain⟨v17,e17,h⟩:=h
     apply AW.last
     ·simp[Aa e15,← e16,(show v13[0]?=some v17 from (Ad e17).2)]
      intros;rfl
     obtain rfl:=oi h
     refine nP_i ?_
     refine Weak.mixN [some 0] hn0 (by decide) ?_ ?_ rfl
     all_goals first|(simp[Ab,Ac,pickOb];done)|rfl
   ·rintro e s hp
    obtain⟨rfl,hw⟩:=hp
    refine⟨_,hw,?_⟩
    try simp only[nm]
    replace h:=ltE h;obtain⟨v18,e18,h⟩:=h
    rw[← e18]
    cases v18 with
    |true =>
     replace h:=iteT rfl h
     refine AW.cond_true (by simp) ?_
     replace h:=bnE h;obtain⟨v19,e19,h⟩:=h
     apply AW.step
     ·simp
      intros
      refine Ae Fg (FJ e19) rfl trivial ?_
      try simp
      intros;rfl
     obtain rfl:=oi h
     refine AW.ret ?_
     refine Left.plain hnb (by simp[Tryz.f4,resV,resC,comp];rfl) rfl rfl ?_
     simp
    |false =>
     replace h:=iteF rfl h
     refine AW.cond_false (by simp) ?_
     refine AW.skip ?_
     try simp only[nm]
     replace h:=bnE h;obtain⟨v20,e20,h⟩:=h
     replace h:=bnE h;obtain⟨v21,e21,h⟩:=h
     apply AW.step
     ·simp[(show v13[0]?=some v20 from (Ad e20).2)]
      intros
      refine Ae Md (Nb e21) rfl ⟨.same rfl,trivial⟩ ?_
      try simp[(show v13[0]?=some v20 from (Ad e20).2)]
      intros;rfl
     replace h:=ltE h;obtain⟨v22,e22,h⟩:=h
     replace h:=ltE h;obtain⟨v23,e23,h⟩:=h
     apply AW.step
     ·simp[← e22,← e23]
      intros;rfl
     replace h:=bnE h;obtain⟨v24,e24,h⟩:=h
     apply AW.step
     ·simp
      intros
      refine Ae Eb (Eu e24) rfl ⟨.same rfl,.g ⟨.s _,.s _,.s _,.s _,.nil _ _,.nil _ _,.s _,.s _,.s _,.s _,.s _,.s _,.s _,.s _,.e _ _,trivial⟩,trivial⟩ ?_
      try simp
      intros;rfl
     replace h:=bnE h;obtain⟨v25,e25,h⟩:=h
     apply AW.step
     ·simp
      intros
      refine Ae Eb (Eu e25) rfl ⟨.same rfl,.g ⟨.s _,.s _,.s _,.s _,.nil _ _,.nil _ _,.s _,.s _,.s _,.s _,.s _,.s _,.s _,.s _,.e _ _,trivial⟩,trivial⟩ ?_
      try simp
      intros;rfl
     apply AW.step
     ·simp
      intros;rfl
     replace h:=ltE h;obtain⟨v26,e26,h⟩:=h
     apply AW.step
     ·simp[← e22,← e26]
      intros;rfl
     apply AW.step
     ·simp[(show v13[0]?=some v20 from (Ad e20).2)]
      intros
      refine Av ?_
      try simp[(show v13[0]?=some v20 from (Ad e20).2)]
      intros;rfl
     replace h:=chkE h;obtain⟨e27,h⟩:=h
     refine AW.nilCellR 5 4 2 rfl rfl rfl ?_
     refine AW.nilCellR 5 5 1 rfl rfl rfl ?_
     refine AW.frzRow 5 (ty:=59) (cap:=none) (sz:=7) (es:=encEffect [(⟨v20.key,false,(⟨1,⟨#[111,108,100]⟩,[],[],0⟩:Item)⟩:Effect)]) (by simp[Ep]) (by omega) (BC _) (by first|exact (Ah e27).2|simpa using (Ah e27).2|simp) (by simp[Tm.frz,AV.frz,LV.frz,(show List.take 1 (encEffect [(⟨v20.key,false,(⟨1,⟨#[111,108,100]⟩,[],[],0⟩:Item)⟩:Effect)])=encEffect [(⟨v20.key,false,(⟨1,⟨#[111,108,100]⟩,[],[],0⟩:Item)⟩:Effect)] from rfl)];rfl) (by simp[Ob.frz,LV.frz,(show List.take 1 (encEffect [(⟨v20.key,false,(⟨1,⟨#[111,108,100]⟩,[],[],0⟩:Item)⟩:Effect)])=encEffect [(⟨v20.key,false,(⟨1,⟨#[111,108,100]⟩,[],[],0⟩:Item)⟩:Effect)] from rfl)];rfl) rfl ?_
     replace h:=bnE h;obtain⟨v28,e28,h⟩:=h
     apply AW.step
     ·simp
      intros
      refine Ae Eb (Eu e28) rfl ⟨.same rfl,.g ⟨.s _,.s _,.s _,.s _,.nil _ _,.nil _ _,.s _,.s _,.s _,.s _,.s _,.s _,.s _,.s _,.e _ _,trivial⟩,trivial⟩ ?_
      try simp
      intros;rfl
     apply AW.step
     ·simp
      intros;rfl
     apply AW.step
     ·simp
      intros;rfl
     replace h:=bnE h;obtain⟨v29,e29,h⟩:=h
     apply AW.step
     ·simp
      intros
      refine Ae Eb (Eu e29) rfl ⟨.same rfl,.g ⟨.s _,.s _,.s _,.s _,.nil _ _,.nil _ _,.s _,.s _,.s _,.s _,.s _,.s _,.s _,.s _,.e _ _,trivial⟩,trivial⟩ ?_
      try simp
      intros;rfl
     replace h:=bnE h;obtain⟨v30,e30,h⟩:=h
     replace h:=bnE h;obtain⟨v31,e31,h⟩:=h
     apply AW.drawnQ2 (st':=(⟨[(10,.l (.d false 7 (encEffect v13))),(12,.l (.p 1 0)),(13,.l (.p 2 0)),(14,.l (.d false 15 (encMsg v24.2))),(15,.l (.p 3 0)),(16,.l (.d false 15 (encMsg v25.2))),(17,.l (.p 4 0)),(18,.l (.p 6 0)),(19,.l (.d false 15 (encMsg v28.2))),(21,.l (.p 8 0)),(22,.l (.d false 15 (encMsg v29.2))),(23,.l (.p 9 0)),(24,.l (.p 10 0))],[some ⟨38,22,false,none,[.s (.int .i64 v8.count),.s (.int .i64 v8.id),.s (.int .i64 v8.master),.s (.int .i64 v8.epoch),.s (.int .i64 v8.voted),.d false 4 (encClaim v8.claims),.d false 6 (encPair v8.db),.d false 4 (encMove v8.moves),.s (.int .i64 v8.last),.d false 3 (encSeen v8.seen),.s (.int .i64 v8.feed.rid.node),.s (.int .i64 v8.feed.rid.epoch),.s (.int .i64 v8.feed.off),.d false 7 (encEffect v8.feed.back),.s (.int .i64 v8.feed.prev.node),.s (.int .i64 v8.feed.prev.epoch),.s (.int .i64 v8.feed.upto),.d false 1 (encI v8.watch.heard),.d false 1 (encLI v8.watch.says),.s (.int .i64 v8.asked),.d false 1 (encI v8.votes),.s (.int .i64 v8.wait)]⟩,some ⟨49,15,false,none,[.s (.int .i64 2),.s (.int .i64 0),.s (.int .i64 1),.s (.int .i64 0),.s (.slice none 0 0),.s (.slice none 0 0),.s (.int .i64 0),.s (.int .i64 v21),.s (.int .i64 v23),.s (.int .i64 0),.s (.int .i64 0),.s (.int .i64 0),.s (.int .i64 0),.s (.int .i64 0),.d false 7 (encEffect v13)]⟩,some ⟨38,22,false,none,[.s (.int .i64 v24.1.count),.s (.int .i64 v24.1.id),.s (.int .i64 v24.1.master),.s (.int .i64 v24.1.epoch),.s (.int .i64 v24.1.voted),.d false 4 (encClaim v24.1.claims),.d false 6 (encPair v24.1.db),.d false 4 (encMove v24.1.moves),.s (.int .i64 v24.1.last),.d false 3 (encSeen v24.1.seen),.s (.int .i64 v24.1.feed.rid.node),.s (.int .i64 v24.1.feed.rid.epoch),.s (.int .i64 v24.1.feed.off),.d false 7 (encEffect v24.1.feed.back),.s (.int .i64 v24.1.feed.prev.node),.s (.int .i64 v24.1.feed.prev.epoch),.s (.int .i64 v24.1.feed.upto),.d false 1 (encI v24.1.watch.heard),.d false 1 (encLI v24.1.watch.says),.s (.int .i64 v24.1.asked),.d false 1 (encI v24.1.votes),.s (.int .i64 v24.1.wait)]⟩,some ⟨38,22,false,none,[.s (.int .i64 v25.1.count),.s (.int .i64 v25.1.id),.s (.int .i64 v25.1.master),.s (.int .i64 v25.1.epoch),.s (.int .i64 v25.1.voted),.d false 4 (encClaim v25.1.claims),.d false 6 (encPair v25.1.db),.d false 4 (encMove v25.1.moves),.s (.int .i64 v25.1.last),.d false 3 (encSeen v25.1.seen),.s (.int .i64 v25.1.feed.rid.node),.s (.int .i64 v25.1.feed.rid.epoch),.s (.int .i64 v25.1.feed.off),.d false 7 (encEffect v25.1.feed.back),.s (.int .i64 v25.1.feed.prev.node),.s (.int .i64 v25.1.feed.prev.epoch),.s (.int .i64 v25.1.feed.upto),.d false 1 (encI v25.1.watch.heard),.d false 1 (encLI v25.1.watch.says),.s (.int .i64 v25.1.asked),.d false 1 (encI v25.1.votes),.s (.int .i64 v25.1.wait)]⟩,some ⟨49,15,false,none,[.s (.int .i64 2),.s (.int .i64 0),.s (.int .i64 1),.s (.int .i64 0),.s (.slice none 0 0),.s (.slice none 0 0),.s (.int .i64 0),.s (.int .i64 v21),.s (.int .i64 v26),.s (.int .i64 0),.s (.int .i64 0),.s (.int .i64 0),.s (.int .i64 0),.s (.int .i64 0),.d false 7 (encEffect [(⟨v20.key,false,(⟨1,⟨#[111,108,100]⟩,[],[],0⟩:Item)⟩:Effect)])]⟩,none,some ⟨38,22,false,none,[.s (.int .i64 v28.1.count),.s (.int .i64 v28.1.id),.s (.int .i64 v28.1.master),.s (.int .i64 v28.1.epoch),.s (.int .i64 v28.1.voted),.d false 4 (encClaim v28.1.claims),.d false 6 (encPair v28.1.db),.d false 4 (encMove v28.1.moves),.s (.int .i64 v28.1.last),.d false 3 (encSeen v28.1.seen),.s (.int .i64 v28.1.feed.rid.node),.s (.int .i64 v28.1.feed.rid.epoch),.s (.int .i64 v28.1.feed.off),.d false 7 (encEffect v28.1.feed.back),.s (.int .i64 v28.1.feed.prev.node),.s (.int .i64 v28.1.feed.prev.epoch),.s (.int .i64 v28.1.feed.upto),.d false 1 (encI v28.1.watch.heard),.d false 1 (encLI v28.1.watch.says),.s (.int .i64 v28.1.asked),.d false 1 (encI v28.1.votes),.s (.int .i64 v28.1.wait)]⟩,some ⟨49,15,false,none,[.s (.int .i64 2),.s (.int .i64 2),.s (.int .i64 1),.s (.int .i64 0),.s (.slice none 0 0),.s (.slice none 0 0),.s (.int .i64 0),.s (.int .i64 v21),.s (.int .i64 v26),.s (.int .i64 0),.s (.int .i64 0),.s (.int .i64 0),.s (.int .i64 0),.s (.int .i64 0),.d false 7 (encEffect [(⟨v20.key,false,(⟨1,⟨#[111,108,100]⟩,[],[],0⟩:Item)⟩:Effect)])]⟩,some ⟨38,22,false,none,[.s (.int .i64 v29.1.count),.s (.int .i64 v29.1.id),.s (.int .i64 v29.1.master),.s (.int .i64 v29.1.epoch),.s (.int .i64 v29.1.voted),.d false 4 (encClaim v29.1.claims),.d false 6 (encPair v29.1.db),.d false 4 (encMove v29.1.moves),.s (.int .i64 v29.1.last),.d false 3 (encSeen v29.1.seen),.s (.int .i64 v29.1.feed.rid.node),.s (.int .i64 v29.1.feed.rid.epoch),.s (.int .i64 v29.1.feed.off),.d false 7 (encEffect v29.1.feed.back),.s (.int .i64 v29.1.feed.prev.node),.s (.int .i64 v29.1.feed.prev.epoch),.s (.int .i64 v29.1.feed.upto),.d false 1 (encI v29.1.watch.heard),.d false 1 (encLI v29.1.watch.says),.s (.int .i64 v29.1.asked),.d false 1 (encI v29.1.votes),.s (.int .i64 v29.1.wait)]⟩,some ⟨62,6,false,none,[.s (.int .i64 v30.i.kind),.s (.string v30.i.s),.d false 2 (encField v30.i.f),.d false 1 (encS v30.i.l),.s (.int .i64 v30.i.exp),.s (.bool v30.ok)]⟩,some ⟨62,6,false,none,[.s (.int .i64 v31.i.kind),.s (.string v31.i.s),.d false 2 (encField v31.i.f),.d false 1 (encS v31.i.l),.s (.int .i64 v31.i.exp),.s (.bool v31.ok)]⟩],197,[],none⟩:St)) (V:=[_,_,_,_,_,_,_,_,_,_,_,_,_,_,.l .u,.l .u]) (E:=[.l .u,.l (.p 9 0),.l (.p 9 0),.l (.p 10 0),.l (.p 10 0)]) (M:=[[some ⟨38,22,false,none,[.s (.int .i64 v8.count),.s (.int .i64 v8.id),.s (.int .i64 v8.master),.s (.int .i64 v8.epoch),.s (.int .i64 v8.voted),.d false 4 (encClaim v8.claims),.d false 6 (encPair v8.db),.d false 4 (encMove v8.moves),.s (.int .i64 v8.last),.d false 3 (encSeen v8.seen),.s (.int .i64 v8.feed.rid.node),.s (.int .i64 v8.feed.rid.epoch),.s (.int .i64 v8.feed.off),.d false 7 (encEffect v8.feed.back),.s (.int .i64 v8.feed.prev.node),.s (.int .i64 v8.feed.prev.epoch),.s (.int .i64 v8.feed.upto),.d false 1 (encI v8.watch.heard),.d false 1 (encLI v8.watch.says),.s (.int .i64 v8.asked),.d false 1 (encI v8.votes),.s (.int .i64 v8.wait)]⟩,some ⟨49,15,false,none,[.s (.int .i64 2),.s (.int .i64 0),.s (.int .i64 1),.s (.int .i64 0),.s (.slice none 0 0),.s (.slice none 0 0),.s (.int .i64 0),.s (.int .i64 v21),.s (.int .i64 v23),.s (.int .i64 0),.s (.int .i64 0),.s (.int .i64 0),.s (.int .i64 0),.s (.int .i64 0),.d false 7 (encEffect v13)]⟩,some ⟨38,22,false,none,[.s (.int .i64 v24.1.count),.s (.int .i64 v24.1.id),.s (.int .i64 v24.1.master),.s (.int .i64 v24.1.epoch),.s (.int .i64 v24.1.voted),.d false 4 (encClaim v24.1.claims),.d false 6 (encPair v24.1.db),.d false 4 (encMove v24.1.moves),.s (.int .i64 v24.1.last),.d false 3 (encSeen v24.1.seen),.s (.int .i64 v24.1.feed.rid.node),.s (.int .i64 v24.1.feed.rid.epoch),.s (.int .i64 v24.1.feed.off),.d false 7 (encEffect v24.1.feed.back),.s (.int .i64 v24.1.feed.prev.node),.s (.int .i64 v24.1.feed.prev.epoch),.s (.int .i64 v24.1.feed.upto),.d false 1 (encI v24.1.watch.heard),.d false 1 (encLI v24.1.watch.says),.s (.int .i64 v24.1.asked),.d false 1 (encI v24.1.votes),.s (.int .i64 v24.1.wait)]⟩,some ⟨38,22,false,none,[.s (.int .i64 v25.1.count),.s (.int .i64 v25.1.id),.s (.int .i64 v25.1.master),.s (.int .i64 v25.1.epoch),.s (.int .i64 v25.1.voted),.d false 4 (encClaim v25.1.claims),.d false 6 (encPair v25.1.db),.d false 4 (encMove v25.1.moves),.s (.int .i64 v25.1.last),.d false 3 (encSeen v25.1.seen),.s (.int .i64 v25.1.feed.rid.node),.s (.int .i64 v25.1.feed.rid.epoch),.s (.int .i64 v25.1.feed.off),.d false 7 (encEffect v25.1.feed.back),.s (.int .i64 v25.1.feed.prev.node),.s (.int .i64 v25.1.feed.prev.epoch),.s (.int .i64 v25.1.feed.upto),.d false 1 (encI v25.1.watch.heard),.d false 1 (encLI v25.1.watch.says),.s (.int .i64 v25.1.asked),.d false 1 (encI v25.1.votes),.s (.int .i64 v25.1.wait)]⟩,some ⟨49,15,false,none,[.s (.int .i64 2),.s (.int .i64 0),.s (.int .i64 1),.s (.int .i64 0),.s (.slice none 0 0),.s (.slice none 0 0),.s (.int .i64 0),.s (.int .i64 v21),.s (.int .i64 v26),.s (.int .i64 0),.s (.int .i64 0),.s (.int .i64 0),.s (.int .i64 0),.s (.int .i64 0),.d false 7 (encEffect [(⟨v20.key,false,(⟨1,⟨#[111,108,100]⟩,[],[],0⟩:Item)⟩:Effect)])]⟩,none,some ⟨38,22,false,none,[.s (.int .i64 v28.1.count),.s (.int .i64 v28.1.id),.s (.int .i64 v28.1.master),.s (.int .i64 v28.1.epoch),.s (.int .i64 v28.1.voted),.d false 4 (encClaim v28.1.claims),.d false 6 (encPair v28.1.db),.d false 4 (encMove v28.1.moves),.s (.int .i64 v28.1.last),.d false 3 (encSeen v28.1.seen),.s (.int .i64 v28.1.feed.rid.node),.s (.int .i64 v28.1.feed.rid.epoch),.s (.int .i64 v28.1.feed.off),.d false 7 (encEffect v28.1.feed.back),.s (.int .i64 v28.1.feed.prev.node),.s (.int .i64 v28.1.feed.prev.epoch),.s (.int .i64 v28.1.feed.upto),.d false 1 (encI v28.1.watch.heard),.d false 1 (encLI v28.1.watch.says),.s (.int .i64 v28.1.asked),.d false 1 (encI v28.1.votes),.s (.int .i64 v28.1.wait)]⟩,some ⟨49,15,false,none,[.s (.int .i64 2),.s (.int .i64 2),.s (.int .i64 1),.s (.int .i64 0),.s (.slice none 0 0),.s (.slice none 0 0),.s (.int .i64 0),.s (.int .i64 v21),.s (.int .i64 v26),.s (.int .i64 0),.s (.int .i64 0),.s (.int .i64 0),.s (.int .i64 0),.s (.int .i64 0),.d false 7 (encEffect [(⟨v20.key,false,(⟨1,⟨#[111,108,100]⟩,[],[],0⟩:Item)⟩:Effect)])]⟩,some ⟨38,22,false,none,[.s (.int .i64 v29.1.count),.s (.int .i64 v29.1.id),.s (.int .i64 v29.1.master),.s (.int .i64 v29.1.epoch),.s (.int .i64 v29.1.voted),.d false 4 (encClaim v29.1.claims),.d false 6 (encPair v29.1.db),.d false 4 (encMove v29.1.moves),.s (.int .i64 v29.1.last),.d false 3 (encSeen v29.1.seen),.s (.int .i64 v29.1.feed.rid.node),.s (.int .i64 v29.1.feed.rid.epoch),.s (.int .i64 v29.1.feed.off),.d false 7 (encEffect v29.1.feed.back),.s (.int .i64 v29.1.feed.prev.node),.s (.int .i64 v29.1.feed.prev.epoch),.s (.int .i64 v29.1.feed.upto),.d false 1 (encI v29.1.watch.heard),.d false 1 (encLI v29.1.watch.says),.s (.int .i64 v29.1.asked),.d false 1 (encI v29.1.votes),.s (.int .i64 v29.1.wait)]⟩],[some ⟨38,22,false,none,[.s (.int .i64 v8.count),.s (.int .i64 v8.id),.s (.int .i64 v8.master),.s (.int .i64 v8.epoch),.s (.int .i64 v8.voted),.d false 4 (encClaim v8.claims),.d false 6 (encPair v8.db),.d false 4 (encMove v8.moves),.s (.int .i64 v8.last),.d false 3 (encSeen v8.seen),.s (.int .i64 v8.feed.rid.node),.s (.int .i64 v8.feed.rid.epoch),.s (.int .i64 v8.feed.off),.d false 7 (encEffect v8.feed.back),.s (.int .i64 v8.feed.prev.node),.s (.int .i64 v8.feed.prev.epoch),.s (.int .i64 v8.feed.upto),.d false 1 (encI v8.watch.heard),.d false 1 (encLI v8.watch.says),.s (.int .i64 v8.asked),.d false 1 (encI v8.votes),.s (.int .i64 v8.wait)]⟩,some ⟨49,15,false,none,[.s (.int .i64 2),.s (.int .i64 0),.s (.int .i64 1),.s (.int .i64 0),.s (.slice none 0 0),.s (.slice none 0 0),.s (.int .i64 0),.s (.int .i64 v21),.s (.int .i64 v23),.s (.int .i64 0),.s (.int .i64 0),.s (.int .i64 0),.s (.int .i64 0),.s (.int .i64 0),.d false 7 (encEffect v13)]⟩,some ⟨38,22,false,none,[.s (.int .i64 v24.1.count),.s (.int .i64 v24.1.id),.s (.int .i64 v24.1.master),.s (.int .i64 v24.1.epoch),.s (.int .i64 v24.1.voted),.d false 4 (encClaim v24.1.claims),.d false 6 (encPair v24.1.db),.d false 4 (encMove v24.1.moves),.s (.int .i64 v24.1.last),.d false 3 (encSeen v24.1.seen),.s (.int .i64 v24.1.feed.rid.node),.s (.int .i64 v24.1.feed.rid.epoch),.s (.int .i64 v24.1.feed.off),.d false 7 (encEffect v24.1.feed.back),.s (.int .i64 v24.1.feed.prev.node),.s (.int .i64 v24.1.feed.prev.epoch),.s (.int .i64 v24.1.feed.upto),.d false 1 (encI v24.1.watch.heard),.d false 1 (encLI v24.1.watch.says),.s (.int .i64 v24.1.asked),.d false 1 (encI v24.1.votes),.s (.int .i64 v24.1.wait)]⟩,some ⟨38,22,false,none,[.s (.int .i64 v25.1.count),.s (.int .i64 v25.1.id),.s (.int .i64 v25.1.master),.s (.int .i64 v25.1.epoch),.s (.int .i64 v25.1.voted),.d false 4 (encClaim v25.1.claims),.d false 6 (encPair v25.1.db),.d false 4 (encMove v25.1.moves),.s (.int .i64 v25.1.last),.d false 3 (encSeen v25.1.seen),.s (.int .i64 v25.1.feed.rid.node),.s (.int .i64 v25.1.feed.rid.epoch),.s (.int .i64 v25.1.feed.off),.d false 7 (encEffect v25.1.feed.back),.s (.int .i64 v25.1.feed.prev.node),.s (.int .i64 v25.1.feed.prev.epoch),.s (.int .i64 v25.1.feed.upto),.d false 1 (encI v25.1.watch.heard),.d false 1 (encLI v25.1.watch.says),.s (.int .i64 v25.1.asked),.d false 1 (encI v25.1.votes),.s (.int .i64 v25.1.wait)]⟩,some ⟨49,15,false,none,[.s (.int .i64 2),.s (.int .i64 0),.s (.int .i64 1),.s (.int .i64 0),.s (.slice none 0 0),.s (.slice none 0 0),.s (.int .i64 0),.s (.int .i64 v21),.s (.int .i64 v26),.s (.int .i64 0),.s (.int .i64 0),.s (.int .i64 0),.s (.int .i64 0),.s (.int .i64 0),.d false 7 (encEffect [(⟨v20.key,false,(⟨1,⟨#[111,108,100]⟩,[],[],0⟩:Item)⟩:Effect)])]⟩,none,some ⟨38,22,false,none,[.s (.int .i64 v28.1.count),.s (.int .i64 v28.1.id),.s (.int .i64 v28.1.master),.s (.int .i64 v28.1.epoch),.s (.int .i64 v28.1.voted),.d false 4 (encClaim v28.1.claims),.d false 6 (encPair v28.1.db),.d false 4 (encMove v28.1.moves),.s (.int .i64 v28.1.last),.d false 3 (encSeen v28.1.seen),.s (.int .i64 v28.1.feed.rid.node),.s (.int .i64 v28.1.feed.rid.epoch),.s (.int .i64 v28.1.feed.off),.d false 7 (encEffect v28.1.feed.back),.s (.int .i64 v28.1.feed.prev.node),.s (.int .i64 v28.1.feed.prev.epoch),.s (.int .i64 v28.1.feed.upto),.d false 1 (encI v28.1.watch.heard),.d false 1 (encLI v28.1.watch.says),.s (.int .i64 v28.1.asked),.d false 1 (encI v28.1.votes),.s (.int .i64 v28.1.wait)]⟩,some ⟨49,15,false,none,[.s (.int .i64 2),.s (.int .i64 2),.s (.int .i64 1),.s (.int .i64 0),.s (.slice none 0 0),.s (.slice none 0 0),.s (.int .i64 0),.s (.int .i64 v21),.s (.int .i64 v26),.s (.int .i64 0),.s (.int .i64 0),.s (.int .i64 0),.s (.int .i64 0),.s (.int .i64 0),.d false 7 (encEffect [(⟨v20.key,false,(⟨1,⟨#[111,108,100]⟩,[],[],0⟩:Item)⟩:Effect)])]⟩,some ⟨38,22,false,none,[.s (.int .i64 v29.1.count),.s (.int .i64 v29.1.id),.s (.int .i64 v29.1.master),.s (.int .i64 v29.1.epoch),.s (.int .i64 v29.1.voted),.d false 4 (encClaim v29.1.claims),.d false 6 (encPair v29.1.db),.d false 4 (encMove v29.1.moves),.s (.int .i64 v29.1.last),.d false 3 (encSeen v29.1.seen),.s (.int .i64 v29.1.feed.rid.node),.s (.int .i64 v29.1.feed.rid.epoch),.s (.int .i64 v29.1.feed.off),.d false 7 (encEffect v29.1.feed.back),.s (.int .i64 v29.1.feed.prev.node),.s (.int .i64 v29.1.feed.prev.epoch),.s (.int .i64 v29.1.feed.upto),.d false 1 (encI v29.1.watch.heard),.d false 1 (encLI v29.1.watch.says),.s (.int .i64 v29.1.asked),.d false 1 (encI v29.1.votes),.s (.int .i64 v29.1.wait)]⟩,some ⟨62,6,false,none,[.s (.int .i64 0),.s (.string ⟨#[]⟩),.s (.slice none 0 0),.s (.slice none 0 0),.s (.int .i64 0),.s (.bool false)]⟩],[some ⟨38,22,false,none,[.s (.int .i64 v8.count),.s (.int .i64 v8.id),.s (.int .i64 v8.master),.s (.int .i64 v8.epoch),.s (.int .i64 v8.voted),.d false 4 (encClaim v8.claims),.d false 6 (encPair v8.db),.d false 4 (encMove v8.moves),.s (.int .i64 v8.last),.d false 3 (encSeen v8.seen),.s (.int .i64 v8.feed.rid.node),.s (.int .i64 v8.feed.rid.epoch),.s (.int .i64 v8.feed.off),.d false 7 (encEffect v8.feed.back),.s (.int .i64 v8.feed.prev.node),.s (.int .i64 v8.feed.prev.epoch),.s (.int .i64 v8.feed.upto),.d false 1 (encI v8.watch.heard),.d false 1 (encLI v8.watch.says),.s (.int .i64 v8.asked),.d false 1 (encI v8.votes),.s (.int .i64 v8.wait)]⟩,some ⟨49,15,false,none,[.s (.int .i64 2),.s (.int .i64 0),.s (.int .i64 1),.s (.int .i64 0),.s (.slice none 0 0),.s (.slice none 0 0),.s (.int .i64 0),.s (.int .i64 v21),.s (.int .i64 v23),.s (.int .i64 0),.s (.int .i64 0),.s (.int .i64 0),.s (.int .i64 0),.s (.int .i64 0),.d false 7 (encEffect v13)]⟩,some ⟨38,22,false,none,[.s (.int .i64 v24.1.count),.s (.int .i64 v24.1.id),.s (.int .i64 v24.1.master),.s (.int .i64 v24.1.epoch),.s (.int .i64 v24.1.voted),.d false 4 (encClaim v24.1.claims),.d false 6 (encPair v24.1.db),.d false 4 (encMove v24.1.moves),.s (.int .i64 v24.1.last),.d false 3 (encSeen v24.1.seen),.s (.int .i64 v24.1.feed.rid.node),.s (.int .i64 v24.1.feed.rid.epoch),.s (.int .i64 v24.1.feed.off),.d false 7 (encEffect v24.1.feed.back),.s (.int .i64 v24.1.feed.prev.node),.s (.int .i64 v24.1.feed.prev.epoch),.s (.int .i64 v24.1.feed.upto),.d false 1 (encI v24.1.watch.heard),.d false 1 (encLI v24.1.watch.says),.s (.int .i64 v24.1.asked),.d false 1 (encI v24.1.votes),.s (.int .i64 v24.1.wait)]⟩,some ⟨38,22,false,none,[.s (.int .i64 v25.1.count),.s (.int .i64 v25.1.id),.s (.int .i64 v25.1.master),.s (.int .i64 v25.1.epoch),.s (.int .i64 v25.1.voted),.d false 4 (encClaim v25.1.claims),.d false 6 (encPair v25.1.db),.d false 4 (encMove v25.1.moves),.s (.int .i64 v25.1.last),.d false 3 (encSeen v25.1.seen),.s (.int .i64 v25.1.feed.rid.node),.s (.int .i64 v25.1.feed.rid.epoch),.s (.int .i64 v25.1.feed.off),.d false 7 (encEffect v25.1.feed.back),.s (.int .i64 v25.1.feed.prev.node),.s (.int .i64 v25.1.feed.prev.epoch),.s (.int .i64 v25.1.feed.upto),.d false 1 (encI v25.1.watch.heard),.d false 1 (encLI v25.1.watch.says),.s (.int .i64 v25.1.asked),.d false 1 (encI v25.1.votes),.s (.int .i64 v25.1.wait)]⟩,some ⟨49,15,false,none,[.s (.int .i64 2),.s (.int .i64 0),.s (.int .i64 1),.s (.int .i64 0),.s (.slice none 0 0),.s (.slice none 0 0),.s (.int .i64 0),.s (.int .i64 v21),.s (.int .i64 v26),.s (.int .i64 0),.s (.int .i64 0),.s (.int .i64 0),.s (.int .i64 0),.s (.int .i64 0),.d false 7 (encEffect [(⟨v20.key,false,(⟨1,⟨#[111,108,100]⟩,[],[],0⟩:Item)⟩:Effect)])]⟩,none,some ⟨38,22,false,none,[.s (.int .i64 v28.1.count),.s (.int .i64 v28.1.id),.s (.int .i64 v28.1.master),.s (.int .i64 v28.1.epoch),.s (.int .i64 v28.1.voted),.d false 4 (encClaim v28.1.claims),.d false 6 (encPair v28.1.db),.d false 4 (encMove v28.1.moves),.s (.int .i64 v28.1.last),.d false 3 (encSeen v28.1.seen),.s (.int .i64 v28.1.feed.rid.node),.s (.int .i64 v28.1.feed.rid.epoch),.s (.int .i64 v28.1.feed.off),.d false 7 (encEffect v28.1.feed.back),.s (.int .i64 v28.1.feed.prev.node),.s (.int .i64 v28.1.feed.prev.epoch),.s (.int .i64 v28.1.feed.upto),.d false 1 (encI v28.1.watch.heard),.d false 1 (encLI v28.1.watch.says),.s (.int .i64 v28.1.asked),.d false 1 (encI v28.1.votes),.s (.int .i64 v28.1.wait)]⟩,some ⟨49,15,false,none,[.s (.int .i64 2),.s (.int .i64 2),.s (.int .i64 1),.s (.int .i64 0),.s (.slice none 0 0),.s (.slice none 0 0),.s (.int .i64 0),.s (.int .i64 v21),.s (.int .i64 v26),.s (.int .i64 0),.s (.int .i64 0),.s (.int .i64 0),.s (.int .i64 0),.s (.int .i64 0),.d false 7 (encEffect [(⟨v20.key,false,(⟨1,⟨#[111,108,100]⟩,[],[],0⟩:Item)⟩:Effect)])]⟩,some ⟨38,22,false,none,[.s (.int .i64 v29.1.count),.s (.int .i64 v29.1.id),.s (.int .i64 v29.1.master),.s (.int .i64 v29.1.epoch),.s (.int .i64 v29.1.voted),.d false 4 (encClaim v29.1.claims),.d false 6 (encPair v29.1.db),.d false 4 (encMove v29.1.moves),.s (.int .i64 v29.1.last),.d false 3 (encSeen v29.1.seen),.s (.int .i64 v29.1.feed.rid.node),.s (.int .i64 v29.1.feed.rid.epoch),.s (.int .i64 v29.1.feed.off),.d false 7 (encEffect v29.1.feed.back),.s (.int .i64 v29.1.feed.prev.node),.s (.int .i64 v29.1.feed.prev.epoch),.s (.int .i64 v29.1.feed.upto),.d false 1 (encI v29.1.watch.heard),.d false 1 (encLI v29.1.watch.says),.s (.int .i64 v29.1.asked),.d false 1 (encI v29.1.votes),.s (.int .i64 v29.1.wait)]⟩,some ⟨62,6,false,none,[.s (.int .i64 0),.s (.string ⟨#[]⟩),.s (.slice none 0 0),.s (.slice none 0 0),.s (.int .i64 0),.s (.bool false)]⟩],[some ⟨38,22,false,none,[.s (.int .i64 v8.count),.s (.int .i64 v8.id),.s (.int .i64 v8.master),.s (.int .i64 v8.epoch),.s (.int .i64 v8.voted),.d false 4 (encClaim v8.claims),.d false 6 (encPair v8.db),.d false 4 (encMove v8.moves),.s (.int .i64 v8.last),.d false 3 (encSeen v8.seen),.s (.int .i64 v8.feed.rid.node),.s (.int .i64 v8.feed.rid.epoch),.s (.int .i64 v8.feed.off),.d false 7 (encEffect v8.feed.back),.s (.int .i64 v8.feed.prev.node),.s (.int .i64 v8.feed.prev.epoch),.s (.int .i64 v8.feed.upto),.d false 1 (encI v8.watch.heard),.d false 1 (encLI v8.watch.says),.s (.int .i64 v8.asked),.d false 1 (encI v8.votes),.s (.int .i64 v8.wait)]⟩,some ⟨49,15,false,none,[.s (.int .i64 2),.s (.int .i64 0),.s (.int .i64 1),.s (.int .i64 0),.s (.slice none 0 0),.s (.slice none 0 0),.s (.int .i64 0),.s (.int .i64 v21),.s (.int .i64 v23),.s (.int .i64 0),.s (.int .i64 0),.s (.int .i64 0),.s (.int .i64 0),.s (.int .i64 0),.d false 7 (encEffect v13)]⟩,some ⟨38,22,false,none,[.s (.int .i64 v24.1.count),.s (.int .i64 v24.1.id),.s (.int .i64 v24.1.master),.s (.int .i64 v24.1.epoch),.s (.int .i64 v24.1.voted),.d false 4 (encClaim v24.1.claims),.d false 6 (encPair v24.1.db),.d false 4 (encMove v24.1.moves),.s (.int .i64 v24.1.last),.d false 3 (encSeen v24.1.seen),.s (.int .i64 v24.1.feed.rid.node),.s (.int .i64 v24.1.feed.rid.epoch),.s (.int .i64 v24.1.feed.off),.d false 7 (encEffect v24.1.feed.back),.s (.int .i64 v24.1.feed.prev.node),.s (.int .i64 v24.1.feed.prev.epoch),.s (.int .i64 v24.1.feed.upto),.d false 1 (encI v24.1.watch.heard),.d false 1 (encLI v24.1.watch.says),.s (.int .i64 v24.1.asked),.d false 1 (encI v24.1.votes),.s (.int .i64 v24.1.wait)]⟩,some ⟨38,22,false,none,[.s (.int .i64 v25.1.count),.s (.int .i64 v25.1.id),.s (.int .i64 v25.1.master),.s (.int .i64 v25.1.epoch),.s (.int .i64 v25.1.voted),.d false 4 (encClaim v25.1.claims),.d false 6 (encPair v25.1.db),.d false 4 (encMove v25.1.moves),.s (.int .i64 v25.1.last),.d false 3 (encSeen v25.1.seen),.s (.int .i64 v25.1.feed.rid.node),.s (.int .i64 v25.1.feed.rid.epoch),.s (.int .i64 v25.1.feed.off),.d false 7 (encEffect v25.1.feed.back),.s (.int .i64 v25.1.feed.prev.node),.s (.int .i64 v25.1.feed.prev.epoch),.s (.int .i64 v25.1.feed.upto),.d false 1 (encI v25.1.watch.heard),.d false 1 (encLI v25.1.watch.says),.s (.int .i64 v25.1.asked),.d false 1 (encI v25.1.votes),.s (.int .i64 v25.1.wait)]⟩,some ⟨49,15,false,none,[.s (.int .i64 2),.s (.int .i64 0),.s (.int .i64 1),.s (.int .i64 0),.s (.slice none 0 0),.s (.slice none 0 0),.s (.int .i64 0),.s (.int .i64 v21),.s (.int .i64 v26),.s (.int .i64 0),.s (.int .i64 0),.s (.int .i64 0),.s (.int .i64 0),.s (.int .i64 0),.d false 7 (encEffect [(⟨v20.key,false,(⟨1,⟨#[111,108,100]⟩,[],[],0⟩:Item)⟩:Effect)])]⟩,none,some ⟨38,22,false,none,[.s (.int .i64 v28.1.count),.s (.int .i64 v28.1.id),.s (.int .i64 v28.1.master),.s (.int .i64 v28.1.epoch),.s (.int .i64 v28.1.voted),.d false 4 (encClaim v28.1.claims),.d false 6 (encPair v28.1.db),.d false 4 (encMove v28.1.moves),.s (.int .i64 v28.1.last),.d false 3 (encSeen v28.1.seen),.s (.int .i64 v28.1.feed.rid.node),.s (.int .i64 v28.1.feed.rid.epoch),.s (.int .i64 v28.1.feed.off),.d false 7 (encEffect v28.1.feed.back),.s (.int .i64 v28.1.feed.prev.node),.s (.int .i64 v28.1.feed.prev.epoch),.s (.int .i64 v28.1.feed.upto),.d false 1 (encI v28.1.watch.heard),.d false 1 (encLI v28.1.watch.says),.s (.int .i64 v28.1.asked),.d false 1 (encI v28.1.votes),.s (.int .i64 v28.1.wait)]⟩,some ⟨49,15,false,none,[.s (.int .i64 2),.s (.int .i64 2),.s (.int .i64 1),.s (.int .i64 0),.s (.slice none 0 0),.s (.slice none 0 0),.s (.int .i64 0),.s (.int .i64 v21),.s (.int .i64 v26),.s (.int .i64 0),.s (.int .i64 0),.s (.int .i64 0),.s (.int .i64 0),.s (.int .i64 0),.d false 7 (encEffect [(⟨v20.key,false,(⟨1,⟨#[111,108,100]⟩,[],[],0⟩:Item)⟩:Effect)])]⟩,some ⟨38,22,false,none,[.s (.int .i64 v29.1.count),.s (.int .i64 v29.1.id),.s (.int .i64 v29.1.master),.s (.int .i64 v29.1.epoch),.s (.int .i64 v29.1.voted),.d false 4 (encClaim v29.1.claims),.d false 6 (encPair v29.1.db),.d false 4 (encMove v29.1.moves),.s (.int .i64 v29.1.last),.d false 3 (encSeen v29.1.seen),.s (.int .i64 v29.1.feed.rid.node),.s (.int .i64 v29.1.feed.rid.epoch),.s (.int .i64 v29.1.feed.off),.d false 7 (encEffect v29.1.feed.back),.s (.int .i64 v29.1.feed.prev.node),.s (.int .i64 v29.1.feed.prev.epoch),.s (.int .i64 v29.1.feed.upto),.d false 1 (encI v29.1.watch.heard),.d false 1 (encLI v29.1.watch.says),.s (.int .i64 v29.1.asked),.d false 1 (encI v29.1.votes),.s (.int .i64 v29.1.wait)]⟩,some ⟨62,6,false,none,[.s (.int .i64 0),.s (.string ⟨#[]⟩),.s (.slice none 0 0),.s (.slice none 0 0),.s (.int .i64 0),.s (.bool false)]⟩,some ⟨62,6,false,none,[.s (.int .i64 0),.s (.string ⟨#[]⟩),.s (.slice none 0 0),.s (.slice none 0 0),.s (.int .i64 0),.s (.bool false)]⟩],[some ⟨38,22,false,none,[.s (.int .i64 v8.count),.s (.int .i64 v8.id),.s (.int .i64 v8.master),.s (.int .i64 v8.epoch),.s (.int .i64 v8.voted),.d false 4 (encClaim v8.claims),.d false 6 (encPair v8.db),.d false 4 (encMove v8.moves),.s (.int .i64 v8.last),.d false 3 (encSeen v8.seen),.s (.int .i64 v8.feed.rid.node),.s (.int .i64 v8.feed.rid.epoch),.s (.int .i64 v8.feed.off),.d false 7 (encEffect v8.feed.back),.s (.int .i64 v8.feed.prev.node),.s (.int .i64 v8.feed.prev.epoch),.s (.int .i64 v8.feed.upto),.d false 1 (encI v8.watch.heard),.d false 1 (encLI v8.watch.says),.s (.int .i64 v8.asked),.d false 1 (encI v8.votes),.s (.int .i64 v8.wait)]⟩,some ⟨49,15,false,none,[.s (.int .i64 2),.s (.int .i64 0),.s (.int .i64 1),.s (.int .i64 0),.s (.slice none 0 0),.s (.slice none 0 0),.s (.int .i64 0),.s (.int .i64 v21),.s (.int .i64 v23),.s (.int .i64 0),.s (.int .i64 0),.s (.int .i64 0),.s (.int .i64 0),.s (.int .i64 0),.d false 7 (encEffect v13)]⟩,some ⟨38,22,false,none,[.s (.int .i64 v24.1.count),.s (.int .i64 v24.1.id),.s (.int .i64 v24.1.master),.s (.int .i64 v24.1.epoch),.s (.int .i64 v24.1.voted),.d false 4 (encClaim v24.1.claims),.d false 6 (encPair v24.1.db),.d false 4 (encMove v24.1.moves),.s (.int .i64 v24.1.last),.d false 3 (encSeen v24.1.seen),.s (.int .i64 v24.1.feed.rid.node),.s (.int .i64 v24.1.feed.rid.epoch),.s (.int .i64 v24.1.feed.off),.d false 7 (encEffect v24.1.feed.back),.s (.int .i64 v24.1.feed.prev.node),.s (.int .i64 v24.1.feed.prev.epoch),.s (.int .i64 v24.1.feed.upto),.d false 1 (encI v24.1.watch.heard),.d false 1 (encLI v24.1.watch.says),.s (.int .i64 v24.1.asked),.d false 1 (encI v24.1.votes),.s (.int .i64 v24.1.wait)]⟩,some ⟨38,22,false,none,[.s (.int .i64 v25.1.count),.s (.int .i64 v25.1.id),.s (.int .i64 v25.1.master),.s (.int .i64 v25.1.epoch),.s (.int .i64 v25.1.voted),.d false 4 (encClaim v25.1.claims),.d false 6 (encPair v25.1.db),.d false 4 (encMove v25.1.moves),.s (.int .i64 v25.1.last),.d false 3 (encSeen v25.1.seen),.s (.int .i64 v25.1.feed.rid.node),.s (.int .i64 v25.1.feed.rid.epoch),.s (.int .i64 v25.1.feed.off),.d false 7 (encEffect v25.1.feed.back),.s (.int .i64 v25.1.feed.prev.node),.s (.int .i64 v25.1.feed.prev.epoch),.s (.int .i64 v25.1.feed.upto),.d false 1 (encI v25.1.watch.heard),.d false 1 (encLI v25.1.watch.says),.s (.int .i64 v25.1.asked),.d false 1 (encI v25.1.votes),.s (.int .i64 v25.1.wait)]⟩,some ⟨49,15,false,none,[.s (.int .i64 2),.s (.int .i64 0),.s (.int .i64 1),.s (.int .i64 0),.s (.slice none 0 0),.s (.slice none 0 0),.s (.int .i64 0),.s (.int .i64 v21),.s (.int .i64 v26),.s (.int .i64 0),.s (.int .i64 0),.s (.int .i64 0),.s (.int .i64 0),.s (.int .i64 0),.d false 7 (encEffect [(⟨v20.key,false,(⟨1,⟨#[111,108,100]⟩,[],[],0⟩:Item)⟩:Effect)])]⟩,none,some ⟨38,22,false,none,[.s (.int .i64 v28.1.count),.s (.int .i64 v28.1.id),.s (.int .i64 v28.1.master),.s (.int .i64 v28.1.epoch),.s (.int .i64 v28.1.voted),.d false 4 (encClaim v28.1.claims),.d false 6 (encPair v28.1.db),.d false 4 (encMove v28.1.moves),.s (.int .i64 v28.1.last),.d false 3 (encSeen v28.1.seen),.s (.int .i64 v28.1.feed.rid.node),.s (.int .i64 v28.1.feed.rid.epoch),.s (.int .i64 v28.1.feed.off),.d false 7 (encEffect v28.1.feed.back),.s (.int .i64 v28.1.feed.prev.node),.s (.int .i64 v28.1.feed.prev.epoch),.s (.int .i64 v28.1.feed.upto),.d false 1 (encI v28.1.watch.heard),.d false 1 (encLI v28.1.watch.says),.s (.int .i64 v28.1.asked),.d false 1 (encI v28.1.votes),.s (.int .i64 v28.1.wait)]⟩,some ⟨49,15,false,none,[.s (.int .i64 2),.s (.int .i64 2),.s (.int .i64 1),.s (.int .i64 0),.s (.slice none 0 0),.s (.slice none 0 0),.s (.int .i64 0),.s (.int .i64 v21),.s (.int .i64 v26),.s (.int .i64 0),.s (.int .i64 0),.s (.int .i64 0),.s (.int .i64 0),.s (.int .i64 0),.d false 7 (encEffect [(⟨v20.key,false,(⟨1,⟨#[111,108,100]⟩,[],[],0⟩:Item)⟩:Effect)])]⟩,some ⟨38,22,false,none,[.s (.int .i64 v29.1.count),.s (.int .i64 v29.1.id),.s (.int .i64 v29.1.master),.s (.int .i64 v29.1.epoch),.s (.int .i64 v29.1.voted),.d false 4 (encClaim v29.1.claims),.d false 6 (encPair v29.1.db),.d false 4 (encMove v29.1.moves),.s (.int .i64 v29.1.last),.d false 3 (encSeen v29.1.seen),.s (.int .i64 v29.1.feed.rid.node),.s (.int .i64 v29.1.feed.rid.epoch),.s (.int .i64 v29.1.feed.off),.d false 7 (encEffect v29.1.feed.back),.s (.int .i64 v29.1.feed.prev.node),.s (.int .i64 v29.1.feed.prev.epoch),.s (.int .i64 v29.1.feed.upto),.d false 1 (encI v29.1.watch.heard),.d false 1 (encLI v29.1.watch.says),.s (.int .i64 v29.1.asked),.d false 1 (encI v29.1.votes),.s (.int .i64 v29.1.wait)]⟩,some ⟨62,6,false,none,[.s (.int .i64 0),.s (.string ⟨#[]⟩),.s (.slice none 0 0),.s (.slice none 0 0),.s (.int .i64 0),.s (.bool false)]⟩,some ⟨62,6,false,none,[.s (.int .i64 0),.s (.string ⟨#[]⟩),.s (.slice none 0 0),.s (.slice none 0 0),.s (.int .i64 0),.s (.bool false)]⟩]]) mixed [⟨[0],[],[],false⟩,⟨[0],[0],[],false⟩,⟨[0],[],[],false⟩,⟨[0],[2],[],false⟩,⟨[0],[2,3],[],false⟩,⟨[0],[2,3,4],[],false⟩,⟨[0],[0,1,2,3,4,5],[],false⟩,⟨[0],[],[],false⟩,⟨[0],[7],[],false⟩,⟨[0],[],[],false⟩,⟨[0],[9],[],false⟩,⟨[0],[9,10],[],false⟩,⟨[0],[9,10,11],[],false⟩,⟨[0],[0,1,2,3,4,5,6,7,8,9,10,11,12],[],false⟩,⟨[0],[],[],false⟩,⟨[0],[],[],false⟩,⟨[],[0,1,2,3,4,5,6,7,8,9,10,11,12,13,14,15],[],false⟩,⟨[],[0,1,2,3,4,5,6,7,8,9,10,11,12,13,14,15,16],[],false⟩] 16 [⟨false,[(0,0,[(13,.tm)]),(1,1,[(13,.tm)]),(2,2,[(13,.tm)]),(3,3,[(13,.tm)]),(4,4,[(13,.tm)])]⟩,⟨false,[(0,0,[(109,.op 0)]),(1,1,[(109,.op 0)]),(2,2,[(109,.op 0)]),(3,3,[(109,.op 0)]),(4,4,[(109,.op 0)])]⟩,⟨false,[(0,0,[(10,.tm)]),(1,1,[(10,.tm)]),(2,2,[(10,.tm)]),(3,3,[(10,.tm)]),(4,4,[(10,.tm)])]⟩,⟨false,[(0,0,[(111,.op 2)]),(1,1,[(111,.op 2)]),(2,2,[(111,.op 2)]),(3,3,[(111,.op 2)]),(4,4,[(111,.op 2)])]⟩,⟨false,[(0,0,[(112,.op 3)]),(1,1,[(112,.op 3)]),(2,2,[(112,.op 3)]),(3,3,[(112,.op 3)]),(4,4,[(112,.op 3)])]⟩,⟨false,[(0,0,[(113,.op 4)]),(1,1,[(113,.op 4)]),(2,2,[(113,.op 4)]),(3,3,[(113,.op 4)]),(4,4,[(113,.op 4)])]⟩,⟨false,[(0,0,[(110,.op 1),(114,.op 5)]),(1,1,[(110,.op 1),(114,.op 5)]),(2,2,[(110,.op 1),(114,.op 5)]),(3,3,[(110,.op 1),(114,.op 5)]),(4,4,[(110,.op 1),(114,.op 5)])]⟩,⟨false,[(0,0,[(21,.tm)]),(1,1,[(21,.tm)]),(2,2,[(21,.tm)]),(3,3,[(21,.tm)]),(4,4,[(21,.tm)])]⟩,⟨false,[(0,0,[(116,.op 7)]),(1,1,[(116,.op 7)]),(2,2,[(116,.op 7)]),(3,3,[(116,.op 7)]),(4,4,[(116,.op 7)])]⟩,⟨false,[(0,0,[(10,.tm)]),(1,1,[(10,.tm)]),(2,2,[(10,.tm)]),(3,3,[(10,.tm)]),(4,4,[(10,.tm)])]⟩,⟨false,[(0,0,[(118,.op 9)]),(1,1,[(118,.op 9)]),(2,2,[(118,.op 9)]),(3,3,[(118,.op 9)]),(4,4,[(118,.op 9)])]⟩,⟨false,[(0,0,[(119,.op 10)]),(1,1,[(119,.op 10)]),(2,2,[(119,.op 10)]),(3,3,[(119,.op 10)]),(4,4,[(119,.op 10)])]⟩,⟨false,[(0,0,[(120,.op 11)]),(1,1,[(120,.op 11)]),(2,2,[(120,.op 11)]),(3,3,[(120,.op 11)]),(4,4,[(120,.op 11)])]⟩,⟨false,[(0,0,[(117,.op 8),(121,.op 12)]),(1,1,[(117,.op 8),(121,.op 12)]),(2,2,[(117,.op 8),(121,.op 12)]),(3,3,[(117,.op 8),(121,.op 12)]),(4,4,[(117,.op 8),(121,.op 12)])]⟩,⟨true,[(0,1,[]),(2,4,[])]⟩,⟨true,[(0,2,[]),(1,3,[])]⟩] [[],[14],[15],[14,15],[15,14]] 3 4 (w1:=[none,none,none,none,none,none,none,none,none,none,none,none,none,none,some 1,some 3]) (w2:=[none,none,none,none,none,none,none,none,none,none,none,none,none,none,some 4,some 2]) (by kernel_rfl) (by kernel_rfl)
     ·rfl
     ·refine⟨⟨?_,?_,?_,?_,?_⟩,⟨?_,?_,?_,?_,?_⟩,⟨?_,?_,?_,?_,?_⟩,⟨?_,?_,?_,?_,?_⟩,⟨?_,?_,?_,?_,?_⟩,⟨?_,?_,?_,?_,?_⟩,⟨?_,?_,?_,?_,?_⟩,⟨?_,?_,?_,?_,?_⟩,⟨?_,?_,?_,?_,?_⟩,⟨?_,?_,?_,?_,?_⟩,⟨?_,?_,?_,?_,?_⟩,⟨?_,?_,?_,?_,?_⟩,⟨?_,?_,?_,?_,?_⟩,⟨?_,?_,?_,?_,?_⟩,⟨?_,?_⟩,⟨?_,?_⟩,trivial⟩
      iterate 30 (· intro tm hr;simp[AllL,rdQ] at hr;simp[hr,(show v13[0]?=some v20 from (Ad e20).2)];intros;first|exact KD.mk|exact KD.mkN)
      ·intro tm hr
       simp[AllL,rdQ] at hr
       simp[hr,(show v13[0]?=some v20 from (Ad e20).2)]
       intros
       refine Ae BR (Ck e30) rfl ⟨.same rfl,.same rfl,trivial⟩ ?_
       try simp[(show v13[0]?=some v20 from (Ad e20).2)]
       intros;first|exact KD.mk|exact KD.mkN
      ·intro tm hr
       simp[AllL,rdQ] at hr
       simp[hr,(show v13[0]?=some v20 from (Ad e20).2)]
       intros
       refine Ae BR (Ck e30) rfl ⟨.same rfl,.same rfl,trivial⟩ ?_
       try simp[(show v13[0]?=some v20 from (Ad e20).2)]
       intros;first|exact KD.mk|exact KD.mkN
      ·intro tm hr
       simp[AllL,rdQ] at hr
       simp[hr,(show v13[0]?=some v20 from (Ad e20).2)]
       intros
       refine Ae BR (Ck e30) rfl ⟨.same rfl,.same rfl,trivial⟩ ?_
       try simp[(show v13[0]?=some v20 from (Ad e20).2)]
       intros;first|exact KD.mk|exact KD.mkN
      ·intro tm hr
       simp[AllL,rdQ] at hr
       simp[hr,(show v13[0]?=some v20 from (Ad e20).2)]
       intros
       refine Ae BR (Ck e30) rfl ⟨.same rfl,.same rfl,trivial⟩ ?_
       try simp[(show v13[0]?=some v20 from (Ad e20).2)]
       intros;first|exact KD.mk|exact KD.mkN
      ·intro tm hr
       simp[AllL,rdQ] at hr
       simp[hr,(show v13[0]?=some v20 from (Ad e20).2)]
       intros
       refine Ae BR (Ck e30) rfl ⟨.same rfl,.same rfl,trivial⟩ ?_
       try simp[(show v13[0]?=some v20 from (Ad e20).2)]
       intros;first|exact KD.mk|exact KD.mkN
      iterate 30 (· intro tm hr;simp[AllL,rdQ] at hr;simp[hr,(show v13[0]?=some v20 from (Ad e20).2)];intros;first|exact KD.mk|exact KD.mkN)
      ·intro tm hr
       simp[AllL,rdQ] at hr
       simp[hr,(show v13[0]?=some v20 from (Ad e20).2)]
       intros
       refine Ae BR (Ck e31) rfl ⟨.same rfl,.same rfl,trivial⟩ ?_
       try simp[(show v13[0]?=some v20 from (Ad e20).2)]
       intros;first|exact KD.mk|exact KD.mkN
      ·intro tm hr
       simp[AllL,rdQ] at hr
       simp[hr,(show v13[0]?=some v20 from (Ad e20).2)]
       intros
       refine Ae BR (Ck e31) rfl ⟨.same rfl,.same rfl,trivial⟩ ?_
       try simp[(show v13[0]?=some v20 from (Ad e20).2)]
       intros;first|exact KD.mk|exact KD.mkN
      ·intro tm hr
       simp[AllL,rdQ] at hr
       simp[hr,(show v13[0]?=some v20 from (Ad e20).2)]
       intros
       refine Ae BR (Ck e31) rfl ⟨.same rfl,.same rfl,trivial⟩ ?_
       try simp[(show v13[0]?=some v20 from (Ad e20).2)]
       intros;first|exact KD.mk|exact KD.mkN
      ·intro tm hr
       simp[AllL,rdQ] at hr
       simp[hr,(show v13[0]?=some v20 from (Ad e20).2)]
       intros
       refine Ae BR (Ck e31) rfl ⟨.same rfl,.same rfl,trivial⟩ ?_
       try simp[(show v13[0]?=some v20 from (Ad e20).2)]
       intros;first|exact KD.mk|exact KD.mkN
      ·intro tm hr
       simp[AllL,rdQ] at hr
       simp[hr,(show v13[0]?=some v20 from (Ad e20).2)]
       intros
       refine Ae BR (Ck e31) rfl ⟨.same rfl,.same rfl,trivial⟩ ?_
       try simp[(show v13[0]?=some v20 from (Ad e20).2)]
       intros;first|exact KD.mk|exact KD.mkN
      iterate 4 (· intro tm hr;simp[AllL,rdQ] at hr;simp[hr,(show v13[0]?=some v20 from (Ad e20).2)];intros;first|exact KD.mk|exact KD.mkN)
     ·rfl
     ·simp[tmD,putD,wof,(show v13[0]?=some v20 from (Ad e20).2)];rfl
     ·simp[(show v13[0]?=some v20 from (Ad e20).2)]
      intros
      refine Weak.mixN [some 0,some 1,some 2,some 3,some 4,some 5,some 6,some 7,some 8,some 9,some 10] hn0 (by decide) ?_ ?_ rfl
      all_goals first|(simp[Ab,Ac,pickOb];done)|rfl
     ·simp[tmD,putD,wof,(show v13[0]?=some v20 from (Ad e20).2)];rfl
     ·simp[(show v13[0]?=some v20 from (Ad e20).2)]
      intros
      refine Weak.mixN [some 0,some 1,some 2,some 3,some 4,some 5,some 6,some 7,some 8,some 10,some 9] hn0 (by decide) ?_ ?_ rfl
      all_goals first|(simp[Ab,Ac,pickOb];done)|rfl
     replace h:=bnE h;obtain⟨y32,g32,h⟩:=h
     refine AW.flow (p:=fun gh ls=>(nP (cx:=cx) (fun q=>(⟨[(8,.l (.s (.bool q)))],[],197,gh,ls⟩:St))) y32) ?_ ?_
     ·replace h:=g32;clear g32
      replace h:=ltE h;obtain⟨v33,e33,h⟩:=h
      replace h:=ltE h;obtain⟨v34,e34,h⟩:=h
      cases v34 with
      |true =>
       replace h:=iteT rfl h
       replace h:=ltE h;obtain⟨v35,e35,h⟩:=h
       replace h:=ltE h;obtain⟨v36,e36,h⟩:=h
       cases v36 with
       |true =>
        replace h:=iteT rfl h
        replace h:=ltE h;obtain⟨v37,e37,h⟩:=h
        replace h:=ltE h;obtain⟨v38,e38,h⟩:=h
        cases v38 with
        |true =>
         replace h:=iteT rfl h
         replace h:=ltE h;obtain⟨v39,e39,h⟩:=h
         replace h:=ltE h;obtain⟨v40,e40,h⟩:=h
         cases v40 with
         |true =>
          replace h:=iteT rfl h
          replace h:=bnE h;obtain⟨v41,e41,h⟩:=h
          replace h:=ltE h;obtain⟨v42,e42,h⟩:=h
          cases v42 with
          |true =>
           replace h:=iteT rfl h
           replace h:=bnE h;obtain⟨v43,e43,h⟩:=h
           replace h:=ltE h;obtain⟨v44,e44,h⟩:=h
           cases v44 with
           |true =>
            replace h:=iteT rfl h
            replace h:=bnE h;obtain⟨v45,e45,h⟩:=h
            cases v45 with
            |true =>
             replace h:=iteT rfl h
             replace h:=bnE h;obtain⟨v46,e46,h⟩:=h
             cases v46 with
             |true =>
              replace h:=iteT rfl h
              replace h:=ltE h;obtain⟨v47,e47,h⟩:=h
              cases v47 with
              |true =>
               replace h:=iteT rfl h
               replace h:=bnE h;obtain⟨v48,e48,h⟩:=h
               cases v48 with
               |true =>
                replace h:=iteT rfl h
                replace h:=ltE h;obtain⟨v49,e49,h⟩:=h
                cases v49 with
                |true =>
                 replace h:=iteT rfl h
                 replace h:=ltE h;obtain⟨v50,e50,h⟩:=h
                 replace h:=ltE h;obtain⟨v51,e51,h⟩:=h
                 cases v51 with
                 |true =>
                  replace h:=iteT rfl h
                  replace h:=bnE h;obtain⟨v52,e52,h⟩:=h
                  apply AW.drawnR (V:=[_,_,_,_,_,_,_,_,_,_,_,_,_,_,_,_,_,_,_,_,_,_,_,_,_,_,_,_,_,_,_,_,_,_,_,_,_,_,_,_,_,_,_,_,_,_,_,_,_,_,_,_,_,_,_,_,_]) mixed DY7t1 57 (by kernel_rfl) (by kernel_rfl)
                  ·refine⟨?_,?_,?_,?_,?_,?_,?_,?_,?_,?_,?_,?_,?_,?_,?_,?_,?_,?_,?_,?_,?_,?_,?_,?_,?_,?_,?_,?_,?_,?_,?_,?_,?_,?_,?_,?_,?_,?_,?_,?_,?_,?_,?_,?_,?_,?_,?_,?_,?_,?_,?_,?_,?_,?_,?_,?_,?_,trivial⟩
                   iterate 39 (· intro tm hr;simp[AllL,rdV] at hr;simp[hr,Aa e33,← e34,Aa e35,← e36,Aa e37,← e38,Aa e39,← e40,(show v25.2[0]?=some v41 from (Ad e41).2),← e42,(show v28.2[0]?=some v43 from (Ad e43).2),← e44,← e47,(show v13[0]?=some v20 from (Ad e20).2),← e49,Aa e50,← e51];intros;first|exact KD.mk|exact KD.mkN)
                   ·intro tm hr
                    simp[AllL,rdV] at hr
                    simp[hr,Aa e33,← e34,Aa e35,← e36,Aa e37,← e38,Aa e39,← e40,(show v25.2[0]?=some v41 from (Ad e41).2),← e42,(show v28.2[0]?=some v43 from (Ad e43).2),← e44,← e47,(show v13[0]?=some v20 from (Ad e20).2),← e49,Aa e50,← e51]
                    intros
                    refine Ae AK (AN e45) rfl ⟨.same rfl,.same rfl,trivial⟩ ?_
                    try simp[Aa e33,← e34,Aa e35,← e36,Aa e37,← e38,Aa e39,← e40,(show v25.2[0]?=some v41 from (Ad e41).2),← e42,(show v28.2[0]?=some v43 from (Ad e43).2),← e44,← e47,(show v13[0]?=some v20 from (Ad e20).2),← e49,Aa e50,← e51]
                    intros;first|exact KD.mk|exact KD.mkN
                   iterate 4 (· intro tm hr;simp[AllL,rdV] at hr;simp[hr,Aa e33,← e34,Aa e35,← e36,Aa e37,← e38,Aa e39,← e40,(show v25.2[0]?=some v41 from (Ad e41).2),← e42,(show v28.2[0]?=some v43 from (Ad e43).2),← e44,← e47,(show v13[0]?=some v20 from (Ad e20).2),← e49,Aa e50,← e51];intros;first|exact KD.mk|exact KD.mkN)
                   ·intro tm hr
                    simp[AllL,rdV] at hr
                    simp[hr,Aa e33,← e34,Aa e35,← e36,Aa e37,← e38,Aa e39,← e40,(show v25.2[0]?=some v41 from (Ad e41).2),← e42,(show v28.2[0]?=some v43 from (Ad e43).2),← e44,← e47,(show v13[0]?=some v20 from (Ad e20).2),← e49,Aa e50,← e51]
                    intros
                    refine Ae AK (AN e46) rfl ⟨.same rfl,.same rfl,trivial⟩ ?_
                    try simp[Aa e33,← e34,Aa e35,← e36,Aa e37,← e38,Aa e39,← e40,(show v25.2[0]?=some v41 from (Ad e41).2),← e42,(show v28.2[0]?=some v43 from (Ad e43).2),← e44,← e47,(show v13[0]?=some v20 from (Ad e20).2),← e49,Aa e50,← e51]
                    intros;first|exact KD.mk|exact KD.mkN
                   iterate 12 (· intro tm hr;simp[AllL,rdV] at hr;simp[hr,Aa e33,← e34,Aa e35,← e36,Aa e37,← e38,Aa e39,← e40,(show v25.2[0]?=some v41 from (Ad e41).2),← e42,(show v28.2[0]?=some v43 from (Ad e43).2),← e44,← e47,(show v13[0]?=some v20 from (Ad e20).2),← e49,Aa e50,← e51];intros;first|exact KD.mk|exact KD.mkN)
                  ·rfl
                  ·simp[tmD,putD,Aa e33,← e34,Aa e35,← e36,Aa e37,← e38,Aa e39,← e40,(show v25.2[0]?=some v41 from (Ad e41).2),← e42,(show v28.2[0]?=some v43 from (Ad e43).2),← e44,← e47,(show v13[0]?=some v20 from (Ad e20).2),← e49,Aa e50,← e51];rfl
                  ·simp[Aa e33,← e34,Aa e35,← e36,Aa e37,← e38,Aa e39,← e40,(show v25.2[0]?=some v41 from (Ad e41).2),← e42,(show v28.2[0]?=some v43 from (Ad e43).2),← e44,← e47,(show v13[0]?=some v20 from (Ad e20).2),← e49,Aa e50,← e51]
                   intros
                   refine Ae BV (B7 e48) rfl ⟨.same rfl,.same rfl,trivial⟩ ?_
                   try simp[Aa e33,← e34,Aa e35,← e36,Aa e37,← e38,Aa e39,← e40,(show v25.2[0]?=some v41 from (Ad e41).2),← e42,(show v28.2[0]?=some v43 from (Ad e43).2),← e44,← e47,(show v13[0]?=some v20 from (Ad e20).2),← e49,Aa e50,← e51]
                   intros
                   refine Ae Fg (FJ e52) rfl trivial ?_
                   try simp[Aa e33,← e34,Aa e35,← e36,Aa e37,← e38,Aa e39,← e40,(show v25.2[0]?=some v41 from (Ad e41).2),← e42,(show v28.2[0]?=some v43 from (Ad e43).2),← e44,← e47,(show v13[0]?=some v20 from (Ad e20).2),← e49,Aa e50,← e51]
                   intros;rfl
                  obtain rfl:=oi h
                  refine nP_i ?_
                  refine Weak.mixN [] hn0 (by decide) ?_ ?_ rfl
                  all_goals first|(simp[Ab,Ac,pickOb];done)|rfl
                 |false =>
                  replace h:=iteF rfl h
                  apply AW.drawnR (V:=[_,_,_,_,_,_,_,_,_,_,_,_,_,_,_,_,_,_,_,_,_,_,_,_,_,_,_,_,_,_,_,_,_,_,_,_,_,_,_,_,_,_,_,_,_,_,_,_,_,_,_,_,_,_,_,_,_]) mixed DY7t1 57 (by kernel_rfl) (by kernel_rfl)
                  ·refine⟨?_,?_,?_,?_,?_,?_,?_,?_,?_,?_,?_,?_,?_,?_,?_,?_,?_,?_,?_,?_,?_,?_,?_,?_,?_,?_,?_,?_,?_,?_,?_,?_,?_,?_,?_,?_,?_,?_,?_,?_,?_,?_,?_,?_,?_,?_,?_,?_,?_,?_,?_,?_,?_,?_,?_,?_,?_,trivial⟩
                   iterate 39 (· intro tm hr;simp[AllL,rdV] at hr;simp[hr,Aa e33,← e34,Aa e35,← e36,Aa e37,← e38,Aa e39,← e40,(show v25.2[0]?=some v41 from (Ad e41).2),← e42,(show v28.2[0]?=some v43 from (Ad e43).2),← e44,← e47,(show v13[0]?=some v20 from (Ad e20).2),← e49,Aa e50,← e51];intros;first|exact KD.mk|exact KD.mkN)
                   ·intro tm hr
                    simp[AllL,rdV] at hr
                    simp[hr,Aa e33,← e34,Aa e35,← e36,Aa e37,← e38,Aa e39,← e40,(show v25.2[0]?=some v41 from (Ad e41).2),← e42,(show v28.2[0]?=some v43 from (Ad e43).2),← e44,← e47,(show v13[0]?=some v20 from (Ad e20).2),← e49,Aa e50,← e51]
                    intros
                    refine Ae AK (AN e45) rfl ⟨.same rfl,.same rfl,trivial⟩ ?_
                    try simp[Aa e33,← e34,Aa e35,← e36,Aa e37,← e38,Aa e39,← e40,(show v25.2[0]?=some v41 from (Ad e41).2),← e42,(show v28.2[0]?=some v43 from (Ad e43).2),← e44,← e47,(show v13[0]?=some v20 from (Ad e20).2),← e49,Aa e50,← e51]
                    intros;first|exact KD.mk|exact KD.mkN
                   iterate 4 (· intro tm hr;simp[AllL,rdV] at hr;simp[hr,Aa e33,← e34,Aa e35,← e36,Aa e37,← e38,Aa e39,← e40,(show v25.2[0]?=some v41 from (Ad e41).2),← e42,(show v28.2[0]?=some v43 from (Ad e43).2),← e44,← e47,(show v13[0]?=some v20 from (Ad e20).2),← e49,Aa e50,← e51];intros;first|exact KD.mk|exact KD.mkN)
                   ·intro tm hr
                    simp[AllL,rdV] at hr
                    simp[hr,Aa e33,← e34,Aa e35,← e36,Aa e37,← e38,Aa e39,← e40,(show v25.2[0]?=some v41 from (Ad e41).2),← e42,(show v28.2[0]?=some v43 from (Ad e43).2),← e44,← e47,(show v13[0]?=some v20 from (Ad e20).2),← e49,Aa e50,← e51]
                    intros
                    refine Ae AK (AN e46) rfl ⟨.same rfl,.same rfl,trivial⟩ ?_
                    try simp[Aa e33,← e34,Aa e35,← e36,Aa e37,← e38,Aa e39,← e40,(show v25.2[0]?=some v41 from (Ad e41).2),← e42,(show v28.2[0]?=some v43 from (Ad e43).2),← e44,← e47,(show v13[0]?=some v20 from (Ad e20).2),← e49,Aa e50,← e51]
                    intros;first|exact KD.mk|exact KD.mkN
                   iterate 12 (· intro tm hr;simp[AllL,rdV] at hr;simp[hr,Aa e33,← e34,Aa e35,← e36,Aa e37,← e38,Aa e39,← e40,(show v25.2[0]?=some v41 from (Ad e41).2),← e42,(show v28.2[0]?=some v43 from (Ad e43).2),← e44,← e47,(show v13[0]?=some v20 from (Ad e20).2),← e49,Aa e50,← e51];intros;first|exact KD.mk|exact KD.mkN)
                  ·rfl
                  ·simp[tmD,putD,Aa e33,← e34,Aa e35,← e36,Aa e37,← e38,Aa e39,← e40,(show v25.2[0]?=some v41 from (Ad e41).2),← e42,(show v28.2[0]?=some v43 from (Ad e43).2),← e44,← e47,(show v13[0]?=some v20 from (Ad e20).2),← e49,Aa e50,← e51];rfl
                  ·simp[Aa e33,← e34,Aa e35,← e36,Aa e37,← e38,Aa e39,← e40,(show v25.2[0]?=some v41 from (Ad e41).2),← e42,(show v28.2[0]?=some v43 from (Ad e43).2),← e44,← e47,(show v13[0]?=some v20 from (Ad e20).2),← e49,Aa e50,← e51]
                   intros
                   refine Ae BV (B7 e48) rfl ⟨.same rfl,.same rfl,trivial⟩ ?_
                   try simp[Aa e33,← e34,Aa e35,← e36,Aa e37,← e38,Aa e39,← e40,(show v25.2[0]?=some v41 from (Ad e41).2),← e42,(show v28.2[0]?=some v43 from (Ad e43).2),← e44,← e47,(show v13[0]?=some v20 from (Ad e20).2),← e49,Aa e50,← e51]
                   intros;rfl
                  obtain rfl:=oi h
                  refine nP_i ?_
                  refine Weak.mixN [] hn0 (by decide) ?_ ?_ rfl
                  all_goals first|(simp[Ab,Ac,pickOb];done)|rfl
                |false =>
                 replace h:=iteF rfl h
                 apply AW.drawnR (V:=[_,_,_,_,_,_,_,_,_,_,_,_,_,_,_,_,_,_,_,_,_,_,_,_,_,_,_,_,_,_,_,_,_,_,_,_,_,_,_,_,_,_,_,_,_,_,_,_,_,_,_,_,_,_,_,_,_]) mixed DY7t1 57 (by kernel_rfl) (by kernel_rfl)
                 ·refine⟨?_,?_,?_,?_,?_,?_,?_,?_,?_,?_,?_,?_,?_,?_,?_,?_,?_,?_,?_,?_,?_,?_,?_,?_,?_,?_,?_,?_,?_,?_,?_,?_,?_,?_,?_,?_,?_,?_,?_,?_,?_,?_,?_,?_,?_,?_,?_,?_,?_,?_,?_,?_,?_,?_,?_,?_,?_,trivial⟩
                  iterate 39 (· intro tm hr;simp[AllL,rdV] at hr;simp[hr,Aa e33,← e34,Aa e35,← e36,Aa e37,← e38,Aa e39,← e40,(show v25.2[0]?=some v41 from (Ad e41).2),← e42,(show v28.2[0]?=some v43 from (Ad e43).2),← e44,← e47,(show v13[0]?=some v20 from (Ad e20).2),← e49];intros;first|exact KD.mk|exact KD.mkN)
                  ·intro tm hr
                   simp[AllL,rdV] at hr
                   simp[hr,Aa e33,← e34,Aa e35,← e36,Aa e37,← e38,Aa e39,← e40,(show v25.2[0]?=some v41 from (Ad e41).2),← e42,(show v28.2[0]?=some v43 from (Ad e43).2),← e44,← e47,(show v13[0]?=some v20 from (Ad e20).2),← e49]
                   intros
                   refine Ae AK (AN e45) rfl ⟨.same rfl,.same rfl,trivial⟩ ?_
                   try simp[Aa e33,← e34,Aa e35,← e36,Aa e37,← e38,Aa e39,← e40,(show v25.2[0]?=some v41 from (Ad e41).2),← e42,(show v28.2[0]?=some v43 from (Ad e43).2),← e44,← e47,(show v13[0]?=some v20 from (Ad e20).2),← e49]
                   intros;first|exact KD.mk|exact KD.mkN
                  iterate 4 (· intro tm hr;simp[AllL,rdV] at hr;simp[hr,Aa e33,← e34,Aa e35,← e36,Aa e37,← e38,Aa e39,← e40,(show v25.2[0]?=some v41 from (Ad e41).2),← e42,(show v28.2[0]?=some v43 from (Ad e43).2),← e44,← e47,(show v13[0]?=some v20 from (Ad e20).2),← e49];intros;first|exact KD.mk|exact KD.mkN)
                  ·intro tm hr
                   simp[AllL,rdV] at hr
                   simp[hr,Aa e33,← e34,Aa e35,← e36,Aa e37,← e38,Aa e39,← e40,(show v25.2[0]?=some v41 from (Ad e41).2),← e42,(show v28.2[0]?=some v43 from (Ad e43).2),← e44,← e47,(show v13[0]?=some v20 from (Ad e20).2),← e49]
                   intros
                   refine Ae AK (AN e46) rfl ⟨.same rfl,.same rfl,trivial⟩ ?_
                   try simp[Aa e33,← e34,Aa e35,← e36,Aa e37,← e38,Aa e39,← e40,(show v25.2[0]?=some v41 from (Ad e41).2),← e42,(show v28.2[0]?=some v43 from (Ad e43).2),← e44,← e47,(show v13[0]?=some v20 from (Ad e20).2),← e49]
                   intros;first|exact KD.mk|exact KD.mkN
                  iterate 12 (· intro tm hr;simp[AllL,rdV] at hr;simp[hr,Aa e33,← e34,Aa e35,← e36,Aa e37,← e38,Aa e39,← e40,(show v25.2[0]?=some v41 from (Ad e41).2),← e42,(show v28.2[0]?=some v43 from (Ad e43).2),← e44,← e47,(show v13[0]?=some v20 from (Ad e20).2),← e49];intros;first|exact KD.mk|exact KD.mkN)
                 ·rfl
                 ·simp[tmD,putD,Aa e33,← e34,Aa e35,← e36,Aa e37,← e38,Aa e39,← e40,(show v25.2[0]?=some v41 from (Ad e41).2),← e42,(show v28.2[0]?=some v43 from (Ad e43).2),← e44,← e47,(show v13[0]?=some v20 from (Ad e20).2),← e49];rfl
                 ·simp[Aa e33,← e34,Aa e35,← e36,Aa e37,← e38,Aa e39,← e40,(show v25.2[0]?=some v41 from (Ad e41).2),← e42,(show v28.2[0]?=some v43 from (Ad e43).2),← e44,← e47,(show v13[0]?=some v20 from (Ad e20).2),← e49]
                  intros
                  refine Ae BV (B7 e48) rfl ⟨.same rfl,.same rfl,trivial⟩ ?_
                  try simp[Aa e33,← e34,Aa e35,← e36,Aa e37,← e38,Aa e39,← e40,(show v25.2[0]?=some v41 from (Ad e41).2),← e42,(show v28.2[0]?=some v43 from (Ad e43).2),← e44,← e47,(show v13[0]?=some v20 from (Ad e20).2),← e49]
                  intros;rfl
                 obtain rfl:=oi h
                 refine nP_i ?_
                 refine Weak.mixN [] hn0 (by decide) ?_ ?_ rfl
                 all_goals first|(simp[Ab,Ac,pickOb];done)|rfl
               |false =>
                replace h:=iteF rfl h
                apply AW.drawnR (V:=[_,_,_,_,_,_,_,_,_,_,_,_,_,_,_,_,_,_,_,_,_,_,_,_,_,_,_,_,_,_,_,_,_,_,_,_,_,_,_,_,_,_,_,_,_,_,_,_,_,_,_,_,_,_,_,_,_]) mixed DY7t1 57 (by kernel_rfl) (by kernel_rfl)
                ·refine⟨?_,?_,?_,?_,?_,?_,?_,?_,?_,?_,?_,?_,?_,?_,?_,?_,?_,?_,?_,?_,?_,?_,?_,?_,?_,?_,?_,?_,?_,?_,?_,?_,?_,?_,?_,?_,?_,?_,?_,?_,?_,?_,?_,?_,?_,?_,?_,?_,?_,?_,?_,?_,?_,?_,?_,?_,?_,trivial⟩
                 iterate 39 (· intro tm hr;simp[AllL,rdV] at hr;simp[hr,Aa e33,← e34,Aa e35,← e36,Aa e37,← e38,Aa e39,← e40,(show v25.2[0]?=some v41 from (Ad e41).2),← e42,(show v28.2[0]?=some v43 from (Ad e43).2),← e44,← e47,(show v13[0]?=some v20 from (Ad e20).2)];intros;first|exact KD.mk|exact KD.mkN)
                 ·intro tm hr
                  simp[AllL,rdV] at hr
                  simp[hr,Aa e33,← e34,Aa e35,← e36,Aa e37,← e38,Aa e39,← e40,(show v25.2[0]?=some v41 from (Ad e41).2),← e42,(show v28.2[0]?=some v43 from (Ad e43).2),← e44,← e47,(show v13[0]?=some v20 from (Ad e20).2)]
                  intros
                  refine Ae AK (AN e45) rfl ⟨.same rfl,.same rfl,trivial⟩ ?_
                  try simp[Aa e33,← e34,Aa e35,← e36,Aa e37,← e38,Aa e39,← e40,(show v25.2[0]?=some v41 from (Ad e41).2),← e42,(show v28.2[0]?=some v43 from (Ad e43).2),← e44,← e47,(show v13[0]?=some v20 from (Ad e20).2)]
                  intros;first|exact KD.mk|exact KD.mkN
                 iterate 4 (· intro tm hr;simp[AllL,rdV] at hr;simp[hr,Aa e33,← e34,Aa e35,← e36,Aa e37,← e38,Aa e39,← e40,(show v25.2[0]?=some v41 from (Ad e41).2),← e42,(show v28.2[0]?=some v43 from (Ad e43).2),← e44,← e47,(show v13[0]?=some v20 from (Ad e20).2)];intros;first|exact KD.mk|exact KD.mkN)
                 ·intro tm hr
                  simp[AllL,rdV] at hr
                  simp[hr,Aa e33,← e34,Aa e35,← e36,Aa e37,← e38,Aa e39,← e40,(show v25.2[0]?=some v41 from (Ad e41).2),← e42,(show v28.2[0]?=some v43 from (Ad e43).2),← e44,← e47,(show v13[0]?=some v20 from (Ad e20).2)]
                  intros
                  refine Ae AK (AN e46) rfl ⟨.same rfl,.same rfl,trivial⟩ ?_
                  try simp[Aa e33,← e34,Aa e35,← e36,Aa e37,← e38,Aa e39,← e40,(show v25.2[0]?=some v41 from (Ad e41).2),← e42,(show v28.2[0]?=some v43 from (Ad e43).2),← e44,← e47,(show v13[0]?=some v20 from (Ad e20).2)]
                  intros;first|exact KD.mk|exact KD.mkN
                 iterate 12 (· intro tm hr;simp[AllL,rdV] at hr;simp[hr,Aa e33,← e34,Aa e35,← e36,Aa e37,← e38,Aa e39,← e40,(show v25.2[0]?=some v41 from (Ad e41).2),← e42,(show v28.2[0]?=some v43 from (Ad e43).2),← e44,← e47,(show v13[0]?=some v20 from (Ad e20).2)];intros;first|exact KD.mk|exact KD.mkN)
                ·rfl
                ·simp[tmD,putD,Aa e33,← e34,Aa e35,← e36,Aa e37,← e38,Aa e39,← e40,(show v25.2[0]?=some v41 from (Ad e41).2),← e42,(show v28.2[0]?=some v43 from (Ad e43).2),← e44,← e47,(show v13[0]?=some v20 from (Ad e20).2)];rfl
                ·simp[Aa e33,← e34,Aa e35,← e36,Aa e37,← e38,Aa e39,← e40,(show v25.2[0]?=some v41 from (Ad e41).2),← e42,(show v28.2[0]?=some v43 from (Ad e43).2),← e44,← e47,(show v13[0]?=some v20 from (Ad e20).2)]
                 intros
                 refine Ae BV (B7 e48) rfl ⟨.same rfl,.same rfl,trivial⟩ ?_
                 try simp[Aa e33,← e34,Aa e35,← e36,Aa e37,← e38,Aa e39,← e40,(show v25.2[0]?=some v41 from (Ad e41).2),← e42,(show v28.2[0]?=some v43 from (Ad e43).2),← e44,← e47,(show v13[0]?=some v20 from (Ad e20).2)]
                 intros;rfl
                obtain rfl:=oi h
                refine nP_i ?_
                refine Weak.mixN [] hn0 (by decide) ?_ ?_ rfl
                all_goals first|(simp[Ab,Ac,pickOb];done)|rfl
              |false =>
               replace h:=iteF rfl h
               apply AW.drawnR (V:=[_,_,_,_,_,_,_,_,_,_,_,_,_,_,_,_,_,_,_,_,_,_,_,_,_,_,_,_,_,_,_,_,_,_,_,_,_,_,_,_,_,_,_,_,_,_,_,_,_,_,_,_,_,_,_,_,_]) mixed DY7t1 57 (by kernel_rfl) (by kernel_rfl)
               ·refine⟨?_,?_,?_,?_,?_,?_,?_,?_,?_,?_,?_,?_,?_,?_,?_,?_,?_,?_,?_,?_,?_,?_,?_,?_,?_,?_,?_,?_,?_,?_,?_,?_,?_,?_,?_,?_,?_,?_,?_,?_,?_,?_,?_,?_,?_,?_,?_,?_,?_,?_,?_,?_,?_,?_,?_,?_,?_,trivial⟩
                iterate 39 (· intro tm hr;simp[AllL,rdV] at hr;simp[hr,Aa e33,← e34,Aa e35,← e36,Aa e37,← e38,Aa e39,← e40,(show v25.2[0]?=some v41 from (Ad e41).2),← e42,(show v28.2[0]?=some v43 from (Ad e43).2),← e44,← e47];intros;first|exact KD.mk|exact KD.mkN)
                ·intro tm hr
                 simp[AllL,rdV] at hr
                 simp[hr,Aa e33,← e34,Aa e35,← e36,Aa e37,← e38,Aa e39,← e40,(show v25.2[0]?=some v41 from (Ad e41).2),← e42,(show v28.2[0]?=some v43 from (Ad e43).2),← e44,← e47]
                 intros
                 refine Ae AK (AN e45) rfl ⟨.same rfl,.same rfl,trivial⟩ ?_
                 try simp[Aa e33,← e34,Aa e35,← e36,Aa e37,← e38,Aa e39,← e40,(show v25.2[0]?=some v41 from (Ad e41).2),← e42,(show v28.2[0]?=some v43 from (Ad e43).2),← e44,← e47]
                 intros;first|exact KD.mk|exact KD.mkN
                iterate 4 (· intro tm hr;simp[AllL,rdV] at hr;simp[hr,Aa e33,← e34,Aa e35,← e36,Aa e37,← e38,Aa e39,← e40,(show v25.2[0]?=some v41 from (Ad e41).2),← e42,(show v28.2[0]?=some v43 from (Ad e43).2),← e44,← e47];intros;first|exact KD.mk|exact KD.mkN)
                ·intro tm hr
                 simp[AllL,rdV] at hr
                 simp[hr,Aa e33,← e34,Aa e35,← e36,Aa e37,← e38,Aa e39,← e40,(show v25.2[0]?=some v41 from (Ad e41).2),← e42,(show v28.2[0]?=some v43 from (Ad e43).2),← e44,← e47]
                 intros
                 refine Ae AK (AN e46) rfl ⟨.same rfl,.same rfl,trivial⟩ ?_
                 try simp[Aa e33,← e34,Aa e35,← e36,Aa e37,← e38,Aa e39,← e40,(show v25.2[0]?=some v41 from (Ad e41).2),← e42,(show v28.2[0]?=some v43 from (Ad e43).2),← e44,← e47]
                 intros;first|exact KD.mk|exact KD.mkN
                iterate 12 (· intro tm hr;simp[AllL,rdV] at hr;simp[hr,Aa e33,← e34,Aa e35,← e36,Aa e37,← e38,Aa e39,← e40,(show v25.2[0]?=some v41 from (Ad e41).2),← e42,(show v28.2[0]?=some v43 from (Ad e43).2),← e44,← e47];intros;first|exact KD.mk|exact KD.mkN)
               ·rfl
               ·simp[tmD,putD,Aa e33,← e34,Aa e35,← e36,Aa e37,← e38,Aa e39,← e40,(show v25.2[0]?=some v41 from (Ad e41).2),← e42,(show v28.2[0]?=some v43 from (Ad e43).2),← e44,← e47];rfl
               ·simp[Aa e33,← e34,Aa e35,← e36,Aa e37,← e38,Aa e39,← e40,(show v25.2[0]?=some v41 from (Ad e41).2),← e42,(show v28.2[0]?=some v43 from (Ad e43).2),← e44,← e47]
                intros;rfl
               obtain rfl:=oi h
               refine nP_i ?_
               refine Weak.mixN [] hn0 (by decide) ?_ ?_ rfl
               all_goals first|(simp[Ab,Ac,pickOb];done)|rfl
             |false =>
              replace h:=iteF rfl h
              apply AW.drawnR (V:=[_,_,_,_,_,_,_,_,_,_,_,_,_,_,_,_,_,_,_,_,_,_,_,_,_,_,_,_,_,_,_,_,_,_,_,_,_,_,_,_,_,_,_,_,_,_,_,_,_,_,_,_,_,_,_,_,_]) mixed DY7t1 57 (by kernel_rfl) (by kernel_rfl)
              ·refine⟨?_,?_,?_,?_,?_,?_,?_,?_,?_,?_,?_,?_,?_,?_,?_,?_,?_,?_,?_,?_,?_,?_,?_,?_,?_,?_,?_,?_,?_,?_,?_,?_,?_,?_,?_,?_,?_,?_,?_,?_,?_,?_,?_,?_,?_,?_,?_,?_,?_,?_,?_,?_,?_,?_,?_,?_,?_,trivial⟩
               iterate 39 (· intro tm hr;simp[AllL,rdV] at hr;simp[hr,Aa e33,← e34,Aa e35,← e36,Aa e37,← e38,Aa e39,← e40,(show v25.2[0]?=some v41 from (Ad e41).2),← e42,(show v28.2[0]?=some v43 from (Ad e43).2),← e44];intros;first|exact KD.mk|exact KD.mkN)
               ·intro tm hr
                simp[AllL,rdV] at hr
                simp[hr,Aa e33,← e34,Aa e35,← e36,Aa e37,← e38,Aa e39,← e40,(show v25.2[0]?=some v41 from (Ad e41).2),← e42,(show v28.2[0]?=some v43 from (Ad e43).2),← e44]
                intros
                refine Ae AK (AN e45) rfl ⟨.same rfl,.same rfl,trivial⟩ ?_
                try simp[Aa e33,← e34,Aa e35,← e36,Aa e37,← e38,Aa e39,← e40,(show v25.2[0]?=some v41 from (Ad e41).2),← e42,(show v28.2[0]?=some v43 from (Ad e43).2),← e44]
                intros;first|exact KD.mk|exact KD.mkN
               iterate 4 (· intro tm hr;simp[AllL,rdV] at hr;simp[hr,Aa e33,← e34,Aa e35,← e36,Aa e37,← e38,Aa e39,← e40,(show v25.2[0]?=some v41 from (Ad e41).2),← e42,(show v28.2[0]?=some v43 from (Ad e43).2),← e44];intros;first|exact KD.mk|exact KD.mkN)
               ·intro tm hr
                simp[AllL,rdV] at hr
                simp[hr,Aa e33,← e34,Aa e35,← e36,Aa e37,← e38,Aa e39,← e40,(show v25.2[0]?=some v41 from (Ad e41).2),← e42,(show v28.2[0]?=some v43 from (Ad e43).2),← e44]
                intros
                refine Ae AK (AN e46) rfl ⟨.same rfl,.same rfl,trivial⟩ ?_
                try simp[Aa e33,← e34,Aa e35,← e36,Aa e37,← e38,Aa e39,← e40,(show v25.2[0]?=some v41 from (Ad e41).2),← e42,(show v28.2[0]?=some v43 from (Ad e43).2),← e44]
                intros;first|exact KD.mk|exact KD.mkN
               iterate 12 (· intro tm hr;simp[AllL,rdV] at hr;simp[hr,Aa e33,← e34,Aa e35,← e36,Aa e37,← e38,Aa e39,← e40,(show v25.2[0]?=some v41 from (Ad e41).2),← e42,(show v28.2[0]?=some v43 from (Ad e43).2),← e44];intros;first|exact KD.mk|exact KD.mkN)
              ·rfl
              ·simp[tmD,putD,Aa e33,← e34,Aa e35,← e36,Aa e37,← e38,Aa e39,← e40,(show v25.2[0]?=some v41 from (Ad e41).2),← e42,(show v28.2[0]?=some v43 from (Ad e43).2),← e44];rfl
              ·simp[Aa e33,← e34,Aa e35,← e36,Aa e37,← e38,Aa e39,← e40,(show v25.2[0]?=some v41 from (Ad e41).2),← e42,(show v28.2[0]?=some v43 from (Ad e43).2),← e44]
               intros;rfl
              obtain rfl:=oi h
              refine nP_i ?_
              refine Weak.mixN [] hn0 (by decide) ?_ ?_ rfl
              all_goals first|(simp[Ab,Ac,pickOb];done)|rfl
            |false =>
             replace h:=iteF rfl h
             apply AW.drawnR (V:=[_,_,_,_,_,_,_,_,_,_,_,_,_,_,_,_,_,_,_,_,_,_,_,_,_,_,_,_,_,_,_,_,_,_,_,_,_,_,_,_,_,_,_,_,_,_,_,_,_,_,_,_,_,_,_,_,_]) mixed DY7t1 57 (by kernel_rfl) (by kernel_rfl)
             ·refine⟨?_,?_,?_,?_,?_,?_,?_,?_,?_,?_,?_,?_,?_,?_,?_,?_,?_,?_,?_,?_,?_,?_,?_,?_,?_,?_,?_,?_,?_,?_,?_,?_,?_,?_,?_,?_,?_,?_,?_,?_,?_,?_,?_,?_,?_,?_,?_,?_,?_,?_,?_,?_,?_,?_,?_,?_,?_,trivial⟩
              iterate 39 (· intro tm hr;simp[AllL,rdV] at hr;simp[hr,Aa e33,← e34,Aa e35,← e36,Aa e37,← e38,Aa e39,← e40,(show v25.2[0]?=some v41 from (Ad e41).2),← e42,(show v28.2[0]?=some v43 from (Ad e43).2),← e44];intros;first|exact KD.mk|exact KD.mkN)
              ·intro tm hr
               simp[AllL,rdV] at hr
               simp[hr,Aa e33,← e34,Aa e35,← e36,Aa e37,← e38,Aa e39,← e40,(show v25.2[0]?=some v41 from (Ad e41).2),← e42,(show v28.2[0]?=some v43 from (Ad e43).2),← e44]
               intros
               refine Ae AK (AN e45) rfl ⟨.same rfl,.same rfl,trivial⟩ ?_
               try simp[Aa e33,← e34,Aa e35,← e36,Aa e37,← e38,Aa e39,← e40,(show v25.2[0]?=some v41 from (Ad e41).2),← e42,(show v28.2[0]?=some v43 from (Ad e43).2),← e44]
               intros;first|exact KD.mk|exact KD.mkN
              iterate 17 (· intro tm hr;simp[AllL,rdV] at hr;simp[hr,Aa e33,← e34,Aa e35,← e36,Aa e37,← e38,Aa e39,← e40,(show v25.2[0]?=some v41 from (Ad e41).2),← e42,(show v28.2[0]?=some v43 from (Ad e43).2),← e44];intros;first|exact KD.mk|exact KD.mkN)
             ·rfl
             ·simp[tmD,putD,Aa e33,← e34,Aa e35,← e36,Aa e37,← e38,Aa e39,← e40,(show v25.2[0]?=some v41 from (Ad e41).2),← e42,(show v28.2[0]?=some v43 from (Ad e43).2),← e44];rfl
             ·simp[Aa e33,← e34,Aa e35,← e36,Aa e37,← e38,Aa e39,← e40,(show v25.2[0]?=some v41 from (Ad e41).2),← e42,(show v28.2[0]?=some v43 from (Ad e43).2),← e44]
              intros;rfl
             obtain rfl:=oi h
             refine nP_i ?_
             refine Weak.mixN [] hn0 (by decide) ?_ ?_ rfl
             all_goals first|(simp[Ab,Ac,pickOb];done)|rfl
           |false =>
            replace h:=iteF rfl h
            apply AW.drawnR (V:=[_,_,_,_,_,_,_,_,_,_,_,_,_,_,_,_,_,_,_,_,_,_,_,_,_,_,_,_,_,_,_,_,_,_,_,_,_,_,_,_,_,_,_,_,_,_,_,_,_,_,_,_,_,_,_,_,_]) mixed DY7t1 57 (by kernel_rfl) (by kernel_rfl)
            ·refine⟨?_,?_,?_,?_,?_,?_,?_,?_,?_,?_,?_,?_,?_,?_,?_,?_,?_,?_,?_,?_,?_,?_,?_,?_,?_,?_,?_,?_,?_,?_,?_,?_,?_,?_,?_,?_,?_,?_,?_,?_,?_,?_,?_,?_,?_,?_,?_,?_,?_,?_,?_,?_,?_,?_,?_,?_,?_,trivial⟩
             iterate 57 (· intro tm hr;simp[AllL,rdV] at hr;simp[hr,Aa e33,← e34,Aa e35,← e36,Aa e37,← e38,Aa e39,← e40,(show v25.2[0]?=some v41 from (Ad e41).2),← e42,(show v28.2[0]?=some v43 from (Ad e43).2),← e44];intros;first|exact KD.mk|exact KD.mkN)
            ·rfl
            ·simp[tmD,putD,Aa e33,← e34,Aa e35,← e36,Aa e37,← e38,Aa e39,← e40,(show v25.2[0]?=some v41 from (Ad e41).2),← e42,(show v28.2[0]?=some v43 from (Ad e43).2),← e44];rfl
            ·simp[Aa e33,← e34,Aa e35,← e36,Aa e37,← e38,Aa e39,← e40,(show v25.2[0]?=some v41 from (Ad e41).2),← e42,(show v28.2[0]?=some v43 from (Ad e43).2),← e44]
             intros;rfl
            obtain rfl:=oi h
            refine nP_i ?_
            refine Weak.mixN [] hn0 (by decide) ?_ ?_ rfl
            all_goals first|(simp[Ab,Ac,pickOb];done)|rfl
          |false =>
           replace h:=iteF rfl h
           apply AW.drawnR (V:=[_,_,_,_,_,_,_,_,_,_,_,_,_,_,_,_,_,_,_,_,_,_,_,_,_,_,_,_,_,_,_,_,_,_,_,_,_,_,_,_,_,_,_,_,_,_,_,_,_,_,_,_,_,_,_,_,_]) mixed DY7t1 57 (by kernel_rfl) (by kernel_rfl)
           ·refine⟨?_,?_,?_,?_,?_,?_,?_,?_,?_,?_,?_,?_,?_,?_,?_,?_,?_,?_,?_,?_,?_,?_,?_,?_,?_,?_,?_,?_,?_,?_,?_,?_,?_,?_,?_,?_,?_,?_,?_,?_,?_,?_,?_,?_,?_,?_,?_,?_,?_,?_,?_,?_,?_,?_,?_,?_,?_,trivial⟩
            iterate 57 (· intro tm hr;simp[AllL,rdV] at hr;simp[hr,Aa e33,← e34,Aa e35,← e36,Aa e37,← e38,Aa e39,← e40,(show v25.2[0]?=some v41 from (Ad e41).2),← e42];intros;first|exact KD.mk|exact KD.mkN)
           ·rfl
           ·simp[tmD,putD,Aa e33,← e34,Aa e35,← e36,Aa e37,← e38,Aa e39,← e40,(show v25.2[0]?=some v41 from (Ad e41).2),← e42];rfl
           ·simp[Aa e33,← e34,Aa e35,← e36,Aa e37,← e38,Aa e39,← e40,(show v25.2[0]?=some v41 from (Ad e41).2),← e42]
            intros;rfl
           obtain rfl:=oi h
           refine nP_i ?_
           refine Weak.mixN [] hn0 (by decide) ?_ ?_ rfl
           all_goals first|(simp[Ab,Ac,pickOb];done)|rfl
         |false =>
          replace h:=iteF rfl h
          apply AW.drawnR (V:=[_,_,_,_,_,_,_,_,_,_,_,_,_,_,_,_,_,_,_,_,_,_,_,_,_,_,_,_,_,_,_,_,_,_,_,_,_,_,_,_,_,_,_,_,_,_,_,_,_,_,_,_,_,_,_,_,_]) mixed DY7t1 57 (by kernel_rfl) (by kernel_rfl)
          ·refine⟨?_,?_,?_,?_,?_,?_,?_,?_,?_,?_,?_,?_,?_,?_,?_,?_,?_,?_,?_,?_,?_,?_,?_,?_,?_,?_,?_,?_,?_,?_,?_,?_,?_,?_,?_,?_,?_,?_,?_,?_,?_,?_,?_,?_,?_,?_,?_,?_,?_,?_,?_,?_,?_,?_,?_,?_,?_,trivial⟩
           iterate 57 (· intro tm hr;simp[AllL,rdV] at hr;simp[hr,Aa e33,← e34,Aa e35,← e36,Aa e37,← e38,Aa e39,← e40];intros;first|exact KD.mk|exact KD.mkN)
          ·rfl
          ·simp[tmD,putD,Aa e33,← e34,Aa e35,← e36,Aa e37,← e38,Aa e39,← e40];rfl
          ·simp[Aa e33,← e34,Aa e35,← e36,Aa e37,← e38,Aa e39,← e40]
           intros;rfl
          obtain rfl:=oi h
          refine nP_i ?_
          refine Weak.mixN [] hn0 (by decide) ?_ ?_ rfl
          all_goals first|(simp[Ab,Ac,pickOb];done)|rfl
        |false =>
         replace h:=iteF rfl h
         apply AW.drawnR (V:=[_,_,_,_,_,_,_,_,_,_,_,_,_,_,_,_,_,_,_,_,_,_,_,_,_,_,_,_,_,_,_,_,_,_,_,_,_,_,_,_,_,_,_,_,_,_,_,_,_,_,_,_,_,_,_,_,_]) mixed DY7t1 57 (by kernel_rfl) (by kernel_rfl)
         ·refine⟨?_,?_,?_,?_,?_,?_,?_,?_,?_,?_,?_,?_,?_,?_,?_,?_,?_,?_,?_,?_,?_,?_,?_,?_,?_,?_,?_,?_,?_,?_,?_,?_,?_,?_,?_,?_,?_,?_,?_,?_,?_,?_,?_,?_,?_,?_,?_,?_,?_,?_,?_,?_,?_,?_,?_,?_,?_,trivial⟩
          iterate 57 (· intro tm hr;simp[AllL,rdV] at hr;simp[hr,Aa e33,← e34,Aa e35,← e36,Aa e37,← e38];intros;first|exact KD.mk|exact KD.mkN)
         ·rfl
         ·simp[tmD,putD,Aa e33,← e34,Aa e35,← e36,Aa e37,← e38];rfl
         ·simp[Aa e33,← e34,Aa e35,← e36,Aa e37,← e38]
          intros;rfl
         obtain rfl:=oi h
         refine nP_i ?_
         refine Weak.mixN [] hn0 (by decide) ?_ ?_ rfl
         all_goals first|(simp[Ab,Ac,pickOb];done)|rfl
       |false =>
        replace h:=iteF rfl h
        apply AW.drawnR (V:=[_,_,_,_,_,_,_,_,_,_,_,_,_,_,_,_,_,_,_,_,_,_,_,_,_,_,_,_,_,_,_,_,_,_,_,_,_,_,_,_,_,_,_,_,_,_,_,_,_,_,_,_,_,_,_,_,_]) mixed DY7t1 57 (by kernel_rfl) (by kernel_rfl)
        ·refine⟨?_,?_,?_,?_,?_,?_,?_,?_,?_,?_,?_,?_,?_,?_,?_,?_,?_,?_,?_,?_,?_,?_,?_,?_,?_,?_,?_,?_,?_,?_,?_,?_,?_,?_,?_,?_,?_,?_,?_,?_,?_,?_,?_,?_,?_,?_,?_,?_,?_,?_,?_,?_,?_,?_,?_,?_,?_,trivial⟩
         iterate 57 (· intro tm hr;simp[AllL,rdV] at hr;simp[hr,Aa e33,← e34,Aa e35,← e36];intros;first|exact KD.mk|exact KD.mkN)
        ·rfl
        ·simp[tmD,putD,Aa e33,← e34,Aa e35,← e36];rfl
        ·simp[Aa e33,← e34,Aa e35,← e36]
         intros;rfl
        obtain rfl:=oi h
        refine nP_i ?_
        refine Weak.mixN [] hn0 (by decide) ?_ ?_ rfl
        all_goals first|(simp[Ab,Ac,pickOb];done)|rfl
      |false =>
       replace h:=iteF rfl h
       apply AW.drawnR (V:=[_,_,_,_,_,_,_,_,_,_,_,_,_,_,_,_,_,_,_,_,_,_,_,_,_,_,_,_,_,_,_,_,_,_,_,_,_,_,_,_,_,_,_,_,_,_,_,_,_,_,_,_,_,_,_,_,_]) mixed DY7t1 57 (by kernel_rfl) (by kernel_rfl)
       ·refine⟨?_,?_,?_,?_,?_,?_,?_,?_,?_,?_,?_,?_,?_,?_,?_,?_,?_,?_,?_,?_,?_,?_,?_,?_,?_,?_,?_,?_,?_,?_,?_,?_,?_,?_,?_,?_,?_,?_,?_,?_,?_,?_,?_,?_,?_,?_,?_,?_,?_,?_,?_,?_,?_,?_,?_,?_,?_,trivial⟩
        iterate 57 (· intro tm hr;simp[AllL,rdV] at hr;simp[hr,Aa e33,← e34];intros;first|exact KD.mk|exact KD.mkN)
       ·rfl
       ·simp[tmD,putD,Aa e33,← e34];rfl
       ·simp[Aa e33,← e34]
        intros;rfl
       obtain rfl:=oi h
       refine nP_i ?_
       refine Weak.mixN [] hn0 (by decide) ?_ ?_ rfl
       all_goals first|(simp[Ab,Ac,pickOb];done)|rfl
     ·rintro e s hp
      obtain⟨rfl,hw⟩:=hp
      refine⟨_,hw,?_⟩
      try simp only[nm]
      obtain rfl:=oi h
      refine AW.ret ?_
      refine Left.plain hnb (by simp[Tryz.f4,resV,resC,comp];rfl) rfl rfl ?_
      simp
end Go.Proofs.YtlbdhlbbkibgpaaGreat
namespace Go.Proofs.YtlbdhlbbkibgpaaGreat
open Go Go.RowKit
theorem wrapU8 (a:Int):IntKind.u8.wrap a=a % 256:=by simp[IntKind.wrap,IntKind.bits,IntKind.signed]
theorem O7 (a b:Int):0≤orI .u8 a b∧orI .u8 a b≤255:=by
 unfold orI
 rw[wrapU8]
 omega
theorem LM:mayI ⟨1,⟨#[111,108,100]⟩,[],[],0⟩:=⟨.inl ⟨rfl,rfl,rfl⟩,⟨by show 3≤300;omega,fun x hx=>by simp at hx,fun x hx=>by simp at hx⟩,by simp,by simp,by simp,by simp,List.Pairwise.nil,fun h=>by simp at h⟩
theorem Li (ns:List Int) (which num:Int) (es:List Int) (hu:u8s ns) (hw:0≤which∧which≤255) (hn:0≤num∧num≤255) (he:u8s es):CY big ns which num es=some true:=by
 refine Rn.eq ?_
 unfold CY
 refine Rn.bn (P:=fun b=>b=false→ns.length≤100∧4≤es.length) ?_ fun b hb=>Rn.lt (Rn.ite (fun _=>Rn.bnE HO (Rn.some rfl)) fun h=>?_)
 ·refine Rn.lt (Rn.lt (Rn.ite (fun _=>Rn.some fun h=>by cases h) fun h=>Rn.lt (Rn.lt (Rn.some fun h2=>?_))))
  have h:=Oe h
  have h2:=DH h2
  simp only[lenI] at h h2
  omega
 obtain⟨hlen,hlen2⟩:=hb h
 clear h hb
 obtain⟨db,hdb,hok⟩:=Np ns hu (by omega)
 refine Rn.bnE (OZ 1 (by omega) ns db hdb) ?_
 refine Rn.bnE (Aq (i:=1) (by omega)) (Rn.lt (Rn.bnE (Aq (i:=2) (by omega)) (Rn.bnE (Aq (i:=3) (by omega)) ?_)))
 have q2:=he _ (List.getElem_mem (show 2<es.length by omega))
 have q3:=he _ (List.getElem_mem (show 3<es.length by omega))
 have q1:=O7 es[1] 1
 generalize orI .u8 es[1] 1=x1 at q1
 generalize es[2]=x2 at q2
 generalize es[3]=x3 at q3
 have hul:u8s [which,x1,x2,x3]:=fun x hx=>by
  simp at hx
  rcases hx with rfl|rfl|rfl|rfl
  ·exact hw
  ·exact q1
  ·exact q2
  ·exact q3
 obtain⟨l,hl,hl2⟩:=Lh [which,x1,x2,x3] hul (by simp)
 refine Rn.bnE hl ?_
 refine Rn.bn (P:=fun b=>b=false→∃ e,l=[e]∧e.gone=false) ?_ fun b hb=>Rn.lt (Rn.ite (fun _=>Rn.bnE HO (Rn.some rfl)) fun h=>?_)
 ·refine Rn.lt (Rn.lt (Rn.ite (fun _=>Rn.some fun h=>by cases h) fun h=>?_))
  have hl1:l.length=1:=by
   apply Classical.byContradiction
   intro hne
   have hne2:lenI l≠1:=by simp only[lenI];omega
   rw[neT hne2] at h
   cases h
  obtain⟨e,rfl⟩:=List.length_eq_one_iff.1 hl1
  exact Rn.bnE (v:=e) rfl (Rn.some fun h=>⟨e,rfl,h⟩)
 obtain⟨e,rfl,hg⟩:=hb h
 clear h hb
 obtain⟨⟨-,hl3⟩,hl4⟩:=hl2
 obtain⟨hoki,hkey,-⟩:=hl3 e (by simp)
 have hmay:=hl4 e (by simp) hg
 refine Rn.bnE (v:=e) rfl (Rn.bnE (LH _ (by rw[Ii hkey];omega)).1 (Rn.lt (Rn.lt ?_)))
 rw[Ch (by omega) (by omega),Ar (by omega) (by omega)]
 generalize hs:slotOf e.key=s
 have hn0:=nd_ok (id:=1) hok
 have hdl:=hok.2.2.1
 have hM1:MayM (⟨2,0,1,0,[],[],0,s,2+num,(⟨0,0⟩:Rid),(⟨0,0⟩:Rid),0,[e]⟩:Msg) e:=⟨rfl,by show 1≤2+num;omega,hg,hkey,hmay,hoki,hs⟩
 generalize hm1:(⟨2,0,1,0,[],[],0,s,2+num,(⟨0,0⟩:Rid),(⟨0,0⟩:Rid),0,[e]⟩:Msg)=m1 at hM1 ⊢
 have m1f:m1.frm=0:=by rw[← hm1]
 have m1s:m1.slot=s:=by rw[← hm1]
 have m1n:m1.num=2+num:=by rw[← hm1]
 have hT1:=Hb (nd 1 db) hn0 rfl m1 e hM1 [] [] [] rfl (by simp) (by simp) (.inl rfl)
 rw[if_pos (by simp)] at hT1
 refine Rn.bnE hT1 ?_
 have hal:(applyP (nd 1 db).db e).length≤1000:=by
  have:=Eh db e hok.1
  show (applyP db e).length≤1000
  omega
 have hna:OkN (takeN (nd 1 db) m1 e [] []):=OkN.take hn0 hM1 hal (by simp)
 have hadb:(takeN (nd 1 db) m1 e [] []).db=applyP db e:=rfl
 have hasn:(takeN (nd 1 db) m1 e [] []).seen=[⟨0,s,2+num⟩]:=by
  show []++[(⟨m1.frm,m1.slot,m1.num⟩:Seen)]++[]=_
  rw[m1f,m1s,m1n]
  rfl
 have hama:(takeN (nd 1 db) m1 e [] []).master=-1:=rfl
 have hal2:(takeN (nd 1 db) m1 e [] []).db.length≤41:=by
  have:=Eh db e hok.1
  rw[hadb]
  omega
 have hraw1:rawP (takeN (nd 1 db) m1 e [] []).db e.key=some e.item:=by
  rw[hadb,Ih hok.1]
  unfold setO
  rw[if_pos rfl,if_neg (by rw[hg];simp)]
 generalize takeN (nd 1 db) m1 e [] []=a at hna hasn hama hal2 hraw1 ⊢
 have hT2:=Hb a hna hama m1 e hM1 [] [⟨0,s,2+num⟩] [] hasn (by simp) (by simp) (.inr ⟨_,rfl,m1f.symm,m1s.symm⟩)
 rw[if_neg (by rw[m1n];simp)] at hT2
 refine Rn.bnE hT2 (Rn.lt ?_)
 rw[Ar (by omega) (by omega)]
 refine Rn.chk (by decide) ?_
 have hM2:MayM (⟨2,0,1,0,[],[],0,s,1+num,(⟨0,0⟩:Rid),(⟨0,0⟩:Rid),0,[⟨e.key,false,⟨1,⟨#[111,108,100]⟩,[],[],0⟩⟩]⟩:Msg) ⟨e.key,false,⟨1,⟨#[111,108,100]⟩,[],[],0⟩⟩:=⟨rfl,by show 1≤1+num;omega,rfl,hkey,LM,⟨by simp,by simp⟩,hs⟩
 have hM3:MayM (⟨2,2,1,0,[],[],0,s,1+num,(⟨0,0⟩:Rid),(⟨0,0⟩:Rid),0,[⟨e.key,false,⟨1,⟨#[111,108,100]⟩,[],[],0⟩⟩]⟩:Msg) ⟨e.key,false,⟨1,⟨#[111,108,100]⟩,[],[],0⟩⟩:=⟨rfl,by show 1≤1+num;omega,rfl,hkey,LM,⟨by simp,by simp⟩,hs⟩
 have hT3:=Hb a hna hama _ _ hM2 [] [⟨0,s,2+num⟩] [] hasn (by simp) (by simp) (.inr ⟨_,rfl,rfl,rfl⟩)
 rw[if_neg (by simp)] at hT3
 refine Rn.bnE hT3 ?_
 have hT4:=Hb a hna hama _ _ hM3 [⟨0,s,2+num⟩] [] [] hasn (fun x hx=>by simp at hx;subst hx;exact .inl (by simp)) (by simp) (.inl rfl)
 rw[if_pos (by simp)] at hT4
 refine Rn.bnE hT4 ?_
 refine Rn.bnE (KC a.db e.key (by omega)) ?_
 rw[hraw1]
 have hd4:(takeN a (⟨2,2,1,0,[],[],0,s,1+num,(⟨0,0⟩:Rid),(⟨0,0⟩:Rid),0,[⟨e.key,false,⟨1,⟨#[111,108,100]⟩,[],[],0⟩⟩]⟩:Msg) ⟨e.key,false,⟨1,⟨#[111,108,100]⟩,[],[],0⟩⟩ [⟨0,s,2+num⟩] []).db=applyP a.db ⟨e.key,false,⟨1,⟨#[111,108,100]⟩,[],[],0⟩⟩:=rfl
 have hl5:=Eh a.db ⟨e.key,false,⟨1,⟨#[111,108,100]⟩,[],[],0⟩⟩ hna.srt
 refine Rn.bnE (KC _ e.key (by rw[hd4];omega)) ?_
 rw[hd4,Ih hna.srt]
 have hso:setO e.key (rawP a.db e.key) (⟨e.key,false,⟨1,⟨#[111,108,100]⟩,[],[],0⟩⟩:Effect)=some ⟨1,⟨#[111,108,100]⟩,[],[],0⟩:=by
  unfold setO
  rw[if_pos rfl,if_neg (by simp)]
 rw[hso]
 refine Rn.bn (P:=fun b=>b=true) ?_ fun b hb=>Rn.some hb
 refine Rn.lt (Rn.lt (Rn.ite (fun _=>?_) fun h=>by cases h))
 refine Rn.lt (Rn.lt (Rn.ite (fun _=>?_) fun h=>by cases h))
 refine Rn.lt (Rn.lt (Rn.ite (fun _=>?_) fun h=>by cases h))
 refine Rn.lt (Rn.lt (Rn.ite (fun _=>?_) fun h=>by cases h))
 refine Rn.bnE (v:=ackP a m1) rfl (Rn.lt (Rn.ite (fun _=>?_) fun h=>absurd (show (ackP a m1).num=2+num from m1n) (Ms h)))
 refine Rn.bnE (v:=ackP a _) rfl (Rn.lt (Rn.ite (fun _=>?_) fun h=>absurd rfl (Ms h)))
 refine Rn.bnE (Gm _ hna) (Rn.ite (fun _=>?_) fun h=>by cases h)
 refine Rn.bnE (Gm _ hna) (Rn.ite (fun _=>?_) fun h=>by cases h)
 refine Rn.lt (Rn.ite (fun _=>?_) fun h=>by cases h)
 refine Rn.bnE (Ee _ hoki) (Rn.ite (fun _=>?_) fun h=>by cases h)
 refine Rn.lt (Rn.ite (fun _=>?_) fun h=>by cases h)
 refine Rn.lt (Rn.lt (Rn.ite (fun _=>Rn.bnE HO (Rn.some rfl)) fun h=>by cases h))
end Go.Proofs.YtlbdhlbbkibgpaaGreat
namespace Go.Proofs.YtlbdhlbbkibgpaaGreat
open Go Go.RowKit
set_option maxRecDepth 100000
section
variable {P:Program} {n t:Nat} {ts:List T}
theorem WfT.bool (hu:P.underlying t=some .bool) (h:WfT P (n+1) t ts):∃ b,ts=[.v (.bool b)]:=by rw[WfT,hu] at h;exact h
theorem WfT.int {k:IntKind} (hu:P.underlying t=some (.int k)) (h:WfT P (n+1) t ts):∃ i,ts=[.v (.int k i)]∧(Lit.int k i).wf=true:=by rw[WfT,hu] at h;exact h
theorem WfT.slice {e:Nat} (hu:P.underlying t=some (.slice e)) (h:WfT P (n+1) t ts):∃ es,ts=[.sl (P.cellsOf e) es]∧es.length*P.bytesOf e≤reachBytes∧∀ x∈es,WfT P n e x:=by rw[WfT,hu] at h;exact h
theorem WfT.struct {fs:Array Go.Field} (hu:P.underlying t=some (.struct fs)) (h:WfT P (n+1) t ts):∃ ps:List (List T),ts=ps.flatten∧All2 (fun p f=>WfT P n f p) ps (fs.toList.map (·.type)):=by rw[WfT,hu] at h;exact h
end
theorem All2.cons_r {α β:Type} {R:α→β→Prop} {l:List α} {b:β} {bs:List β} (h:All2 R l (b::bs)):∃ x xs,l=x::xs∧R x b∧All2 R xs bs:=by
 cases l with
 |nil=>exact h.elim
 |cons x xs=>exact⟨x,xs,rfl,h⟩
theorem All2.nil_r {α β:Type} {R:α→β→Prop} {l:List α} (h:All2 R l ([]:List β)):l=[]:=by
 cases l with
 |nil=>rfl
 |cons x xs=>exact h.elim
def rngI (i:Int):Prop:=-9223372036854775808≤i∧i≤9223372036854775807
theorem LN {α:Type} {enc:List α→List (List T)} {R:List T→Prop} {rng:α→Prop} (hn:enc []=[]) (hc:∀ x l,enc (x::l)=enc [x]++enc l) (h1:∀ e,R e→∃ x,enc [x]=[e]∧rng x) :
  ∀ es,(∀ x∈es,R x)→∃ l,es=enc l∧∀ x∈l,rng x
 |[],_=>⟨[],hn.symm,fun x h=>by cases h⟩
 |e::es,h=>by
  obtain⟨x,hx,rx⟩:=h1 e (h e (by simp))
  obtain⟨l,rfl,rl⟩:=LN hn hc h1 es fun y hy=>h y (by simp[hy])
  refine⟨x::l,by rw[hc,hx];rfl,?_⟩
  intro y hy
  rcases List.mem_cons.1 hy with rfl|hy
  ·exact rx
  ·exact rl y hy
def rngU (i:Int):Prop:=0≤i∧i≤255
theorem LO {i:Int} (h:(Lit.int .u8 i).wf=true):rngU i:=by
 have h':=(Bool.and_eq_true _ _ ▸ h:_∧_)
 exact⟨of_decide_eq_true h'.1,of_decide_eq_true h'.2⟩
theorem wf_U (n:Nat) (e:List T) (h:WfT Tryz.prog (n+1) 5 e):∃ x:Int,encU [x]=[e]∧rngU x:=by
 obtain⟨f,rfl,h2⟩:=WfT.int (t:=5) Tryz.underlying5 h
 have h':=(Bool.and_eq_true _ _ ▸ h2:_∧_)
 have h1:=of_decide_eq_true h'.1
 have h2:=of_decide_eq_true h'.2
 exact⟨f,rfl,h1,h2⟩
theorem Og {n:Nat} {es:List (List T)} (h:∀ x∈es,WfT Tryz.prog (n+1) 5 x):∃ l:List Int,es=encU l∧∀ x∈l,rngU x :=
 LN (enc:=encU) (R:=fun e=>WfT Tryz.prog (n+1) 5 e) (rng:=rngU) rfl (fun _ _=>rfl) (@wf_U n) es h
def rngField (x:Field):Prop:=True
def rngItem (x:Item):Prop:=(rngI x.kind)∧(x.f.length≤4398046510976∧∀ y∈x.f,rngField y)∧(x.l.length≤8796093021952)∧(rngI x.exp)
def rngPair (x:Pair):Prop:=(rngItem x.item)
def rngEffect (x:Effect):Prop:=(rngItem x.item)
def rngRid (x:Rid):Prop:=(rngI x.node)∧(rngI x.epoch)
def rngFeed (x:Feed):Prop:=(rngRid x.rid)∧(rngI x.off)∧(x.back.length≤1353245080300∧∀ y∈x.back,rngEffect y)∧(rngRid x.prev)∧(rngI x.upto)
def rngClaim (x:Claim):Prop:=(rngI x.frm)∧(rngI x.to)∧(rngI x.node)∧(rngI x.epoch)
def rngMsg (x:Msg):Prop:=(rngI x.kind)∧(rngI x.frm)∧(rngI x.to)∧(rngI x.epoch)∧(x.claims.length≤4398046510976∧∀ y∈x.claims,rngClaim y)∧(x.nodes.length≤17592186043904∧∀ y∈x.nodes,rngI y)∧(rngI x.node)∧(rngI x.slot)∧(rngI x.num)∧(rngRid x.rid)∧(rngRid x.prev)∧(rngI x.off)∧(x.effects.length≤1353245080300∧∀ y∈x.effects,rngEffect y)
end Go.Proofs.YtlbdhlbbkibgpaaGreat
namespace Go.Proofs.YtlbdhlbbkibgpaaGreat
open Go Go.RowKit
open Go.ChangeShapes Go.WideShapes Go.ChangeAt Go.RowKit
theorem Tryz.own:ownKnob Tryz.prog.godebug=none:=by kernel_rfl
theorem Tryz.laidOut:laidOutB Tryz.prog=true:=by kernel_rfl
end Go.Proofs.YtlbdhlbbkibgpaaGreat
