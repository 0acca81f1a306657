/- Part 1 of the proof. -/
import Derived.Below
import Derived.Deep.Draws
import Derived.CallsIn
import Derived.OrdersIn
import Derived.RangeFuncLeaves
import Derived.RangeFuncRecord
import Derived.RangeFuncIn
import Derived.Laws.AppendOwn
import Derived.Laws.OwnMore
import Derived.KernelRfl
import Derived.Laws.Tables
import Derived.Laws.IdiomCopy
import Derived.WalkKit
import Derived.Laws.Slices
import Derived.Laws.BytesString
import Derived.Lib.ConvBytes
import Derived.Laws.StructEq
import Derived.Laws.Cover3
import Derived.Maps.AppendAt
import Derived.Laws.AppendOwnNone
import Derived.RangeFuncCalls
import Derived.Laws.Cells
import Derived.Lib.AppendZerosOnto
import Derived.Room.Entries
import Derived.Lib.Overlaps
import Derived.Laws.CopyRow
import Derived.Laws.IdiomStrings
set_option linter.unusedVariables false
set_option linter.unusedSimpArgs false
set_option linter.constructorNameAsVariable false
set_option maxRecDepth 8000
set_option maxHeartbeats 8000000
namespace Go.Proofs.Ytenemndpignaoaa
open Go Go.RowKit
inductive T where
 |v (x:Value)
 |sl (sz:Nat) (es:List (List T))
inductive Rd (w:World) (X:Nat→Prop):Value→T→Prop
 |v (x:Value) (h1:x.oneCell'=true):Rd w X x (.v x)
 |sl (a:Option Addr) (n c sz:Nat) (es:List (List T)) (b off:Nat) (cv:Nat→Nat→Value)
   (hn:es.length=n) (hc:n≤c) (hm:n≤140737488355328) (hs:∀ e,e∈es→e.length=sz)
   (ha:0<n→a=some ⟨b,off,none⟩∧X b) (hz:a=none→c=0)
   (hcell:∀ i j,i<n→j<sz→w.cell? ⟨b,off+(i*sz+j),none⟩=some (cv i j))
   (hrd:∀ i j e t,es[i]?=some e→e[j]?=some t→Rd w X (cv i j) t) :
   Rd w X (.slice a n c) (.sl sz es)
theorem GK {w w':World} {b off:Nat} (h:w'.heap[b]?=w.heap[b]?):w'.cell? ⟨b,off,none⟩=w.cell? ⟨b,off,none⟩ :=
 World.cell?_of_block (a:=⟨b,off,none⟩) h
theorem Rd.mono {w w':World} {X X':Nat→Prop} (h:∀ b,X b→X' b∧w'.heap[b]?=w.heap[b]?) {v:Value} {t:T} (hr:Rd w X v t):Rd w' X' v t:=by
 induction hr with
 |v x h1=>exact .v x h1
 |sl a n c sz es b off cv hn hc hm hs ha hz hcell hrd ih =>
  refine .sl a n c sz es b off cv hn hc hm hs (fun h0=>⟨(ha h0).1,(h b (ha h0).2).1⟩) hz (fun i j hi hj=>?_) ih;rw[GK (h b (ha (by omega)).2).2];exact hcell i j hi hj
inductive LV where
 |u
 |s (x:Value)
 |d (al:Bool) (sz:Nat) (es:List (List T))
 |p (o off:Nat)
 |q (al:Bool) (cs:List T) (off:Nat)
 |r (o sz lo hi:Nat)
 |f (fn:Nat) (cs:List Nat)
 |e
inductive AV where
 |l (x:LV)
 |g (cs:List LV)
 |t (xs:List (Bool×List LV))
def T.lv (al:Bool):T→LV
 |.v x=>.s x
 |.sl sz es=>.d al sz es
abbrev Hd:=Option (Option (Nat×Nat))
theorem Rd.one {w:World} {X:Nat→Prop} {v:Value} {t:T} (h:Rd w X v t):v.oneCell'=true:=by
 cases h with
 |v _ h1=>exact h1
 |sl=>rfl
def All2 {α β:Type} (R:α→β→Prop):List α→List β→Prop
 |[],[]=>True
 |a::as,b::bs=>R a b∧All2 R as bs
 |_,_=>False
section All2
variable {α β:Type} {R R':α→β→Prop}
theorem All2.mono:∀ {as:List α} {bs:List β},(∀ a b,b∈bs→R a b→R' a b)→All2 R as bs→All2 R' as bs
 |[],[],_,_=>trivial
 |a::as,b::bs,h,hr=>⟨h a b (by simp) hr.1,All2.mono (fun a b hb=>h a b (by simp[hb])) hr.2⟩
 |[],_::_,_,hr=>hr.elim
 |_::_,[],_,hr=>hr.elim
theorem All2.map {γ:Type} {S:α→γ→Prop} (f:β→γ):∀ {as:List α} {bs:List β},(∀ a b,b∈bs→R a b→S a (f b))→All2 R as bs→All2 S as (bs.map f)
 |[],[],_,_=>trivial
 |a::as,b::bs,h,hr=>⟨h a b (by simp) hr.1,All2.map f (fun a b hb=>h a b (by simp[hb])) hr.2⟩
 |[],_::_,_,hr=>hr.elim
 |_::_,[],_,hr=>hr.elim
theorem All2.length:∀ {as:List α} {bs:List β},All2 R as bs→as.length=bs.length
 |[],[],_=>rfl
 |a::as,b::bs,hr=>by simp[All2.length hr.2]
 |[],_::_,hr=>hr.elim
 |_::_,[],hr=>hr.elim
theorem All2.get:∀ {as:List α} {bs:List β} (i:Nat) {a:α} {b:β},All2 R as bs→as[i]?=some a→bs[i]?=some b→R a b
 |a::as,b::bs,0,_,_,hr,ha,hb=>by simp at ha hb;subst ha;subst hb;exact hr.1
 |a::as,b::bs,i+1,_,_,hr,ha,hb=>All2.get i hr.2 (by simpa using ha) (by simpa using hb)
 |[],[],_,_,_,_,ha,_=>by simp at ha
 |[],_::_,_,_,_,hr,_,_=>hr.elim
 |_::_,[],_,_,_,hr,_,_=>hr.elim
theorem All2.at:∀ {as:List α} {bs:List β} (i:Nat) {b:β},All2 R as bs→bs[i]?=some b→∃ a,as[i]?=some a∧R a b:=by
 intro as bs i b hr hb;have hi:i<bs.length:=(List.getElem?_eq_some_iff.1 hb).1;have hi':i<as.length:=by rw[hr.length];exact hi
 exact⟨as[i],List.getElem?_eq_getElem hi',hr.get i (List.getElem?_eq_getElem hi') hb⟩
theorem All2.of_get:∀ {as:List α} {bs:List β},as.length=bs.length→(∀ (i:Nat) (a:α) (b:β),as[i]?=some a→bs[i]?=some b→R a b)→All2 R as bs
 |[],[],_,_=>trivial
 |a::as,b::bs,hl,h=>⟨h 0 a b rfl rfl,All2.of_get (by simpa using hl) fun i a b ha hb=>h (i+1) a b (by simpa using ha) (by simpa using hb)⟩
 |[],_::_,hl,_=>by simp at hl
 |_::_,[],hl,_=>by simp at hl
theorem All2.append:∀ {as as':List α} {bs bs':List β},All2 R as bs→All2 R as' bs'→All2 R (as++as') (bs++bs')
 |[],_,[],_,_,h'=>h'
 |a::as,_,b::bs,_,h,h'=>⟨h.1,All2.append h.2 h'⟩
 |[],_,_::_,_,h,_=>h.elim
 |_::_,_,[],_,h,_=>h.elim
theorem All2.set:∀ {as:List α} {bs:List β} (i:Nat) {a:α} {b:β},All2 R as bs→R a b→All2 R (as.set i a) (bs.set i b)
 |[],[],_,_,_,_,_=>trivial
 |a::as,b::bs,0,_,_,h,h'=>⟨h',h.2⟩
 |a::as,b::bs,i+1,_,_,h,h'=>⟨h.1,All2.set i h.2 h'⟩
 |[],_::_,_,_,_,h,_=>h.elim
 |_::_,[],_,_,_,h,_=>h.elim
theorem All2.take:∀ {as:List α} {bs:List β} (n:Nat),All2 R as bs→All2 R (as.take n) (bs.take n)
 |[],[],n,_=>by simp[All2]
 |a::as,b::bs,0,_=>trivial
 |a::as,b::bs,n+1,h=>⟨h.1,All2.take n h.2⟩
 |[],_::_,_,h=>h.elim
 |_::_,[],_,h=>h.elim
theorem All2.drop:∀ {as:List α} {bs:List β} (n:Nat),All2 R as bs→All2 R (as.drop n) (bs.drop n)
 |[],[],n,_=>by simp[All2]
 |a::as,b::bs,0,h=>h
 |a::as,b::bs,n+1,h=>All2.drop n h.2
 |[],_::_,_,h=>h.elim
 |_::_,[],_,h=>h.elim
end All2
section rel
variable (w:World) (X Xa:Nat→Prop) (σ:Nat→Hd)
def RelL (v:Value):LV→Prop
 |.u=>True
 |.s x=>v=x∧x.oneCell'=true
 |.d al sz es=>Rd w (if al=true then Xa else X) v (.sl sz es)
 |.p o off=>∃ b c,σ o=some (some (b,c))∧v=.pointer (some ⟨b,off,none⟩)
 |.q al cs off=>∃ (b base:Nat) (cv:Nat→Value),(if al=true then Xa else X) b∧v=.pointer (some ⟨b,base+off,none⟩) ∧
   ∀ j t,cs[j]?=some t→w.cell? ⟨b,base+j,none⟩=some (cv j)∧Rd w (if al=true then Xa else X) (cv j) t
 |.r o sz lo hi=>(σ o=some none∧lo=0∧hi=0∧v=.slice none 0 0) ∨
   ∃ b k off,σ o=some (some (b,k))∧lo≤hi∧hi≤k∧v=.slice (some ⟨b,off,none⟩) (hi - lo) (k - lo)∧(lo<k∨lo=0→off=lo*sz)
 |.f fn cs=>∃ vs:List Value,v=.func (.func fn) #[] vs.toArray∧All2 (fun v o=>∃ b c,σ o=some (some (b,c))∧v=.pointer (some ⟨b,0,none⟩)) vs cs
 |.e=>∃ ad:Addr,v=.slice (some ad) 0 0
def RelC (v:Value):Bool×List LV→Prop
 |(true,cs)=>∃ vs:List Value,v=.agg vs.toArray∧All2 (RelL w X Xa σ) vs cs
 |(false,cs)=>∃ x,cs=[x]∧RelL w X Xa σ v x
def RelV (v:Value):AV→Prop
 |.l x=>RelL w X Xa σ v x
 |.g cs=>∃ vs:List Value,v=.agg vs.toArray∧All2 (RelL w X Xa σ) vs cs
 |.t xs=>∃ vs:List Value,v=.tuple vs.toArray∧All2 (RelC w X Xa σ) vs xs
end rel
abbrev Ren:=Nat→Option Nat
def LV.ren (ρ:Ren):LV→LV
 |.p o off=>match ρ o with|some o'=>.p o' off|none=>.u
 |.r o sz lo hi=>match ρ o with|some o'=>.r o' sz lo hi|none=>.u
 |.f fn cs=>match cs.mapM ρ with|some cs'=>.f fn cs'|none=>.u
 |x=>x
def CV.ren (ρ:Ren) (c:Bool×List LV):Bool×List LV:=(c.1,c.2.map (LV.ren ρ))
def AV.ren (ρ:Ren):AV→AV
 |.l x=>.l (x.ren ρ)
 |.g cs=>.g (cs.map (LV.ren ρ))
 |.t xs=>.t (xs.map (CV.ren ρ))
section mono
variable {w w':World} {X X' Xa Xa':Nat→Prop} {σ σ':Nat→Hd}
theorem GL {ρ:Ren} {R R':Value→Nat→Prop} (h:∀ v o o',ρ o=some o'→R v o→R' v o'):∀ {vs:List Value} {cs cs':List Nat},cs.mapM ρ=some cs'→All2 R vs cs→All2 R' vs cs'
 |[],[],cs',hm,_=>by simp at hm;subst hm;trivial
 |v::vs,c::cs,cs',hm,hr=>by
  rw[List.mapM_cons] at hm;cases hc:ρ c with
  |none=>rw[hc] at hm;simp at hm
  |some c' =>
   rw[hc] at hm;cases hcs:cs.mapM ρ with
   |none=>rw[hcs] at hm;simp at hm
   |some cs2 =>
    rw[hcs] at hm;simp at hm;subst hm;exact⟨h v c c' hc hr.1,GL h hcs hr.2⟩
 |[],_::_,_,_,hr=>hr.elim
 |_::_,[],_,_,hr=>hr.elim
theorem RelL.ren (hX:∀ b,X b→X' b∧w'.heap[b]?=w.heap[b]?) (hXa:∀ b,Xa b→Xa' b∧w'.heap[b]?=w.heap[b]?)
  {ρ:Ren} (hσ:∀ o o' h,ρ o=some o'→σ o=some h→σ' o'=some h) {v:Value} {x:LV} (h:RelL w X Xa σ v x):RelL w' X' Xa' σ' v (x.ren ρ):=by
 have hXX:∀ (al:Bool) b,(if al=true then Xa else X) b→(if al=true then Xa' else X') b∧w'.heap[b]?=w.heap[b]?:=by
  intro al b hb;cases al
  ·exact hX b hb
  ·exact hXa b hb
 cases x with
 |u=>trivial
 |s x=>exact h
 |d al sz es=>exact Rd.mono (hXX al) h
 |p o off =>
  obtain⟨b,c,hb,rfl⟩:=h;simp only[LV.ren];cases ho:ρ o with
  |none=>trivial
  |some o'=>exact⟨b,c,hσ o o' _ ho hb,rfl⟩
 |q al cs off =>
  obtain⟨b,base,cv,hb,rfl,hc⟩:=h;exact⟨b,base,cv,(hXX al b hb).1,rfl,fun j t hj=>⟨by rw[GK (hXX al b hb).2];exact (hc j t hj).1,Rd.mono (hXX al) (hc j t hj).2⟩⟩
 |r o sz lo hi =>
  simp only[LV.ren];cases ho:ρ o with
  |none=>trivial
  |some o' =>
   rcases h with ⟨h1,h2⟩|⟨b,k,off,h1,h2⟩
   ·exact .inl ⟨hσ o o' _ ho h1,h2⟩
   ·exact .inr ⟨b,k,off,hσ o o' _ ho h1,h2⟩
 |f fn cs =>
  obtain⟨vs,rfl,hvs⟩:=h;simp only[LV.ren];cases hm:cs.mapM ρ with
  |none=>trivial
  |some cs'=>exact⟨vs,rfl,GL (fun v o o' ho ⟨b,c,hb,hv⟩=>⟨b,c,hσ o o' _ ho hb,hv⟩) hm hvs⟩
 |e=>exact h
theorem RelC.ren (hX:∀ b,X b→X' b∧w'.heap[b]?=w.heap[b]?) (hXa:∀ b,Xa b→Xa' b∧w'.heap[b]?=w.heap[b]?)
  {ρ:Ren} (hσ:∀ o o' h,ρ o=some o'→σ o=some h→σ' o'=some h) {v:Value} {x:Bool×List LV} (h:RelC w X Xa σ v x):RelC w' X' Xa' σ' v (CV.ren ρ x):=by
 obtain⟨b,cs⟩:=x;cases b
 ·obtain⟨x,rfl,hx⟩:=h;exact⟨_,rfl,hx.ren hX hXa hσ⟩
 ·obtain⟨vs,rfl,hvs⟩:=h;exact⟨vs,rfl,All2.map _ (fun a b _ hab=>hab.ren hX hXa hσ) hvs⟩
theorem RelV.ren (hX:∀ b,X b→X' b∧w'.heap[b]?=w.heap[b]?) (hXa:∀ b,Xa b→Xa' b∧w'.heap[b]?=w.heap[b]?)
  {ρ:Ren} (hσ:∀ o o' h,ρ o=some o'→σ o=some h→σ' o'=some h) {v:Value} {x:AV} (h:RelV w X Xa σ v x):RelV w' X' Xa' σ' v (x.ren ρ):=by
 cases x with
 |l x=>exact RelL.ren hX hXa hσ h
 |g cs =>
  obtain⟨vs,rfl,hvs⟩:=h;exact⟨vs,rfl,All2.map _ (fun a b _ hab=>hab.ren hX hXa hσ) hvs⟩
 |t xs =>
  obtain⟨vs,rfl,hvs⟩:=h;exact⟨vs,rfl,All2.map _ (fun a b _ hab=>hab.ren hX hXa hσ) hvs⟩
theorem F7:∀ cs:List Nat,cs.mapM some=some cs
 |[]=>rfl
 |c::cs=>by rw[List.mapM_cons,F7 cs];rfl
theorem LV.ren_some (x:LV):x.ren some=x:=by
 cases x <;> simp[LV.ren,F7]
theorem AV.ren_some (x:AV):x.ren some=x:=by
 have h:LV.ren some=id:=funext LV.ren_some;have h':CV.ren some=id:=funext fun c=>by simp[CV.ren,h]
 cases x <;> simp[AV.ren,h,h',LV.ren_some]
theorem RelL.mono (hX:∀ b,X b→X' b∧w'.heap[b]?=w.heap[b]?) (hXa:∀ b,Xa b→Xa' b∧w'.heap[b]?=w.heap[b]?)
  (hσ:∀ o h,σ o=some h→σ' o=some h) {v:Value} {x:LV} (h:RelL w X Xa σ v x):RelL w' X' Xa' σ' v x:=by
 have:=RelL.ren hX hXa (ρ:=some) (σ':=σ') (fun o o' h e=>by cases e;exact hσ o h) h;rwa [LV.ren_some] at this
theorem RelV.mono (hX:∀ b,X b→X' b∧w'.heap[b]?=w.heap[b]?) (hXa:∀ b,Xa b→Xa' b∧w'.heap[b]?=w.heap[b]?)
  (hσ:∀ o h,σ o=some h→σ' o=some h) {v:Value} {x:AV} (h:RelV w X Xa σ v x):RelV w' X' Xa' σ' v x:=by
 have:=RelV.ren hX hXa (ρ:=some) (σ':=σ') (fun o o' h e=>by cases e;exact hσ o h) h;rwa [AV.ren_some] at this
end mono
structure Ob where
 ty:Nat
 sz:Nat
 row:Bool
 cap:Option Nat
 cs:List LV
def Ob.ren (ρ:Ren) (x:Ob):Ob:={ x with cs:=x.cs.map (LV.ren ρ) }
def Ob.bx (x:Ob):Bool:=!x.row && x.cap.isNone
@[simp] theorem Ob.bx_mk (ty sz:Nat) (row:Bool) (cap:Option Nat) (cs:List LV):Ob.bx ⟨ty,sz,row,cap,cs⟩=(!row && cap.isNone):=rfl
theorem Ob.bx_row {x:Ob} (h:x.row=true):x.bx=false:=by simp[Ob.bx,h]
def RelO (w:World) (X Xa:Nat→Prop) (σ:Nat→Hd) (h:Hd) (x:Ob):Prop :=
 match h with
 |none=>False
 |some none=>x.bx=false∧x.cs=[]∧(x.row=true→x.cap=none∨x.cap=some 0)
 |some (some (b,k))=>∃ vs rest:List Value,w.heap[b]?=some (.cells (vs++rest).toArray x.ty (0,0))∧All2 (RelL w X Xa σ) vs x.cs ∧
   (x.bx=true→rest=[])∧(x.bx=false→vs.length+rest.length=k*x.sz∧k≤maxLen∧(x.row=true→∀ k',x.cap=some k'→k'=k))
theorem RelO.ren {w w':World} {X X' Xa Xa':Nat→Prop} {σ σ':Nat→Hd} (hX:∀ b,X b→X' b∧w'.heap[b]?=w.heap[b]?) (hXa:∀ b,Xa b→Xa' b∧w'.heap[b]?=w.heap[b]?)
  {ρ:Ren} (hσ:∀ o o' h,ρ o=some o'→σ o=some h→σ' o'=some h) {h:Hd} {x:Ob} (hb:∀ b k,h=some (some (b,k))→w'.heap[b]?=w.heap[b]?) (hx:RelO w X Xa σ h x):RelO w' X' Xa' σ' h (x.ren ρ):=by
 match h with
 |none=>exact hx.elim
 |some none=>exact⟨hx.1,by simp[Ob.ren,hx.2.1],hx.2.2⟩
 |some (some (b,k)) =>
  obtain⟨vs,rest,h1,h2,h3⟩:=hx;exact⟨vs,rest,(hb b k rfl).trans h1,All2.map _ (fun a b _ hab=>hab.ren hX hXa hσ) h2,h3⟩
abbrev Tm:=List (Nat×AV)
def lk:Tm→Nat→AV
 |[],_=>.l .u
 |(j,v)::r,i=>bif Nat.beq i j then v else lk r i
def Tm.ren (ρ:Ren) (tm:Tm):Tm:=tm.map fun e=>(e.1,e.2.ren ρ)
theorem Cv (ρ:Ren) (i:Nat):∀ tm:Tm,lk (tm.ren ρ) i=(lk tm i).ren ρ
 |[]=>by simp[Tm.ren,lk,AV.ren,LV.ren]
 |(j,v)::r=>by
  have ih:=Cv ρ i r;simp only[Tm.ren,List.map_cons,lk] at ih ⊢;cases Nat.beq i j
  ·exact ih
  ·rfl
end Go.Proofs.Ytenemndpignaoaa
namespace Go.Proofs.Ytenemndpignaoaa
open Go Go.RowKit
structure Cx where
 w0:World
 own:Nat→Prop
 Z:Nat→Prop
 G:List (Array Value)
 E:Option Code→World→Prop
 nb:Nat
 σ0:Nat→Hd
 zlt:∀ b,Z b→b<w0.heap.size∧¬ own b
 m:Nat
 hm:w0.heap.size≤m
 hM:∀ c w b o,m≤b→E c w→E c (w.putObj b o)
 hE:∀ c w w',E c w→(∀ b,b<w.heap.size→(∀ cs t fr,w.heap[b]?≠some (.cells cs t fr))→w'.heap[b]?=w.heap[b]?)→E c w'
structure St where
 tm:Tm
 ob:List (Option Ob)
 nt:Nat
 gh:List Tm:=[]
 ls:Option Code:=none
def lvb (σ:Nat→Hd) (ob:List (Option Ob)) (b:Nat):Prop:=∃ o x k,ob[o]?=some (some x)∧σ o=some (some (b,k))
def isC (w:World) (b:Nat):Prop:=∃ c t fr,w.heap[b]?=some (.cells c t fr)
def Xd (cx:Cx) (w:World) (σ:Nat→Hd) (ob:List (Option Ob)) (b:Nat):Prop:=b<w.heap.size∧¬ lvb σ ob b∧¬ cx.Z b∧isC w b
def Xe (w:World) (σ:Nat→Hd) (ob:List (Option Ob)) (b:Nat):Prop:=b<w.heap.size∧¬ lvb σ ob b∧isC w b
structure RelH (cx:Cx) (w:World) (σ:Nat→Hd) (ob:List (Option Ob)) (ls:Option Code):Prop where
 obs:∀ o x,ob[o]?=some (some x)→RelO w (Xd cx w σ ob) (Xe w σ ob) σ (σ o) x
 inj:∀ o o' x x' b k k',ob[o]?=some (some x)→ob[o']?=some (some x')→σ o=some (some (b,k))→σ o'=some (some (b,k'))→o=o'
 dom:∀ o,ob.length≤o→σ o=none
 nbl:cx.nb≤ob.length
 box:∀ o x,ob[o]?=some (some x)→x.row=false→o<cx.nb→σ o=cx.σ0 o
 loc:∀ b,lvb σ ob b→cx.w0.heap.size≤b∨cx.own b
 msize:cx.m≤w.heap.size
 frame:∀ b,b<cx.w0.heap.size→¬ cx.own b→w.heap[b]?=cx.w0.heap[b]?
 os:w.os=cx.w0.os
 tape:w.tape=cx.w0.tape
 output:w.output=cx.w0.output
 ext:cx.E ls w
theorem RelH.size {cx:Cx} {w:World} {σ:Nat→Hd} {ob:List (Option Ob)} {ls:Option Code} (h:RelH cx w σ ob ls):cx.w0.heap.size≤w.heap.size:=Nat.le_trans cx.hm h.msize
def Marks (cx:Cx) (ds:List Deferred) (w:World):Prop :=
 ∃ Ds:List Nat,ds=Ds.map (fun D=>{ target:=.collected D,args:=#[] })∧Ds.Nodup∧∀ D∈Ds,w.heap[D]?=some (.deferred (some []))∧cx.m≤D
abbrev RelT (cx:Cx) (w:World) (σ:Nat→Hd) (ob:List (Option Ob)) (S:Array Value) (tm:Tm):Prop :=
 ∀ i,RelV w (Xd cx w σ ob) (Xe w σ ob) σ (S.getD i undef) (lk tm i)
structure RelS (cx:Cx) (σ:Nat→Hd) (st:St) (a:Act) (w:World):Prop where
 h:RelH cx w σ st.ob st.ls
 tm:RelT cx w σ st.ob a.tmps st.tm
 nt:a.tmps.size=st.nt
 gh:All2 (RelT cx w σ st.ob) cx.G st.gh
 dm:Marks cx a.defers w
theorem RelO.block {w:World} {X Xa:Nat→Prop} {σ:Nat→Hd} {b k:Nat} {x:Ob} (h:RelO w X Xa σ (some (some (b,k))) x):∃ c t fr,w.heap[b]?=some (.cells c t fr):=by
 obtain⟨vs,rest,h1,_⟩:=h;exact⟨_,_,_,h1⟩
theorem RelH.cells {cx:Cx} {w:World} {σ:Nat→Hd} {ob:List (Option Ob)} {ls:Option Code} (h:RelH cx w σ ob ls) {b:Nat} (hb:lvb σ ob b):∃ c t fr,w.heap[b]?=some (.cells c t fr):=by
 obtain⟨o,x,k,ho,hk⟩:=hb;have:=h.obs o x ho;rw[hk] at this;exact this.block
theorem RelH.lt {cx:Cx} {w:World} {σ:Nat→Hd} {ob:List (Option Ob)} {ls:Option Code} (h:RelH cx w σ ob ls) {b:Nat} (hb:lvb σ ob b):b<w.heap.size:=by
 obtain⟨c,t,fr,hc⟩:=h.cells hb;exact (Array.getElem?_eq_some_iff.1 hc).1
theorem RelH.notZ {cx:Cx} {w:World} {σ:Nat→Hd} {ob:List (Option Ob)} {ls:Option Code} (h:RelH cx w σ ob ls) {b:Nat} (hb:lvb σ ob b):¬ cx.Z b:=by
 intro hz;rcases h.loc b hb with h1|h1
 ·have:=(cx.zlt b hz).1;omega
 ·exact (cx.zlt b hz).2 h1
structure Evo (σ:Nat→Hd) (ob:List (Option Ob)) (w w':World):Prop where
 size:w.heap.size≤w'.heap.size
 same:∀ b,b<w.heap.size→¬ lvb σ ob b→w'.heap[b]?=w.heap[b]?
 os:w'.os=w.os
 tape:w'.tape=w.tape
 output:w'.output=w.output
theorem Evo.refl (σ:Nat→Hd) (ob:List (Option Ob)) (w:World):Evo σ ob w w:=⟨Nat.le_refl _,fun _ _ _=>rfl,rfl,rfl,rfl⟩
theorem Evo.drewN (σ:Nat→Hd) (ob:List (Option Ob)) (w:World) (n:Nat):Evo σ ob w (w.drewN n):=⟨Nat.le_refl _,fun _ _ _=>rfl,rfl,rfl,rfl⟩
theorem Evo.alloc (σ:Nat→Hd) (ob:List (Option Ob)) (w:World) (o:Obj):Evo σ ob w (w.alloc o):=⟨by simp,fun b hb _=>Below.heap_alloc w o b hb,rfl,rfl,rfl⟩
theorem Evo.trans {σ:Nat→Hd} {ob:List (Option Ob)} {a b c:World} (h:Evo σ ob a b) (k:Evo σ ob b c):Evo σ ob a c :=
 ⟨Nat.le_trans h.size k.size,fun i hi hn=>(k.same i (Nat.lt_of_lt_of_le hi h.size) hn).trans (h.same i hi hn),k.os.trans h.os,k.tape.trans h.tape,k.output.trans h.output⟩
structure Step (σ:Nat→Hd) (ob:List (Option Ob)) (w:World) (σ':Nat→Hd) (ob':List (Option Ob)) (w':World) (ρ:Ren):Prop where
 evo:Evo σ ob w w'
 ren:∀ o o' h,ρ o=some o'→σ o=some h→σ' o'=some h
 live:∀ b,lvb σ' ob' b→lvb σ ob b∨w.heap.size≤b
section step
variable {cx:Cx} {σ σ':Nat→Hd} {ob ob':List (Option Ob)} {w w':World} {ρ:Ren} {ls:Option Code}
theorem Step.Xd (hs:Step σ ob w σ' ob' w' ρ):∀ b,Xd cx w σ ob b→Xd cx w' σ' ob' b∧w'.heap[b]?=w.heap[b]?:=by
 intro b ⟨h1,h2,h3,h4⟩;refine⟨⟨Nat.lt_of_lt_of_le h1 hs.evo.size,fun hl=>?_,h3,by unfold isC;rw[hs.evo.same b h1 h2];exact h4⟩,hs.evo.same b h1 h2⟩;rcases hs.live b hl with h|h
 ·exact h2 h
 ·omega
theorem Step.Xe (hs:Step σ ob w σ' ob' w' ρ):∀ b,Xe w σ ob b→Xe w' σ' ob' b∧w'.heap[b]?=w.heap[b]?:=by
 intro b ⟨h1,h2,h4⟩;refine⟨⟨Nat.lt_of_lt_of_le h1 hs.evo.size,fun hl=>?_,by unfold isC;rw[hs.evo.same b h1 h2];exact h4⟩,hs.evo.same b h1 h2⟩;rcases hs.live b hl with h|h
 ·exact h2 h
 ·omega
theorem Step.relV (hs:Step σ ob w σ' ob' w' ρ) {v:Value} {x:AV} (h:RelV w (Go.Proofs.Ytenemndpignaoaa.Xd cx w σ ob) (Go.Proofs.Ytenemndpignaoaa.Xe w σ ob) σ v x) :
  RelV w' (Go.Proofs.Ytenemndpignaoaa.Xd cx w' σ' ob') (Go.Proofs.Ytenemndpignaoaa.Xe w' σ' ob') σ' v (x.ren ρ):=RelV.ren hs.Xd hs.Xe hs.ren h
theorem Step.relL (hs:Step σ ob w σ' ob' w' ρ) {v:Value} {x:LV} (h:RelL w (Go.Proofs.Ytenemndpignaoaa.Xd cx w σ ob) (Go.Proofs.Ytenemndpignaoaa.Xe w σ ob) σ v x) :
  RelL w' (Go.Proofs.Ytenemndpignaoaa.Xd cx w' σ' ob') (Go.Proofs.Ytenemndpignaoaa.Xe w' σ' ob') σ' v (x.ren ρ):=RelL.ren hs.Xd hs.Xe hs.ren h
theorem Step.relT (hs:Step σ ob w σ' ob' w' ρ) {S:Array Value} {tm:Tm} (h:RelT cx w σ ob S tm):RelT cx w' σ' ob' S (tm.ren ρ):=by
 intro i;rw[Cv];exact hs.relV (h i)
theorem Step.gh (hs:Step σ ob w σ' ob' w' ρ) {G:List (Array Value)} {gh:List Tm} (h:All2 (RelT cx w σ ob) G gh):All2 (RelT cx w' σ' ob') G (gh.map (Tm.ren ρ)) :=
 All2.map _ (fun a b _ hab=>hs.relT hab) h
theorem Step.relO (hs:Step σ ob w σ' ob' w' ρ) {h:Hd} {x:Ob} (hb:∀ b k,h=some (some (b,k))→w'.heap[b]?=w.heap[b]?) (hx:RelO w (Go.Proofs.Ytenemndpignaoaa.Xd cx w σ ob) (Go.Proofs.Ytenemndpignaoaa.Xe w σ ob) σ h x) :
  RelO w' (Go.Proofs.Ytenemndpignaoaa.Xd cx w' σ' ob') (Go.Proofs.Ytenemndpignaoaa.Xe w' σ' ob') σ' h (x.ren ρ):=RelO.ren hs.Xd hs.Xe hs.ren hb hx
theorem Step.relH (hs:Step σ ob w σ' ob' w' ρ) (h:RelH cx w σ ob ls)
  (obs:∀ o x,ob'[o]?=some (some x)→RelO w' (Go.Proofs.Ytenemndpignaoaa.Xd cx w' σ' ob') (Go.Proofs.Ytenemndpignaoaa.Xe w' σ' ob') σ' (σ' o) x)
  (inj:∀ o o' x x' b k k',ob'[o]?=some (some x)→ob'[o']?=some (some x')→σ' o=some (some (b,k))→σ' o'=some (some (b,k'))→o=o') (dom:∀ o,ob'.length≤o→σ' o=none) (nbl:cx.nb≤ob'.length)
  (box:∀ o x,ob'[o]?=some (some x)→x.row=false→o<cx.nb→σ' o=cx.σ0 o):RelH cx w' σ' ob' ls where
 obs:=obs
 inj:=inj
 dom:=dom
 nbl:=nbl
 box:=box
 loc:=fun b hb=>by
  rcases hs.live b hb with h1|h1
  ·exact h.loc b h1
  ·exact .inl (Nat.le_trans h.size h1)
 msize:=Nat.le_trans h.msize hs.evo.size
 frame:=fun b hb ho=>by
  rw[hs.evo.same b (Nat.lt_of_lt_of_le hb h.size) ?_]
  ·exact h.frame b hb ho
  ·intro hl;rcases h.loc b hl with h1|h1
   ·omega
   ·exact ho h1
 os:=hs.evo.os.trans h.os
 tape:=hs.evo.tape.trans h.tape
 output:=hs.evo.output.trans h.output
 ext:=cx.hE ls w w' h.ext fun b hb hn=>hs.evo.same b hb fun hl=>by
  obtain⟨c,t,fr,hc⟩:=h.cells hl;exact hn c t fr hc
theorem Marks.step (hs:Step σ ob w σ' ob' w' ρ) (h:RelH cx w σ ob ls) {ds:List Deferred} (hm:Marks cx ds w):Marks cx ds w':=by
 obtain⟨Ds,rfl,hn,hD⟩:=hm;refine⟨Ds,rfl,hn,fun D hD'=>⟨?_,(hD D hD').2⟩⟩;have h1:=(hD D hD').1;rw[hs.evo.same D (Array.getElem?_eq_some_iff.1 h1).1 ?_]
 ·exact h1
 ·intro hl;obtain⟨c,t,fr,hc⟩:=h.cells hl;rw[h1] at hc;simp at hc
end step
def St.put (st:St) (dst:Option Nat) (v:AV):St :=
 match dst with
 |some d=>{ st with tm:=bif Nat.blt d st.nt then (d,v)::st.tm else st.tm }
 |none=>st
theorem A5 (j:Nat) (v:AV) (tm:Tm) (i:Nat):lk ((j,v)::tm) i=if i=j then v else lk tm i:=by
 simp only[lk];by_cases h:i=j
 ·subst h;simp
 ·have:Nat.beq i j=false:=by rw[← Bool.not_eq_true,Nat.beq_eq];exact h
  rw[this,if_neg h];rfl
theorem RelT.put {cx:Cx} {w:World} {σ:Nat→Hd} {ob:List (Option Ob)} {S:Array Value} {tm:Tm} (h:RelT cx w σ ob S tm) {d:Nat} (hd:d<S.size) {v:Value} {x:AV}
  (hv:RelV w (Xd cx w σ ob) (Xe w σ ob) σ v x):RelT cx w σ ob (S.setIfInBounds d v) ((d,x)::tm):=by
 intro i;rw[A5];by_cases hi:i=d
 ·subst hi;rw[if_pos rfl];simpa [Array.getD_eq_getD_getElem?,hd] using hv
 ·rw[if_neg hi];have:=h i;simpa [Array.getD_eq_getD_getElem?,Array.getElem?_setIfInBounds_ne (Ne.symm hi)] using this
theorem RelS.put {cx:Cx} {σ:Nat→Hd} {st:St} {a:Act} {w:World} (h:RelS cx σ st a w) (dst:Option Nat) {v:Value} {x:AV}
  (hv:RelV w (Xd cx w σ st.ob) (Xe w σ st.ob) σ v x):RelS cx σ (st.put dst x) (a.put dst v) w:=by
 cases dst with
 |none=>exact h
 |some d =>
  unfold St.put Act.put;simp only;cases hb:Nat.blt d st.nt
  ·have hd:¬ d<a.tmps.size:=by rw[h.nt,← Nat.blt_eq,hb];simp
   refine⟨h.h,?_,by simp[h.nt],h.gh,h.dm⟩;rw[Array.setIfInBounds_eq_of_size_le (by omega)];exact h.tm
  ·have hd:d<a.tmps.size:=by rw[h.nt];rw[← Nat.blt_eq];exact hb
   exact⟨h.h,h.tm.put hd hv,by simp[h.nt],h.gh,h.dm⟩
def fR:Option Nat→Fence
 |none=>Fence.wide
 |some l=>Fence.wide.inRound l
theorem Er (R:Option Nat) (f:Nat):(fR R).fn f:=by cases R <;> trivial
theorem FQ (R:Option Nat):(fR R).depth=none:=by cases R <;> rfl
abbrev Post:=Exit→St→Prop
def post (cx:Cx) (Q:Post):Exit→Act→World→Prop:=fun e a w=>∃ σ st,RelS cx σ st a w∧Q e st
section judge
variable (P:Program) (R:Option Nat) (cx:Cx)
def AW (c:Code) (Q:Post) (st:St):Prop:=∀ σ a w,RelS cx σ st a w→c.wpIn (fR R) 0 P (post cx Q) a w
def AO (ops:Array Oper) (Q:Post) (l:List Nat) (st:St):Prop:=∀ σ a w,RelS cx σ st a w→wpOpsIn (fR R) 0 P ops (post cx Q) l a w
def Weak (st st':St):Prop:=∀ σ a w,RelS cx σ st a w→∃ σ',RelS cx σ' st' a w
end judge
section rules
variable {P:Program} {R:Option Nat} {cx:Cx} {Q:Post} {st st':St}
theorem Weak.refl (st:St):Weak cx st st:=fun σ a w h=>⟨σ,h⟩
theorem Weak.trans {st'':St} (h:Weak cx st st') (k:Weak cx st' st''):Weak cx st st'':=fun σ a w hr=>let ⟨σ',h'⟩:=h σ a w hr;k σ' a w h'
theorem AW.weak {c:Code} (hw:Weak cx st st') (h:AW P R cx c Q st'):AW P R cx c Q st:=fun σ a w hr=>let ⟨σ',h'⟩:=hw σ a w hr;h σ' a w h'
theorem AO.weak {ops:Array Oper} {l:List Nat} (hw:Weak cx st st') (h:AO P R cx ops Q l st'):AO P R cx ops Q l st:=fun σ a w hr=>let ⟨σ',h'⟩:=hw σ a w hr;h σ' a w h'
theorem I8 {Q Q':Post} (h:∀ e s,Q e s→Q' e s):∀ e a w,post cx Q e a w→post cx Q' e a w:=fun e a w ⟨σ,s,hr,hq⟩=>⟨σ,s,hr,h e s hq⟩
theorem AW.mono {c:Code} {Q':Post} (h:AW P R cx c Q st) (hq:∀ e s,Q e s→Q' e s):AW P R cx c Q' st:=fun σ a w hr=>wpIn_mono (h σ a w hr) (I8 hq)
theorem AW.skip (h:Q .normal st):AW P R cx .skip Q st:=fun σ a w hr=>wpIn_skip ⟨σ,st,hr,h⟩
theorem AW.ret (h:Q .ret st):AW P R cx .ret Q st:=fun σ a w hr=>wpIn_ret ⟨σ,st,hr,h⟩
theorem AW.exit {id:Nat} (h:Q (.exit id) st):AW P R cx (.exit id) Q st:=fun σ a w hr=>wpIn_exit ⟨σ,st,hr,h⟩
def Post.seq (N:St→Prop) (Q:Post):Post
 |.normal,s=>N s
 |e,s=>Q e s
theorem AW.seq {c c':Code} (h:AW P R cx c (Post.seq (AW P R cx c' Q) Q) st):AW P R cx (.seq c c') Q st:=by
 intro σ a w hr;refine wpIn_seq (wpIn_mono (h σ a w hr) ?_);rintro e a' w' ⟨σ',s',hr',hq⟩;cases e with
 |normal=>exact hq σ' a' w' hr'
 |_=>exact⟨σ',s',hr',hq⟩
def Post.block (id:Nat) (Q:Post):Post
 |.exit id',s=>if id'=id then Q .normal s else Q (.exit id') s
 |e,s=>Q e s
theorem AW.block {id:Nat} {c:Code} (h:AW P R cx c (Post.block id Q) st):AW P R cx (.block id c) Q st:=by
 intro σ a w hr;refine wpIn_block (wpIn_mono (h σ a w hr) ?_);rintro e a' w' ⟨σ',s',hr',hq⟩;cases e with
 |exit id' =>
  simp only[Exit.inBlock,Post.block] at hq ⊢;split
  ·rw[if_pos ‹_›] at hq;exact⟨σ',s',hr',hq⟩
  ·rw[if_neg ‹_›] at hq;exact⟨σ',s',hr',hq⟩
 |_=>exact⟨σ',s',hr',hq⟩
def St.ev (st:St):Operand→AV
 |.tmp t=>lk st.tm t
 |.const v=>bif v.oneCell' then .l (.s v) else .l .u
 |.global g=>.l (.s (.pointer (some ⟨g,0,none⟩)))
 |.func f=>.l (.s (.func (.func f) #[] #[]))
theorem RelS.ev {σ:Nat→Hd} {a:Act} {w:World} (h:RelS cx σ st a w) (x:Operand):RelV w (Xd cx w σ st.ob) (Xe w σ st.ob) σ (a.eval x) (st.ev x):=by
 cases x with
 |tmp t=>exact h.tm t
 |const v =>
  simp only[St.ev];cases h1:v.oneCell'
  ·trivial
  ·exact⟨rfl,h1⟩
 |global g=>exact⟨rfl,rfl⟩
 |func f=>exact⟨rfl,rfl⟩
theorem AW.cond_true {c:Operand} {x y:Code} (hc:st.ev c=.l (.s (.bool true))) (h:AW P R cx x Q st):AW P R cx (.cond c x y) Q st:=by
 intro σ a w hr;have:=hr.ev c;rw[hc] at this;exact wpIn_cond_true this.1 (h σ a w hr)
theorem AW.cond_false {c:Operand} {x y:Code} (hc:st.ev c=.l (.s (.bool false))) (h:AW P R cx y Q st):AW P R cx (.cond c x y) Q st:=by
 intro σ a w hr;have:=hr.ev c;rw[hc] at this;exact wpIn_cond_false this.1 (h σ a w hr)
theorem AW.cond {c:Operand} {x y:Code} {b:Bool} (hc:st.ev c=.l (.s (.bool b))) (ht:b=true→AW P R cx x Q st) (hf:b=false→AW P R cx y Q st):AW P R cx (.cond c x y) Q st:=by
 cases b
 ·exact AW.cond_false hc (hf rfl)
 ·exact AW.cond_true hc (ht rfl)
theorem AW.loop {c:Code} (I:St→Nat→Prop) {n:Nat} (h0:∃ s,Weak cx st s∧I s n)
  (round:∀ s n,I s n→AW P R cx c (Post.seq (fun s'=>∃ s'' n',Weak cx s' s''∧I s'' n'∧n'<n) Q) s):AW P R cx (.loop c) Q st:=by
 intro σ a w hr;obtain⟨s,hw,hI⟩:=h0;obtain⟨σ0,hr0⟩:=hw σ a w hr;have key:∀ k (a:Act) (w:World) (σ:Nat→Hd) (s:St),RelS cx σ s a w→I s k→∀ (b:Frame) (kk:List Item) (cs:List Frame),b.roundOf=(fR R).round→(fR R).fn b.fn→(fR R).room (cs.length+1+0) →
   ∃ e a' w',post cx Q e a' w'∧ArrivesIn (Machine.fenced P (fR R)) P (lone (b.atR a (.code c::.inLoop c::kk)) cs w) b kk cs e a' w':=by
  intro k;induction k using Nat.strongRecOn with
  |_ k ih =>
   intro a w σ s hr hI b kk cs hro hb hroom;obtain⟨e,a₁,w₁,⟨σ₁,s₁,hr₁,hq⟩,harr⟩:=round s k hI σ a w hr b (.inLoop c::kk) cs hro hb hroom;cases e with
   |normal =>
    obtain⟨s2,n',hw2,hI2,hlt⟩:=hq;obtain⟨σ2,hr2⟩:=hw2 σ₁ a₁ w₁ hr₁;obtain⟨e₂,a₂,w₂,hq₂,harr₂⟩:=ih n' hlt a₁ w₁ σ2 s2 hr2 hI2 b kk cs hro hb hroom;exact⟨e₂,a₂,w₂,hq₂,.of_steps (StepsIn.trans harr (.one (fenced_calm hb hroom rfl) stepR_inLoop)) harr₂⟩
   |exit id=>exact⟨_,a₁,w₁,⟨σ₁,s₁,hr₁,hq⟩,.pass (x:=.inLoop c) rfl (fun _ _=>.inl (by simp)) harr⟩
   |goto l=>exact⟨_,a₁,w₁,⟨σ₁,s₁,hr₁,hq⟩,.pass (x:=.inLoop c) rfl (fun _ _=>.inl (by simp)) harr⟩
   |ret=>exact⟨_,a₁,w₁,⟨σ₁,s₁,hr₁,hq⟩,.pass (x:=.inLoop c) rfl (fun _ _=>.inl (by simp)) harr⟩
   |panic ch=>exact⟨_,a₁,w₁,⟨σ₁,s₁,hr₁,hq⟩,.pass (x:=.inLoop c) rfl (fun _ _=>.inl (by simp)) harr⟩
   |outgrown=>exact⟨_,a₁,w₁,⟨σ₁,s₁,hr₁,hq⟩,.pass (x:=.inLoop c) rfl (fun _ _=>.inl (by simp)) harr⟩
 intro b kk cs hro hb hroom;obtain⟨e,a',w',hq,harr⟩:=key n a w σ0 s hr0 hI b kk cs hro hb hroom;exact⟨e,a',w',hq,.of_steps (.one (fenced_calm hb hroom rfl) stepR_loop) harr⟩
theorem AW.region {id:Nat} {ops:Array Oper} (h:AO P R cx ops Q (List.range ops.size) st):AW P R cx (.region id ops false) Q st :=
 fun σ a w hr=>wpIn_region (h σ a w hr)
theorem AO.nil {ops:Array Oper} (h:Q .normal st):AO P R cx ops Q [] st:=fun σ a w hr=>⟨σ,st,hr,h⟩
theorem AO.value {ops:Array Oper} {i:Nat} {rest:List Nat} {o:Oper} (ho:ops[i]?=some o) (hg:o.guard=none) (hd:∀ c,o.op≠.defer c)
  (h:∀ σ a w,RelS cx σ st a w→∃ v w' σ',(execOp a.eval o).run P w=.ok (.value v) w'∧RelS cx σ' st' (a.put o.dst v) w') (hk:AO P R cx ops Q rest st'):AO P R cx ops Q (i::rest) st:=by
 intro σ a w hr;obtain⟨v,w',σ',hrun,hr'⟩:=h σ a w hr;simp only[wpOpsIn,ho,Region.wanted,hg,if_true];refine⟨fun f _=>Er R f,?_⟩;rw[Oper.semAt_eq _ _ _ hd,hrun];exact hk σ' _ w' hr'
theorem AO.skip {ops:Array Oper} {i:Nat} {rest:List Nat} {o:Oper} (ho:ops[i]?=some o) (hg:o.guard=none) (hd:∀ c,o.op≠.defer c)
  (h:∀ σ a w,RelS cx σ st a w→∃ w' σ',(execOp a.eval o).run P w=.ok .skip w'∧RelS cx σ' st' (a.put o.dst undef) w') (hk:AO P R cx ops Q rest st'):AO P R cx ops Q (i::rest) st:=by
 intro σ a w hr;obtain⟨w',σ',hrun,hr'⟩:=h σ a w hr;simp only[wpOpsIn,ho,Region.wanted,hg,if_true];refine⟨fun f _=>Er R f,?_⟩;rw[Oper.semAt_eq _ _ _ hd,hrun];exact hk σ' _ w' hr'
end rules
end Go.Proofs.Ytenemndpignaoaa
namespace Go.Proofs.Ytenemndpignaoaa
open Go Go.RowKit
def upd (σ:Nat→Hd) (o:Nat) (h:Hd):Nat→Hd:=fun i=>if i=o then h else σ i
theorem AQ (σ:Nat→Hd) (o:Nat) (h:Hd):upd σ o h o=h:=by simp[upd]
theorem AD (σ:Nat→Hd) {o i:Nat} (h:Hd) (hi:i≠o):upd σ o h i=σ i:=by simp[upd,hi]
theorem Ob.ren_some (x:Ob):x.ren some=x:=by
 have h:LV.ren some=id:=funext LV.ren_some;simp[Ob.ren,h]
theorem Tm.ren_some (tm:Tm):tm.ren some=tm:=by
 have h:(fun e:Nat×AV=>(e.1,e.2.ren some))=id:=funext fun e=>by simp[AV.ren_some]
 simp[Tm.ren,h]
theorem H5 (gh:List Tm):gh.map (Tm.ren some)=gh:=by
 have h:Tm.ren some=id:=funext Tm.ren_some;simp[h]
section
variable {cx:Cx} {σ σ':Nat→Hd} {st:St} {a:Act} {w w':World}
theorem RelS.step {ob':List (Option Ob)} {ρ:Ren} (h:RelS cx σ st a w) (hs:Step σ st.ob w σ' ob' w' ρ) (hH:RelH cx w' σ' ob' st.ls) :
  RelS cx σ' { st with tm:=st.tm.ren ρ,ob:=ob',gh:=st.gh.map (Tm.ren ρ) } a w' :=
 ⟨hH,hs.relT h.tm,h.nt,hs.gh h.gh,h.dm.step hs h.h⟩
theorem RelS.step_some {ob':List (Option Ob)} (h:RelS cx σ st a w) (hs:Step σ st.ob w σ' ob' w' some) (hH:RelH cx w' σ' ob' st.ls) :
  RelS cx σ' { st with ob:=ob' } a w':=by
 have:=h.step hs hH;rwa [Tm.ren_some,H5] at this
theorem RelS.drewN (h:RelS cx σ st a w) (n:Nat):RelS cx σ st a (w.drewN n):=by
 have hs:Step σ st.ob w σ st.ob (w.drewN n) some:=⟨Evo.drewN _ _ _ _,fun o o' x e hx=>by cases e;exact hx,fun b hb=>.inl hb⟩;refine h.step_some hs (hs.relH h.h (fun o x ho=>?_) h.h.inj h.h.dom h.h.nbl h.h.box);have:=hs.relO (cx:=cx) (fun _ _ _=>rfl) (h.h.obs o x ho);rwa [Ob.ren_some] at this
theorem RelS.live (h:RelS cx σ st a w) {o:Nat} {x:Ob} (ho:st.ob[o]?=some (some x)) {b k:Nat} (hb:σ o=some (some (b,k))):lvb σ st.ob b:=⟨o,x,k,ho,hb⟩
theorem RelS.new (h:RelS cx σ st a w) (n k:Nat) (x:Ob) (vs rest:List Value) (hv:All2 (RelL w (Xd cx w σ st.ob) (Xe w σ st.ob) σ) vs x.cs)
  (h2:x.bx=true→rest=[]) (h3:x.bx=false→vs.length+rest.length=k*x.sz∧k≤maxLen∧(x.row=true→∀ k',x.cap=some k'→k'=k)) :
  RelS cx (upd σ st.ob.length (some (some (w.heap.size,k)))) { st with ob:=st.ob++[some x] } a ((w.drewN n).alloc (.cells (vs++rest).toArray x.ty)):=by
 have hnew:∀ o h',σ o=some h'→upd σ st.ob.length (some (some (w.heap.size,k))) o=some h':=by
  intro o h' ho;rw[AD]
  ·exact ho
  ·intro e;rw[h.h.dom o (by omega)] at ho;exact absurd ho (by simp)
 have hs:Step σ st.ob w (upd σ st.ob.length (some (some (w.heap.size,k)))) (st.ob++[some x]) ((w.drewN n).alloc (.cells (vs++rest).toArray x.ty)) some:=by
  refine⟨(Evo.drewN _ _ _ n).trans (Evo.alloc _ _ _ _),fun o o' h' e hh=>by cases e;exact hnew o h' hh,?_⟩;rintro b ⟨o,y,k',ho,hb⟩;by_cases e:o=st.ob.length
  ·subst e;rw[AQ] at hb;simp at hb;exact .inr (by omega)
  ·rw[AD _ _ e] at hb;refine .inl ⟨o,y,k',?_,hb⟩;rcases Nat.lt_or_ge o st.ob.length with hlt|hge
   ·rwa [List.getElem?_append_left hlt] at ho
   ·rw[List.getElem?_eq_none (by simp;omega)] at ho;exact absurd ho (by simp)
 refine h.step_some hs (hs.relH h.h ?_ ?_ ?_ (by have:=h.h.nbl;simp;omega) ?_)
 ·intro o y ho;rcases Nat.lt_or_ge o st.ob.length with hlt|hge
  ·rw[List.getElem?_append_left hlt] at ho;rw[AD _ _ (by omega)];have:=hs.relO (cx:=cx) (fun b k e=>?_) (h.h.obs o y ho)
   ·rwa [Ob.ren_some] at this
   ·exact Below.heap_alloc _ _ _ (h.h.lt ⟨o,y,k,ho,e⟩)
  ·rw[List.getElem?_append_right hge] at ho;have e:o=st.ob.length:=by
    rcases Nat.eq_or_lt_of_le hge with e|e
    ·exact e.symm
    ·rw[List.getElem?_eq_none (by simp;omega)] at ho;exact absurd ho (by simp)
   subst e;simp at ho;subst ho;rw[AQ];refine⟨vs,rest,heap_alloc_new (w.drewN n) _,?_,h2,h3⟩;exact hv.mono fun v y _ hy=>by
    have:=hs.relL (cx:=cx) hy;rwa [LV.ren_some] at this
 ·intro o o' y y' b k1 k2 ho ho' hb hb';have key:∀ o y k1,(st.ob++[some x])[o]?=some (some y)→upd σ st.ob.length (some (some (w.heap.size,k))) o=some (some (b,k1))→(o=st.ob.length∧b=w.heap.size)∨(st.ob[o]?=some (some y)∧σ o=some (some (b,k1))):=by
   intro o y k1 ho hb;by_cases e:o=st.ob.length
   ·subst e;rw[AQ] at hb;simp at hb;exact .inl ⟨rfl,hb.1.symm⟩
   ·rw[AD _ _ e] at hb;refine .inr ⟨?_,hb⟩;rcases Nat.lt_or_ge o st.ob.length with hlt|hge
    ·rwa [List.getElem?_append_left hlt] at ho
    ·rw[List.getElem?_eq_none (by simp;omega)] at ho;exact absurd ho (by simp)
  rcases key o y k1 ho hb with ⟨e1,e2⟩|⟨e1,e2⟩ <;> rcases key o' y' k2 ho' hb' with ⟨e3,e4⟩|⟨e3,e4⟩
  ·omega
  ·have:=h.h.lt (b:=b) ⟨o',y',k2,e3,e4⟩;omega
  ·have:=h.h.lt (b:=b) ⟨o,y,k1,e1,e2⟩;omega
  ·exact h.h.inj o o' y y' b k1 k2 e1 e3 e2 e4
 ·intro o ho;rw[AD _ _ (by simp at ho;omega)];exact h.h.dom o (by simp at ho;omega)
 ·intro o y ho hrow hnb;have hlt:o<st.ob.length:=Nat.lt_of_lt_of_le hnb h.h.nbl;rw[List.getElem?_append_left hlt] at ho;rw[AD _ _ (by omega)];exact h.h.box o y ho hrow hnb
theorem RelS.write (h:RelS cx σ st a w) {o:Nat} {x x':Ob} (ho:st.ob[o]?=some (some x)) {b k:Nat} (hb:σ o=some (some (b,k))) (vs rest:List Value)
  (hv:All2 (RelL w (Xd cx w σ st.ob) (Xe w σ st.ob) σ) vs x'.cs) (hty:x'.ty=x.ty) (hrw:x'.row=x.row)
  (h2:x'.bx=true→rest=[]) (h3:x'.bx=false→vs.length+rest.length=k*x'.sz∧k≤maxLen∧(x'.row=true→∀ k',x'.cap=some k'→k'=k)) :
  RelS cx σ { st with ob:=st.ob.set o (some x') } a (w.setRow b (vs++rest).toArray):=by
 have hl:o<st.ob.length:=(List.getElem?_eq_some_iff.1 ho).1;have hlive:∀ (o':Nat) (y:Ob),(st.ob.set o (some x'))[o']?=some (some y)→∃ z:Ob,st.ob[o']?=some (some z):=by
  intro o' y hy;by_cases e:o'=o
  ·subst e;exact⟨x,ho⟩
  ·rw[List.getElem?_set_ne (Ne.symm e)] at hy;exact⟨y,hy⟩
 have hs:Step σ st.ob w σ (st.ob.set o (some x')) (w.setRow b (vs++rest).toArray) some:=by
  refine⟨⟨by simp,fun b' hb' hn=>setRow_other w b b' _ (fun e=>hn ⟨o,x,k,ho,by rw[hb,e]⟩),rfl,rfl,rfl⟩,fun o o' h' e hh=>by cases e;exact hh,?_⟩;rintro b' ⟨o',y,k',ho',hb'⟩;obtain⟨z,hz⟩:=hlive o' y ho';exact .inl ⟨o',z,k',hz,hb'⟩
 have hx:=h.h.obs o x ho;rw[hb] at hx;obtain⟨ws,wr,hw,_⟩:=hx;refine h.step_some hs (hs.relH h.h ?_ ?_ ?_ (by have:=h.h.nbl;simpa using this) ?_)
 ·intro o' y ho';by_cases e:o'=o
  ·subst e;rw[List.getElem?_set_self hl] at ho';simp at ho';subst ho';rw[hb];refine⟨vs,rest,by rw[hty];exact setRow_heap w b _ _ _ _ hw,?_,h2,h3⟩;exact hv.mono fun v y _ hy=>by
    have:=hs.relL (cx:=cx) hy;rwa [LV.ren_some] at this
  ·rw[List.getElem?_set_ne (Ne.symm e)] at ho';have:=hs.relO (cx:=cx) (fun b' k' e'=>?_) (h.h.obs o' y ho')
   ·rwa [Ob.ren_some] at this
   ·exact setRow_other w b b' _ fun e2=>e (h.h.inj o' o y x b k' k ho' ho (by rw[e',e2]) hb)
 ·intro o1 o2 y y' b' k1 k2 h11 h12 h13 h14;obtain⟨z,hz⟩:=hlive o1 y h11;obtain⟨z',hz'⟩:=hlive o2 y' h12;exact h.h.inj o1 o2 z z' b' k1 k2 hz hz' h13 h14
 ·intro o' ho';exact h.h.dom o' (by simpa using ho')
 ·intro o' y ho' hrow hnb;by_cases e:o'=o
  ·subst e;rw[List.getElem?_set_self hl] at ho';simp at ho';subst ho';exact h.h.box o' x ho (hrw ▸ hrow) hnb
  ·rw[List.getElem?_set_ne (Ne.symm e)] at ho';exact h.h.box o' y ho' hrow hnb
end
structure TI where
 agg:Bool
 sz:Nat
 bytes:Nat
 zero:List Value
def tiF (P:Program) (t:Nat):Option TI :=
 match P.info? t,P.underlying t with
 |some i,some d =>
  match i.zero with
  |some z=>some { agg:=(match d with|.struct _|.array _ _=>true|_=>false),sz:=i.size,bytes:=i.bytes,zero:=z.cells.toList }
  |none=>none
 |_,_=>none
def elemF (P:Program) (t:Nat):Option Nat :=
 match P.underlying t with
 |some (.slice e)=>some e
 |_=>none
theorem AE {P:Program} {t e:Nat} (h:elemF P t=some e):P.underlying t=some (.slice e):=by
 unfold elemF at h;split at h
 ·simp at h;subst h;assumption
 ·simp at h
def flds (P:Program) (t:Nat):Option (List (Nat×Nat×Bool)) :=
 match P.underlying t with
 |some (.struct fs)=>fs.toList.mapM fun f=>(tiF P f.type).map fun i=>(f.offset,i.sz,i.agg)
 |_=>none
section ti
variable {P:Program} {w:World} {t:Nat} {ti:TI}
theorem Cg (h:tiF P t=some ti):∃ i d z,P.info? t=some i∧P.underlying t=some d∧i.zero=some z ∧
  ti={ agg:=(match d with|.struct _|.array _ _=>true|_=>false),sz:=i.size,bytes:=i.bytes,zero:=z.cells.toList }:=by
 unfold tiF at h;split at h
 ·rename_i i d h1 h2
  split at h
  ·rename_i z h3
   simp at h;exact⟨i,d,z,h1,h2,h3,h.symm⟩
  ·simp at h
 ·simp at h
theorem Bc (h:tiF P t=some ti):(sizeOf t).run P w=.ok ti.sz w:=by
 obtain⟨i,d,z,h1,h2,h3,rfl⟩:=Cg h;simp[sizeOf,typeInfo,h1]
theorem Es (h:tiF P t=some ti):(isAgg t).run P w=.ok ti.agg w:=by
 obtain⟨i,d,z,h1,h2,h3,rfl⟩:=Cg h;simp only[isAgg,Sem.run_bind,run_underlying h2,Result.andThen_ok];cases d <;> rfl
theorem GM (h:tiF P t=some ti):∃ z,(zeroValue t).run P w=.ok z w∧z.cells.toList=ti.zero:=by
 obtain⟨i,d,z,h1,h2,h3,rfl⟩:=Cg h;exact⟨z,by simp[zeroValue,typeInfo,h1,h3],rfl⟩
theorem F8 (h:tiF P t=some ti) (ha:ti.agg=true) (ad:Addr) (cs:List Value) (hl:cs.length=ti.sz) (hc:∀ j v,cs[j]?=some v→w.cell? (ad.add j)=some v) :
  (loadVar t ad).run P w=.ok (.agg cs.toArray) w:=by
 simp[loadVar,Es h,ha,Bc h,← hl,run_loadCells_list w ad cs hc]
theorem FR (h:tiF P t=some ti) (ha:ti.agg=false) (ad:Addr) {v:Value} (hc:w.cell? ad=some v) :
  (loadVar t ad).run P w=.ok v w:=by
 simp[loadVar,Es h,ha,hc]
end ti
theorem Cr (b off j:Nat):(⟨b,off,none⟩:Addr).add j=⟨b,off+j,none⟩:=by unfold Addr.add;split <;> simp_all
def LV.ok:LV→Bool
 |.u=>false
 |_=>true
def AV.ok:AV→Bool
 |.l x=>x.ok
 |.g cs=>cs.all LV.ok
 |.t _=>false
def AV.cells:AV→List LV
 |.l x=>[x]
 |.g cs=>cs
 |.t _=>[]
section
variable {w:World} {X Xa:Nat→Prop} {σ:Nat→Hd}
theorem RelL.one {v:Value} {x:LV} (h:RelL w X Xa σ v x) (hx:x.ok=true):v.oneCell'=true:=by
 cases x with
 |u=>simp[LV.ok] at hx
 |s x=>obtain⟨rfl,h1⟩:=h;exact h1
 |d al sz es=>exact Rd.one h
 |p o off=>obtain⟨b,c,_,rfl⟩:=h;rfl
 |q al cs off=>obtain⟨b,base,cv,_,rfl,_⟩:=h;rfl
 |r o sz lo hi=>rcases h with ⟨_,_,_,rfl⟩|⟨b,k,off,_,_,_,rfl,_⟩ <;> rfl
 |f fn cs=>obtain⟨vs,rfl,_⟩:=h;rfl
 |e=>obtain⟨ad,rfl⟩:=h;rfl
theorem Ht {v:Value} (h:v.oneCell'=true):v.cells=#[v]:=by
 cases v <;> first|rfl|simp[Value.oneCell'] at h
theorem RelV.cells {v:Value} {x:AV} (h:RelV w X Xa σ v x) (hx:x.ok=true):All2 (RelL w X Xa σ) v.cells.toList x.cells∧∀ u∈v.cells.toList,u.oneCell'=true:=by
 cases x with
 |l x =>
  have h1:=RelL.one h (show x.ok=true from hx);rw[Ht h1];exact⟨⟨h,trivial⟩,fun u hu=>by simp at hu;subst hu;exact h1⟩
 |g cs =>
  obtain⟨vs,rfl,hvs⟩:=h;refine⟨by simpa [Value.cells,AV.cells] using hvs,fun u hu=>?_⟩;have hu':u∈vs:=by simpa [Value.cells] using hu
  obtain⟨i,hi⟩:=List.getElem?_of_mem hu';have hl:i<cs.length:=by rw[← hvs.length];exact (List.getElem?_eq_some_iff.1 hi).1
  have hc:=List.getElem?_eq_getElem hl;exact (hvs.get i hi hc).one (List.all_eq_true.1 hx _ (List.mem_of_getElem? hc))
 |t xs=>simp[AV.ok] at hx
end
def setAt {α:Type}:List α→Nat→List α→List α
 |l,_,[]=>l
 |l,i,c::cs=>setAt (l.set i c) (i+1) cs
theorem C5 {α:Type}:∀ (cs:List α) (l:List α) (i:Nat),(setAt l i cs).length=l.length
 |[],_,_=>rfl
 |c::cs,l,i=>by rw[setAt,C5 cs];simp
theorem CK {α:Type}:∀ (cs:List α) (l:List α) (i:Nat),i+cs.length≤l.length→setAt l i cs=l.take i++cs++l.drop (i+cs.length)
 |[],l,i,_=>by simp[setAt]
 |c::cs,l,i,h=>by
  rw[setAt,CK cs (l.set i c) (i+1) (by simp at h ⊢;omega)];have hi:i<l.length:=by simp at h;omega
  have e1:(l.set i c).take (i+1)=l.take i++[c]:=by
   rw[List.take_succ_eq_append_getElem (by simpa using hi),List.take_set_of_le (Nat.le_refl _)];simp
  have e2:(l.set i c).drop (i+1+cs.length)=l.drop (i+(c::cs).length):=by
   rw[List.drop_set_of_lt (by omega)];congr 1
   simp;omega
  rw[e1,e2];simp
theorem All2.setAt {α β:Type} {R:α→β→Prop}:∀ {cs:List α} {ds:List β} {as:List α} {bs:List β} (i:Nat),All2 R as bs→All2 R cs ds→All2 R (Go.Proofs.Ytenemndpignaoaa.setAt as i cs) (Go.Proofs.Ytenemndpignaoaa.setAt bs i ds)
 |[],[],_,_,_,h,_=>h
 |c::cs,d::ds,as,bs,i,h,h'=>All2.setAt (i+1) (h.set i h'.1) h'.2
 |[],_::_,_,_,_,_,h'=>h'.elim
 |_::_,[],_,_,_,_,h'=>h'.elim
theorem Ez {α:Type}:∀ (cs:List α) (l r:List α) (i:Nat),i+cs.length≤l.length→setAt (l++r) i cs=setAt l i cs++r
 |[],_,_,_,_=>rfl
 |c::cs,l,r,i,h=>by
  simp only[List.length_cons] at h;rw[setAt,setAt,List.set_append_left _ _ (by omega),Ez cs _ _ _ (by simp;omega)]
end Go.Proofs.Ytenemndpignaoaa
namespace Go.Proofs.Ytenemndpignaoaa
open Go Go.RowKit
def wh {α:Type}:Option α→(α→Prop)→Prop
 |some a,k=>k a
 |none,_=>False
theorem Gr {α:Type} (a:α) (k:α→Prop):wh (some a) k=k a:=rfl
theorem Ax {α:Type} {o:Option α} {k:α→Prop} (h:wh o k):∃ a,o=some a∧k a:=by
 cases o with
 |none=>exact h.elim
 |some a=>exact⟨a,rfl,h⟩
def St.add (st:St) (x:Ob):St:={ st with ob:=st.ob++[some x] }
def St.setO (st:St) (o:Nat) (x:Ob):St:={ st with ob:=st.ob.set o (some x) }
def hdr (o sz n:Nat):AV:=.l (.r o sz 0 n)
def ptr (o:Nat):AV:=.l (.p o 0)
def OpOk (P:Program) (cx:Cx) (o:Oper) (st st':St):Prop :=
 ∀ σ a w,RelS cx σ st a w→∃ v w' σ',(execOp a.eval o).run P w=.ok (.value v) w'∧RelS cx σ' st' (a.put o.dst v) w'
def OpSkip (P:Program) (cx:Cx) (o:Oper) (st st':St):Prop :=
 ∀ σ a w,RelS cx σ st a w→∃ w' σ',(execOp a.eval o).run P w=.ok .skip w'∧RelS cx σ' st' (a.put o.dst undef) w'
def ldX (ti:TI) (cs:List LV) (off:Nat):Option AV :=
 if ti.agg=true then (if off+ti.sz≤cs.length then some (.g ((cs.drop off).take ti.sz)) else none) else (cs[off]?).map .l
def St.obj (st:St) (o:Nat):Option Ob:=(st.ob[o]?).bind id
theorem AK {st:St} {o:Nat} {x:Ob} (h:st.obj o=some x):st.ob[o]?=some (some x):=by
 unfold St.obj at h;cases ho:st.ob[o]? with
 |none=>rw[ho] at h;simp at h
 |some y=>rw[ho] at h;simp at h;subst h;rfl
def St.at (st:St):AV→Option (List LV×Nat)
 |.l (.q al cs off)=>some (cs.map (T.lv al),off)
 |.l (.p o off)=>(st.obj o).map fun x=>(x.cs,off)
 |_=>none
section
variable {P:Program} {cx:Cx} {o:Oper} {st:St} {σ:Nat→Hd} {a:Act} {w:World}
theorem RelL.lv {X Xa:Nat→Prop} {al:Bool} {v:Value} {t:T} (h:Rd w (if al=true then Xa else X) v t):RelL w X Xa σ v (t.lv al):=by
 cases t with
 |v x=>cases h with|v _ h1=>exact⟨rfl,h1⟩
 |sl sz es=>exact h
theorem RelS.at (h:RelS cx σ st a w) {v:Value} {x:AV} (hv:RelV w (Xd cx w σ st.ob) (Xe w σ st.ob) σ v x) {cs:List LV} {off:Nat} (hx:st.at x=some (cs,off)) :
  ∃ b base,v=.pointer (some ⟨b,base+off,none⟩)∧∀ j c,cs[j]?=some c→∃ u,w.cell? ⟨b,base+j,none⟩=some u∧RelL w (Xd cx w σ st.ob) (Xe w σ st.ob) σ u c:=by
 unfold St.at at hx;split at hx
 ·rename_i al ts off'
  simp at hx;obtain⟨rfl,rfl⟩:=hx;obtain⟨b,base,cv,hb,rfl,hc⟩:=hv;refine⟨b,base,rfl,fun j c hj=>?_⟩;rw[List.getElem?_map] at hj;obtain⟨t,ht,rfl⟩:=Option.map_eq_some_iff.1 hj;exact⟨cv j,(hc j t ht).1,RelL.lv (hc j t ht).2⟩
 ·rename_i o' off'
  obtain⟨y,hy,hxy⟩:=Option.map_eq_some_iff.1 hx;simp at hxy;obtain⟨rfl,rfl⟩:=hxy;obtain⟨b,k,hb,rfl⟩:=hv;have hO:=h.h.obs o' y (AK hy);rw[hb] at hO;obtain⟨vs,rest,h1,h2,_⟩:=hO;refine⟨b,0,by simp,fun j c hj=>?_⟩;obtain⟨u,hu,hr⟩:=h2.at j hj;refine⟨u,?_,hr⟩;rw[cell_of_row w b (0+j) _ _ _ h1];have hlt:j<vs.length:=(List.getElem?_eq_some_iff.1 hu).1;simp[List.getElem?_append_left hlt,hu]
 ·simp at hx
theorem OpOk.calm {av:AV} (h:∀ σ a w,RelS cx σ st a w→∃ v n,(execOp a.eval o).run P w=.ok (.value v) (w.drewN n)∧RelV w (Xd cx w σ st.ob) (Xe w σ st.ob) σ v av) :
  OpOk P cx o st (st.put o.dst av):=by
 intro σ a w hr;obtain⟨v,n,hrun,hv⟩:=h σ a w hr;exact⟨v,w.drewN n,σ,hrun,(hr.put o.dst hv).drewN n⟩
theorem OpOk.move {x:Operand} (ho:o.op=.move x∨o.op=.assign x):OpOk P cx o st (st.put o.dst (st.ev x)) :=
 .calm fun σ a w hr=>⟨a.eval x,0,by rcases ho with ho|ho <;> simp[execOp,ho,World.drewN],hr.ev x⟩
theorem OpOk.pick {c x y:Operand} {b:Bool} (ho:o.op=.pick c x y) (hc:st.ev c=.l (.s (.bool b))):OpOk P cx o st (st.put o.dst (bif b then st.ev x else st.ev y)) :=
 .calm fun σ a w hr=>by
  have h:=hr.ev c;rw[hc] at h;have h':a.eval c=.bool b:=h.1;refine⟨if b then a.eval x else a.eval y,0,?_,?_⟩
  ·simp[execOp,ho,h',asBool,World.drewN]
  ·cases b
   ·exact hr.ev y
   ·exact hr.ev x
theorem RelS.load {t:Nat} {x:AV} {v0:Value} {ti:TI} {cs:List LV} {off:Nat} {v:AV} (hr:RelS cx σ st a w) (hv0:RelV w (Xd cx w σ st.ob) (Xe w σ st.ob) σ v0 x) (hti:tiF P t=some ti) (hx:st.at x=some (cs,off)) (hv:ldX ti cs off=some v) :
  ∃ ad u,v0=.pointer (some ad)∧(loadVar t ad).run P w=.ok u w∧RelV w (Xd cx w σ st.ob) (Xe w σ st.ob) σ u v:=by
  obtain⟨b,base,he,hc⟩:=hr.at hv0 hx;unfold ldX at hv;cases ha:ti.agg
  ·rw[ha] at hv;simp only[Bool.false_eq_true,if_false] at hv;obtain⟨c,hcc,rfl⟩:=Option.map_eq_some_iff.1 hv;obtain⟨u,hu,hrel⟩:=hc off c hcc;exact⟨_,u,he,FR hti ha _ hu,hrel⟩
  ·rw[ha] at hv;simp only[if_true] at hv;split at hv
   ·rename_i hle
    simp at hv;subst hv;have hall:∀ j,j<ti.sz→∃ u,w.cell? ⟨b,base+(off+j),none⟩=some u∧(∀ c,cs[off+j]?=some c→RelL w (Xd cx w σ st.ob) (Xe w σ st.ob) σ u c):=by
     intro j hj;have hlt:off+j<cs.length:=by omega
     obtain⟨u,h1,h2⟩:=hc (off+j) _ (List.getElem?_eq_getElem hlt);exact⟨u,h1,fun c hcc=>by rw[List.getElem?_eq_getElem hlt] at hcc;simp at hcc;subst hcc;exact h2⟩
    have hch:∃ f:Nat→Value,∀ j,j<ti.sz→w.cell? ⟨b,base+(off+j),none⟩=some (f j)∧(∀ c,cs[off+j]?=some c→RelL w (Xd cx w σ st.ob) (Xe w σ st.ob) σ (f j) c) :=
     ⟨fun j=>if h:j<ti.sz then (hall j h).choose else undef,fun j hj=>by simp only[hj,dif_pos];exact (hall j hj).choose_spec⟩
    obtain⟨f,hf⟩:=hch;have hlen:((List.range ti.sz).map f).length=ti.sz:=by simp
    refine⟨_,.agg ((List.range ti.sz).map f).toArray,he,?_,(List.range ti.sz).map f,rfl,?_⟩
    ·exact F8 (w:=w) hti ha ⟨b,base+off,none⟩ ((List.range ti.sz).map f) hlen (fun j v hj=>by
      rw[Cr];have hlt:j<ti.sz:=by have:=(List.getElem?_eq_some_iff.1 hj).1;simpa using this
      rw[List.getElem?_map,List.getElem?_range hlt] at hj;simp at hj;subst hj;rw[Nat.add_assoc];exact (hf j hlt).1)
    ·refine All2.of_get (by simp;omega) fun i v c hi hcc=>?_;have hlt:i<ti.sz:=by have:=(List.getElem?_eq_some_iff.1 hi).1;simpa using this
     rw[List.getElem?_map,List.getElem?_range hlt] at hi;simp at hi;subst hi;refine (hf i hlt).2 c ?_;rw[List.getElem?_take_of_lt hlt,List.getElem?_drop] at hcc;exact hcc
   ·simp at hv
theorem OpOk.load {t:Nat} {x:Operand} {ti:TI} {cs:List LV} {off:Nat} {v:AV} (ho:o.op=.load t x) (hti:tiF P t=some ti) (hx:st.at (st.ev x)=some (cs,off)) (hv:ldX ti cs off=some v) :
  OpOk P cx o st (st.put o.dst v) :=
 .calm fun σ a w hr=>by
  obtain⟨ad,u,he,hl,hrel⟩:=hr.load (hr.ev x) hti hx hv;exact⟨u,0,by simp[execOp,ho,Instr.loadAt,he,Instr.sureAddr,hl,World.drewN],hrel⟩
end
section
variable {P:Program} {cx:Cx} {o:Oper} {st:St}
theorem OpSkip.store {t:Nat} {x y:Operand} {ti:TI} {ob off:Nat} {z:Ob} (ho:o.op=.store t x y) (hti:tiF P t=some ti) (hx:st.ev x=.l (.p ob off)) (hz:st.obj ob=some z)
  (hok:(st.ev y).ok=true) (hsz:(st.ev y).cells.length=ti.sz) (hfit:off+ti.sz≤z.cs.length) :
  OpSkip P cx o st ((st.setO ob { z with cs:=setAt z.cs off (st.ev y).cells }).put o.dst (.l .u)):=by
 intro σ a w hr;have hp:=hr.ev x;rw[hx] at hp;obtain⟨b,k,hb,he⟩:=hp;have hO:=hr.h.obs ob z (AK hz);rw[hb] at hO;obtain⟨vs,rest,h1,h2,h4,h5⟩:=hO;obtain⟨hc,hone⟩:=(hr.ev y).cells hok;have hl:(a.eval y).cells.toList.length=ti.sz:=by rw[hc.length,hsz]
 have hn:(a.eval y).cells.size=ti.sz:=by simpa using hl
 have hvl:vs.length=z.cs.length:=h2.length;have hrun:(storeVar t ⟨b,off,none⟩ (a.eval y)).run P w=.ok () (w.setRow b (setAt vs off (a.eval y).cells.toList++rest).toArray):=by
  have hst:=run_storeCells_at P b off z.ty (a.eval y).cells.toList 0 (vs++rest).toArray w h1 (by simp only[List.size_toArray,List.length_append];omega) hone;have e:(vs++rest).toArray.toList.take (off+0)++(a.eval y).cells.toList++(vs++rest).toArray.toList.drop (off+0+(a.eval y).cells.toList.length)=setAt vs off (a.eval y).cells.toList++rest:=by
   rw[← Ez _ _ _ _ (by omega),CK _ _ _ (by simp only[List.length_append];omega)];simp
  rw[e] at hst;simp[storeVar,Bc hti,hn,hst]
 refine⟨w.setRow b (setAt vs off (a.eval y).cells.toList++rest).toArray,σ,?_,?_⟩
 ·simp only[execOp,ho,Instr.storeAt,he,Sem.run_bind,Result.andThen_ok,Instr.sureAddr,Sem.run_pure,hrun]
 ·refine (hr.write (x':={ z with cs:=setAt z.cs off (st.ev y).cells }) (AK hz) hb (setAt vs off (a.eval y).cells.toList) rest (All2.setAt off h2 hc) rfl rfl h4 ?_).put o.dst trivial;rw[C5];exact h5
theorem OpOk.new {av:AV} {x:Ob} (hav:∀ w X Xa σ v b k,σ st.ob.length=some (some (b,k))→v=Value.pointer (some ⟨b,0,none⟩)→k=1→RelV w X Xa σ v av) (hrow:x.bx=true)
  (h:∀ σ a w,RelS cx σ st a w→∃ vs:List Value,(execOp a.eval o).run P w=.ok (.value (.pointer (some ⟨w.heap.size,0,none⟩))) (w.alloc (.cells vs.toArray x.ty)) ∧
   All2 (RelL w (Xd cx w σ st.ob) (Xe w σ st.ob) σ) vs x.cs) :
  OpOk P cx o st ((st.add x).put o.dst av):=by
 intro σ a w hr;obtain⟨vs,hrun,hv⟩:=h σ a w hr;have hn:=hr.new 0 1 x vs [] hv (fun _=>rfl) (fun e=>by rw[hrow] at e;simp at e);rw[List.append_nil] at hn;exact⟨_,_,_,hrun,hn.put o.dst (hav _ _ _ _ _ w.heap.size 1 (AQ _ _ _) rfl rfl)⟩
theorem Cn {w:World} {X Xa:Nat→Prop} {σ:Nat→Hd}:∀ vs:List Value,vs.all (·.oneCell')=true→All2 (RelL w X Xa σ) vs (vs.map .s)
 |[],_=>trivial
 |v::vs,h=>by simp at h;exact⟨⟨rfl,h.1⟩,Cn vs (by simpa using h.2)⟩
theorem OpOk.alloc {t:Nat} {ti:TI} (ho:o.op=.alloc t) (hti:tiF P t=some ti) (hz:ti.zero.all (·.oneCell')=true) :
  OpOk P cx o st ((st.add ⟨t,ti.sz,false,none,ti.zero.map .s⟩).put o.dst (ptr st.ob.length)):=by
 refine OpOk.new (av:=ptr st.ob.length) (fun w X Xa σ v b k hk hv _=>(show RelL w X Xa σ v (.p st.ob.length 0) from ⟨b,k,hk,hv⟩)) rfl fun σ a w hr=>⟨ti.zero,?_,Cn _ hz⟩;obtain⟨z,hzr,hzl⟩:=GM (w:=w) hti;have hz2:z.cells=ti.zero.toArray:=by rw[← hzl]
 simp[execOp,ho,Instr.alloc,hzr,newVar,newRow,hz2]
theorem OpOk.box {t:Nat} {x:Operand} (ho:o.op=.box t x) (hok:(st.ev x).ok=true) :
  OpOk P cx o st ((st.add ⟨t,(st.ev x).cells.length,false,none,(st.ev x).cells⟩).put o.dst (ptr st.ob.length)):=by
 refine OpOk.new (av:=ptr st.ob.length) (fun w X Xa σ v b k hk hv _=>(show RelL w X Xa σ v (.p st.ob.length 0) from ⟨b,k,hk,hv⟩)) rfl fun σ a w hr=>?_;obtain⟨hc,h1⟩:=(hr.ev x).cells hok;exact⟨(a.eval x).cells.toList,by simp[execOp,ho,Instr.box,newVar,newRow],hc⟩
end
end Go.Proofs.Ytenemndpignaoaa
namespace Go.Proofs.Ytenemndpignaoaa
open Go Go.RowKit
def fillA (place:Nat→Option (Nat×Nat)):List LV→List (Nat×AV)→Option (List LV)
 |cells,[]=>some cells
 |cells,(i,v)::rest =>
  match place i with
  |none=>none
  |some (off,size)=>if v.ok=true∧v.cells.length=size∧off+size≤cells.length then fillA place (setAt cells off v.cells) rest else none
theorem F9 (off:Nat):∀ (l:List Value) (k:Nat) (cells:Array Value),((l.zipIdx k).foldl (fun cs (x:Value×Nat)=>cs.setIfInBounds (off+x.2) x.1) cells).toList=setAt cells.toList (off+k) l
 |[],_,_=>rfl
 |c::l,k,cells=>by
  rw[List.zipIdx_cons,List.foldl_cons,F9 off l (k+1),setAt,Array.toList_setIfInBounds];rfl
theorem FS {w:World} {X Xa:Nat→Prop} {σ:Nat→Hd} (place:Nat→Option (Nat×Nat)):∀ (parts:List (Nat×Value)) (partsA:List (Nat×AV)) (cells:Array Value) (cellsA cs:List LV),
  All2 (fun p q=>p.1=q.1∧RelV w X Xa σ p.2 q.2) parts partsA→All2 (RelL w X Xa σ) cells.toList cellsA→fillA place cellsA partsA=some cs →
  ∃ arr,Instr.fill place cells parts=some arr∧All2 (RelL w X Xa σ) arr.toList cs
 |[],[],cells,cellsA,cs,_,hc,h=>by
  simp[fillA] at h;subst h;exact⟨cells,rfl,hc⟩
 |(i,v)::parts,(j,av)::partsA,cells,cellsA,cs,hp,hc,h=>by
  obtain⟨⟨e,hv⟩,hp'⟩:=hp;simp only at e hv;subst e;unfold fillA at h;cases hpl:place i with
  |none=>rw[hpl] at h;simp at h
  |some os =>
   obtain⟨off,size⟩:=os;rw[hpl] at h;simp only at h;split at h
   ·rename_i hcond
    obtain⟨hok,hl,hfit⟩:=hcond;obtain⟨hvc,hv1⟩:=hv.cells hok;have hsz:v.cells.size=size:=by have:=hvc.length;simpa [hl] using this
    have hcl:cells.size=cellsA.length:=by simpa using hc.length
    have e:=F9 off v.cells.toList 0 cells;rw[Nat.add_zero] at e;obtain⟨arr,ha,hr⟩:=FS place parts partsA (v.cells.zipIdx.foldl (fun cs (c,j)=>cs.setIfInBounds (off+j) c) cells) _ cs hp' (by
     rw[← Array.foldl_toList,Array.toList_zipIdx,e];exact All2.setAt off hc hvc) h
    refine⟨arr,?_,hr⟩;unfold Instr.fill;rw[hpl];simp only;rw[if_neg]
    ·exact ha
    ·simp only[Bool.or_eq_true,decide_eq_true_eq,not_or];omega
   ·simp at h
 |[],_::_,_,_,_,hp,_,_=>hp.elim
 |_::_,[],_,_,_,hp,_,_=>hp.elim
theorem FI {P:Program}:∀ (fs:List Field) (out:List (Nat×Nat×Bool)),(fs.mapM fun f=>(tiF P f.type).map fun i=>(f.offset,i.sz,i.agg))=some out →
  (fs.mapM fun f=>(P.info? f.type).map fun i=>(f.offset,i.size))=some (out.map fun x=>(x.1,x.2.1))
 |[],out,h=>by simp at h;subst h;rfl
 |f::fs,out,h=>by
  rw[List.mapM_cons] at h ⊢;cases ht:tiF P f.type with
  |none=>rw[ht] at h;simp at h
  |some ti =>
   cases hr:(fs.mapM fun f=>(tiF P f.type).map fun i=>(f.offset,i.sz,i.agg)) with
   |none=>rw[ht,hr] at h;simp at h
   |some rest =>
    rw[ht,hr] at h;simp at h;subst h;obtain⟨i,d,z,h1,_,_,rfl⟩:=Cg ht;rw[FI fs rest hr,h1];simp
theorem FT {P:Program}:∀ (fs:List Field) (out:List (Nat×Nat×Bool)) (j:Nat) (x:Nat×Nat×Bool),(fs.mapM fun f=>(tiF P f.type).map fun i=>(f.offset,i.sz,i.agg))=some out→out[j]?=some x →
  ∃ f ti,fs[j]?=some f∧tiF P f.type=some ti∧x=(f.offset,ti.sz,ti.agg)
 |[],out,j,x,h,hx=>by simp at h;subst h;simp at hx
 |f::fs,out,j,x,h,hx=>by
  rw[List.mapM_cons] at h;cases ht:tiF P f.type with
  |none=>rw[ht] at h;simp at h
  |some ti =>
   cases hr:(fs.mapM fun f=>(tiF P f.type).map fun i=>(f.offset,i.sz,i.agg)) with
   |none=>rw[ht,hr] at h;simp at h
   |some rest =>
    rw[ht,hr] at h;simp at h;subst h;cases j with
    |zero=>simp at hx;exact⟨f,ti,rfl,ht,hx.symm⟩
    |succ j=>exact FT fs rest j x hr (by simpa using hx)
section
variable {P:Program} {cx:Cx} {o:Oper} {st:St}
theorem Fd {σ:Nat→Hd} {a:Act} {w:World} (hr:RelS cx σ st a w):∀ l:List (Nat×Operand),
  All2 (fun (p:Nat×Value) (q:Nat×AV)=>p.1=q.1∧RelV w (Xd cx w σ st.ob) (Xe w σ st.ob) σ p.2 q.2) (l.map fun x=>(x.1,a.eval x.2)) (l.map fun x=>(x.1,st.ev x.2))
 |[]=>trivial
 |(i,x)::l=>⟨⟨rfl,hr.ev x⟩,Fd hr l⟩
theorem OpOk.build {t:Nat} {parts:Array (Nat×Operand)} {ti:TI} {fs:List (Nat×Nat×Bool)} {cs:List LV} (ho:o.op=.build t parts) (hti:tiF P t=some ti) (hfs:flds P t=some fs)
  (hz:ti.zero.all (·.oneCell')=true) (hc:fillA (fun i=>(fs[i]?).map fun x=>(x.1,x.2.1)) (ti.zero.map .s) (parts.toList.map fun x=>(x.1,st.ev x.2))=some cs) :
  OpOk P cx o st (st.put o.dst (.g cs)):=by
 obtain⟨i,d,z,h1,h2,h3,rfl⟩:=Cg hti;unfold flds at hfs;rw[h2] at hfs;split at hfs
 ·rename_i fields hd
  simp at hd;subst hd;refine .calm fun σ a w hr=>?_;obtain⟨arr,ha,hrel⟩:=FS (w:=w) (fun i=>(fs[i]?).map fun x=>(x.1,x.2.1)) (parts.toList.map fun x=>(x.1,a.eval x.2)) _ z.cells _ cs (Fd hr _) (Cn _ hz) hc;have hb:P.built t (parts.map fun (i,x)=>(i,a.eval x)).toList=some arr:=by
   unfold Program.built;rw[h1,h2];simp only[h3,FI _ _ hfs];rw[← ha];simp
  exact⟨.agg arr,0,by simp[execOp,ho,run_build w t _ arr hb,World.drewN],arr.toList,rfl,hrel⟩
 ·simp at hfs
def repZ:Nat→List Value→List Value
 |0,_=>[]
 |n+1,z=>z++repZ n z
theorem By (z:List Value):∀ n,(repZ n z).length=n*z.length
 |0=>by simp[repZ]
 |n+1=>by simp[repZ,By z n,Nat.add_mul];omega
theorem D3 {z:List Value} {u:Value}:∀ n,u∈repZ n z→u∈z
 |0,h=>by simp[repZ] at h
 |n+1,h=>by
  simp only[repZ,List.mem_append] at h;rcases h with h|h
  ·exact h
  ·exact D3 n h
theorem Et (z:Array Value):∀ n,((Array.range (n*z.size)).map fun i=>z[i % z.size]!).toList=repZ n z.toList
 |0=>by simp[repZ]
 |n+1=>by
  have ih:=Et z n;rw[repZ,← ih];rcases Nat.eq_zero_or_pos z.size with h0|h0
  ·have:z=#[]:=Array.eq_empty_of_size_eq_zero h0;subst this;simp
  ·have e:(n+1)*z.size=z.size+n*z.size:=by rw[Nat.add_mul];omega
   simp only[Array.toList_map,Array.toList_range,e,List.range_add,List.map_append,List.map_map];congr 1
   ·apply List.ext_getElem
    ·simp
    ·intro i hi1 hi2;simp at hi1 ⊢;rw[Nat.mod_eq_of_lt hi1];simp[hi1]
   ·apply List.map_congr_left;intro i _;simp
theorem OpOk.buildSlice {t e len:Nat} {parts:Array (Nat×Operand)} {ti:TI} {cs:List LV} (ho:o.op=.buildSlice t len parts) (he:elemF P t=some e) (hti:tiF P e=some ti)
  (hz:ti.zero.all (·.oneCell')=true) (hzl:ti.zero.length=ti.sz) (hbig:len*ti.sz≤16777216) (hbig2:len≤16777216)
  (hc:fillA (fun i=>some (i*ti.sz,ti.sz)) ((repZ len ti.zero).map .s) (parts.toList.map fun x=>(x.1,st.ev x.2))=some cs) :
  OpOk P cx o st ((st.add ⟨e,ti.sz,true,none,cs⟩).put o.dst (hdr st.ob.length ti.sz len)):=by
 intro σ a w hr;obtain⟨z,hzr,hzl2⟩:=GM (w:=w) hti;have hz0:(if len*ti.sz=0 then (pure #[]:Sem (Array Value)) else do pure (← zeroValue e).cells).run P w=.ok (if len*ti.sz=0 then #[] else z.cells) w:=by
  split
  ·rfl
  ·simp[hzr]
 have hzs:z.cells.size=ti.sz:=by rw[← hzl,← hzl2];simp
 have hrange:((Array.range (len*ti.sz)).map fun i=>(if len*ti.sz=0 then #[] else z.cells)[i % (if len*ti.sz=0 then #[] else z.cells).size]!).toList=repZ len ti.zero:=by
  split
  ·rename_i h0
   have:(repZ len ti.zero).length=0:=by rw[By,hzl];exact h0
   rw[List.eq_nil_of_length_eq_zero this,h0];simp
  ·rw[← hzl2,← Et,hzs]
 obtain⟨arr,ha,hrel⟩:=FS (w:=w) (fun i=>some (i*ti.sz,ti.sz)) (parts.toList.map fun x=>(x.1,a.eval x.2)) _
  ((Array.range (len*ti.sz)).map fun i=>(if len*ti.sz=0 then #[] else z.cells)[i % (if len*ti.sz=0 then #[] else z.cells).size]!) _ cs (Fd hr _) (by rw[hrange];exact Cn _ (List.all_eq_true.2 fun u hu=>List.all_eq_true.1 hz u (D3 _ hu))) hc
 have hfl:∀ (l:List (Nat×AV)) (c c':List LV),fillA (fun i=>some (i*ti.sz,ti.sz)) c l=some c'→c'.length=c.length:=by
  intro l;induction l with
  |nil=>intro c c' h;simp[fillA] at h;rw[h]
  |cons x l ih =>
   intro c c' h;unfold fillA at h;simp only at h;split at h
   ·rw[ih _ _ h,C5]
   ·simp at h
 have hlen:cs.length=len*ti.sz:=by rw[hfl _ _ _ hc,List.length_map,By,hzl]
 have hal:arr.toList.length=len*ti.sz:=by rw[hrel.length,hlen]
 have hn:=hr.new 0 len ⟨e,ti.sz,true,none,cs⟩ arr.toList [] hrel (fun h=>by simp at h) (fun _=>⟨by simpa using hal,by unfold maxLen;omega,fun _ k' h=>by simp at h⟩);rw[List.append_nil] at hn;refine⟨.slice (some ⟨w.heap.size,0,none⟩) len len,_,_,?_,hn.put o.dst ?_⟩
 ·have hbig':¬ len*ti.sz > 2 ^ 24:=by omega
  have hps:(parts.map fun (i,x)=>(i,a.eval x)).toList=parts.toList.map fun x=>(x.1,a.eval x.2):=by simp
  by_cases h0:len*ti.sz=0
  ·simp only[h0,if_true] at ha;have h0':¬ (0 > 2 ^ 24):=by omega
   simp[execOp,ho,Instr.buildSlice,run_underlying (AE he),Bc hti,h0,hps,newRow,World.drewN];simp at ha;rw[ha];simp
  ·simp only[if_neg h0] at ha;simp[execOp,ho,Instr.buildSlice,run_underlying (AE he),Bc hti,h0,hbig',hzr,hps,newRow,World.drewN,ha]
 ·refine .inr ⟨w.heap.size,len,0,AQ _ _ _,Nat.zero_le _,Nat.le_refl _,by simp,fun _=>by simp⟩
end
end Go.Proofs.Ytenemndpignaoaa
namespace Go.Proofs.Ytenemndpignaoaa
open Go Go.RowKit
section
variable {P:Program} {cx:Cx} {o:Oper} {st:St}
def LV.add:LV→Nat→LV
 |.p ob off,n=>.p ob (off+n)
 |.q al cs off,n=>.q al cs (off+n)
 |_,_=>.u
theorem RelL.add {w:World} {X Xa:Nat→Prop} {σ:Nat→Hd} {b off:Nat} {x:LV} (h:RelL w X Xa σ (.pointer (some ⟨b,off,none⟩)) x) (n:Nat):RelL w X Xa σ (.pointer (some ⟨b,off+n,none⟩)) (x.add n):=by
 cases x with
 |p ob off' =>
  obtain⟨b',c,hb,he⟩:=h;simp at he;obtain⟨rfl,rfl⟩:=he;exact⟨b,c,hb,rfl⟩
 |q al cs off' =>
  obtain⟨b',base,cv,hb,he,hc⟩:=h;simp at he;obtain⟨rfl,rfl⟩:=he;exact⟨b,base,cv,hb,by simp[Nat.add_assoc],hc⟩
 |_=>trivial
theorem Hu {w:World} {X Xa:Nat→Prop} {σ:Nat→Hd} {v:Value} {x:LV} (h:RelL w X Xa σ v x) (hx:x.add 0≠.u):∃ b off,v=.pointer (some ⟨b,off,none⟩):=by
 cases x with
 |p ob off'=>obtain⟨b,c,_,rfl⟩:=h;exact⟨_,_,rfl⟩
 |q al cs off'=>obtain⟨b,base,cv,_,rfl,_⟩:=h;exact⟨_,_,rfl⟩
 |_=>exact absurd rfl hx
def LV.isPtr:LV→Bool
 |.p _ _=>true
 |.q _ _ _=>true
 |_=>false
theorem LV.isPtr_add {x:LV} (h:x.isPtr=true):x.add 0≠.u:=by
 cases x <;> simp[LV.isPtr] at h <;> simp[LV.add]
theorem OpOk.fieldAddr {s f:Nat} {x:Operand} {fs:List (Nat×Nat×Bool)} {off sz:Nat} {ag:Bool} {p:LV} (ho:o.op=.fieldAddr s x f) (hfs:flds P s=some fs) (hf:fs[f]?=some (off,sz,ag)) (hsz:sz≠0)
  (hx:st.ev x=.l p) (hp:p.isPtr=true):OpOk P cx o st (st.put o.dst (.l (p.add off))):=by
 unfold flds at hfs;split at hfs
 ·rename_i fields hd
  obtain⟨g,ti,hg,hti,he⟩:=FT _ _ f _ hfs hf;simp at he;obtain⟨rfl,rfl,rfl⟩:=he;refine .calm fun σ a w hr=>?_;have hv:=hr.ev x;rw[hx] at hv;obtain⟨b,off',hb⟩:=Hu hv (LV.isPtr_add hp);have hv':RelL w (Xd cx w σ st.ob) (Xe w σ st.ob) σ (a.eval x) p:=hv;rw[hb] at hv';have hg':fields[f]?=some g:=by rw[← Array.getElem?_toList];exact hg
  refine⟨.pointer (some ⟨b,off'+g.offset,none⟩),0,?_,hv'.add g.offset⟩;simp[execOp,ho,Instr.fieldAt,run_underlying hd,hg',hb,Instr.sureAddr,fieldPlace,Bc hti,hsz,Cr,World.drewN]
 ·simp at hfs
theorem OpOk.field {s f:Nat} {x:Operand} {fs:List (Nat×Nat×Bool)} {off sz:Nat} {ag:Bool} {cs:List LV} {av:AV} (ho:o.op=.field s x f) (hfs:flds P s=some fs) (hf:fs[f]?=some (off,sz,ag))
  (hx:st.ev x=.g cs) (hle:off+sz≤cs.length) (hav:(if ag=true then some (.g ((cs.drop off).take sz)) else (cs[off]?).map .l)=some av):OpOk P cx o st (st.put o.dst av):=by
 unfold flds at hfs;split at hfs
 ·rename_i fields hd
  obtain⟨g,ti,hg,hti,he⟩:=FT _ _ f _ hfs hf;simp at he;obtain⟨rfl,rfl,rfl⟩:=he;refine .calm fun σ a w hr=>?_;have hv:=hr.ev x;rw[hx] at hv;obtain⟨vs,hvs,hrel⟩:=hv;have hg':fields[f]?=some g:=by rw[← Array.getElem?_toList];exact hg
  cases ha:ti.agg
  ·rw[ha] at hav;simp only[Bool.false_eq_true,if_false] at hav;obtain⟨c,hc,rfl⟩:=Option.map_eq_some_iff.1 hav;obtain⟨u,hu,hur⟩:=hrel.at _ hc;refine⟨u,0,?_,hur⟩;simp[execOp,ho,Instr.field,run_underlying hd,hg',hvs,asAgg,part,Es hti,ha,hu,World.drewN]
  ·rw[ha] at hav;simp at hav;subst hav;refine⟨.agg ((vs.drop g.offset).take ti.sz).toArray,0,?_,(vs.drop g.offset).take ti.sz,rfl,(hrel.drop _).take _⟩;have he:vs.toArray.extract g.offset (g.offset+ti.sz)=((vs.drop g.offset).take ti.sz).toArray:=by
    rw[List.extract_toArray];simp[List.extract,List.drop_take]
   simp only[execOp,ho,Instr.field,Sem.run_bind,run_underlying hd,hg',hvs,asAgg,part,Es hti,ha,Bc hti,Result.andThen_ok,Sem.run_pure,if_true,he];rfl
 ·simp at hfs
theorem Fe {w:World} {t e:Nat} {ti:TI} (he:elemF P t=some e) (hti:tiF P e=some ti) (b off len cap:Nat) (k:IntKind) (n:Int) (h0:0≤n) (h1:n.toNat<len) :
  (Instr.indexAt t (.slice (some ⟨b,off,none⟩) len cap) (.int k n)).run P w=.ok (.pointer (some ⟨b,off+n.toNat*ti.sz,none⟩)) w:=by
 have:0≤n∧n<(len:Int):=by omega
 simp only[Instr.indexAt,asIntOf,Sem.run_bind,Sem.run_pure,Result.andThen_ok,run_underlying (AE he),if_pos this,Bc hti,Cr]
theorem OpOk.indexAddr_d {t e:Nat} {x i:Operand} {ti:TI} {al:Bool} {sz:Nat} {es:List (List T)} {k:IntKind} {n:Int} {c:List T} (ho:o.op=.indexAddr t x i) (he:elemF P t=some e) (hti:tiF P e=some ti)
  (hx:st.ev x=.l (.d al sz es)) (hi:st.ev i=.l (.s (.int k n))) (hsz:sz=ti.sz) (h0:0≤n) (hc:es[n.toNat]?=some c):OpOk P cx o st (st.put o.dst (.l (.q al c 0))):=by
 subst hsz;refine .calm fun σ a w hr=>?_;have hv:=hr.ev x;have hn:=hr.ev i;rw[hx] at hv;rw[hi] at hn;have hn':a.eval i=.int k n:=hn.1;have hv':Rd w (if al=true then Xe w σ st.ob else Xd cx w σ st.ob) (a.eval x) (.sl ti.sz es):=hv;generalize hvx:a.eval x=v at hv';cases hv' with
 |sl ad m cp _ _ b off cv hm hcp hmm hs ha hz hcell hrd =>
  have hlt:n.toNat<m:=by rw[← hm];exact (List.getElem?_eq_some_iff.1 hc).1
  obtain⟨had,hX⟩:=ha (by omega);refine⟨.pointer (some ⟨b,off+n.toNat*ti.sz,none⟩),0,?_,b,off+n.toNat*ti.sz,cv n.toNat,hX,by simp,fun j t hj=>⟨?_,hrd _ _ _ _ hc hj⟩⟩
  ·simp only[execOp,ho,hvx,hn',had,Sem.run_bind,Fe he hti b off m cp k n h0 hlt,Result.andThen_ok,Sem.run_pure];rfl
  ·have hj':j<ti.sz:=by
    have:=(List.getElem?_eq_some_iff.1 hj).1;rwa [hs c (List.mem_of_getElem? hc)] at this
   rw[Nat.add_assoc];exact hcell n.toNat j hlt hj'
theorem OpOk.indexAddr_r {t e:Nat} {x i:Operand} {ti:TI} {ob sz lo hi:Nat} {k:IntKind} {n:Int} (ho:o.op=.indexAddr t x i) (he:elemF P t=some e) (hti:tiF P e=some ti)
  (hx:st.ev x=.l (.r ob sz lo hi)) (hi':st.ev i=.l (.s (.int k n))) (hsz:sz=ti.sz) (h0:0≤n) (hlt:n.toNat<hi - lo):OpOk P cx o st (st.put o.dst (.l (.p ob ((lo+n.toNat)*ti.sz)))):=by
 subst hsz;refine .calm fun σ a w hr=>?_;have hv:=hr.ev x;have hn:=hr.ev i;rw[hx] at hv;rw[hi'] at hn;have hn':a.eval i=.int k n:=hn.1;rcases hv with ⟨_,rfl,rfl,_⟩|⟨b,kk,off,hb,h1,h2,hv,hoff⟩
 ·omega
 ·have ho2:=hoff (.inl (by omega));refine⟨.pointer (some ⟨b,off+n.toNat*ti.sz,none⟩),0,?_,b,kk,hb,by rw[ho2,Nat.add_mul]⟩;simp only[execOp,ho,hv,hn',Sem.run_bind,Fe he hti b off _ _ k n h0 hlt,Result.andThen_ok,Sem.run_pure];rfl
def strF (P:Program) (t:Nat):Bool :=
 match P.underlying t with
 |some .string=>true
 |_=>false
theorem C6 {t:Nat} (h:strF P t=true):P.underlying t=some .string:=by
 unfold strF at h;split at h
 ·assumption
 ·simp at h
def bAt (s:ByteArray) (i:Nat):Int:=if h:i<s.size then ((s[i]'h).toNat:Int) else 0
theorem OpOk.index_s {t:Nat} {x i:Operand} {s:ByteArray} {k:IntKind} {n:Int} (ho:o.op=.index t x i) (hs:strF P t=true)
  (hx:st.ev x=.l (.s (.string s))) (hi:st.ev i=.l (.s (.int k n))) (h0:0≤n) (hlt:n.toNat<s.size):OpOk P cx o st (st.put o.dst (.l (.s (.int .u8 (bAt s n.toNat))))):=by
 refine .calm fun σ a w hr=>?_;have hv:=hr.ev x;have hn:=hr.ev i;rw[hx] at hv;rw[hi] at hn;have hv':a.eval x=.string s:=hv.1;have hn':a.eval i=.int k n:=hn.1;refine⟨.int .u8 (bAt s n.toNat),0,?_,rfl,rfl⟩;have hb:s[n.toNat]?=some (s[n.toNat]'hlt):=by simp[hlt]
 simp only[execOp,ho,hv',hn',Instr.index,asIntOf,Sem.run_bind,Sem.run_pure,Result.andThen_ok,run_underlying (C6 hs),if_pos h0,hb,bAt,dif_pos hlt];rfl
def Bnd (st:St) (x:Option Operand) (d l:Nat):Prop :=
 match x with
 |none=>l=d
 |some y=>∃ k,st.ev y=.l (.s (.int k (l:Int)))
theorem Bnd.val {σ:Nat→Hd} {a:Act} {w:World} (hr:RelS cx σ st a w) {x:Option Operand} {d l:Nat} (h:Bnd st x d l):(x.map a.eval=none∧l=d)∨∃ k,x.map a.eval=some (.int k (l:Int)):=by
 cases x with
 |none=>exact .inl ⟨rfl,h⟩
 |some y =>
  obtain⟨k,hk⟩:=h;have:=hr.ev y;rw[hk] at this;exact .inr ⟨k,by simp;exact this.1⟩
theorem Co {w:World} (k:IntKind) (l y:Nat) (c:BoundsCode) (h:l≤y):(Instr.sliceBound (.int k (l:Int)) y c).run P w=.ok l w:=by
 have:(0:Int)≤l∧(l:Int)≤y:=by omega
 simp only[Instr.sliceBound,asIntOf,Sem.run_bind,Sem.run_pure,Result.andThen_ok,if_pos this,Int.toNat_natCast]
theorem DU {w:World} (isSlice:Bool) (len cap l h:Nat) (lo hi:Option Value) (hl:(lo=none∧l=0)∨∃ k,lo=some (.int k (l:Int))) (hh:(hi=none∧h=len)∨∃ k,hi=some (.int k (h:Int)))
  (h1:l≤h) (h2:h≤cap):(Instr.sliceBounds isSlice len cap lo hi none).run P w=.ok (l,h,cap) w:=by
 rcases hl with ⟨rfl,rfl⟩|⟨k,rfl⟩ <;> rcases hh with ⟨rfl,rfl⟩|⟨k',rfl⟩ <;>
  simp[Instr.sliceBounds,Co _ _ _ _ h1,Co _ _ _ _ h2]
theorem H6 {w:World} (isSlice:Bool) (len cap l h m:Nat) (lo:Option Value) (k' k'':IntKind) (hl:(lo=none∧l=0)∨∃ k,lo=some (.int k (l:Int)))
  (h1:l≤h) (h2:h≤m) (h3:m≤cap):(Instr.sliceBounds isSlice len cap lo (some (.int k' (h:Int))) (some (.int k'' (m:Int)))).run P w=.ok (l,h,m) w:=by
 rcases hl with ⟨rfl,rfl⟩|⟨k,rfl⟩ <;>
  simp[Instr.sliceBounds,Co _ _ _ _ h1,Co _ _ _ _ h2,Co _ _ _ _ h3]
theorem OpOk.slice_s {t:Nat} {x:Operand} {lo hi:Option Operand} {s:ByteArray} {l h:Nat} (ho:o.op=.slice t x lo hi none) (hs:strF P t=true) (hx:st.ev x=.l (.s (.string s)))
  (hl:Bnd st lo 0 l) (hh:Bnd st hi s.size h) (h1:l≤h) (h2:h≤s.size):OpOk P cx o st (st.put o.dst (.l (.s (.string (s.extract l h))))):=by
 refine .calm fun σ a w hr=>?_;have hv:=hr.ev x;rw[hx] at hv;have hv':a.eval x=.string s:=hv.1;have hb:=DU (P:=P) (w:=w) false s.size s.size l h (lo.map a.eval) (hi.map a.eval) (hl.val hr) (hh.val hr) h1 h2;refine⟨.string (s.extract l h),0,?_,rfl,rfl⟩;simp[execOp,ho,Instr.sliceAt,run_underlying (C6 hs),Instr.slice,hv',hb,World.drewN]
theorem OpOk.slice_d {t e:Nat} {x:Operand} {lo hi:Option Operand} {ti:TI} {al:Bool} {sz:Nat} {es:List (List T)} {l h:Nat} (ho:o.op=.slice t x lo hi none) (he:elemF P t=some e) (hti:tiF P e=some ti)
  (hx:st.ev x=.l (.d al sz es)) (hsz:sz=ti.sz) (hl:Bnd st lo 0 l) (hh:Bnd st hi es.length h) (h1:l≤h) (h2:h≤es.length) :
  OpOk P cx o st (st.put o.dst (.l (.d al sz ((es.drop l).take (h - l))))):=by
 subst hsz;refine .calm fun σ a w hr=>?_;have hv:=hr.ev x;rw[hx] at hv;have hv':Rd w (if al=true then Xe w σ st.ob else Xd cx w σ st.ob) (a.eval x) (.sl ti.sz es):=hv;generalize hvx:a.eval x=v at hv';cases hv' with
 |sl ad m cp _ _ b off cv hm hcp hmm hs ha hz hcell hrd =>
  have hb:=DU (P:=P) (w:=w) true m cp l h (lo.map a.eval) (hi.map a.eval) (hl.val hr) (by rw[← hm];exact hh.val hr) h1 (by omega);refine⟨.slice (if cp=l then ad else ad.map (·.add (l*ti.sz))) (h - l) (cp - l),0,?_,?_⟩
  ·simp[execOp,ho,Instr.sliceAt,run_underlying (AE he),Instr.slice,hvx,hb,Bc hti,World.drewN]
  ·refine .sl _ _ _ _ _ b (off+l*ti.sz) (fun i j=>cv (l+i) j) (by simp;omega) (by omega) (by omega) (fun e he=>hs e (List.mem_of_mem_drop (List.mem_of_mem_take he))) ?_ ?_ ?_ ?_
   ·intro hpos;obtain⟨had,hX⟩:=ha (by omega);rw[if_neg (by omega),had];exact⟨by simp[Cr],hX⟩
   ·intro hn;split at hn
    ·omega
    ·have:=hz (by simpa using hn);omega
   ·intro i j hi hj;have:=hcell (l+i) j (by omega) hj;rw[show off+l*ti.sz+(i*ti.sz+j)=off+((l+i)*ti.sz+j) by rw[Nat.add_mul];omega];exact this
   ·intro i j e t hi hj;refine hrd (l+i) j e t ?_ hj;have hlt:i<h - l:=by have:=(List.getElem?_eq_some_iff.1 hi).1;simp at this;omega
    rwa [List.getElem?_take_of_lt hlt,List.getElem?_drop] at hi
end
end Go.Proofs.Ytenemndpignaoaa
namespace Go.Proofs.Ytenemndpignaoaa
open Go Go.RowKit
section
variable {P:Program} {cx:Cx} {o:Oper} {st:St}
theorem OpOk.slice_r {t e:Nat} {x:Operand} {l' h':Option Operand} {ti:TI} {ob sz lo hi:Nat} {z:Ob} {l h:Nat} (ho:o.op=.slice t x l' h' none) (he:elemF P t=some e) (hti:tiF P e=some ti)
  (hx:st.ev x=.l (.r ob sz lo hi)) (hz:st.obj ob=some z) (hrow:z.row=true) (hzs:z.sz=sz) (hsz:sz=ti.sz) (h0:0<sz) (hl:Bnd st l' 0 l) (hh:Bnd st h' (hi - lo) h) (h1:l≤h) (h2:(lo+h)*sz≤z.cs.length) :
  OpOk P cx o st (st.put o.dst (.l (.r ob sz (lo+l) (lo+h)))):=by
 subst hsz;refine .calm fun σ a w hr=>?_;have hv:=hr.ev x;rw[hx] at hv;have hO:=hr.h.obs ob z (AK hz);rcases hv with ⟨hb,rfl,rfl,hv⟩|⟨b,k,off,hb,h3,h4,hv,hoff⟩
 ·rw[hb] at hO;rw[hO.2.1] at h2;have hh0:h=0:=by
   have h2':h*ti.sz=0:=by simpa using h2
   rcases Nat.mul_eq_zero.1 h2' with e|e <;> omega
  have hl0:l=0:=by omega
  subst hh0;subst hl0;have hb2:=DU (P:=P) (w:=w) true 0 0 0 0 (l'.map a.eval) (h'.map a.eval) (hl.val hr) (by simpa using hh.val hr) (by omega) (by omega);refine⟨.slice none 0 0,0,?_,.inl ⟨hb,rfl,rfl,rfl⟩⟩;simp[execOp,ho,Instr.sliceAt,run_underlying (AE he),Instr.slice,hv,hb2,Bc hti,World.drewN]
 ·rw[hb] at hO;obtain⟨vs,rest,g1,g2,g4,g5⟩:=hO;have hk:lo+h≤k:=by
   have h6:=(g5 (Ob.bx_row hrow)).1;have h7:=g2.length;rw[hzs] at h6;exact Nat.le_of_mul_le_mul_right (show (lo+h)*ti.sz≤k*ti.sz by omega) h0
  have hb2:=DU (P:=P) (w:=w) true (hi - lo) (k - lo) l h (l'.map a.eval) (h'.map a.eval) (hl.val hr) (hh.val hr) h1 (by omega);refine⟨.slice (some (if k - lo=l then ⟨b,off,none⟩ else ⟨b,off+l*ti.sz,none⟩)) (h - l) (k - lo - l),0,?_,.inr ⟨b,k,(if k - lo=l then off else off+l*ti.sz),hb,by omega,hk,?_,?_⟩⟩
  ·simp only[execOp,ho,Instr.sliceAt,run_underlying (AE he),Instr.slice,hv,hb2,Bc hti,Sem.run_bind,Result.andThen_ok,Sem.run_pure,Option.map_some,Option.map_none,Cr,hb2];split <;> rfl
  ·rw[show lo+h - (lo+l)=h - l by omega,show k - (lo+l)=k - lo - l by omega];split <;> rfl
  ·intro hlt;by_cases e:k - lo=l
   ·have h00:lo=0∧l=0:=by omega
    rw[if_pos e,hoff (by omega),h00.1,h00.2]
   ·rw[if_neg e,hoff (by omega),Nat.add_mul]
theorem OpOk.len_d {t:Nat} {x:Operand} {al:Bool} {sz e:Nat} {es:List (List T)} (ho:o.op=.call { callee:=.builtin .len,args:=#[x],argTypes:=#[t] }) (he:elemF P t=some e) (hx:st.ev x=.l (.d al sz es)) :
  OpOk P cx o st (st.put o.dst (.l (.s (.int .i64 es.length)))):=by
 refine .calm fun σ a w hr=>?_;have hv:=hr.ev x;rw[hx] at hv;have hv':Rd w (if al=true then Xe w σ st.ob else Xd cx w σ st.ob) (a.eval x) (.sl sz es):=hv;generalize hvx:a.eval x=v at hv';cases hv' with
 |sl ad m cp _ _ b off cv hm hcp hmm hs ha hz hcell hrd =>
  refine⟨.int .i64 es.length,0,?_,rfl,rfl⟩;simp[execOp,ho,resolve,invoke,builtin,Builtin.len_,run_underlying (AE he),hvx,hm,goInt,World.drewN]
theorem I9 {σ:Nat→Hd} {a:Act} {w:World} (hr:RelS cx σ st a w) {x:Operand} {al:Bool} {sz:Nat} {es:List (List T)} (hx:st.ev x=.l (.d al sz es)):es.length≤140737488355328:=by
 have hv:=hr.ev x;rw[hx] at hv;have hv':Rd w (if al=true then Xe w σ st.ob else Xd cx w σ st.ob) (a.eval x) (.sl sz es):=hv;generalize hvx:a.eval x=v at hv';cases hv' with
 |sl ad m cp _ _ b off cv hm hcp hmm hs ha hz hcell hrd=>omega
theorem OpOk.len_r {t:Nat} {x:Operand} {ob sz lo hi e:Nat} (ho:o.op=.call { callee:=.builtin .len,args:=#[x],argTypes:=#[t] }) (he:elemF P t=some e) (hx:st.ev x=.l (.r ob sz lo hi)) :
  OpOk P cx o st (st.put o.dst (.l (.s (.int .i64 ((hi - lo:Nat):Int))))):=by
 refine .calm fun σ a w hr=>?_;have hv:=hr.ev x;rw[hx] at hv;rcases hv with ⟨hb,rfl,rfl,hv⟩|⟨b,k,off,hb,h3,h4,hv,hoff⟩
 ·exact⟨.int .i64 0,0,by simp[execOp,ho,resolve,invoke,builtin,Builtin.len_,run_underlying (AE he),hv,goInt,World.drewN],rfl,rfl⟩
 ·exact⟨.int .i64 ((hi - lo:Nat):Int),0,by simp[execOp,ho,resolve,invoke,builtin,Builtin.len_,run_underlying (AE he),hv,goInt,World.drewN],rfl,rfl⟩
theorem OpOk.len_nil {t:Nat} {x:Operand} {e:Nat} (ho:o.op=.call { callee:=.builtin .len,args:=#[x],argTypes:=#[t] }) (he:elemF P t=some e) (hx:st.ev x=.l (.s (.slice none 0 0))) :
  OpOk P cx o st (st.put o.dst (.l (.s (.int .i64 0)))):=by
 refine .calm fun σ a w hr=>?_;have hv:=hr.ev x;rw[hx] at hv;have hv':a.eval x=.slice none 0 0:=hv.1;exact⟨.int .i64 0,0,by simp[execOp,ho,resolve,invoke,builtin,Builtin.len_,run_underlying (AE he),hv',goInt,World.drewN],rfl,rfl⟩
theorem OpOk.len_s {t:Nat} {x:Operand} {s:ByteArray} (ho:o.op=.call { callee:=.builtin .len,args:=#[x],argTypes:=#[t] }) (hs:strF P t=true) (hx:st.ev x=.l (.s (.string s))) :
  OpOk P cx o st (st.put o.dst (.l (.s (.int .i64 s.size)))):=by
 refine .calm fun σ a w hr=>?_;have hv:=hr.ev x;rw[hx] at hv;have hv':a.eval x=.string s:=hv.1;exact⟨.int .i64 s.size,0,by simp[execOp,ho,resolve,invoke,builtin,Builtin.len_,run_underlying (C6 hs),hv',goInt,World.drewN],rfl,rfl⟩
def slt (a b:ByteArray):Bool:=Op.bytesLess a.data.toList b.data.toList
def bop (op:BinOp):Value→Value→Option Value
 |.int k a,.int k' b =>
  match op with
  |.shl=>if 0≤b then some (.int k (k.wrap (a*2 ^ (min b.toNat k.bits)))) else none
  |.shr=>if 0≤b then some (.int k (a.fdiv (2 ^ (min b.toNat k.bits)))) else none
  |op=>if k=k' then
    (match op with
    |.add=>some (.int k (k.wrap (a+b)))
    |.sub=>some (.int k (k.wrap (a - b)))
    |.mul=>some (.int k (k.wrap (a*b)))
    |.quo=>if b≠0 then some (.int k (k.wrap (a.tdiv b))) else none
    |.rem=>if b≠0 then some (.int k (a.tmod b)) else none
    |.and=>some (.int k (k.wrap (BitVec.ofInt k.bits a &&& BitVec.ofInt k.bits b).toNat))
    |.or=>some (.int k (k.wrap (BitVec.ofInt k.bits a ||| BitVec.ofInt k.bits b).toNat))
    |.xor=>some (.int k (k.wrap (BitVec.ofInt k.bits a ^^^ BitVec.ofInt k.bits b).toNat))
    |.eql=>some (.bool (decide (a=b)))
    |.neq=>some (.bool (!decide (a=b)))
    |.lss=>some (.bool (decide (a<b)))
    |.leq=>some (.bool (decide (a≤b)))
    |.gtr=>some (.bool (decide (b<a)))
    |.geq=>some (.bool (decide (b≤a)))
    |_=>none) else none
 |.string a,.string b =>
  match op with
  |.add=>if a.size+b.size≤9223372036854775807 then some (.string (a++b)) else none
  |.eql=>some (.bool (decide (a=b)))
  |.neq=>some (.bool (!decide (a=b)))
  |.lss=>some (.bool (slt a b))
  |.leq=>some (.bool (!slt b a))
  |.gtr=>some (.bool (slt b a))
  |.geq=>some (.bool (!slt a b))
  |_=>none
 |_,_=>none
theorem EA:∀ x y:List UInt8,(Op.bytesLess x y || x == y)=!Op.bytesLess y x
 |[],[]=>by simp[Op.bytesLess]
 |[],b::y=>by simp[Op.bytesLess]
 |a::x,[]=>by simp[Op.bytesLess]
 |a::x,b::y=>by
  have ih:=EA x y;simp only[Op.bytesLess,List.cons_beq_cons];rcases Nat.lt_trichotomy a.toNat b.toNat with h|h|h
  ·have h1:a<b:=UInt8.lt_iff_toNat_lt.2 h;have h2:¬ b<a:=fun h'=>by have:=UInt8.lt_iff_toNat_lt.1 h';omega
   have h3:¬ b=a:=fun e=>by subst e;omega
   simp[h1,h2,h3]
  ·have e:a=b:=UInt8.toNat_inj.1 h;subst e;have h2:¬ a<a:=fun h'=>by have:=UInt8.lt_iff_toNat_lt.1 h';omega
   simp[h2,ih]
  ·have h1:b<a:=UInt8.lt_iff_toNat_lt.2 h;have h2:¬ a<b:=fun h'=>by have:=UInt8.lt_iff_toNat_lt.1 h';omega
   have h3:¬ a=b:=fun e=>by subst e;omega
   simp[h1,h2,h3]
theorem Ga (a b:ByteArray):(a.toList == b.toList)=decide (a=b):=by
 rw[ByteArray.toList_eq,ByteArray.toList_eq];by_cases h:a=b
 ·subst h;simp
 ·rw[decide_eq_false h,beq_eq_false_iff_ne];intro e;apply h;cases a
  cases b
  simp at e;subst e;rfl
theorem Im {w:World} {op:BinOp} {t:Nat} {x y v:Value} (h:bop op x y=some v):(binOp op t x y).run P w=.ok v w:=by
 cases x <;> cases y <;> first|(simp[bop] at h;done)|skip
 case int.int k a k' b =>
  cases op <;> simp only[bop] at h <;> (try split at h) <;> (try split at h) <;> (try simp only[Option.some.injEq,reduceCtorEq] at h) <;> (try subst h) <;>
   (try (exact h.elim)) <;>
   simp_all [binOp,Op.intArith,Op.intDiv,Op.intBits,Op.intCmp,Op.shift] <;> (try omega) <;> (try rfl)
  all_goals (split <;> first|omega|simp)
 case string.string a b =>
  cases op <;> simp only[bop] at h <;> (try split at h) <;> (try simp only[Option.some.injEq,reduceCtorEq] at h) <;> (try subst h) <;> (try (exact h.elim)) <;>
   simp only[binOp,Op.stringOp,Ga,slt] <;> (try simp only[ByteArray.toList_eq])
  case add hle =>
   have:¬ (((a.size+b.size:Nat):Int) > IntKind.i64.max):=by show ¬ (_ > (9223372036854775807:Int));omega
   rw[if_neg this];rfl
  all_goals first
   |rfl
   |(have e:=EA a.data.toList b.data.toList;have e2:=Ga a b;rw[ByteArray.toList_eq,ByteArray.toList_eq] at e2;rw[e2] at e;rw[e];rfl)
   |(have e:=EA a.data.toList b.data.toList;have e2:=Ga a b;rw[ByteArray.toList_eq,ByteArray.toList_eq] at e2;rw[e2] at e;rw[e,Bool.not_not];rfl)
end
end Go.Proofs.Ytenemndpignaoaa
namespace Go.Proofs.Ytenemndpignaoaa
open Go Go.RowKit
section
variable {P:Program} {cx:Cx} {o:Oper} {st:St}
theorem Eq {w:World} {op:BinOp} {t:Nat} {x y:Operand} {a b:Value} (h:(∀ cs,a≠.agg cs)∧a≠.nilIface):(eqGuard op t x y a b).run P w=.ok () w:=by
 unfold eqGuard;split <;> simp only[Bool.not_true,Bool.not_false,Bool.false_eq_true,if_false,if_true] <;>
  (cases a <;> first|rfl|exact absurd rfl h.2|exact absurd rfl (h.1 _))
def uop:UnOp→Value→Option Value
 |.not,.bool b=>some (.bool (!b))
 |.neg,.int k n=>some (.int k (k.wrap (0 - n)))
 |_,_=>none
theorem In {op:BinOp} {x y v:Value} (h:bop op x y=some v):v.oneCell'=true:=by
 cases x <;> cases y <;> first|(simp[bop] at h;done)|skip
 all_goals (cases op <;> simp only[bop] at h <;> (try split at h) <;> (try split at h) <;> (try simp only[Option.some.injEq,reduceCtorEq] at h) <;> (try subst h) <;> first|rfl|exact h.elim)
theorem Kg {op:UnOp} {x v:Value} (h:uop op x=some v):v.oneCell'=true:=by
 cases op <;> cases x <;> simp[uop] at h <;> subst h <;> rfl
theorem OpOk.un {op:UnOp} {t:Nat} {x:Operand} {a v:Value} (ho:o.op=.unOp op t x) (hx:st.ev x=.l (.s a)) (hv:uop op a=some v):OpOk P cx o st (st.put o.dst (.l (.s v))):=by
 refine .calm fun σ ac w hr=>?_;have h1:=hr.ev x;rw[hx] at h1;have h1':ac.eval x=a:=h1.1;refine⟨v,0,?_,rfl,Kg hv⟩;cases op <;> cases a <;> simp[uop] at hv <;> subst hv <;> simp[execOp,ho,h1',Op.unary,Op.intArith,World.drewN]
def isNil:AV→Option Bool
 |.l (.s (.slice none _ _))=>some true
 |_=>none
theorem Kh {t e:Nat} {op:BinOp} {x y:Operand} {t':Nat} {al:Bool} {sz:Nat} {es:List (List T)} (ho:o.op=.binOp op t x y t') (hop:op=.eql∨op=.neq) (he:elemF P t=some e) (hx:st.ev x=.l (.d al sz es)) (hy:st.ev y=.l (.s (.slice none 0 0)))
  {σ:Nat→Hd} {a:Act} {w:World} (hr:RelS cx σ st a w) :
  ∃ b:Bool,(es≠[]→b=false)∧(execOp a.eval o).run P w=.ok (.value (.bool (if op=.eql then b else !b))) w:=by
 have h1:=hr.ev x;have h2:=hr.ev y;rw[hx] at h1;rw[hy] at h2;have h2':a.eval y=.slice none 0 0:=h2.1;have hv':Rd w (if al=true then Xe w σ st.ob else Xd cx w σ st.ob) (a.eval x) (.sl sz es):=h1;generalize hvx:a.eval x=v at hv';cases hv' with
 |sl ad m cp _ _ b off cv hm hcp hmm hs ha hz hcell hrd =>
  refine⟨ad.isNone,fun hne=>?_,?_⟩
  ·have:0<m:=by rw[← hm];exact List.length_pos_iff.2 hne
   rw[(ha this).1];rfl
  ·have hg:(eqGuard op t x y (.slice ad m cp) (.slice none 0 0)).run P w=.ok () w:=Eq ⟨fun _=>by simp,by simp⟩;have hq:=run_equal_slice_nil (P:=P) (w:=w) t e ad m cp (AE he);have h3:(binOp op t (.slice ad m cp) (.slice none 0 0)).run P w=.ok (.bool (if op=.eql then ad.isNone else !ad.isNone)) w:=by
    rcases hop with rfl|rfl
    ·show Sem.run P (do pure (Value.bool (← Op.equal t (.slice ad m cp) (.slice none 0 0)))) w=_;simp only[Sem.run_bind,hq,Result.andThen_ok];rfl
    ·show Sem.run P (do pure (Value.bool (!(← Op.equal t (.slice ad m cp) (.slice none 0 0))))) w=_;simp only[Sem.run_bind,hq,Result.andThen_ok];rfl
   simp only[execOp,ho,hvx,h2',Sem.run_bind,hg,Result.andThen_ok,h3,Sem.run_pure]
def sk (P:Program) (t:Nat):Option Nat :=
 match P.underlying t with
 |some (.int _)=>some 0
 |some .string=>some 1
 |some .bool=>some 2
 |_=>none
def offs:Nat→List Field→Bool
 |_,[]=>true
 |i,f::fs=>(f.name != "_") && ((f.offset == i) && offs (i+1) fs)
def seqF (P:Program) (t:Nat):Option (List Nat) :=
 match P.underlying t with
 |some (.struct fs)=>if P.stoodInHeld t=false∧P.eqGuardType P.depth t=false∧offs 0 fs.toList=true then fs.toList.mapM fun f=>sk P f.type else none
 |_=>none
def veq:Nat→Value→Value→Option Bool
 |0,.int k a,.int k' b=>if k=k' then some (decide (a=b)) else none
 |1,.string a,.string b=>some (decide (a=b))
 |2,.bool a,.bool b=>some (decide (a=b))
 |_,_,_=>none
def veqs:List Nat→List LV→List LV→Option Bool
 |[],[],[]=>some true
 |k::ks,.s x::xs,.s y::ys =>
  match veq k x y,veqs ks xs ys with
  |some b,some c=>some (b && c)
  |_,_=>none
 |_,_,_=>none
theorem Io {α:Type} [BEq α] [LawfulBEq α] [DecidableEq α] (a b:α):(a == b)=decide (a=b):=by by_cases h:a=b <;> simp[h]
theorem Ip {w:World} {d t k:Nat} {x y:Value} {b:Bool} (ht:sk P t=some k) (h:veq k x y=some b):(Op.equalIn (d+1) t x y).run P w=.ok b w:=by
 unfold sk at ht;split at ht <;> simp at ht <;> subst ht <;> rename_i hu <;> cases x <;> cases y <;> simp[veq] at h
 ·obtain⟨rfl,rfl⟩:=h;simp[Op.equalIn,run_underlying hu,Io]
 ·subst h;simp[Op.equalIn,run_underlying hu,beq_toListBytes,Ga]
 ·subst h;simp[Op.equalIn,run_underlying hu,Io]
def bopP (P:Program) (op:BinOp) (t:Nat) (a b:Value):Option Value :=
 match a,b with
 |.bool a,.bool b=>if sk P t=some 2 then (match op with|.eql=>some (.bool (decide (a=b)))|.neq=>some (.bool (!decide (a=b)))|_=>none) else none
 |.int k a,.int k' b=>bop op (.int k a) (.int k' b)
 |.string a,.string b=>bop op (.string a) (.string b)
 |_,_=>none
theorem IE {op:BinOp} {t:Nat} {x y v:Value} (h:bopP P op t x y=some v):(∀ cs,x≠.agg cs)∧x≠.nilIface:=by
 cases x <;> first|(simp[bopP] at h;done)|exact⟨fun _=>by simp,by simp⟩
theorem JH {op:BinOp} {t:Nat} {x y v:Value} (h:bopP P op t x y=some v):v.oneCell'=true:=by
 unfold bopP at h;split at h
 ·split at h
  ·cases op <;> simp only[Option.some.injEq,reduceCtorEq] at h <;> (try subst h) <;> first|rfl|exact h.elim
  ·cases h
 ·exact In h
 ·exact In h
 ·cases h
theorem JI {w:World} {op:BinOp} {t:Nat} {x y v:Value} (h:bopP P op t x y=some v):(binOp op t x y).run P w=.ok v w:=by
 unfold bopP at h;split at h
 ·rename_i a b
  split at h
  ·rename_i hsk
   have hq:(Op.equal t (.bool a) (.bool b)).run P w=.ok (decide (a=b)) w:=Ip (d:=Op.maxDepth - 1) hsk rfl;cases op <;> simp only[Option.some.injEq,reduceCtorEq] at h <;> (try exact h.elim) <;> subst h
   ·show Sem.run P (do pure (Value.bool (← Op.equal t (.bool a) (.bool b)))) w=_;simp only[Sem.run_bind,hq,Result.andThen_ok];rfl
   ·show Sem.run P (do pure (Value.bool (!(← Op.equal t (.bool a) (.bool b))))) w=_;simp only[Sem.run_bind,hq,Result.andThen_ok];rfl
  ·cases h
 ·exact Im h
 ·exact Im h
 ·cases h
theorem OpOk.binP {op:BinOp} {t t':Nat} {x y:Operand} {a b v:Value} (ho:o.op=.binOp op t x y t') (hx:st.ev x=.l (.s a)) (hy:st.ev y=.l (.s b)) (hv:bopP P op t a b=some v) :
  OpOk P cx o st (st.put o.dst (.l (.s v))):=by
 refine .calm fun σ ac w hr=>?_;have h1:=hr.ev x;have h2:=hr.ev y;rw[hx] at h1;rw[hy] at h2;have h1':ac.eval x=a:=h1.1;have h2':ac.eval y=b:=h2.1;refine⟨v,0,?_,rfl,JH hv⟩;simp only[execOp,ho,h1',h2',Sem.run_bind,Eq (IE hv),Result.andThen_ok,JI hv,Sem.run_pure];rfl
theorem Iq {w:World} {t k:Nat} (ht:sk P t=some k):(isAgg t).run P w=.ok false w:=by
 unfold sk at ht;split at ht <;> simp at ht <;> rename_i hu <;> simp[isAgg,run_underlying hu]
theorem Ff {w:World} {d:Nat} {xs ys:List Value}:∀ (fs:List Field) (ks:List Nat) (i:Nat) (ax ay:List LV) (b:Bool),(fs.mapM fun f=>sk P f.type)=some ks→offs i fs=true→veqs ks ax ay=some b →
  (∀ j a,ax[j]?=some (.s a)→xs[i+j]?=some a)→(∀ j a,ay[j]?=some (.s a)→ys[i+j]?=some a)→(Op.eqFields (d+1) xs.toArray ys.toArray fs).run P w=.ok b w
 |[],ks,i,ax,ay,b,hk,_,hv,_,_=>by
  simp at hk;subst hk;cases ax <;> cases ay <;> simp[veqs] at hv
  subst hv;rfl
 |f::fs,ks,i,ax,ay,b,hk,ho,hv,hx,hy=>by
  rw[List.mapM_cons] at hk;cases h1:sk P f.type with
  |none=>rw[h1] at hk;simp at hk
  |some k =>
   cases h2:(fs.mapM fun f=>sk P f.type) with
   |none=>rw[h1,h2] at hk;simp at hk
   |some ks' =>
    rw[h1,h2] at hk;simp at hk;subst hk;simp only[offs,Bool.and_eq_true,bne_iff_ne,beq_iff_eq] at ho;obtain⟨hn,hoff,ho⟩:=ho;cases ax with
    |nil=>simp[veqs] at hv
    |cons a0 ax =>
     cases ay with
     |nil=>cases a0 <;> simp[veqs] at hv
     |cons b0 ay =>
      cases a0 <;> cases b0 <;> simp only[veqs,reduceCtorEq] at hv
      rename_i va vb
      cases h3:veq k va vb with
      |none=>rw[h3] at hv;simp at hv
      |some r =>
       cases h4:veqs ks' ax ay with
       |none=>rw[h3,h4] at hv;simp at hv
       |some r' =>
        rw[h3,h4] at hv;simp at hv;subst hv;have e1:=hx 0 va rfl;have e2:=hy 0 vb rfl;rw[Nat.add_zero] at e1 e2;have ih:=Ff (w:=w) (d:=d) (xs:=xs) (ys:=ys) fs ks' (i+1) ax ay r' h2 ho h4 (fun j a hj=>by have:=hx (j+1) a (by simpa using hj);rwa [show i+(j+1)=i+1+j by omega] at this)
         (fun j a hj=>by have:=hy (j+1) a (by simpa using hj);rwa [show i+(j+1)=i+1+j by omega] at this)
        have p1:(part f.type xs.toArray f.offset).run P w=.ok va w:=by simp[part,Iq h1,hoff,e1]
        have p2:(part f.type ys.toArray f.offset).run P w=.ok vb w:=by simp[part,Iq h1,hoff,e2]
        simp only[Op.eqFields,if_pos hn,Sem.run_bind,p1,p2,Result.andThen_ok,Ip h1 h3];cases r
        ·simp
        ·simp[ih]
theorem OpOk.eql_g {t t':Nat} {op:BinOp} {x y:Operand} {xs ys:List LV} {ks:List Nat} {b:Bool} (ho:o.op=.binOp op t x y t') (hop:op=.eql∨op=.neq) (hs:seqF P t=some ks) (hx:st.ev x=.g xs) (hy:st.ev y=.g ys) (hv:veqs ks xs ys=some b) :
  OpOk P cx o st (st.put o.dst (.l (.s (.bool (if op=.eql then b else !b))))):=by
 unfold seqF at hs;split at hs
 ·rename_i fs hu
  split at hs
  ·rename_i hc
   obtain⟨hp,hgt,hoff⟩:=hc;refine .calm fun σ a w hr=>?_;have h1:=hr.ev x;have h2:=hr.ev y;rw[hx] at h1;rw[hy] at h2;obtain⟨vx,hvx,hrx⟩:=h1;obtain⟨vy,hvy,hry⟩:=h2;have hf:P.fieldsOf t=fs:=by simp[Program.fieldsOf,hu]
   have hrun:(Op.equal t (.agg vx.toArray) (.agg vy.toArray)).run P w=.ok b w:=by
    unfold Op.equal Op.maxDepth;rw[run_equalIn_struct w 9999 t _ _ (by rw[hf];exact hu) hp,hf];exact Ff fs.toList ks 0 xs ys b hs hoff hv (fun j a hj=>by rw[Nat.zero_add];obtain⟨u,hu,hr⟩:=hrx.at j hj;rw[hu];exact congrArg some hr.1) (fun j a hj=>by rw[Nat.zero_add];obtain⟨u,hu,hr⟩:=hry.at j hj;rw[hu];exact congrArg some hr.1)
   have hg:(eqGuard op t x y (.agg vx.toArray) (.agg vy.toArray)).run P w=.ok () w:=by
    rcases hop with rfl|rfl <;> simp[eqGuard,hgt]
   refine⟨_,0,?_,rfl,rfl⟩;rcases hop with rfl|rfl <;> simp[execOp,ho,hvx,hvy,hg,binOp,hrun,World.drewN]
  ·simp at hs
 ·simp at hs
def intF (P:Program) (t:Nat):Option IntKind :=
 match P.underlying t with
 |some (.int k)=>some k
 |_=>none
theorem DP {t:Nat} {k:IntKind} (h:intF P t=some k):P.underlying t=some (.int k):=by
 unfold intF at h;split at h
 ·simp at h;subst h;assumption
 ·simp at h
theorem OpOk.conv_int {src dst:Nat} {x:Operand} {k k':IntKind} {n:Int} (ho:o.op=.convert src dst x) (hs:(P.underlying src).isSome=true) (hd:intF P dst=some k) (hx:st.ev x=.l (.s (.int k' n))) :
  OpOk P cx o st (st.put o.dst (.l (.s (.int k (k.wrap n))))):=by
 refine .calm fun σ a w hr=>?_;have h1:=hr.ev x;rw[hx] at h1;have h1':a.eval x=.int k' n:=h1.1;refine⟨_,0,?_,rfl,rfl⟩;obtain⟨d,hd'⟩:=Option.isSome_iff_exists.1 hs;simp only[execOp,ho,h1',convert,Sem.run_bind,run_underlying hd',run_underlying (DP hd),Result.andThen_ok,Conv.intToInt,Sem.run_pure];rfl
theorem OpOk.conv_str {src dst:Nat} {x:Operand} {s:ByteArray} (ho:o.op=.convert src dst x) (hs:(P.underlying src).isSome=true) (hd:strF P dst=true) (hx:st.ev x=.l (.s (.string s))) :
  OpOk P cx o st (st.put o.dst (.l (.s (.string s)))):=by
 refine .calm fun σ a w hr=>?_;have h1:=hr.ev x;rw[hx] at h1;have h1':a.eval x=.string s:=h1.1;refine⟨_,0,?_,rfl,rfl⟩;obtain⟨d,hd'⟩:=Option.isSome_iff_exists.1 hs;simp[execOp,ho,h1',convert,run_underlying hd',run_underlying (C6 hd),World.drewN]
def tget:AV→Nat→Option AV
 |.t xs,i =>
  match xs[i]? with
  |some (true,cs)=>some (.g cs)
  |some (false,[x])=>some (.l x)
  |_=>none
 |_,_=>none
theorem Ja {a av:AV} {i:Nat} (h:tget a i=some av):∃ xs,a=.t xs∧((∃ cs,xs[i]?=some (true,cs)∧av=.g cs)∨∃ x,xs[i]?=some (false,[x])∧av=.l x):=by
 cases a with
 |l x=>simp[tget] at h
 |g cs=>simp[tget] at h
 |t xs =>
  refine⟨xs,rfl,?_⟩;unfold tget at h;simp only at h;split at h
  ·rename_i cs hc
   simp at h;exact .inl ⟨cs,hc,h.symm⟩
  ·rename_i c hc
   simp at h;exact .inr ⟨c,hc,h.symm⟩
  ·simp at h
theorem OpOk.extract {x:Operand} {i:Nat} {av:AV} (ho:o.op=.extract x i) (hv:tget (st.ev x) i=some av):OpOk P cx o st (st.put o.dst av):=by
 refine .calm fun σ a w hr=>?_;have h1:=hr.ev x;obtain⟨xs,hx,hc⟩:=Ja hv;rw[hx] at h1;obtain⟨vs,hvs,hr2⟩:=h1;rcases hc with ⟨cs,hc,rfl⟩|⟨c,hc,rfl⟩
 ·obtain⟨u,hu,hur⟩:=hr2.at i hc;exact⟨u,0,by simp[execOp,ho,hvs,Instr.extract,hu,World.drewN],hur⟩
 ·obtain⟨u,hu,hur⟩:=hr2.at i hc;obtain⟨y,hy,hur⟩:=hur;simp at hy;subst hy;exact⟨u,0,by simp[execOp,ho,hvs,Instr.extract,hu,World.drewN],hur⟩
def capt:List AV→Option (List Nat)
 |[]=>some []
 |.l (.p ob 0)::r=>(capt r).map (ob::·)
 |_=>none
theorem Hv {σ:Nat→Hd} {a:Act} {w:World} (hr:RelS cx σ st a w):∀ (l:List Operand) (ids:List Nat),capt (l.map st.ev)=some ids →
  All2 (fun v o=>∃ b c,σ o=some (some (b,c))∧v=Value.pointer (some ⟨b,0,none⟩)) (l.map a.eval) ids
 |[],ids,h=>by simp[capt] at h;subst h;trivial
 |x::l,ids,h=>by
  have h1:=hr.ev x;simp only[List.map_cons] at h;generalize hx:st.ev x=av at h h1;unfold capt at h;split at h
  ·rename_i hn
   simp at hn
  ·rename_i ob r hn
   simp at hn;obtain⟨rfl,rfl⟩:=hn;obtain⟨ids',h2,rfl⟩:=Option.map_eq_some_iff.1 h;obtain⟨b,c,hb,he⟩:=h1;exact⟨⟨b,c,hb,he⟩,Hv hr l ids' h2⟩
  ·simp at h
theorem OpOk.makeFunc {f:Nat} {cs:Array Operand} {ids:List Nat} (ho:o.op=.makeFunc (.func f) #[] cs) (hc:capt (cs.toList.map st.ev)=some ids):OpOk P cx o st (st.put o.dst (.l (.f f ids))):=by
 refine .calm fun σ a w hr=>?_;refine⟨.func (.func f) #[] (cs.map a.eval),0,by simp[execOp,ho,Instr.makeFunc,World.drewN],(cs.map a.eval).toList,by rw[Array.toArray_toList],?_⟩;simpa using Hv hr cs.toList ids hc
theorem OpOk.max2 {x y:Operand} {ts:Array Nat} {k:IntKind} {a b:Int} (ho:o.op=.call { callee:=.builtin .max,args:=#[x,y],argTypes:=ts }) (hx:st.ev x=.l (.s (.int k a))) (hy:st.ev y=.l (.s (.int k b))) :
  OpOk P cx o st (st.put o.dst (.l (.s (.int k (max a b))))):=by
 refine .calm fun σ ac w hr=>?_;have h1:=hr.ev x;have h2:=hr.ev y;rw[hx] at h1;rw[hy] at h2;have h1':ac.eval x=.int k a:=h1.1;have h2':ac.eval y=.int k b:=h2.1;refine⟨_,0,?_,rfl,rfl⟩;have e:(if b > a then b else a)=max a b:=by omega
 simp[execOp,ho,resolve,invoke,builtin,h1',h2',Builtin.max_,Builtin.max2,World.drewN,← e]
theorem OpOk.min2 {x y:Operand} {ts:Array Nat} {k:IntKind} {a b:Int} (ho:o.op=.call { callee:=.builtin .min,args:=#[x,y],argTypes:=ts }) (hx:st.ev x=.l (.s (.int k a))) (hy:st.ev y=.l (.s (.int k b))) :
  OpOk P cx o st (st.put o.dst (.l (.s (.int k (min a b))))):=by
 refine .calm fun σ ac w hr=>?_;have h1:=hr.ev x;have h2:=hr.ev y;rw[hx] at h1;rw[hy] at h2;have h1':ac.eval x=.int k a:=h1.1;have h2':ac.eval y=.int k b:=h2.1;refine⟨_,0,?_,rfl,rfl⟩;have e:(if b<a then b else a)=min a b:=by omega
 simp[execOp,ho,resolve,invoke,builtin,h1',h2',Builtin.min_,Builtin.min2,World.drewN,← e]
theorem OpOk.nilCheck {x:Operand} {p:LV} (ho:o.op=.nilCheck x) (hx:st.ev x=.l p) (hp:p.isPtr=true):OpOk P cx o st (st.put o.dst (.l p)):=by
 refine .calm fun σ a w hr=>?_;have hv:=hr.ev x;rw[hx] at hv;obtain⟨b,off,hb⟩:=Hu hv (LV.isPtr_add hp);refine⟨a.eval x,0,?_,hv⟩;simp[execOp,ho,hb,World.drewN]
end
end Go.Proofs.Ytenemndpignaoaa
namespace Go.Proofs.Ytenemndpignaoaa
open Go Go.RowKit
def but (o:Nat):Ren:=fun i=>if i=o then none else some i
theorem JJ {o i j:Nat} (h:but o i=some j):j=i∧i≠o:=by
 unfold but at h;split at h
 ·simp at h
 ·simp at h;exact⟨h.symm,‹_›⟩
def lvs (es:List (List T)):List LV:=es.flatMap fun e=>e.map (T.lv false)
def lvsA (al:Bool) (es:List (List T)):List LV:=es.flatMap fun e=>e.map (T.lv al)
theorem KY (es:List (List T)):lvs es=lvsA false es:=rfl
theorem Eu (a b:List (List T)):lvs (a++b)=lvs a++lvs b:=by simp[lvs]
theorem KZ (ρ:Ren) (al:Bool) (t:T):(t.lv al).ren ρ=t.lv al:=by cases t <;> rfl
theorem Hw (ρ:Ren) (al:Bool) (es:List (List T)):(lvsA al es).map (LV.ren ρ)=lvsA al es:=by
 have h:LV.ren ρ ∘ T.lv al=T.lv al:=funext fun t=>KZ ρ al t;simp[lvsA,List.map_flatMap,h]
theorem D4 (ρ:Ren) (es:List (List T)):(lvs es).map (LV.ren ρ)=lvs es:=Hw ρ false es
theorem BJ {sz:Nat}:∀ {es:List (List T)},(∀ e∈es,e.length=sz)→(lvs es).length=es.length*sz
 |[],_=>by simp[lvs]
 |e::es,h=>by
  have h1:=h e (by simp);have h2:=BJ (es:=es) fun x hx=>h x (by simp[hx]);simp only[lvs,List.flatMap_cons,List.length_append,List.length_map] at h2 ⊢;rw[h2,h1,List.length_cons,Nat.add_mul];omega
theorem FJ {sz:Nat} {al:Bool}:∀ {es:List (List T)},(∀ e∈es,e.length=sz)→(lvsA al es).length=es.length*sz
 |[],_=>by simp[lvsA]
 |e::es,h=>by
  have h1:=h e (by simp);have h2:=FJ (al:=al) (es:=es) fun x hx=>h x (by simp[hx]);simp only[lvsA,List.flatMap_cons,List.length_append,List.length_map] at h2 ⊢;rw[h2,h1,List.length_cons,Nat.add_mul];omega
theorem Hx {sz:Nat}:∀ {es:List (List T)} (i:Nat),(∀ e∈es,e.length=sz)→(lvs es).drop (i*sz)=lvs (es.drop i)
 |es,0,_=>by simp
 |[],i+1,_=>by simp[lvs]
 |e::es,i+1,h=>by
  have h1:=h e (by simp);have h2:=Hx (es:=es) i fun x hx=>h x (by simp[hx]);have:(lvs (e::es))=e.map (T.lv false)++lvs es:=by simp[lvs]
  rw[this,List.drop_append,List.drop_succ_cons,← h2,List.length_map,h1,Nat.add_mul,List.drop_of_length_le (by simp[h1])];simp
theorem Ir {sz i:Nat} {es:List (List T)} {e:List T} (h:∀ e∈es,e.length=sz) (he:es[i]?=some e) (j:Nat) (hj:j<sz):(lvs es)[i*sz+j]?=(e[j]?).map (T.lv false):=by
 have h1:=Hx i h;have h2:es.drop i=e::es.drop (i+1):=by
  have hlt:=(List.getElem?_eq_some_iff.1 he).1;rw[List.drop_eq_getElem_cons hlt];congr 1
  exact (List.getElem?_eq_some_iff.1 he).2
 rw[← List.getElem?_drop,h1,h2];have hl:=h e (List.mem_of_getElem? he);have:lvs (e::es.drop (i+1))=e.map (T.lv false)++lvs (es.drop (i+1)):=by simp[lvs]
 rw[this,List.getElem?_append_left (by simp[hl,hj]),List.getElem?_map]
section
variable {P:Program} {cx:Cx} {o:Oper} {st:St}
def obsBut (st:St) (o:Nat):List (Option Ob):=st.ob.map (Option.map (Ob.ren (but o)))
def St.grow (st:St) (o:Nat) (x:Ob):St:={ st with tm:=st.tm.ren (but o),ob:=(obsBut st o).set o (some x),gh:=st.gh.map (Tm.ren (but o)) }
theorem IF {o' i:Nat} {y:Ob} (h:(obsBut st o')[i]?=some (some y)):∃ z,st.ob[i]?=some (some z)∧y=z.ren (but o'):=by
 unfold obsBut at h;rw[List.getElem?_map] at h;obtain⟨z,hz,h⟩:=Option.map_eq_some_iff.1 h;obtain⟨u,rfl,rfl⟩:=Option.map_eq_some_iff.1 h;exact⟨u,hz,rfl⟩
theorem RelS.regrow {σ:Nat→Hd} {a:Act} {w w':World} (h:RelS cx σ st a w) {o:Nat} {x x':Ob} (ho:st.ob[o]?=some (some x)) (hd:Option (Nat×Nat))
  (hsz:w.heap.size≤w'.heap.size) (hsame:∀ b,b<w.heap.size→(∀ k,σ o≠some (some (b,k)))→w'.heap[b]?=w.heap[b]?) (hos:w'.os=w.os) (htp:w'.tape=w.tape) (hout:w'.output=w.output)
  (hnew:∀ b k,hd=some (b,k)→(∃ k0,σ o=some (some (b,k0)))∨w.heap.size≤b)
  (hx:∀ b k,hd=some (b,k)→∃ (vs rest:List Value) (cs:List LV),w'.heap[b]?=some (.cells (vs++rest).toArray x'.ty (0,0))∧All2 (RelL w (Xd cx w σ st.ob) (Xe w σ st.ob) σ) vs cs∧x'.cs=cs.map (LV.ren (but o)) ∧
   (x'.bx=true→rest=[])∧(x'.bx=false→vs.length+rest.length=k*x'.sz∧k≤maxLen∧(x'.row=true→∀ k',x'.cap=some k'→k'=k)))
  (hx0:hd=none→x'.row=true∧x'.cs=[]∧(x'.cap=none∨x'.cap=some 0)) (hrw:x'.row=true) :
  RelS cx (upd σ o (some hd)) (st.grow o x') a w':=by
 have hl:o<st.ob.length:=(List.getElem?_eq_some_iff.1 ho).1;have hlen:(obsBut st o).length=st.ob.length:=by simp[obsBut]
 have hget:∀ (i:Nat) (y:Ob),((obsBut st o).set o (some x'))[i]?=some (some y)→(i=o∧y=x')∨(i≠o∧∃ z,st.ob[i]?=some (some z)∧y=z.ren (but o)):=by
  intro i y hy;by_cases e:i=o
  ·subst e;rw[List.getElem?_set_self (by omega)] at hy;simp at hy;exact .inl ⟨rfl,hy.symm⟩
  ·rw[List.getElem?_set_ne (Ne.symm e)] at hy;exact .inr ⟨e,IF hy⟩
 have hs:Step σ st.ob w (upd σ o (some hd)) ((obsBut st o).set o (some x')) w' (but o):=by
  refine⟨⟨hsz,fun b hb hn=>hsame b hb fun k e=>hn ⟨o,x,k,ho,e⟩,hos,htp,hout⟩,?_,?_⟩
  ·intro i j hh e hi;obtain⟨rfl,hne⟩:=JJ e;rw[AD _ _ hne];exact hi
  ·rintro b ⟨i,y,k,hi,hb⟩;rcases hget i y hi with ⟨rfl,rfl⟩|⟨hne,z,hz,rfl⟩
   ·rw[AQ] at hb;simp at hb;rcases hnew b k hb with ⟨k0,h0⟩|h0
    ·exact .inl ⟨i,x,k0,ho,h0⟩
    ·exact .inr h0
   ·rw[AD _ _ hne] at hb;exact .inl ⟨i,z,k,hz,hb⟩
 refine h.step hs (hs.relH h.h ?_ ?_ ?_ (by have:=h.h.nbl;simp[hlen];omega) ?_)
 ·intro i y hi;rcases hget i y hi with ⟨rfl,rfl⟩|⟨hne,z,hz,rfl⟩
  ·rw[AQ];match hd,hx,hx0 with
   |none,_,hx0=>exact⟨Ob.bx_row (hx0 rfl).1,(hx0 rfl).2.1,fun _=>(hx0 rfl).2.2⟩
   |some (b,k),hx,_ =>
    obtain⟨vs,rest,cs,h1,h2,h3,h4,h5⟩:=hx b k rfl;refine⟨vs,rest,h1,?_,h4,h5⟩;rw[h3];exact All2.map _ (fun v c _ hc=>hs.relL (cx:=cx) hc) h2
  ·rw[AD _ _ hne];exact hs.relO (cx:=cx) (fun b k e=>hsame b (h.h.lt ⟨i,z,k,hz,e⟩) fun k' e'=>hne (h.h.inj i o z x b k k' hz ho e e')) (h.h.obs i z hz)
 ·intro i j y y' b k k' hi hj hb hb';have key:∀ (i:Nat) (y:Ob) (k:Nat),((obsBut st o).set o (some x'))[i]?=some (some y)→upd σ o (some hd) i=some (some (b,k))→(i=o∧hd=some (b,k))∨(i≠o∧∃ z,st.ob[i]?=some (some z)∧σ i=some (some (b,k))):=by
   intro i y k hi hb;rcases hget i y hi with ⟨rfl,rfl⟩|⟨hne,z,hz,rfl⟩
   ·rw[AQ] at hb;simp at hb;exact .inl ⟨rfl,hb⟩
   ·rw[AD _ _ hne] at hb;exact .inr ⟨hne,z,hz,hb⟩
  rcases key i y k hi hb with ⟨e1,e2⟩|⟨e1,z,e2,e3⟩ <;> rcases key j y' k' hj hb' with ⟨f1,f2⟩|⟨f1,z',f2,f3⟩
  ·rw[e1,f1]
  ·rcases hnew b k e2 with ⟨k0,h0⟩|h0
   ·exact absurd (h.h.inj j o z' x b k' k0 f2 ho f3 h0) f1
   ·have:=h.h.lt (b:=b) ⟨j,z',k',f2,f3⟩;omega
  ·rcases hnew b k' f2 with ⟨k0,h0⟩|h0
   ·exact absurd (h.h.inj i o z x b k k0 e2 ho e3 h0) e1
   ·have:=h.h.lt (b:=b) ⟨i,z,k,e2,e3⟩;omega
  ·exact h.h.inj i j z z' b k k' e2 f2 e3 f3
 ·intro i hi;have:st.ob.length≤i:=by simpa [hlen] using hi
  rw[AD _ _ (by omega)];exact h.h.dom i this
 ·intro i y hi hrow hnb;rcases hget i y hi with ⟨rfl,rfl⟩|⟨hne,z,hz,rfl⟩
  ·rw[hrw] at hrow;simp at hrow
  ·rw[AD _ _ hne];exact h.h.box i z hz hrow hnb
theorem RelS.renew {σ:Nat→Hd} {a:Act} {w w':World} (h:RelS cx σ st a w) {o:Nat} {x x':Ob} (ho:st.ob[o]?=some (some x)) (hd:Option (Nat×Nat))
  (hsz:w.heap.size≤w'.heap.size) (hsame:∀ b,b<w.heap.size→(∀ k,σ o≠some (some (b,k)))→w'.heap[b]?=w.heap[b]?) (hos:w'.os=w.os) (htp:w'.tape=w.tape) (hout:w'.output=w.output)
  (hnew:∀ b k,hd=some (b,k)→(∃ k0,σ o=some (some (b,k0)))∨w.heap.size≤b)
  (hx:∀ b k,hd=some (b,k)→∃ (vs rest:List Value),w'.heap[b]?=some (.cells (vs++rest).toArray x'.ty (0,0))∧All2 (RelL w (Xd cx w σ st.ob) (Xe w σ st.ob) σ) vs x'.cs ∧
   (x'.bx=true→rest=[])∧(x'.bx=false→vs.length+rest.length=k*x'.sz∧k≤maxLen∧(x'.row=true→∀ k',x'.cap=some k'→k'=k)))
  (hx0:hd=none→x'.row=true∧x'.cs=[]∧(x'.cap=none∨x'.cap=some 0)) (hrw:x'.row=true) :
  RelS cx (upd σ st.ob.length (some hd)) { st with ob:=st.ob.set o none++[some x'] } a w':=by
 have hl:o<st.ob.length:=(List.getElem?_eq_some_iff.1 ho).1;have hget:∀ (i:Nat) (y:Ob),(st.ob.set o none++[some x'])[i]?=some (some y)→(i=st.ob.length∧y=x')∨(i≠o∧i≠st.ob.length∧st.ob[i]?=some (some y)):=by
  intro i y hy;rcases Nat.lt_or_ge i st.ob.length with hlt|hge
  ·rw[List.getElem?_append_left (by simpa using hlt)] at hy;by_cases e:i=o
   ·subst e;rw[List.getElem?_set_self hl] at hy;simp at hy
   ·rw[List.getElem?_set_ne (Ne.symm e)] at hy;exact .inr ⟨e,by omega,hy⟩
  ·rw[List.getElem?_append_right (by simpa using hge)] at hy;simp only[List.length_set] at hy;have e:i - st.ob.length=0:=by
    rcases Nat.eq_zero_or_pos (i - st.ob.length) with e|e
    ·exact e
    ·rw[List.getElem?_eq_none (by simp;omega)] at hy;simp at hy
   rw[e] at hy;simp at hy;exact .inl ⟨by omega,hy.symm⟩
 have hs:Step σ st.ob w (upd σ st.ob.length (some hd)) (st.ob.set o none++[some x']) w' some:=by
  refine⟨⟨hsz,fun b hb hn=>hsame b hb fun k e=>hn ⟨o,x,k,ho,e⟩,hos,htp,hout⟩,?_,?_⟩
  ·intro i j hh e hi;cases e
   rw[AD]
   ·exact hi
   ·rintro rfl;rw[h.h.dom _ (Nat.le_refl _)] at hi;simp at hi
  ·rintro b ⟨i,y,k,hi,hb⟩;rcases hget i y hi with ⟨rfl,rfl⟩|⟨hne,hne2,hz⟩
   ·rw[AQ] at hb;simp at hb;rcases hnew b k hb with ⟨k0,h0⟩|h0
    ·exact .inl ⟨o,x,k0,ho,h0⟩
    ·exact .inr h0
   ·rw[AD _ _ hne2] at hb;exact .inl ⟨i,y,k,hz,hb⟩
 refine h.step_some hs (hs.relH h.h ?_ ?_ ?_ (by have:=h.h.nbl;simp;omega) ?_)
 ·intro i y hi;rcases hget i y hi with ⟨rfl,rfl⟩|⟨hne,hne2,hz⟩
  ·rw[AQ];match hd,hx,hx0 with
   |none,_,hx0=>exact⟨Ob.bx_row (hx0 rfl).1,(hx0 rfl).2.1,fun _=>(hx0 rfl).2.2⟩
   |some (b,k),hx,_ =>
    obtain⟨vs,rest,h1,h2,h4,h5⟩:=hx b k rfl;refine⟨vs,rest,h1,?_,h4,h5⟩;exact h2.mono fun v c _ hc=>by
     have:=hs.relL (cx:=cx) hc;rwa [LV.ren_some] at this
  ·rw[AD _ _ hne2];have:=hs.relO (cx:=cx) (fun b k e=>hsame b (h.h.lt ⟨i,y,k,hz,e⟩) fun k' e'=>hne (h.h.inj i o y x b k k' hz ho e e')) (h.h.obs i y hz);rwa [Ob.ren_some] at this
 ·intro i j y y' b k k' hi hj hb hb';have key:∀ (i:Nat) (y:Ob) (k:Nat),(st.ob.set o none++[some x'])[i]?=some (some y)→upd σ st.ob.length (some hd) i=some (some (b,k))→(i=st.ob.length∧hd=some (b,k))∨(i≠o∧st.ob[i]?=some (some y)∧σ i=some (some (b,k))):=by
   intro i y k hi hb;rcases hget i y hi with ⟨rfl,rfl⟩|⟨hne,hne2,hz⟩
   ·rw[AQ] at hb;simp at hb;exact .inl ⟨rfl,hb⟩
   ·rw[AD _ _ hne2] at hb;exact .inr ⟨hne,hz,hb⟩
  rcases key i y k hi hb with ⟨e1,e2⟩|⟨e1,e2,e3⟩ <;> rcases key j y' k' hj hb' with ⟨f1,f2⟩|⟨f1,f2,f3⟩
  ·rw[e1,f1]
  ·rcases hnew b k e2 with ⟨k0,h0⟩|h0
   ·exact absurd (h.h.inj j o y' x b k' k0 f2 ho f3 h0) f1
   ·have:=h.h.lt (b:=b) ⟨j,y',k',f2,f3⟩;omega
  ·rcases hnew b k' f2 with ⟨k0,h0⟩|h0
   ·exact absurd (h.h.inj i o y x b k k0 e2 ho e3 h0) e1
   ·have:=h.h.lt (b:=b) ⟨i,y,k,e2,e3⟩;omega
  ·exact h.h.inj i j y y' b k k' e2 f2 e3 f3
 ·intro i hi;have hi':st.ob.length+1≤i:=by simpa using hi
  rw[AD _ _ (by omega)];exact h.h.dom i (by omega)
 ·intro i y hi hrow hnb;rcases hget i y hi with ⟨rfl,rfl⟩|⟨hne,hne2,hz⟩
  ·rw[hrw] at hrow;simp at hrow
  ·rw[AD _ _ hne2];exact h.h.box i y hz hrow hnb
end
end Go.Proofs.Ytenemndpignaoaa
namespace Go.Proofs.Ytenemndpignaoaa
open Go Go.RowKit
def St.src (st:St) (sz:Nat):AV→Option (Nat×List LV)
 |.l (.d al sz' es)=>if sz'=sz then some (es.length,lvsA al es) else none
 |.l (.r ob sz' lo hi) =>
  match st.obj ob with
  |some z=>if sz'=sz∧z.sz=sz∧z.row=true∧hi*sz≤z.cs.length∧lo≤hi∧((z.cs.drop (lo*sz)).take ((hi - lo)*sz)).all LV.ok=true then some (hi - lo,(z.cs.drop (lo*sz)).take ((hi - lo)*sz)) else none
  |none=>none
 |.l (.s (.slice none 0 0))=>some (0,[])
 |_=>none
section
variable {P:Program} {cx:Cx} {o:Oper} {st:St}
theorem Hy {sz:Nat} {α:Type}:∀ {es:List (List α)} (i j:Nat) {e:List α},(∀ e∈es,e.length=sz)→es[i]?=some e→j<sz→es.flatten[i*sz+j]?=e[j]?
 |[],i,j,e,_,he,_=>by simp at he
 |x::es,0,j,e,h,he,hj=>by
  simp at he;subst he;simp[List.getElem?_append_left (show j<x.length by rw[h x (by simp)];exact hj)]
 |x::es,i+1,j,e,h,he,hj=>by
  have hx:=h x (by simp);rw[List.flatten_cons,List.getElem?_append_right (by rw[hx,Nat.add_mul];omega),← Hy (es:=es) i j (e:=e) (fun y hy=>h y (by simp[hy])) (by simpa using he) hj];congr 1
  rw[hx,Nat.add_mul];omega
theorem RelS.src {σ:Nat→Hd} {a:Act} {w:World} (hr:RelS cx σ st a w) {v:Value} {x:AV} (hv:RelV w (Xd cx w σ st.ob) (Xe w σ st.ob) σ v x) {sz m:Nat} {cs:List LV} (hs:st.src sz x=some (m,cs)) :
  (v=.slice none 0 0∧m=0∧cs=[])∨∃ ad c news,v=.slice (some ad) m c∧news.length=m*sz∧(∀ j u,news[j]?=some u→w.cell? (ad.add j)=some u)∧(∀ u∈news,u.oneCell'=true) ∧
   All2 (RelL w (Xd cx w σ st.ob) (Xe w σ st.ob) σ) news cs:=by
 unfold St.src at hs;split at hs
 ·rename_i al sz' es
  split at hs
  ·rename_i e
   subst e;simp at hs;obtain⟨rfl,rfl⟩:=hs;have hv':Rd w (if al=true then Xe w σ st.ob else Xd cx w σ st.ob) v (.sl sz' es):=hv;cases hv' with
   |sl ad m cp _ _ b off cv hm hcp hmm hs ha hz hcell hrd =>
    rcases Nat.eq_zero_or_pos m with h0|h0
    ·subst h0;have he:es=[]:=List.eq_nil_of_length_eq_zero hm;subst he;cases ad with
     |none=>rw[hz rfl];exact .inl ⟨rfl,rfl,rfl⟩
     |some ad=>exact .inr ⟨ad,cp,[],rfl,by simp,by simp,by simp,trivial⟩
    ·obtain⟨rfl,hX⟩:=ha h0;have hmul:∀ j,j<m*sz'→0<sz'∧j / sz'<m∧j % sz'<sz'∧(j / sz')*sz'+j % sz'=j:=by
      intro j hj;have hp:0<sz':=by
       rcases Nat.eq_zero_or_pos sz' with e|e
       ·subst e;simp at hj
       ·exact e
      exact⟨hp,(Nat.div_lt_iff_lt_mul hp).2 hj,Nat.mod_lt _ hp,by rw[Nat.mul_comm];exact Nat.div_add_mod j sz'⟩
     refine .inr ⟨⟨b,off,none⟩,cp,(List.range (m*sz')).map fun j=>cv (j / sz') (j % sz'),by rw[hm],by simp[hm],?_,?_,?_⟩
     ·intro j u hj;have hlt:j<m*sz':=by have:=(List.getElem?_eq_some_iff.1 hj).1;simpa using this
      rw[List.getElem?_map,List.getElem?_range hlt] at hj;simp at hj;subst hj;obtain⟨h1,h2,h3,h4⟩:=hmul j hlt;rw[Cr];have:=hcell (j / sz') (j % sz') h2 h3;rwa [h4] at this
     ·intro u hu;obtain⟨j,hj,rfl⟩:=List.mem_map.1 hu;obtain⟨h1,h2,h3,h4⟩:=hmul j (List.mem_range.1 hj);have he:=List.getElem?_eq_getElem (l:=es) (i:=j / sz') (by omega);have ht:=List.getElem?_eq_getElem (l:=es[j / sz']) (i:=j % sz') (by rw[hs _ (List.getElem_mem _)];exact h3);exact (hrd _ _ _ _ he ht).one
     ·refine All2.of_get (by rw[FJ hs];simp[hm]) fun i u c hu hc=>?_;have hlt:i<m*sz':=by have:=(List.getElem?_eq_some_iff.1 hu).1;simpa using this
      rw[List.getElem?_map,List.getElem?_range hlt] at hu;simp at hu;subst hu;obtain⟨h1,h2,h3,h4⟩:=hmul i hlt;obtain⟨e,he⟩:∃ e,es[i / sz']?=some e:=⟨_,List.getElem?_eq_getElem (by omega)⟩;have hel:=hs e (List.mem_of_getElem? he);obtain⟨t,ht⟩:∃ t,e[i % sz']?=some t:=⟨_,List.getElem?_eq_getElem (by omega)⟩;have hc2:(lvsA al es)[i]?=some (t.lv al):=by
       have hf:lvsA al es=(es.map (·.map (T.lv al))).flatten:=by simp[lvsA,List.flatMap_def]
       have:=Hy (sz:=sz') (es:=es.map (·.map (T.lv al))) (i / sz') (i % sz') (e:=e.map (T.lv al)) (by
        intro e he;obtain⟨e',he',rfl⟩:=List.mem_map.1 he;simp[hs e' he']) (by rw[List.getElem?_map,he];rfl) h3
       rw[h4,← hf,List.getElem?_map,ht] at this;exact this
      rw[hc2] at hc;simp at hc;subst hc;exact RelL.lv (hrd _ _ _ _ he ht)
  ·simp at hs
 ·rename_i ob sz' lo hi
  split at hs
  ·rename_i z hz
   split at hs
   ·rename_i hc
    obtain⟨rfl,hzs,hrow,hle,hlh,hok⟩:=hc;simp at hs;obtain⟨rfl,rfl⟩:=hs;have hO:=hr.h.obs ob z (AK hz);rcases hv with ⟨hb,rfl,rfl,hv⟩|⟨b,k,off,hb,h3,h4,hv,hoff⟩
    ·exact .inl ⟨hv,rfl,by simp⟩
    ·rw[hb] at hO;obtain⟨vs,rest,g1,g2,g4,g5⟩:=hO;have hvl:=g2.length;have hall:=(g2.drop (lo*sz')).take ((hi - lo)*sz');have hlen:(hi - lo)*sz'+lo*sz'=hi*sz':=by rw[← Nat.add_mul];congr 1;omega
     refine .inr ⟨⟨b,off,none⟩,k - lo,(vs.drop (lo*sz')).take ((hi - lo)*sz'),hv,?_,?_,?_,hall⟩
     ·simp;omega
     ·intro j u hj;have hlt:j<(hi - lo)*sz':=by have:=(List.getElem?_eq_some_iff.1 hj).1;simp at this;omega
      rw[List.getElem?_take_of_lt hlt,List.getElem?_drop] at hj;have hlo:off=lo*sz':=hoff (by
       rcases Nat.lt_or_ge lo k with h|h
       ·exact .inl h
       ·have:hi - lo=0:=by omega
        rw[this] at hlt;simp at hlt)
      rw[Cr,hlo,cell_of_row w b _ _ _ _ g1];have:lo*sz'+j<vs.length:=by omega
      simp[List.getElem?_append_left this,hj]
     ·intro u hu;obtain⟨i,hi'⟩:=List.getElem?_of_mem hu;have hl:=(List.getElem?_eq_some_iff.1 hi').1;rw[hall.length] at hl;have hc:=List.getElem?_eq_getElem hl;exact (hall.get i hi' hc).one (List.all_eq_true.1 hok _ (List.mem_of_getElem? hc))
   ·simp at hs
  ·simp at hs
 ·simp at hs;obtain⟨rfl,rfl⟩:=hs;exact .inl ⟨hv.1,rfl,rfl⟩
 ·simp at hs
theorem RelS.newNil {σ:Nat→Hd} {a:Act} {w:World} (h:RelS cx σ st a w) (x:Ob) (hx:x.row=true∧x.cs=[]∧(x.cap=none∨x.cap=some 0)):RelS cx (upd σ st.ob.length (some none)) (st.add x) a w:=by
 have hnew:∀ o h',σ o=some h'→upd σ st.ob.length (some none) o=some h':=by
  intro o h' ho;rw[AD]
  ·exact ho
  ·intro e;rw[h.h.dom o (by omega)] at ho;exact absurd ho (by simp)
 have key:∀ (o:Nat) (y:Ob),(st.ob++[some x])[o]?=some (some y)→(o=st.ob.length∧y=x)∨(o≠st.ob.length∧st.ob[o]?=some (some y)):=by
  intro o y ho;rcases Nat.lt_trichotomy o st.ob.length with hlt|rfl|hgt
  ·rw[List.getElem?_append_left hlt] at ho;exact .inr ⟨by omega,ho⟩
  ·simp at ho;exact .inl ⟨rfl,ho.symm⟩
  ·rw[List.getElem?_eq_none (by simp;omega)] at ho;exact absurd ho (by simp)
 have hs:Step σ st.ob w (upd σ st.ob.length (some none)) (st.ob++[some x]) w some:=by
  refine⟨Evo.refl _ _ _,fun o o' h' e hh=>by cases e;exact hnew o h' hh,?_⟩;rintro b ⟨o,y,k',ho,hb⟩;rcases key o y ho with ⟨rfl,rfl⟩|⟨hne,hy⟩
  ·rw[AQ] at hb;simp at hb
  ·rw[AD _ _ hne] at hb;exact .inl ⟨o,y,k',hy,hb⟩
 refine h.step_some hs (hs.relH h.h ?_ ?_ ?_ (by have:=h.h.nbl;simp;omega) ?_)
 ·intro o y ho;rcases key o y ho with ⟨rfl,rfl⟩|⟨hne,hy⟩
  ·rw[AQ];exact⟨Ob.bx_row hx.1,hx.2.1,fun _=>hx.2.2⟩
  ·rw[AD _ _ hne];have:=hs.relO (cx:=cx) (fun b k e=>rfl) (h.h.obs o y hy);rwa [Ob.ren_some] at this
 ·intro o o' y y' b k k' ho ho' hb hb';rcases key o y ho with ⟨rfl,rfl⟩|⟨hne,hy⟩
  ·rw[AQ] at hb;simp at hb
  ·rcases key o' y' ho' with ⟨rfl,rfl⟩|⟨hne',hy'⟩
   ·rw[AQ] at hb';simp at hb'
   ·rw[AD _ _ hne] at hb;rw[AD _ _ hne'] at hb';exact h.h.inj o o' y y' b k k' hy hy' hb hb'
 ·intro o ho;rw[AD _ _ (by simp at ho;omega)];exact h.h.dom o (by simp at ho;omega)
 ·intro o y ho hrow hnb;rcases key o y ho with ⟨rfl,rfl⟩|⟨hne,hy⟩
  ·have:=h.h.nbl;omega
  ·rw[AD _ _ hne];exact h.h.box o y hy hrow hnb
theorem DV {w:World} {t ty e:Nat} {ti:TI} (he:elemF P t=some e) (hti:tiF P e=some ti) (hzl:ti.zero.length=ti.sz) (h0:0<ti.sz) (hb0:0<ti.bytes) (v:Value) (n:Nat) (xs:List Value)
  (hown:w.ownsRow 0 e ti.sz v n xs) (x:Value) (m:Nat) (news:List Value)
  (hx:(x=.slice none 0 0∧m=0∧news=[])∨∃ ad c,x=.slice (some ad) m c∧news.length=m*ti.sz∧(∀ j u,news[j]?=some u→w.cell? (ad.add j)=some u)∧∀ u∈news,u.oneCell'=true)
  (hbytes:(n+m)*ti.bytes≤140737488355328) :
  ∃ v' w',(Builtin.append_ #[t,t] ty #[v,x]).run P w=.ok v' w'∧w'.ownsRow 0 e ti.sz v' (n+m) (xs++news)∧w.grownBy w' v.ownBlock∧(v'.ownBlock=v.ownBlock∨v'.ownBlock=some w.heap.size):=by
 obtain⟨i,d,z,h1,h2,h3,rfl⟩:=Cg hti;simp only at hzl h0 hb0 hbytes hown hx ⊢;rcases hx with ⟨rfl,rfl,rfl⟩|⟨ad,c,rfl,hl,hc,h1'⟩
 ·exact⟨v,w,run_append_owned_none w 0 t ty e i i.size (AE he) h1 v n xs hown,by simpa using hown,⟨rfl,rfl,rfl,Nat.le_refl _,fun _ _ _=>rfl⟩,.inl rfl⟩
 ·have hm:n+m≤maxLen:=by
   have:n+m≤(n+m)*i.bytes:=Nat.le_mul_of_pos_right _ hb0;unfold maxLen;omega
  obtain⟨v',w',g1,g2,g3,_,g5⟩:=run_append_own_at w 0 t ty e i z i.size i.bytes (AE he) h1 h3 rfl rfl (by simpa using hzl) h0 v n xs hown ad m c news hl hc h1' hm hbytes (Nat.zero_le _);exact⟨v',w',g1,g2,g3,g5⟩
end
end Go.Proofs.Ytenemndpignaoaa
namespace Go.Proofs.Ytenemndpignaoaa
open Go Go.RowKit
section
variable {P:Program} {cx:Cx} {o:Oper} {st:St}
theorem EO {w:World} {e sz n:Nat} {v:Value} {xs:List Value} (h:w.ownsRow 0 e sz v n xs):(v=.slice none 0 0∧n=0∧xs=[]) ∨
  ∃ g cap rest,v=.slice (some ⟨g,0,none⟩) n cap∧w.heap[g]?=some (.cells (xs++rest).toArray e (0,0))∧n≤cap∧cap≤maxLen∧xs.length+rest.length=cap*sz:=by
 rcases h.2 with ⟨rfl,rfl⟩|⟨g,cap,cur,rfl,_,hg,h1,h2,h3,h4⟩
 ·have:=h.1;simp at this;exact .inl ⟨rfl,rfl,this⟩
 ·have e:xs++cur.toList.drop (n*sz)=cur.toList:=by rw[← h4];exact List.take_append_drop _ _
  refine .inr ⟨g,cap,cur.toList.drop (n*sz),rfl,by rw[e];exact hg,h1,h2,?_⟩;rw[← List.length_append,e];simpa using h3
theorem RelS.newAt {σ:Nat→Hd} {a:Act} {w w':World} (h:RelS cx σ st a w) (x:Ob) (hd:Option (Nat×Nat)) (hgr:w.grownBy w' none) (hnew:∀ b k,hd=some (b,k)→w.heap.size≤b)
  (hx:∀ b k,hd=some (b,k)→∃ vs rest:List Value,w'.heap[b]?=some (.cells (vs++rest).toArray x.ty (0,0))∧All2 (RelL w (Xd cx w σ st.ob) (Xe w σ st.ob) σ) vs x.cs ∧
   (x.bx=true→rest=[])∧(x.bx=false→vs.length+rest.length=k*x.sz∧k≤maxLen∧(x.row=true→∀ k',x.cap=some k'→k'=k)))
  (hx0:hd=none→x.row=true∧x.cs=[]∧(x.cap=none∨x.cap=some 0)) :
  RelS cx (upd σ st.ob.length (some hd)) (st.add x) a w':=by
 have hold:∀ o h',σ o=some h'→upd σ st.ob.length (some hd) o=some h':=by
  intro o h' ho;rw[AD]
  ·exact ho
  ·intro e;rw[h.h.dom o (by omega)] at ho;exact absurd ho (by simp)
 have key:∀ (o:Nat) (y:Ob),(st.ob++[some x])[o]?=some (some y)→(o=st.ob.length∧y=x)∨(o≠st.ob.length∧st.ob[o]?=some (some y)):=by
  intro o y ho;rcases Nat.lt_trichotomy o st.ob.length with hlt|rfl|hgt
  ·rw[List.getElem?_append_left hlt] at ho;exact .inr ⟨by omega,ho⟩
  ·simp at ho;exact .inl ⟨rfl,ho.symm⟩
  ·rw[List.getElem?_eq_none (by simp;omega)] at ho;exact absurd ho (by simp)
 have hs:Step σ st.ob w (upd σ st.ob.length (some hd)) (st.ob++[some x]) w' some:=by
  refine⟨⟨hgr.size,fun b hb _=>hgr.block b hb (by simp),hgr.os,hgr.tape,hgr.output⟩,fun o o' h' e hh=>by cases e;exact hold o h' hh,?_⟩;rintro b ⟨o,y,k',ho,hb⟩;rcases key o y ho with ⟨rfl,rfl⟩|⟨hne,hy⟩
  ·rw[AQ] at hb;simp at hb;exact .inr (hnew b k' hb)
  ·rw[AD _ _ hne] at hb;exact .inl ⟨o,y,k',hy,hb⟩
 refine h.step_some hs (hs.relH h.h ?_ ?_ ?_ (by have:=h.h.nbl;simp;omega) ?_)
 ·intro o y ho;rcases key o y ho with ⟨rfl,rfl⟩|⟨hne,hy⟩
  ·rw[AQ];match hd,hx,hx0 with
   |none,_,hx0=>exact⟨Ob.bx_row (hx0 rfl).1,(hx0 rfl).2.1,fun _=>(hx0 rfl).2.2⟩
   |some (b,k),hx,_ =>
    obtain⟨vs,rest,h1,h2,h4,h5⟩:=hx b k rfl;refine⟨vs,rest,h1,h2.mono fun v c _ hc=>?_,h4,h5⟩;have:=hs.relL (cx:=cx) hc;rwa [LV.ren_some] at this
  ·rw[AD _ _ hne];have:=hs.relO (cx:=cx) (fun b k e=>hgr.block b (h.h.lt ⟨o,y,k,hy,e⟩) (by simp)) (h.h.obs o y hy);rwa [Ob.ren_some] at this
 ·intro o o' y y' b k k' ho ho' hb hb';rcases key o y ho with ⟨rfl,rfl⟩|⟨hne,hy⟩ <;> rcases key o' y' ho' with ⟨rfl,rfl⟩|⟨hne',hy'⟩
  ·rfl
  ·rw[AQ] at hb;rw[AD _ _ hne'] at hb';simp at hb;have:=hnew b k hb;have:=h.h.lt (b:=b) ⟨o',y',k',hy',hb'⟩;omega
  ·rw[AQ] at hb';rw[AD _ _ hne] at hb;simp at hb';have:=hnew b k' hb';have:=h.h.lt (b:=b) ⟨o,y,k,hy,hb⟩;omega
  ·rw[AD _ _ hne] at hb;rw[AD _ _ hne'] at hb';exact h.h.inj o o' y y' b k k' hy hy' hb hb'
 ·intro o ho;rw[AD _ _ (by simp at ho;omega)];exact h.h.dom o (by simp at ho;omega)
 ·intro o y ho hrow hnb;rcases key o y ho with ⟨rfl,rfl⟩|⟨hne,hy⟩
  ·have:=h.h.nbl;omega
  ·rw[AD _ _ hne];exact h.h.box o y hy hrow hnb
theorem EX {σ:Nat→Hd} {a:Act} {w:World} (hr:RelS cx σ st a w) {x:Operand} {sz m:Nat} {nc:List LV} (hx:st.src sz (st.ev x)=some (m,nc)) :
  ∃ news:List Value,((a.eval x=.slice none 0 0∧m=0∧news=[])∨∃ ad c,a.eval x=.slice (some ad) m c∧news.length=m*sz∧(∀ j u,news[j]?=some u→w.cell? (ad.add j)=some u)∧∀ u∈news,u.oneCell'=true) ∧
   All2 (RelL w (Xd cx w σ st.ob) (Xe w σ st.ob) σ) news nc:=by
 rcases hr.src (hr.ev x) hx with ⟨h1,h2,rfl⟩|⟨ad,c,news,h1,h2,h3,h4,h5⟩
 ·exact⟨[],.inl ⟨h1,h2,rfl⟩,trivial⟩
 ·exact⟨news,.inr ⟨ad,c,h1,h2,h3,h4⟩,h5⟩
theorem OpOk.append_nil {t e m:Nat} {s x:Operand} {ti:TI} {nc:List LV} (ho:o.op=.call { callee:=.builtin .append,args:=#[s,x],argTypes:=#[t,t] }) (he:elemF P t=some e) (hti:tiF P e=some ti)
  (hzl:ti.zero.length=ti.sz) (h0:0<ti.sz) (hb0:0<ti.bytes) (hs:st.ev s=.l (.s (.slice none 0 0))) (hx:st.src ti.sz (st.ev x)=some (m,nc)) (hbytes:m*ti.bytes≤140737488355328) :
  OpOk P cx o st ((st.add ⟨e,ti.sz,true,none,nc⟩).put o.dst (hdr st.ob.length ti.sz m)):=by
 intro σ a w hr;have hv:=hr.ev s;rw[hs] at hv;have hv':a.eval s=.slice none 0 0:=hv.1;obtain⟨news,hnews⟩:=EX hr hx;obtain⟨v',w',hrun,hown,hgr,hblk⟩:=DV (P:=P) (ty:=o.type) he hti hzl h0 hb0 (.slice none 0 0) 0 [] (World.ownsRow_nil w 0 e ti.sz) (a.eval x) m news hnews.1 (by simpa using hbytes);rw[Nat.zero_add,List.nil_append] at hown;have hrun':(execOp a.eval o).run P w=.ok (.value v') w':=by
  simp[execOp,ho,resolve,invoke,builtin,hv',hrun]
 have hgr':w.grownBy w' none:=hgr;rcases EO hown with ⟨rfl,rfl,rfl⟩|⟨g,cap,rest,rfl,hg,h1,h2,h3⟩
 ·-- nothing was appended
  have hnc:nc=[]:=List.eq_nil_of_length_eq_zero hnews.2.length.symm;subst hnc;have hn:=hr.newAt ⟨e,ti.sz,true,none,[]⟩ none hgr' (fun b k h=>by simp at h) (fun b k h=>by simp at h) (fun _=>⟨rfl,rfl,.inl rfl⟩);exact⟨_,_,_,hrun',hn.put o.dst (.inl ⟨AQ _ _ _,rfl,rfl,rfl⟩)⟩
 ·have hge:w.heap.size≤g:=by
   rcases hblk with h|h
   ·simp[Value.ownBlock] at h
   ·simp[Value.ownBlock] at h;omega
  have hn:=hr.newAt ⟨e,ti.sz,true,none,nc⟩ (some (g,cap)) hgr' (fun b k h=>by simp at h;omega) (fun b k h=>by
   simp at h;obtain⟨rfl,rfl⟩:=h;exact⟨news,rest,hg,hnews.2,fun h=>by simp at h,fun _=>⟨h3,h2,fun _ k' h=>by simp at h⟩⟩) (fun h=>by simp at h)
  exact⟨_,_,_,hrun',hn.put o.dst (.inr ⟨g,cap,0,AQ _ _ _,Nat.zero_le _,h1,by simp,fun _=>by simp⟩)⟩
theorem OpOk.append_own {t e m n ob:Nat} {s x:Operand} {ti:TI} {nc:List LV} {z:Ob} (ho:o.op=.call { callee:=.builtin .append,args:=#[s,x],argTypes:=#[t,t] }) (he:elemF P t=some e) (hti:tiF P e=some ti)
  (hzl:ti.zero.length=ti.sz) (h0:0<ti.sz) (hb0:0<ti.bytes) (hs:st.ev s=.l (.r ob ti.sz 0 n)) (hz:st.obj ob=some z) (hzt:z.ty=e∧z.sz=ti.sz∧z.row=true) (hfull:z.cs.length=n*ti.sz)
  (hx:st.src ti.sz (st.ev x)=some (m,nc)) (hbytes:(n+m)*ti.bytes≤140737488355328) :
  OpOk P cx o st ((st.grow ob ⟨e,ti.sz,true,none,(z.cs++nc).map (LV.ren (but ob))⟩).put o.dst (hdr ob ti.sz (n+m))):=by
 obtain⟨hzty,hzsz,hzrow⟩:=hzt;intro σ a w hr;have hv:=hr.ev s;rw[hs] at hv;have hO:=hr.h.obs ob z (AK hz);obtain⟨news,hnews⟩:=EX hr hx
 -- what is owned
 have hown0:∃ xs,w.ownsRow 0 e ti.sz (a.eval s) n xs∧All2 (RelL w (Xd cx w σ st.ob) (Xe w σ st.ob) σ) xs z.cs∧∀ b,(a.eval s).ownBlock=some b→∃ k,σ ob=some (some (b,k)):=by
  rcases hv with ⟨hb,_,rfl,hv⟩|⟨b,k,off,hb,h3,h4,hv,hoff⟩
  ·rw[hb] at hO;rw[hv];refine⟨[],World.ownsRow_nil w 0 e ti.sz,?_,fun b h=>by simp[Value.ownBlock] at h⟩;rw[hO.2.1];trivial
  ·rw[hb] at hO;obtain⟨vs,rest,g1,g2,g4,g5⟩:=hO;have hoff':off=0:=by rw[hoff (.inr rfl)];simp
   subst hoff';have hvl:vs.length=n*ti.sz:=by rw[g2.length,hfull]
   obtain⟨g6,g7,_⟩:=g5 (Ob.bx_row hzrow);refine⟨vs,⟨hvl,.inr ⟨b,k,(vs++rest).toArray,by simpa using hv,Nat.zero_le _,by rw[← hzty];exact g1,h4,g7,by rw[← hzsz,← g6];simp,?_⟩⟩,g2,fun b' h=>?_⟩
   ·simp[← hvl]
   ·rw[hv] at h;simp[Value.ownBlock] at h;subst h;exact⟨k,hb⟩
 obtain⟨xs,hown0,hxs,hblk0⟩:=hown0;obtain⟨v',w',hrun,hown,hgr,hblk⟩:=DV (P:=P) (ty:=o.type) he hti hzl h0 hb0 (a.eval s) n xs hown0 (a.eval x) m news hnews.1 hbytes;have hrun':(execOp a.eval o).run P w=.ok (.value v') w':=by
  simp[execOp,ho,resolve,invoke,builtin,hrun]
 have hall:=hxs.append hnews.2;have hsame:∀ b,b<w.heap.size→(∀ k,σ ob≠some (some (b,k)))→w'.heap[b]?=w.heap[b]?:=fun b hb hn=>hgr.block b hb fun e=>by
  obtain⟨k,hk⟩:=hblk0 b e.symm;exact hn k hk
 rcases EO hown with ⟨rfl,hnm,hnil⟩|⟨g,cap,rest,rfl,hg,h1,h2,h3⟩
 ·have hcs:z.cs++nc=[]:=by
   have:=hall.length;rw[hnil] at this;exact List.eq_nil_of_length_eq_zero this.symm
  have hn:=hr.regrow (x':=⟨e,ti.sz,true,none,(z.cs++nc).map (LV.ren (but ob))⟩) (AK hz) none hgr.size hsame hgr.os hgr.tape hgr.output (fun b k h=>by simp at h) (fun b k h=>by simp at h) (fun _=>⟨rfl,by simp[hcs],.inl rfl⟩) rfl;exact⟨_,_,_,hrun',hn.put o.dst (.inl ⟨AQ _ _ _,rfl,by omega,rfl⟩)⟩
 ·have hn:=hr.regrow (x':=⟨e,ti.sz,true,none,(z.cs++nc).map (LV.ren (but ob))⟩) (AK hz) (some (g,cap)) hgr.size hsame hgr.os hgr.tape hgr.output (fun b k h=>by
   simp at h;obtain⟨rfl,rfl⟩:=h;rcases hblk with hb|hb
   ·obtain⟨k0,hk0⟩:=hblk0 g (by rw[← hb];rfl);exact .inl ⟨k0,hk0⟩
   ·simp[Value.ownBlock] at hb;exact .inr (by omega)) (fun b k h=>by
   simp at h;obtain⟨rfl,rfl⟩:=h;exact⟨xs++news,rest,z.cs++nc,hg,hall,rfl,fun h=>by simp at h,fun _=>⟨h3,h2,fun _ k' h=>by simp at h⟩⟩) (fun h=>by simp at h) rfl
  exact⟨_,_,_,hrun',hn.put o.dst (.inr ⟨g,cap,0,AQ _ _ _,Nat.zero_le _,h1,by simp,fun _=>by simp⟩)⟩
theorem OpOk.append_new {t e m n ob:Nat} {s x:Operand} {ti:TI} {nc:List LV} {z:Ob} (ho:o.op=.call { callee:=.builtin .append,args:=#[s,x],argTypes:=#[t,t] }) (he:elemF P t=some e) (hti:tiF P e=some ti)
  (hzl:ti.zero.length=ti.sz) (h0:0<ti.sz) (hb0:0<ti.bytes) (hs:st.ev s=.l (.r ob ti.sz 0 n)) (hz:st.obj ob=some z) (hzt:z.ty=e∧z.sz=ti.sz∧z.row=true) (hfull:z.cs.length=n*ti.sz)
  (hx:st.src ti.sz (st.ev x)=some (m,nc)) (hbytes:(n+m)*ti.bytes≤140737488355328) :
  OpOk P cx o st (St.put { st with ob:=st.ob.set ob none++[some ⟨e,ti.sz,true,none,z.cs++nc⟩] } o.dst (hdr st.ob.length ti.sz (n+m))):=by
 obtain⟨hzty,hzsz,hzrow⟩:=hzt;intro σ a w hr;have hv:=hr.ev s;rw[hs] at hv;have hO:=hr.h.obs ob z (AK hz);obtain⟨news,hnews⟩:=EX hr hx
 -- what is owned
 have hown0:∃ xs,w.ownsRow 0 e ti.sz (a.eval s) n xs∧All2 (RelL w (Xd cx w σ st.ob) (Xe w σ st.ob) σ) xs z.cs∧∀ b,(a.eval s).ownBlock=some b→∃ k,σ ob=some (some (b,k)):=by
  rcases hv with ⟨hb,_,rfl,hv⟩|⟨b,k,off,hb,h3,h4,hv,hoff⟩
  ·rw[hb] at hO;rw[hv];refine⟨[],World.ownsRow_nil w 0 e ti.sz,?_,fun b h=>by simp[Value.ownBlock] at h⟩;rw[hO.2.1];trivial
  ·rw[hb] at hO;obtain⟨vs,rest,g1,g2,g4,g5⟩:=hO;have hoff':off=0:=by rw[hoff (.inr rfl)];simp
   subst hoff';have hvl:vs.length=n*ti.sz:=by rw[g2.length,hfull]
   obtain⟨g6,g7,_⟩:=g5 (Ob.bx_row hzrow);refine⟨vs,⟨hvl,.inr ⟨b,k,(vs++rest).toArray,by simpa using hv,Nat.zero_le _,by rw[← hzty];exact g1,h4,g7,by rw[← hzsz,← g6];simp,?_⟩⟩,g2,fun b' h=>?_⟩
   ·simp[← hvl]
   ·rw[hv] at h;simp[Value.ownBlock] at h;subst h;exact⟨k,hb⟩
 obtain⟨xs,hown0,hxs,hblk0⟩:=hown0;obtain⟨v',w',hrun,hown,hgr,hblk⟩:=DV (P:=P) (ty:=o.type) he hti hzl h0 hb0 (a.eval s) n xs hown0 (a.eval x) m news hnews.1 hbytes;have hrun':(execOp a.eval o).run P w=.ok (.value v') w':=by
  simp[execOp,ho,resolve,invoke,builtin,hrun]
 have hall:=hxs.append hnews.2;have hsame:∀ b,b<w.heap.size→(∀ k,σ ob≠some (some (b,k)))→w'.heap[b]?=w.heap[b]?:=fun b hb hn=>hgr.block b hb fun e=>by
  obtain⟨k,hk⟩:=hblk0 b e.symm;exact hn k hk
 rcases EO hown with ⟨rfl,hnm,hnil⟩|⟨g,cap,rest,rfl,hg,h1,h2,h3⟩
 ·have hcs:z.cs++nc=[]:=by
   have:=hall.length;rw[hnil] at this;exact List.eq_nil_of_length_eq_zero this.symm
  have hn:=hr.renew (x':=⟨e,ti.sz,true,none,z.cs++nc⟩) (AK hz) none hgr.size hsame hgr.os hgr.tape hgr.output (fun b k h=>by simp at h) (fun b k h=>by simp at h) (fun _=>⟨rfl,by simp[hcs],.inl rfl⟩) rfl;exact⟨_,_,_,hrun',hn.put o.dst (.inl ⟨AQ _ _ _,rfl,by omega,rfl⟩)⟩
 ·have hn:=hr.renew (x':=⟨e,ti.sz,true,none,z.cs++nc⟩) (AK hz) (some (g,cap)) hgr.size hsame hgr.os hgr.tape hgr.output (fun b k h=>by
   simp at h;obtain⟨rfl,rfl⟩:=h;rcases hblk with hb|hb
   ·obtain⟨k0,hk0⟩:=hblk0 g (by rw[← hb];rfl);exact .inl ⟨k0,hk0⟩
   ·simp[Value.ownBlock] at hb;exact .inr (by omega)) (fun b k h=>by
   simp at h;obtain⟨rfl,rfl⟩:=h;exact⟨xs++news,rest,hg,hall,fun h=>by simp at h,fun _=>⟨h3,h2,fun _ k' h=>by simp at h⟩⟩) (fun h=>by simp at h) rfl
  exact⟨_,_,_,hrun',hn.put o.dst (.inr ⟨g,cap,0,AQ _ _ _,Nat.zero_le _,h1,by simp,fun _=>by simp⟩)⟩
end
end Go.Proofs.Ytenemndpignaoaa
namespace Go.Proofs.Ytenemndpignaoaa
open Go Go.RowKit
def inv (ids:List (Option Nat)):Ren:=fun o=>ids.findIdx? fun x=>x == some o
theorem EB {ids:List (Option Nat)} {o i:Nat} (h:inv ids o=some i):ids[i]?=some (some o):=by
 unfold inv at h;obtain⟨hlt,hp,_⟩:=List.findIdx?_eq_some_iff_getElem.1 h;rw[List.getElem?_eq_getElem hlt];simpa using hp
def sel (ids:List (Option Nat)) (σ:Nat→Hd):Nat→Hd:=fun i=>match ids[i]? with|some (some o)=>σ o|_=>none
def pickOb (ids:List (Option Nat)) (ob:List (Option Ob)):List (Option Ob):=ids.map fun oo=>oo.bind fun o=>((ob[o]?).bind id).map (Ob.ren (inv ids))
theorem Bk {ids:List (Option Nat)} {ob:List (Option Ob)} {i:Nat} {x:Ob} (h:(pickOb ids ob)[i]?=some (some x)):∃ o y,ids[i]?=some (some o)∧ob[o]?=some (some y)∧x=y.ren (inv ids):=by
 unfold pickOb at h;rw[List.getElem?_map] at h;obtain⟨oo,h1,h2⟩:=Option.map_eq_some_iff.1 h;obtain⟨o,rfl,h3⟩:=Option.bind_eq_some_iff.1 h2;obtain⟨y,h4,h5⟩:=Option.map_eq_some_iff.1 h3;obtain⟨z,h6,h7⟩:=Option.bind_eq_some_iff.1 h4;simp at h7;subst h7;exact⟨o,y,h1,h6,h5.symm⟩
theorem Weak.ren {cx:Cx} {st:St} (ids:List (Option Nat)) (tm':Tm) (hnd:∀ (i j o:Nat),ids[i]?=some (some o)→ids[j]?=some (some o)→i=j) (hnl:cx.nb≤ids.length)
  (hnb:∀ i o,i<cx.nb→ids[i]?=some (some o)→o=i) (htm:∀ i,lk tm' i=(lk st.tm i).ren (inv ids)∨lk tm' i=.l .u) :
  Weak cx st { st with tm:=tm',ob:=pickOb ids st.ob,gh:=st.gh.map (Tm.ren (inv ids)) }:=by
 intro σ a w h;have hs:Step σ st.ob w (sel ids σ) (pickOb ids st.ob) w (inv ids):=by
  refine⟨Evo.refl _ _ _,fun o i hh e ho=>?_,?_⟩
  ·rw[sel,EB e];exact ho
  ·rintro b ⟨i,x,k,hi,hb⟩;obtain⟨o,y,h1,h2,_⟩:=Bk hi;rw[sel,h1] at hb;exact .inl ⟨o,y,k,h2,hb⟩
 have hH:RelH cx w (sel ids σ) (pickOb ids st.ob) st.ls:=by
  refine hs.relH h.h ?_ ?_ ?_ (by simp[pickOb];exact hnl) ?_
  ·intro i x hi;obtain⟨o,y,h1,h2,rfl⟩:=Bk hi;rw[show sel ids σ i=σ o by rw[sel,h1]];exact hs.relO (cx:=cx) (fun _ _ _=>rfl) (h.h.obs o y h2)
  ·intro i j x x' b k k' hi hj hb hb';obtain⟨o,y,h1,h2,_⟩:=Bk hi;obtain⟨o',y',h1',h2',_⟩:=Bk hj;rw[sel,h1] at hb;rw[sel,h1'] at hb';have:=h.h.inj o o' y y' b k k' h2 h2' hb hb';subst this;exact hnd i j o h1 h1'
  ·intro i hi;have:ids[i]?=none:=List.getElem?_eq_none (by simpa [pickOb] using hi);rw[sel,this]
  ·intro i x hi hrow hlt;obtain⟨o,y,h1,h2,rfl⟩:=Bk hi;have:=hnb i o hlt h1;subst this;rw[show sel ids σ o=σ o by rw[sel,h1]];exact h.h.box o y h2 hrow hlt
 refine⟨sel ids σ,hH,fun i=>?_,h.nt,hs.gh h.gh,h.dm.step hs h.h⟩;rcases htm i with e|e
 ·show RelV _ _ _ _ _ (lk tm' i);rw[e];exact hs.relV (h.tm i)
 ·show RelV _ _ _ _ _ (lk tm' i);rw[e];trivial
theorem Weak.tm {cx:Cx} {st:St} (tm':Tm) (htm:∀ i,lk tm' i=lk st.tm i∨lk tm' i=.l .u):Weak cx st { st with tm:=tm' }:=by
 intro σ a w h;refine⟨σ,h.h,fun i=>?_,h.nt,h.gh,h.dm⟩;rcases htm i with e|e
 ·show RelV _ _ _ _ _ (lk tm' i);rw[e];exact h.tm i
 ·show RelV _ _ _ _ _ (lk tm' i);rw[e];trivial
theorem Weak.set {cx:Cx} {st:St} (i:Nat) (x:AV) (h:∀ σ w v,RelH cx w σ st.ob st.ls→RelV w (Xd cx w σ st.ob) (Xe w σ st.ob) σ v (lk st.tm i)→RelV w (Xd cx w σ st.ob) (Xe w σ st.ob) σ v x) :
  Weak cx st { st with tm:=(i,x)::st.tm }:=by
 intro σ a w hr;refine⟨σ,hr.h,fun j=>?_,hr.nt,hr.gh,hr.dm⟩;show RelV _ _ _ _ _ (lk ((i,x)::st.tm) j);rw[A5];split
 ·rename_i e
  subst e;exact h σ w _ hr.h (hr.tm j)
 ·exact hr.tm j
def cx0 (w:World) (σ:Nat→Hd) (n:Nat) (ob:List (Option Ob)) (Z:Nat→Prop) (hZ:∀ b,Z b→b<w.heap.size∧¬ lvb σ ob b):Cx :=
 { w0:=w,own:=lvb σ ob,Z:=Z,G:=[],E:=fun _ _=>True,nb:=n,σ0:=σ,zlt:=hZ,m:=w.heap.size,hm:=Nat.le_refl _,hM:=fun _ _ _ _ _ _=>trivial,hE:=fun _ _ _ _ _=>trivial }
def Sound (P:Program) (f:Nat) (args:List AV) (obs:List Ob) (res:AV) (obs':List (Option Ob)):Prop :=
 ∀ (Z:Nat→Prop) (w:World) (σ:Nat→Hd) (vs:List Value) (hZ:∀ b,Z b→b<w.heap.size∧¬ lvb σ (obs.map some) b),
  RelH (cx0 w σ obs.length (obs.map some) Z hZ) w σ (obs.map some) none →
  All2 (RelV w (Xd (cx0 w σ obs.length (obs.map some) Z hZ) w σ (obs.map some)) (Xe w σ (obs.map some)) σ) vs args →
  Calls P f vs.toArray w fun e w'=>∃ v σ',e=.returned v∧RelH (cx0 w σ obs.length (obs.map some) Z hZ) w' σ' obs' none ∧
   RelV w' (Xd (cx0 w σ obs.length (obs.map some) Z hZ) w' σ' obs') (Xe w' σ' obs') σ' v res
def resC (P:Program) (st:St):ResultVar→Option AV
 |.tmp t=>some (lk st.tm t)
 |.cell a t =>
  match tiF P t,st.at (lk st.tm a) with
  |some ti,some (cs,off)=>ldX ti cs off
  |_,_=>none
def comp:AV→Option (Bool×List LV)
 |.l x=>some (false,[x])
 |.g cs=>some (true,cs)
 |.t _=>none
def resV (P:Program) (st:St):List ResultVar→Option AV
 |[r]=>resC P st r
 |rs=>(rs.mapM fun r=>(resC P st r).bind comp).map .t
def initTm:Nat→List AV→Tm
 |_,[]=>[]
 |i,x::xs=>(i,x)::initTm (i+1) xs
theorem Gs:∀ (xs:List AV) (i j:Nat),lk (initTm i xs) (i+j)=(xs[j]?).getD (.l .u)
 |[],i,j=>by simp[initTm,lk]
 |x::xs,i,0=>by simp[initTm,A5]
 |x::xs,i,j+1=>by
  rw[initTm,A5,if_neg (by omega),show i+(j+1)=i+1+j by omega,Gs xs (i+1) j];simp
def st0 (args:List AV) (obs:List Ob) (nt:Nat):St:={ tm:=initTm 0 args,ob:=obs.map some,nt:=nt }
def rdRes (tmps:Array Value):ResultVar→Sem Value
 |.tmp t=>pure (tmps.getD t undef)
 |.cell a t=>do loadVar t (← asAddr (tmps.getD a undef))
theorem Gb (fn:Func) (tmps:Array Value):results fn tmps=(fn.results.mapM (rdRes tmps) >>= fun vs=>pure (if h:vs.size=1 then vs[0] else Value.tuple vs)):=by
 rfl
section
variable {P:Program} {cx:Cx} {σ:Nat→Hd} {st:St} {a:Act} {w:World}
theorem RelS.resC (h:RelS cx σ st a w) {r:ResultVar} {av:AV} (hr:Go.Proofs.Ytenemndpignaoaa.resC P st r=some av) :
  ∃ v,(rdRes a.tmps r).run P w=.ok v w∧RelV w (Xd cx w σ st.ob) (Xe w σ st.ob) σ v av:=by
 cases r with
 |tmp t =>
  simp[Go.Proofs.Ytenemndpignaoaa.resC] at hr;subst hr;exact⟨_,rfl,h.tm t⟩
 |cell ad t =>
  unfold Go.Proofs.Ytenemndpignaoaa.resC at hr;simp only at hr;split at hr
  ·rename_i ti cs off hti hat
   obtain⟨ad',u,he,hl,hrel⟩:=h.load (h.tm ad) hti hat hr;refine⟨u,?_,hrel⟩;simp[rdRes,he,asAddr,hl]
  ·simp at hr
theorem JK {X Xa:Nat→Prop} {v:Value} {x:AV} {c:Bool×List LV} (h:RelV w X Xa σ v x) (hc:comp x=some c):RelC w X Xa σ v c:=by
 cases x with
 |l x=>simp[comp] at hc;subst hc;exact⟨x,rfl,h⟩
 |g cs=>simp[comp] at hc;subst hc;exact h
 |t xs=>simp[comp] at hc
theorem RelS.resL (h:RelS cx σ st a w):∀ (rs:List ResultVar) (xs:List (Bool×List LV)),(rs.mapM fun r=>(Go.Proofs.Ytenemndpignaoaa.resC P st r).bind comp)=some xs →
  ∃ vs,(rs.mapM (rdRes a.tmps)).run P w=.ok vs w∧All2 (RelC w (Xd cx w σ st.ob) (Xe w σ st.ob) σ) vs xs
 |[],xs,hx=>by simp at hx;subst hx;exact⟨[],rfl,trivial⟩
 |r::rs,xs,hx=>by
  rw[List.mapM_cons] at hx;cases hc:(Go.Proofs.Ytenemndpignaoaa.resC P st r).bind comp with
  |none=>rw[hc] at hx;simp at hx
  |some c =>
   cases hr:(rs.mapM fun r=>(Go.Proofs.Ytenemndpignaoaa.resC P st r).bind comp) with
   |none=>rw[hc,hr] at hx;simp at hx
   |some cs =>
    rw[hc,hr] at hx;simp at hx;subst hx;obtain⟨av,h1,h2⟩:=Option.bind_eq_some_iff.1 hc;obtain⟨v,hv,hrel⟩:=h.resC h1;obtain⟨vs,hvs,hrels⟩:=h.resL rs cs hr;refine⟨v::vs,?_,JK hrel h2,hrels⟩;simp only[List.mapM_cons,Sem.run_bind,hv,Result.andThen_ok,hvs,Sem.run_pure]
theorem RelS.results (h:RelS cx σ st a w) {fn:Func} {av:AV} (hr:resV P st fn.results.toList=some av) :
  ∃ v,(results fn a.tmps).run P w=.ok v w∧RelV w (Xd cx w σ st.ob) (Xe w σ st.ob) σ v av:=by
 have hmap:∀ vs,(fn.results.toList.mapM (rdRes a.tmps)).run P w=.ok vs w →
   (fn.results.mapM (rdRes a.tmps)).run P w=.ok vs.toArray w:=by
  intro vs hvs;rw[Array.mapM_eq_mapM_toList];simp[hvs]
 unfold resV at hr;split at hr
 ·rename_i r hl
  obtain⟨v,hv,hrel⟩:=h.resC hr;refine⟨v,?_,hrel⟩;have:=hmap [v] (by rw[hl];simp only[List.mapM_cons,List.mapM_nil,Sem.run_bind,hv,Result.andThen_ok,Sem.run_pure]);rw[Gb];simp only[Sem.run_bind,this,Result.andThen_ok];simp
 ·rename_i hn
  obtain⟨xs,hx,rfl⟩:=Option.map_eq_some_iff.1 hr;obtain⟨vs,hvs,hrels⟩:=h.resL _ xs hx;refine⟨.tuple vs.toArray,?_,vs,rfl,hrels⟩;have:=hmap vs hvs;rw[Gb];simp only[Sem.run_bind,this,Result.andThen_ok];have hsz:vs.length≠1:=by
   intro e;have h1:=hrels.length;have h2:xs.length=fn.results.toList.length:=by
    have key:∀ (l:List ResultVar) (ys:List (Bool×List LV)),(l.mapM fun r=>(Go.Proofs.Ytenemndpignaoaa.resC P st r).bind comp)=some ys→ys.length=l.length:=by
     intro l;induction l with
     |nil=>intro ys h;simp at h;subst h;rfl
     |cons r l ih =>
      intro ys h;rw[List.mapM_cons] at h;cases hc:(Go.Proofs.Ytenemndpignaoaa.resC P st r).bind comp with
      |none=>rw[hc] at h;simp at h
      |some c =>
       cases hr:(l.mapM fun r=>(Go.Proofs.Ytenemndpignaoaa.resC P st r).bind comp) with
       |none=>rw[hc,hr] at h;simp at h
       |some cs=>rw[hc,hr] at h;simp at h;subst h;simp[ih cs hr]
    exact key _ _ hx
   have h3:fn.results.toList.length=1:=by omega
   obtain⟨r,hr1⟩:=List.length_eq_one_iff.1 h3;exact hn r hr1
  simp[hsz]
end
end Go.Proofs.Ytenemndpignaoaa
namespace Go.Proofs.Ytenemndpignaoaa
open Go Go.RowKit
section
variable {P:Program} {cx:Cx} {σ:Nat→Hd} {st:St} {a:Act} {w:World}
theorem RelH.putObj {ob:List (Option Ob)} {ls ls':Option Code} (h:RelH cx w σ ob ls) {b:Nat} {o o':Obj} (hb:w.heap[b]?=some o) (ho:∀ c t fr,o≠.cells c t fr) (hge:cx.w0.heap.size≤b) (hE:cx.E ls' (w.putObj b o')) :
  RelH cx (w.putObj b o') σ ob ls'∧(∀ x,Xd cx w σ ob x→Xd cx (w.putObj b o') σ ob x∧(w.putObj b o').heap[x]?=w.heap[x]?)∧(∀ x,Xe w σ ob x→Xe (w.putObj b o') σ ob x∧(w.putObj b o').heap[x]?=w.heap[x]?):=by
 have hne:∀ x,isC w x→x≠b:=by
  rintro x ⟨c,t,fr,hc⟩ rfl;rw[hb] at hc;simp at hc;exact ho c t fr hc
 have hx1:∀ x,Xd cx w σ ob x→Xd cx (w.putObj b o') σ ob x∧(w.putObj b o').heap[x]?=w.heap[x]?:=by
  rintro x ⟨h1,h2,h3,h4⟩;have e:=World.putObj_heap_other (w:=w) (o:=o') (hne x h4);exact⟨⟨by simpa using h1,h2,h3,by unfold isC;rw[e];exact h4⟩,e⟩
 have hx2:∀ x,Xe w σ ob x→Xe (w.putObj b o') σ ob x∧(w.putObj b o').heap[x]?=w.heap[x]?:=by
  rintro x ⟨h1,h2,h4⟩;have e:=World.putObj_heap_other (w:=w) (o:=o') (hne x h4);exact⟨⟨by simpa using h1,h2,by unfold isC;rw[e];exact h4⟩,e⟩
 refine⟨⟨fun i x hi=>?_,h.inj,h.dom,h.nbl,h.box,h.loc,by simpa using h.msize,fun x hx hn=>?_,h.os,h.tape,h.output,hE⟩,hx1,hx2⟩
 ·have:=RelO.ren hx1 hx2 (ρ:=some) (σ':=σ) (fun o o' hh e hh'=>by cases e;exact hh') (fun c k e=>World.putObj_heap_other (hne c (h.cells ⟨i,x,k,hi,e⟩))) (h.obs i x hi);rwa [Ob.ren_some] at this
 ·rw[World.putObj_heap_other (by omega)];exact h.frame x hx hn
theorem RelT.putX {w':World} {ob:List (Option Ob)} (hx1:∀ x,Xd cx w σ ob x→Xd cx w' σ ob x∧w'.heap[x]?=w.heap[x]?) (hx2:∀ x,Xe w σ ob x→Xe w' σ ob x∧w'.heap[x]?=w.heap[x]?) {S:Array Value} {tm:Tm} (h:RelT cx w σ ob S tm):RelT cx w' σ ob S tm :=
 fun i=>RelV.mono hx1 hx2 (fun _ _ e=>e) (h i)
theorem RelS.putObj (h:RelS cx σ st a w) {b:Nat} {o o':Obj} {ls':Option Code} {ds:List Deferred} (hb:w.heap[b]?=some o) (ho:∀ c t fr,o≠.cells c t fr) (hge:cx.w0.heap.size≤b) (hE:cx.E ls' (w.putObj b o')) (hd:Marks cx ds (w.putObj b o')) :
  RelS cx σ { st with ls:=ls' } { a with defers:=ds } (w.putObj b o'):=by
 obtain⟨h1,h2,h3⟩:=h.h.putObj hb ho hge hE;exact⟨h1,RelT.putX h2 h3 h.tm,h.nt,h.gh.mono fun S tm _ hS=>RelT.putX h2 h3 hS,hd⟩
def Left (P:Program) (cx:Cx) (fn:Func) (res:AV) (obs':List (Option Ob)) (s:St):Prop :=
 ∃ av s',resV P s fn.results.toList=some av∧Weak cx ⟨[(0,av)],s.ob,1,s.gh,s.ls⟩ s'∧s'.ob=obs'∧s'.ls=none∧lk s'.tm 0=res
def retPost (P:Program) (cx:Cx) (fn:Func) (res:AV) (obs':List (Option Ob)):Post
 |.normal,s=>Left P cx fn res obs' s
 |.ret,s=>Left P cx fn res obs' s
 |_,_=>False
theorem EC {fn:Func} {R:Ending→World→Prop} {av:AV} {fR':Fence} (hres:resV P st fn.results.toList=some av)
  (hR:∀ σ a v w,RelS cx σ st a w→RelV w (Xd cx w σ st.ob) (Xe w σ st.ob) σ v av→R (.returned v) w) :
  ∀ (Ds:List Nat) (a:Act) (w:World) (σ:Nat→Hd),RelS cx σ st a w→a.defers=Ds.map (fun D=>{ target:=.collected D,args:=#[] })→Ds.Nodup→(∀ D∈Ds,w.heap[D]?=some (.deferred (some []))∧cx.m≤D) →
   LeavesInM fR' 0 P fn a.tmps R a.defers .returning w
 |[],a,w,σ,h,hd,_,_=>by
  rw[hd];obtain⟨v,hv,hrel⟩:=h.results hres;exact⟨v,hv,hR σ a v w h hrel⟩
 |D::Ds,a,w,σ,h,hd,hn,hD=>by
  rw[hd];obtain⟨h1,h2⟩:=hD D (by simp);have hn':=List.nodup_cons.1 hn;have hD':∀ E∈Ds,(w.putObj D (.deferred none)).heap[E]?=some (.deferred (some []))∧cx.m≤E:=fun E hE' =>
   ⟨by rw[World.putObj_heap_other (by intro e;subst e;exact hn'.1 hE')];exact (hD E (by simp[hE'])).1,(hD E (by simp[hE'])).2⟩
  have hm:Marks cx (Ds.map (fun D=>{ target:=.collected D,args:=#[] })) (w.putObj D (.deferred none)):=⟨Ds,rfl,hn'.2,hD'⟩;have hr:=h.putObj (ls':=st.ls) h1 (fun c t fr e=>by simp at e) (Nat.le_trans cx.hm h2) (cx.hM _ _ _ _ h2 h.h.ext) hm;have ih:=EC (fR':=fR') hres hR Ds { a with defers:=Ds.map (fun D=>{ target:=.collected D,args:=#[] }) } (w.putObj D (.deferred none)) σ hr rfl hn'.2 hD';exact⟨by simp,.inl ⟨D,_,rfl,run_takeDeferred h1,ih⟩⟩
theorem zO {f:Nat} {fn:Func} {c:Code} {args:List AV} {obs:List Ob} {res:AV} {obs':List (Option Ob)} (hf:P.funcs[f]?=some fn) (hb:fn.body=some c) (hpar:args.length≤fn.ntmps)
  (h:∀ cx:Cx,cx.G=[]→cx.nb=obs.length→AW P none cx c (retPost P cx fn res obs') (st0 args obs fn.ntmps)):Sound P f args obs res obs':=by
 intro Z w σ vs hZ hH hargs;refine (callsIn_wide (n:=0)).1 (callsIn_of_wp_marks hf hb trivial ?_ rfl);have hlen:=hargs.length;have hr:RelS (cx0 w σ obs.length (obs.map some) Z hZ) σ (st0 args obs fn.ntmps) { tmps:=vs.toArray++Array.replicate (fn.ntmps - vs.toArray.size) undef,defers:=[] } w:=by
  refine⟨hH,fun i=>?_,by simp[st0];omega,trivial,[],rfl,List.nodup_nil,fun D hD=>by simp at hD⟩;have e:=Gs args 0 i;rw[Nat.zero_add] at e;show RelV _ _ _ _ _ (lk (initTm 0 args) i);rw[e];cases ha:args[i]? with
  |none=>trivial
  |some x =>
   obtain⟨v,hv,hrel⟩:=hargs.at i ha;have hlt:=(List.getElem?_eq_some_iff.1 hv).1;have:(vs.toArray++Array.replicate (fn.ntmps - vs.toArray.size) undef).getD i undef=v:=by
    rw[Array.getD_eq_getD_getElem?,Array.getElem?_append_left (by simpa using hlt)];simp[hv]
   rw[this];exact hrel
 refine wpIn_mono (h _ rfl rfl σ _ w hr) ?_;rintro e a' w' ⟨σ',s,hs,hq⟩;have fin:Left P (cx0 w σ obs.length (obs.map some) Z hZ) fn res obs' s→LeavesInM Fence.wide 0 P fn a'.tmps (fun e w'=>∃ v σ',e=.returned v∧RelH (cx0 w σ obs.length (obs.map some) Z hZ) w' σ' obs' none ∧
   RelV w' (Xd (cx0 w σ obs.length (obs.map some) Z hZ) w' σ' obs') (Xe w' σ' obs') σ' v res) a'.defers .returning w':=by
  intro hl;obtain⟨Ds,hd,hn,hD⟩:=hs.dm;obtain⟨av,s',hres,hw,hobs,hls,hlk⟩:=hl;refine EC hres (fun σ3 a3 v w3 g1 g2=>?_) Ds a' w' σ' hs hd hn hD;obtain⟨σ4,hr4⟩:=hw σ3 { a3 with tmps:=#[v] } w3 ⟨g1.h,fun i=>by
   rw[A5];split
   ·rename_i hi;subst hi;exact g2
   ·trivial,rfl,g1.gh,g1.dm⟩
  refine⟨v,σ4,rfl,?_,?_⟩
  ·have:=hr4.h;rwa [hls,hobs] at this
  ·have:=hr4.tm 0;rw[hlk,hobs] at this;exact this
 cases e with
 |normal=>exact fin hq
 |ret=>exact fin hq
 |exit id=>exact hq.elim
 |goto l=>exact hq.elim
 |panic ch=>exact hq.elim
 |outgrown=>exact hq.elim
end
end Go.Proofs.Ytenemndpignaoaa
namespace Go.Proofs.Ytenemndpignaoaa
open Go Go.RowKit
def LV.na:LV→Bool
 |.d al _ _=>!al
 |.q al _ _=>!al
 |_=>true
def AV.na:AV→Bool
 |.l x=>x.na
 |.g cs=>cs.all LV.na
 |.t xs=>xs.all fun c=>c.2.all LV.na
def Ob.na (x:Ob):Bool:=x.cs.all LV.na
section
variable {w:World} {X Xa Xb:Nat→Prop} {σ:Nat→Hd}
theorem RelL.na {v:Value} {x:LV} (h:RelL w X Xa σ v x) (hx:x.na=true):RelL w X Xb σ v x:=by
 cases x with
 |d al sz es=>simp[LV.na] at hx;subst hx;exact h
 |q al cs off=>simp[LV.na] at hx;subst hx;exact h
 |_=>exact h
theorem Gt {vs:List Value} {cs:List LV} (h:All2 (RelL w X Xa σ) vs cs) (hx:cs.all LV.na=true):All2 (RelL w X Xb σ) vs cs :=
 h.mono fun v c hc hr=>hr.na (List.all_eq_true.1 hx c hc)
theorem RelV.na {v:Value} {x:AV} (h:RelV w X Xa σ v x) (hx:x.na=true):RelV w X Xb σ v x:=by
 cases x with
 |l x=>exact RelL.na h hx
 |g cs=>obtain⟨vs,rfl,hvs⟩:=h;exact⟨vs,rfl,Gt hvs hx⟩
 |t xs =>
  obtain⟨vs,rfl,hvs⟩:=h;refine⟨vs,rfl,hvs.mono fun v c hc hr=>?_⟩;have hcx:=List.all_eq_true.1 hx c hc;obtain⟨b,cs⟩:=c;cases b
  ·obtain⟨y,rfl,hy⟩:=hr;exact⟨y,rfl,hy.na (by simpa using hcx)⟩
  ·obtain⟨us,rfl,hus⟩:=hr;exact⟨us,rfl,Gt hus hcx⟩
theorem RelO.na {h:Hd} {x:Ob} (hr:RelO w X Xa σ h x) (hx:x.na=true):RelO w X Xb σ h x:=by
 match h with
 |none=>exact hr.elim
 |some none=>exact hr
 |some (some (b,k)) =>
  obtain⟨vs,rest,h1,h2,h3⟩:=hr;exact⟨vs,rest,h1,Gt h2 hx,h3⟩
end
inductive VwL (st:St) (ids:List Nat):LV→LV→Prop
 |ren (x:LV):VwL st ids x (x.ren (inv (ids.map some)))
 |u (x:LV):VwL st ids x .u
 |al (al:Bool) (sz:Nat) (es:List (List T)):VwL st ids (.d al sz es) (.d true sz es)
 |nil (al:Bool) (sz:Nat):VwL st ids (.s (.slice none 0 0)) (.d al sz [])
 |row (ob sz lo hi:Nat) (z:Ob) (es:List (List T)) (h1:ob ∉ ids) (hz:st.obj ob=some z) (h2:z.row=true∧z.sz=sz∧0<sz∧hi*sz≤z.cs.length∧lo≤hi∧hi≤140737488355328) (h3:(z.cs.drop (lo*sz)).take ((hi - lo)*sz)=lvs es) (h4:∀ e∈es,e.length=sz) :
   VwL st ids (.r ob sz lo hi) (.d true sz es)
inductive Vw (st:St) (ids:List Nat):AV→AV→Prop
 |l {x c:LV} (h:VwL st ids x c):Vw st ids (.l x) (.l c)
 |g {xs cs:List LV} (h:All2 (VwL st ids) xs cs):Vw st ids (.g xs) (.g cs)
def Zc (cx:Cx) (σ:Nat→Hd) (ob:List (Option Ob)) (ids:List Nat) (b:Nat):Prop:=cx.Z b∨(lvb σ ob b∧¬ lvb (sel (ids.map some) σ) (pickOb (ids.map some) ob) b)
def XdC (cx:Cx) (w:World) (σ:Nat→Hd) (ob:List (Option Ob)) (ids:List Nat) (b:Nat):Prop:=b<w.heap.size∧¬ lvb (sel (ids.map some) σ) (pickOb (ids.map some) ob) b∧¬ Zc cx σ ob ids b∧isC w b
theorem ET {σ:Nat→Hd} {ob:List (Option Ob)} {ids:List (Option Nat)} {b:Nat} (h:lvb (sel ids σ) (pickOb ids ob) b):∃ o y k,some o∈ids∧ob[o]?=some (some y)∧σ o=some (some (b,k)):=by
 obtain⟨i,x,k,hi,hb⟩:=h;obtain⟨o,y,h1,h2,_⟩:=Bk hi;rw[sel,h1] at hb;exact⟨o,y,k,List.mem_of_getElem? h1,h2,hb⟩
section
variable {P:Program} {cx:Cx} {o:Oper} {st:St} {σ:Nat→Hd} {a:Act} {w:World}
theorem VwL.sound {ids:List Nat} {x c:LV} (hv:VwL st ids x c) (hH:RelH cx w σ st.ob st.ls) {v:Value} (h:RelL w (Xd cx w σ st.ob) (Xe w σ st.ob) σ v x) :
  RelL w (XdC cx w σ st.ob ids) (Xe w (sel (ids.map some) σ) (pickOb (ids.map some) st.ob)) (sel (ids.map some) σ) v c:=by
 have hsub:∀ b,lvb (sel (ids.map some) σ) (pickOb (ids.map some) st.ob) b→lvb σ st.ob b:=fun b hb=>by
  obtain⟨o,y,k,_,h2,h3⟩:=ET hb;exact⟨o,y,k,h2,h3⟩
 have hX:∀ b,Xd cx w σ st.ob b→XdC cx w σ st.ob ids b∧w.heap[b]?=w.heap[b]?:=fun b ⟨h1,h2,h3,h4⟩=>⟨⟨h1,fun hl=>h2 (hsub b hl),fun hz=>hz.elim h3 (fun hz=>h2 hz.1),h4⟩,rfl⟩;have hXa:∀ b,Xe w σ st.ob b→Xe w (sel (ids.map some) σ) (pickOb (ids.map some) st.ob) b∧w.heap[b]?=w.heap[b]?:=fun b ⟨h1,h2,h4⟩=>⟨⟨h1,fun hl=>h2 (hsub b hl),h4⟩,rfl⟩;cases hv with
 |ren=>exact RelL.ren hX hXa (fun o i hh e ho=>by rw[sel,EB e];exact ho) h
 |u=>trivial
 |al al sz es =>
  refine Rd.mono (X:=if al=true then Xe w σ st.ob else Xd cx w σ st.ob) (fun b hb=>?_) h;cases al
  ·exact⟨⟨hb.1,fun hl=>hb.2.1 (hsub b hl),hb.2.2.2⟩,rfl⟩
  ·exact hXa b hb
 |nil al sz =>
  obtain⟨rfl,_⟩:=h;exact .sl none 0 0 sz [] 0 0 (fun _ _=>undef) rfl (Nat.le_refl _) (by omega) (fun e he=>by simp at he) (fun h=>by omega) (fun _=>rfl) (fun i j hi=>by omega) (fun i j e t he=>by simp at he)
 |row ob sz lo hi z es h1 hz h2 h3 h4 =>
  obtain⟨hrow,hzs,h0,hle,hlh,hhi⟩:=h2;have hO:=hH.obs ob z (AK hz);have hlen:es.length=hi - lo:=by
   have e1:=BJ h4;rw[← h3] at e1;have e3:(hi - lo)*sz+lo*sz=hi*sz:=by rw[← Nat.add_mul];congr 1;omega
   have e2:((z.cs.drop (lo*sz)).take ((hi - lo)*sz)).length=(hi - lo)*sz:=by simp;omega
   rw[e2] at e1;exact (Nat.eq_of_mul_eq_mul_right h0 e1).symm
  rcases h with ⟨hb,rfl,rfl,hv⟩|⟨b,k,off,hb,g3,g4,hv,hoff⟩
  ·have he:es=[]:=List.eq_nil_of_length_eq_zero (by omega);subst he;subst hv;exact .sl none 0 0 sz [] 0 0 (fun _ _=>undef) rfl (Nat.le_refl _) (by omega) (fun e he=>by simp at he) (fun h=>by omega) (fun _=>rfl) (fun i j hi=>by omega) (fun i j e t he=>by simp at he)
  ·rw[hb] at hO;obtain⟨vs,rest,f1,f2,f4,f5⟩:=hO;have hvl:=f2.length;have hlb:lvb σ st.ob b:=⟨ob,z,k,AK hz,hb⟩;have hnl:¬ lvb (sel (ids.map some) σ) (pickOb (ids.map some) st.ob) b:=fun hl=>by
    obtain⟨o',y,k',m1,m2,m3⟩:=ET hl;have:=hH.inj o' ob y z b k' k m2 (AK hz) m3 hb;subst this;simp at m1;exact h1 m1
   have hsz:(hi - lo)*sz+lo*sz=hi*sz:=by rw[← Nat.add_mul];congr 1;omega
   have hall:=(f2.drop (lo*sz)).take ((hi - lo)*sz);rw[h3] at hall;subst hv;refine .sl _ (hi - lo) (k - lo) sz es b off (fun i j=>((vs.drop (lo*sz)).take ((hi - lo)*sz)).getD (i*sz+j) undef) hlen (by omega) (by omega) h4 (fun _=>⟨rfl,hH.lt hlb,hnl,_,_,_,f1⟩) (fun e=>by simp at e) ?_ ?_
   ·intro i j hi' hj;have hoff':off=lo*sz:=hoff (.inl (by omega));have hlt:i*sz+j<(hi - lo)*sz:=by
     have h5:(i+1)*sz≤(hi - lo)*sz:=Nat.mul_le_mul_right _ (by omega);rw[Nat.add_mul] at h5;omega
    rw[cell_of_row w b _ _ _ _ f1,hoff'];have hlt2:lo*sz+(i*sz+j)<vs.length:=by omega
    simp only[List.getElem?_toArray,List.getElem?_append_left hlt2,List.getD_eq_getElem?_getD,List.getElem?_take_of_lt hlt,List.getElem?_drop];rw[List.getElem?_eq_getElem hlt2];rfl
   ·intro i j e t he ht;have hj:j<sz:=by have:=(List.getElem?_eq_some_iff.1 ht).1;rwa [h4 e (List.mem_of_getElem? he)] at this
    have hc:=Ir h4 he j hj;rw[ht] at hc;obtain⟨u,hu,hur⟩:=hall.at _ hc;simp only[List.getD_eq_getElem?_getD,hu,Option.getD_some]
    -- the object's own leaf is data
    have hsub2:∀ b',Xd cx w σ st.ob b'→Xe w (sel (ids.map some) σ) (pickOb (ids.map some) st.ob) b'∧w.heap[b']?=w.heap[b']?:=fun b' hb'=>⟨⟨hb'.1,fun hl=>hb'.2.1 (hsub b' hl),hb'.2.2.2⟩,rfl⟩;cases t with
    |v x=>obtain⟨rfl,h1x⟩:=hur;exact .v _ h1x
    |sl sz' es'=>exact Rd.mono hsub2 hur
theorem Vw.sound {ids:List Nat} {x c:AV} (hv:Vw st ids x c) (hH:RelH cx w σ st.ob st.ls) {v:Value} (h:RelV w (Xd cx w σ st.ob) (Xe w σ st.ob) σ v x) :
  RelV w (XdC cx w σ st.ob ids) (Xe w (sel (ids.map some) σ) (pickOb (ids.map some) st.ob)) (sel (ids.map some) σ) v c:=by
 cases hv with
 |l hl=>exact hl.sound hH h
 |g hg =>
  obtain⟨vs,rfl,hvs⟩:=h;refine⟨vs,rfl,All2.of_get (by rw[hvs.length,hg.length]) fun i v c hv hc=>?_⟩;obtain⟨x,hx,hxc⟩:=hg.at i hc;exact hxc.sound hH (hvs.get i hv hx)
end
end Go.Proofs.Ytenemndpignaoaa
namespace Go.Proofs.Ytenemndpignaoaa
open Go Go.RowKit
def outR (ids:List Nat) (L:Nat):Ren:=fun j=>if j<ids.length then ids[j]? else some (L+(j - ids.length))
def keptR (st:St) (ids:List Nat):Ren:=fun o=>if (ids.contains o && (st.obj o).any (·.row))=true then none else some o
def obAfter (st:St) (ids:List Nat) (obs':List (Option Ob)):List (Option Ob) :=
 (st.ob.mapIdx fun o x=>match inv (ids.map some) o with
  |some i=>((obs'[i]?).bind id).map (Ob.ren (outR ids st.ob.length))
  |none=>x.map (Ob.ren (keptR st ids)))++(obs'.drop ids.length).map (Option.map (Ob.ren (outR ids st.ob.length)))
def St.after (st:St) (ids:List Nat) (obs':List (Option Ob)):St :=
 { st with tm:=st.tm.ren (keptR st ids),ob:=obAfter st ids obs',gh:=st.gh.map (Tm.ren (keptR st ids)) }
def σAfter (σ σc:Nat→Hd) (ids:List Nat) (L:Nat):Nat→Hd:=fun o =>
 if o<L then (match inv (ids.map some) o with|some i=>σc i|none=>σ o) else σc (ids.length+(o - L))
section
variable {P:Program} {cx:Cx} {st:St} {σ:Nat→Hd} {a:Act} {w:World}
theorem Fy {ids:List Nat} {o i:Nat} (h:inv (ids.map some) o=some i):ids[i]?=some o:=by
 have:=EB h;rw[List.getElem?_map] at this;cases he:ids[i]? with
 |none=>rw[he] at this;simp at this
 |some x=>rw[he] at this;simp at this;rw[this]
theorem Hz {ids:List Nat} {o:Nat} (h:inv (ids.map some) o=none):o ∉ ids:=by
 unfold inv at h;rw[List.findIdx?_eq_none_iff] at h;intro hm;have:=h (some o) (by simpa using hm);simp at this
theorem Dv {ids:List Nat} {obs':List (Option Ob)} {o:Nat} {x:Ob} (h:(obAfter st ids obs')[o]?=some (some x)) :
  (o<st.ob.length∧∃ i y,inv (ids.map some) o=some i∧obs'[i]?=some (some y)∧x=y.ren (outR ids st.ob.length)) ∨
  (o<st.ob.length∧inv (ids.map some) o=none∧∃ y,st.ob[o]?=some (some y)∧x=y.ren (keptR st ids)) ∨
  (st.ob.length≤o∧∃ y,obs'[ids.length+(o - st.ob.length)]?=some (some y)∧x=y.ren (outR ids st.ob.length)):=by
 unfold obAfter at h;rcases Nat.lt_or_ge o st.ob.length with hlt|hge
 ·rw[List.getElem?_append_left (by simpa using hlt),List.getElem?_mapIdx] at h;obtain⟨x',hx',h⟩:=Option.map_eq_some_iff.1 h;cases hi:inv (ids.map some) o with
  |some i =>
   rw[hi] at h;simp only at h;obtain⟨y,hy,rfl⟩:=Option.map_eq_some_iff.1 h;obtain⟨z,hz,hzy⟩:=Option.bind_eq_some_iff.1 hy;simp at hzy;subst hzy;exact .inl ⟨hlt,i,y,rfl,hz,rfl⟩
  |none =>
   rw[hi] at h;simp only at h;obtain⟨y,hy,rfl⟩:=Option.map_eq_some_iff.1 h;subst hy;exact .inr (.inl ⟨hlt,rfl,y,hx',rfl⟩)
 ·rw[List.getElem?_append_right (by simpa using hge)] at h;simp only[List.length_mapIdx,List.getElem?_map,List.getElem?_drop] at h;obtain⟨y,hy,h⟩:=Option.map_eq_some_iff.1 h;obtain⟨z,rfl,rfl⟩:=Option.map_eq_some_iff.1 h;exact .inr (.inr ⟨hge,z,hy,rfl⟩)
theorem RelS.after {ids:List Nat} {obs:List Ob} {obs':List (Option Ob)} {res:AV} (h:RelS cx σ st a w) (hnd:ids.Nodup) (hids:∀ i∈ids,i<st.ob.length) (hobs:pickOb (ids.map some) st.ob=obs.map some)
  (hbox:∀ (i o:Nat) (z:Ob),ids[i]?=some o→st.obj o=some z→z.row=false→∃ y,obs'[i]?=some (some y)∧y.row=false) (hrow:∀ (i o:Nat) (z:Ob) (y:Ob),ids[i]?=some o→st.obj o=some z→obs'[i]?=some (some y)→y.row=z.row)
  (hna:res.na=true) (hona:obs'.all (fun x=>match x with|some x=>x.na|none=>true)=true) (hlen:ids.length≤obs'.length)
  (hZ:∀ b,Zc cx σ st.ob ids b→b<w.heap.size∧¬ lvb (sel (ids.map some) σ) (obs.map some) b) {σc:Nat→Hd} {w':World} {v:Value}
  (hc:RelH (cx0 w (sel (ids.map some) σ) obs.length (obs.map some) (Zc cx σ st.ob ids) hZ) w' σc obs' none)
  (hv:RelV w' (Xd (cx0 w (sel (ids.map some) σ) obs.length (obs.map some) (Zc cx σ st.ob ids) hZ) w' σc obs') (Xe w' σc obs') σc v res) :
  RelS cx (σAfter σ σc ids st.ob.length) (st.after ids obs') a w' ∧
   RelV w' (Xd cx w' (σAfter σ σc ids st.ob.length) (obAfter st ids obs')) (Xe w' (σAfter σ σc ids st.ob.length) (obAfter st ids obs')) (σAfter σ σc ids st.ob.length) v (res.ren (outR ids st.ob.length)):=by
 have hml:obs.length=ids.length:=by have:=congrArg List.length hobs;simp[pickOb] at this;exact this.symm
 have hsub:∀ b,lvb (sel (ids.map some) σ) (obs.map some) b→lvb σ st.ob b:=fun b hb=>by
  rw[← hobs] at hb;obtain⟨o,y,k,_,h2,h3⟩:=ET hb;exact⟨o,y,k,h2,h3⟩
 -- the frame of the callee
 have hsame:∀ b,b<w.heap.size→¬ lvb σ st.ob b→w'.heap[b]?=w.heap[b]?:=fun b hb hn=>hc.frame b hb fun hl=>hn (hsub b hl);have hσi:∀ o i,o<st.ob.length→inv (ids.map some) o=some i→σAfter σ σc ids st.ob.length o=σc i:=fun o i ho hi=>by simp[σAfter,ho,hi]
 have hσn:∀ o,o<st.ob.length→inv (ids.map some) o=none→σAfter σ σc ids st.ob.length o=σ o:=fun o ho hi=>by simp[σAfter,ho,hi]
 have hσx:∀ j,ids.length≤j→σAfter σ σc ids st.ob.length (st.ob.length+(j - ids.length))=σc j:=fun j hj=>by
  have:¬ st.ob.length+(j - ids.length)<st.ob.length:=by omega
  simp only[σAfter,this,if_false];congr 1
  omega
 have hinv:∀ i o,ids[i]?=some o→inv (ids.map some) o=some i:=fun i o hi=>by
  cases hx:inv (ids.map some) o with
  |none=>exact absurd (List.mem_of_getElem? hi) (Hz hx)
  |some j =>
   have hj:=Fy hx;have hi':=(List.getElem?_eq_some_iff.1 hi).1;have hj':=(List.getElem?_eq_some_iff.1 hj).1;have e:ids[i]=ids[j]:=by rw[(List.getElem?_eq_some_iff.1 hi).2,(List.getElem?_eq_some_iff.1 hj).2]
   rw[(List.getElem_inj hnd).1 e]
 have hout:∀ j o' hh,outR ids st.ob.length j=some o'→σc j=some hh→σAfter σ σc ids st.ob.length o'=some hh:=by
  intro j o' hh ho hj;unfold outR at ho;split at ho
  ·have hmem:=List.mem_of_getElem? ho;rw[hσi o' j (hids o' hmem) (hinv j o' ho)];exact hj
  ·simp at ho;subst ho;rw[hσx j (by omega)];exact hj
 -- blocks of others live on
 have hother:∀ o y b k,o<st.ob.length→inv (ids.map some) o=none→st.ob[o]?=some (some y)→σ o=some (some (b,k))→¬ lvb (sel (ids.map some) σ) (obs.map some) b:=by
  intro o y b k ho hi hy hb hl;rw[← hobs] at hl;obtain⟨o2,y2,k2,m1,m2,m3⟩:=ET hl;have:=h.h.inj o o2 y y2 b k k2 hy m2 hb m3;subst this;exact Hz hi (by simpa using m1)
 have hX:∀ b,Xd (cx0 w (sel (ids.map some) σ) obs.length (obs.map some) (Zc cx σ st.ob ids) hZ) w' σc obs' b→Xd cx w' (σAfter σ σc ids st.ob.length) (obAfter st ids obs') b∧w'.heap[b]?=w'.heap[b]?:=by
  rintro b ⟨h1,h2,h3,h4⟩;refine⟨⟨h1,?_,fun hz=>h3 (.inl hz),h4⟩,rfl⟩;rintro⟨o,x,k,ho,hb⟩;rcases Dv ho with ⟨hlt,i,y,hi,hy,_⟩|⟨hlt,hi,y,hy,_⟩|⟨hge,y,hy,_⟩
  ·rw[hσi o i hlt hi] at hb;exact h2 ⟨i,y,k,hy,hb⟩
  ·rw[hσn o hlt hi] at hb;have hn:=hother o y b k hlt hi hy hb;rw[← hobs] at hn;exact h3 (.inr ⟨⟨o,y,k,hy,hb⟩,hn⟩)
  ·have:=hσx (ids.length+(o - st.ob.length)) (by omega);rw[show st.ob.length+(ids.length+(o - st.ob.length) - ids.length)=o by omega] at this;rw[this] at hb;exact h2 ⟨_,y,k,hy,hb⟩
 have hs:Step σ st.ob w (σAfter σ σc ids st.ob.length) (obAfter st ids obs') w' (keptR st ids):=by
  refine⟨⟨hc.size,hsame,hc.os,hc.tape,hc.output⟩,?_,?_⟩
  ·intro o o' hh e ho;unfold keptR at e;split at e
   ·simp at e
   ·rename_i hn
    simp at e;subst e;have hlt:o<st.ob.length:=by
     rcases Nat.lt_or_ge o st.ob.length with hl|hg
     ·exact hl
     ·rw[h.h.dom o hg] at ho;simp at ho
    cases hi:inv (ids.map some) o with
    |none=>rw[hσn o hlt hi];exact ho
    |some i =>
     -- a box that was handed over
     have hio:=Fy hi;have hmem:=List.mem_of_getElem? hio;have hpk:(pickOb (ids.map some) st.ob)[i]?=(obs.map some)[i]?:=by rw[hobs]
     have hil:i<obs.length:=by rw[hml];exact (List.getElem?_eq_some_iff.1 hio).1
     rw[List.getElem?_map,List.getElem?_eq_getElem hil] at hpk;obtain⟨o2,y,m1,m2,m3⟩:=Bk hpk;rw[List.getElem?_map,hio] at m1;simp at m1;subst m1;have hobj:st.obj o=some y:=by simp[St.obj,m2]
     have hyrow:y.row=false:=by
      cases hr:y.row
      ·rfl
      ·exact absurd (by simp[hobj,hr,hmem]) hn
     obtain⟨y',hy',hyr⟩:=hbox i o y hio hobj hyrow;rw[hσi o i hlt hi,hc.box i y' hy' hyr hil];show sel (ids.map some) σ i=some hh;rw[sel,List.getElem?_map,hio];exact ho
  ·rintro b ⟨o,x,k,ho,hb⟩;have hloc:∀ (j:Nat) (y:Ob),obs'[j]?=some (some y)→σc j=some (some (b,k))→lvb σ st.ob b∨w.heap.size≤b:=fun j y hy hj=>by
    rcases hc.loc b ⟨j,y,k,hy,hj⟩ with hl|hl
    ·exact .inr hl
    ·exact .inl (hsub b hl)
   rcases Dv ho with ⟨hlt,i,y,hi,hy,_⟩|⟨hlt,hi,y,hy,_⟩|⟨hge,y,hy,_⟩
   ·rw[hσi o i hlt hi] at hb;exact hloc i y hy hb
   ·rw[hσn o hlt hi] at hb;exact .inl ⟨o,y,k,hy,hb⟩
   ·have:=hσx (ids.length+(o - st.ob.length)) (by omega);rw[show st.ob.length+(ids.length+(o - st.ob.length) - ids.length)=o by omega] at this;rw[this] at hb;exact hloc _ y hy hb
 have hnaO:∀ (j:Nat) (y:Ob),obs'[j]?=some (some y)→y.na=true:=fun j y hy=>by
  have:=List.all_eq_true.1 hona (some y) (List.mem_of_getElem? hy);simpa using this
 have hoc:∀ (j:Nat) (y:Ob),obs'[j]?=some (some y)→RelO w' (Xd cx w' (σAfter σ σc ids st.ob.length) (obAfter st ids obs')) (Xe w' (σAfter σ σc ids st.ob.length) (obAfter st ids obs')) (σAfter σ σc ids st.ob.length) (σc j) (y.ren (outR ids st.ob.length)):=fun j y hy =>
  RelO.ren (Xa:=fun _=>False) hX (fun b hb=>hb.elim) hout (fun _ _ _=>rfl) (RelO.na (hc.obs j y hy) (hnaO j y hy))
 have hrel:=hs.relH (cx:=cx) (ls:=st.ls) h.h ?_ ?_ ?_ ?_ ?_
 ·exact⟨h.step hs hrel,RelV.ren (Xa:=fun _=>False) hX (fun b hb=>hb.elim) hout (RelV.na hv hna)⟩
 ·intro o x ho;rcases Dv ho with ⟨hlt,i,y,hi,hy,rfl⟩|⟨hlt,hi,y,hy,rfl⟩|⟨hge,y,hy,rfl⟩
  ·rw[hσi o i hlt hi];exact hoc i y hy
  ·rw[hσn o hlt hi];refine hs.relO (cx:=cx) (fun b k e=>?_) (h.h.obs o y hy);exact hc.frame b (h.h.lt ⟨o,y,k,hy,e⟩) (hother o y b k hlt hi hy e)
  ·have:=hσx (ids.length+(o - st.ob.length)) (by omega);rw[show st.ob.length+(ids.length+(o - st.ob.length) - ids.length)=o by omega] at this;rw[this];exact hoc _ y hy
 ·intro o o' x x' b k k' ho ho' hb hb';have key:∀ (o:Nat) (x:Ob) (k:Nat),(obAfter st ids obs')[o]?=some (some x)→σAfter σ σc ids st.ob.length o=some (some (b,k)) →
    (∃ j y,obs'[j]?=some (some y)∧σc j=some (some (b,k))∧outR ids st.ob.length j=some o)∨(∃ y,st.ob[o]?=some (some y)∧σ o=some (some (b,k))∧¬ lvb (sel (ids.map some) σ) (obs.map some) b∧b<w.heap.size):=by
   intro o x k ho hb;rcases Dv ho with ⟨hlt,i,y,hi,hy,rfl⟩|⟨hlt,hi,y,hy,rfl⟩|⟨hge,y,hy,rfl⟩
   ·rw[hσi o i hlt hi] at hb;have:=Fy hi;exact .inl ⟨i,y,hy,hb,by unfold outR;rw[if_pos (List.getElem?_eq_some_iff.1 this).1];exact this⟩
   ·rw[hσn o hlt hi] at hb;exact .inr ⟨y,hy,hb,hother o y b k hlt hi hy hb,h.h.lt ⟨o,y,k,hy,hb⟩⟩
   ·have:=hσx (ids.length+(o - st.ob.length)) (by omega);rw[show st.ob.length+(ids.length+(o - st.ob.length) - ids.length)=o by omega] at this;rw[this] at hb;exact .inl ⟨_,y,hy,hb,by unfold outR;rw[if_neg (by omega)];congr 1;omega⟩
  rcases key o x k ho hb with ⟨j,y,h1,h2,h3⟩|⟨y,h1,h2,h3,h4⟩ <;> rcases key o' x' k' ho' hb' with ⟨j',y',g1,g2,g3⟩|⟨y',g1,g2,g3,g4⟩
  ·have:=hc.inj j j' y y' b k k' h1 g1 h2 g2;subst this;rw[h3] at g3;simpa using g3
  ·rcases hc.loc b ⟨j,y,k,h1,h2⟩ with hl|hl
   ·have:w.heap.size≤b:=hl;omega
   ·exact absurd hl g3
  ·rcases hc.loc b ⟨j',y',k',g1,g2⟩ with hl|hl
   ·have:w.heap.size≤b:=hl;omega
   ·exact absurd hl h3
  ·exact h.h.inj o o' y y' b k k' h1 g1 h2 g2
 ·intro o ho;have hL:(obAfter st ids obs').length=st.ob.length+(obs'.length - ids.length):=by simp[obAfter]
  rw[hL] at ho;have:¬ o<st.ob.length:=by omega
  simp only[σAfter,this,if_false];exact hc.dom _ (by omega)
 ·have hL:(obAfter st ids obs').length=st.ob.length+(obs'.length - ids.length):=by simp[obAfter]
  have:=h.h.nbl;omega
 ·intro o x ho hrw hnb;have hlt0:o<st.ob.length:=Nat.lt_of_lt_of_le hnb h.h.nbl;rcases Dv ho with ⟨hlt,i,y,hi,hy,rfl⟩|⟨hlt,hi,y,hy,rfl⟩|⟨hge,y,hy,rfl⟩
  ·have hio:=Fy hi;have hpk:(pickOb (ids.map some) st.ob)[i]?=(obs.map some)[i]?:=by rw[hobs]
   have hil:i<obs.length:=by rw[hml];exact (List.getElem?_eq_some_iff.1 hio).1
   rw[List.getElem?_map,List.getElem?_eq_getElem hil] at hpk;obtain⟨o2,z,m1,m2,m3⟩:=Bk hpk;rw[List.getElem?_map,hio] at m1;simp at m1;subst m1;have hobj:st.obj o=some z:=by simp[St.obj,m2]
   have hzr:=hrow i o z y hio hobj hy;have hyr:y.row=false:=hrw;rw[hσi o i hlt hi,hc.box i y hy hyr hil];show sel (ids.map some) σ i=cx.σ0 o;rw[sel,List.getElem?_map,hio];exact h.h.box o z m2 (by rw[← hzr];exact hyr) hnb
  ·rw[hσn o hlt hi];exact h.h.box o y hy hrw hnb
  ·omega
end
end Go.Proofs.Ytenemndpignaoaa
namespace Go.Proofs.Ytenemndpignaoaa
open Go Go.RowKit
structure CallOk (st:St) (ids:List Nat) (obs:List Ob) (obs':List (Option Ob)) (res:AV):Prop where
 nd:ids.Nodup
 lt:∀ i∈ids,i<st.ob.length
 obs:pickOb (ids.map some) st.ob=obs.map some
 box:∀ (i o:Nat) (z:Ob),ids[i]?=some o→st.obj o=some z→z.row=false→∃ y,obs'[i]?=some (some y)∧y.row=false
 row:∀ (i o:Nat) (z:Ob) (y:Ob),ids[i]?=some o→st.obj o=some z→obs'[i]?=some (some y)→y.row=z.row
 na:res.na=true
 ona:obs'.all (fun x=>match x with|some x=>x.na|none=>true)=true
 len:ids.length≤obs'.length
theorem CallOk.nil {st:St} {obs':List (Option Ob)} {res:AV} (na:res.na=true) (ona:obs'.all (fun x=>match x with|some x=>x.na|none=>true)=true):CallOk st [] [] obs' res :=
 ⟨List.nodup_nil,fun i h=>by simp at h,rfl,fun i o z h=>by simp at h,fun i o z y h=>by simp at h,na,ona,by simp⟩
def Enters (P:Program) (f:Nat):Prop:=∀ args w,(callFunc f args).run P w=.ok (.enter f args) w
def xcallS (P:Program) (f:Nat) (avs:List AV) (st:St) (dst:Option Nat) (K:St→Prop):Prop :=
 ∃ ids obs obs' res cargs,Enters P f∧Sound P f cargs obs res obs'∧CallOk st ids obs obs' res∧All2 (Vw st ids) avs cargs∧K ((st.after ids obs').put dst (res.ren (outR ids st.ob.length)))
def OpFam (P:Program) (R:Option Nat) (cx:Cx) (o:Oper) (st:St) (K:St→Prop):Prop :=
 ∀ σ a w,RelS cx σ st a w→∀ (next:Act→World→Prop) (Q:Exit→Act→World→Prop),(∀ σ' st' a' w',K st'→RelS cx σ' st' a' w'→next a' w')→o.uponIn (fR R) 0 P a next Q ((o.semAt (fR R).round a.eval).run P w)
section
variable {P:Program} {R:Option Nat} {cx:Cx} {o:Oper} {st st':St} {K:St→Prop}
theorem OpFam.ok (hd:∀ c,o.op≠.defer c) (h:OpOk P cx o st st') (hk:K st'):OpFam P R cx o st K:=by
 intro σ a w hr next Q hn;obtain⟨v,w',σ',hrun,hr'⟩:=h σ a w hr;rw[Oper.semAt_eq _ _ _ hd,hrun];exact hn σ' st' _ w' hk hr'
theorem OpFam.skip (hd:∀ c,o.op≠.defer c) (h:OpSkip P cx o st st') (hk:K st'):OpFam P R cx o st K:=by
 intro σ a w hr next Q hn;obtain⟨w',σ',hrun,hr'⟩:=h σ a w hr;rw[Oper.semAt_eq _ _ _ hd,hrun];exact hn σ' st' _ w' hk hr'
theorem AO.fam {ops:Array Oper} {Q:Post} {i:Nat} {rest:List Nat} (ho:ops[i]?=some o) (hg:o.guard=none) (h:OpFam P R cx o st K) (hk:∀ st',K st'→AO P R cx ops Q rest st'):AO P R cx ops Q (i::rest) st:=by
 intro σ a w hr;simp only[wpOpsIn,ho,Region.wanted,hg,if_true];exact⟨fun f _=>Er R f,h σ a w hr _ _ fun σ' st' a' w' hK hr'=>hk st' hK σ' a' w' hr'⟩
theorem GN {ids:List Nat} {σ:Nat→Hd} {a:Act} {w:World} (hr:RelS cx σ st a w):∀ (vs:List Value) (avs cargs:List AV),All2 (RelV w (Xd cx w σ st.ob) (Xe w σ st.ob) σ) vs avs→All2 (Vw st ids) avs cargs →
  All2 (RelV w (XdC cx w σ st.ob ids) (Xe w (sel (ids.map some) σ) (pickOb (ids.map some) st.ob)) (sel (ids.map some) σ)) vs cargs
 |[],[],[],_,_=>trivial
 |v::vs,x::xs,c::cs,h,h'=>⟨h'.1.sound hr.h h.1,GN hr vs xs cs h.2 h'.2⟩
 |[],_::_,_,h,_=>h.elim
 |_::_,[],_,h,_=>h.elim
 |[],[],_::_,_,h'=>h'.elim
 |_::_,_::_,[],_,h'=>h'.elim
theorem Gc {c:Call} {g:Operand} {f:Nat} {cvs:List Value} {avs:List AV} (ho:o.op=.call c) (hc:c.callee=.value g) {σ:Nat→Hd} {a:Act} {w:World} (hr:RelS cx σ st a w) (hgv':a.eval g=.func (.func f) #[] cvs.toArray)
  (hvals:All2 (RelV w (Xd cx w σ st.ob) (Xe w σ st.ob) σ) (c.args.toList.map a.eval++cvs) avs) {ids:List Nat} {obs:List Ob} {obs':List (Option Ob)} {res:AV} {cargs:List AV} (hen:Enters P f) (hS:Sound P f cargs obs res obs') (hok:CallOk st ids obs obs' res) (hargs:All2 (Vw st ids) avs cargs)
  {next:Act→World→Prop} {Q:Exit→Act→World→Prop} (hn:∀ σ' a' w',RelS cx σ' ((st.after ids obs').put o.dst (res.ren (outR ids st.ob.length))) a' w'→next a' w'):o.uponIn (fR R) 0 P a next Q ((o.semAt (fR R).round a.eval).run P w):=by
 rw[Oper.semAt_eq _ _ _ (fun c' e=>by rw[ho] at e;simp at e)];have hrun:(execOp a.eval o).run P w=.ok (.enter f (c.args.toList.map a.eval++cvs).toArray) w:=by
  simp only[execOp,ho,resolve,hc,hgv',Deferred.ofValue,Sem.run_bind,Sem.run_pure,Result.andThen_ok,invoke];rw[hen];simp
 rw[hrun];refine⟨fun h=>by rw[FQ] at h;simp at h,?_⟩;have hml:obs.length=ids.length:=by have:=congrArg List.length hok.obs;simp[pickOb] at this;exact this.symm
 have hsub:∀ b,lvb (sel (ids.map some) σ) (obs.map some) b→lvb σ st.ob b:=fun b hb=>by
  rw[← hok.obs] at hb;obtain⟨o,y,k,_,h2,h3⟩:=ET hb;exact⟨o,y,k,h2,h3⟩
 have hZ:∀ b,Zc cx σ st.ob ids b→b<w.heap.size∧¬ lvb (sel (ids.map some) σ) (obs.map some) b:=by
  intro b hb;rcases hb with hb|⟨hb,hn⟩
  ·exact⟨Nat.lt_of_lt_of_le (cx.zlt b hb).1 hr.h.size,fun hl=>hr.h.notZ (hsub b hl) hb⟩
  ·rw[hok.obs] at hn;exact⟨hr.h.lt hb,hn⟩
 -- the callee's objects
 have hXc:∀ b,Xd cx w σ st.ob b→XdC cx w σ st.ob ids b∧w.heap[b]?=w.heap[b]?:=fun b ⟨h1,h2,h3,h4⟩ =>
  ⟨⟨h1,fun hl=>h2 (hsub b (by rw[← hok.obs];exact hl)),fun hz=>hz.elim h3 (fun hz=>h2 hz.1),h4⟩,rfl⟩
 have hXac:∀ b,Xe w σ st.ob b→Xe w (sel (ids.map some) σ) (pickOb (ids.map some) st.ob) b∧w.heap[b]?=w.heap[b]?:=fun b ⟨h1,h2,h4⟩ =>
  ⟨⟨h1,fun hl=>h2 (hsub b (by rw[← hok.obs];exact hl)),h4⟩,rfl⟩
 have hH0:∀ (obc:List (Option Ob)) (he:pickOb (ids.map some) st.ob=obc) (hZ':∀ b,Zc cx σ st.ob ids b→b<w.heap.size∧¬ lvb (sel (ids.map some) σ) obc b),
   RelH (cx0 w (sel (ids.map some) σ) obs.length obc (Zc cx σ st.ob ids) hZ') w (sel (ids.map some) σ) obc none:=by
  intro obc he hZ';subst he;refine⟨?_,?_,?_,?_,fun o x _ _ _=>rfl,fun b hb=>.inr hb,Nat.le_refl _,fun _ _ _=>rfl,rfl,rfl,rfl,trivial⟩
  ·intro i x hi;obtain⟨o',y,m1,m2,rfl⟩:=Bk hi;rw[show sel (ids.map some) σ i=σ o' by rw[sel,m1]];exact RelO.ren hXc hXac (fun o i hh e ho=>by rw[sel,EB e];exact ho) (fun _ _ _=>rfl) (hr.h.obs o' y m2)
  ·intro i j x x' b k k' hi hj hb hb';obtain⟨o1,y,m1,m2,_⟩:=Bk hi;obtain⟨o2,y',m1',m2',_⟩:=Bk hj;rw[sel,m1] at hb;rw[sel,m1'] at hb';have:=hr.h.inj o1 o2 y y' b k k' m2 m2' hb hb';subst this;rw[List.getElem?_map] at m1 m1';obtain⟨z1,hz1,e1⟩:=Option.map_eq_some_iff.1 m1;obtain⟨z2,hz2,e2⟩:=Option.map_eq_some_iff.1 m1';simp at e1 e2;subst e1;subst e2;have h1:=List.getElem?_eq_some_iff.1 hz1;have h2:=List.getElem?_eq_some_iff.1 hz2;exact (List.getElem_inj hok.nd).1 (h1.2.trans h2.2.symm)
  ·intro i hi;have:(ids.map some)[i]?=none:=List.getElem?_eq_none (by simpa [pickOb] using hi);rw[sel,this]
  ·show obs.length≤_;simp[pickOb,hml]
 have hH:=hH0 _ hok.obs hZ;have hA:=GN hr _ _ _ hvals hargs;rw[hok.obs] at hA;have hXd:XdC cx w σ st.ob ids=Xd (cx0 w (sel (ids.map some) σ) obs.length (obs.map some) (Zc cx σ st.ob ids) hZ) w (sel (ids.map some) σ) (obs.map some):=by
  funext b
  simp only[XdC,hok.obs];rfl
 rw[hXd] at hA;have hcall:=hS (Zc cx σ st.ob ids) w (sel (ids.map some) σ) (c.args.toList.map a.eval++cvs) hZ hH hA;have hfin:∀ e w',(∃ v σ',e=Ending.returned v∧RelH (cx0 w (sel (ids.map some) σ) obs.length (obs.map some) (Zc cx σ st.ob ids) hZ) w' σ' obs' none ∧
   RelV w' (Xd (cx0 w (sel (ids.map some) σ) obs.length (obs.map some) (Zc cx σ st.ob ids) hZ) w' σ' obs') (Xe w' σ' obs') σ' v res) →
   (match e with|.returned v=>next (a.put o.dst v) w'|.panicked chain=>Q (.panic chain) a w'|.outgrown=>LetsOut Q):=by
  rintro e w' ⟨v,σ',rfl,h1,h2⟩;obtain⟨h3,h4⟩:=hr.after hok.nd hok.lt hok.obs hok.box hok.row hok.na hok.ona hok.len hZ h1 h2;exact hn _ _ w' (h3.put o.dst h4)
 have hc2:=(callsIn_wide (n:=0)).2 (hcall.mono hfin);cases R with
 |none =>
  refine⟨hc2.1,fun cs hroom=>?_⟩;obtain⟨e,w',fr,h1,h2⟩:=hc2.2 cs hroom;exact⟨e,w',fr,by cases e <;> exact h1,h2⟩
 |some l =>
  refine⟨hc2.1,fun cs hroom=>?_⟩;obtain⟨e,w',fr,h1,h2⟩:=hc2.2 cs hroom;exact⟨e,w',fr,by cases e <;> exact h1,h2⟩
theorem OpFam.callS {c:Call} {g:Operand} {f:Nat} {caps:List Nat} (ho:o.op=.call c) (hc:c.callee=.value g) (hg:st.ev g=.l (.s (.func (.func f) #[] #[]))∧caps=[]∨st.ev g=.l (.f f caps))
  (h:xcallS P f (c.args.toList.map st.ev++caps.map fun o=>.l (.p o 0)) st o.dst K):OpFam P R cx o st K:=by
 obtain⟨ids,obs,obs',res,cargs,hen,hS,hok,hargs,hk⟩:=h;intro σ a w hr next Q hn
 -- the function and the captured variables
 have hgv:=hr.ev g;obtain⟨cvs,hgv',hcv⟩:∃ cvs:List Value,a.eval g=.func (.func f) #[] cvs.toArray∧All2 (RelV w (Xd cx w σ st.ob) (Xe w σ st.ob) σ) cvs (caps.map fun o=>.l (.p o 0)):=by
  rcases hg with ⟨hg,rfl⟩|hg
  ·rw[hg] at hgv;exact⟨[],hgv.1,trivial⟩
  ·rw[hg] at hgv;obtain⟨vs,hv,hvs⟩:=hgv;exact⟨vs,hv,All2.map _ (fun v o _ ⟨b,k,hb,hv⟩=>⟨b,k,hb,hv⟩) hvs⟩
 have hvals:All2 (RelV w (Xd cx w σ st.ob) (Xe w σ st.ob) σ) (c.args.toList.map a.eval++cvs) (c.args.toList.map st.ev++caps.map fun o=>.l (.p o 0)):=by
  refine All2.append ?_ hcv;generalize c.args.toList=l;induction l with
  |nil=>trivial
  |cons x l ih=>exact⟨hr.ev x,ih⟩
 exact Gc ho hc hr hgv' hvals hen hS hok hargs fun σ' a' w' hr'=>hn σ' _ a' w' hk hr'
theorem RelS.alias {σ:Nat→Hd} {a:Act} {w:World} (h:RelS cx σ st a w) {ob:Nat} {x:Ob} (ho:st.ob[ob]?=some (some x)) (hrow:x.row=true) :
  Step σ st.ob w (upd σ st.ob.length (σ ob)) (st.ob.set ob none++[some x]) w some∧RelS cx (upd σ st.ob.length (σ ob)) { st with ob:=st.ob.set ob none++[some x] } a w:=by
 have hO:=h.h.obs ob x ho;obtain⟨hd,hhd⟩:∃ hd,σ ob=some hd:=by
  cases e:σ ob with
  |none=>rw[e] at hO;exact hO.elim
  |some hd=>exact⟨hd,rfl⟩
 have hl:ob<st.ob.length:=(List.getElem?_eq_some_iff.1 ho).1;have key:=h.renew (x':=x) ho hd (Nat.le_refl _) (fun _ _ _=>rfl) rfl rfl rfl (fun b k e=>.inl ⟨k,by rw[hhd,e]⟩) (fun b k e=>by
   rw[hhd,e] at hO;obtain⟨vs,rest,h1,h2,h3,h4⟩:=hO;exact⟨vs,rest,h1,h2,h3,h4⟩) (fun e=>by rw[hhd,e] at hO;exact⟨hrow,hO.2.1,hO.2.2 hrow⟩) hrow
 rw[hhd];refine⟨⟨Evo.refl _ _ _,?_,?_⟩,key⟩
 ·intro i j hh e hi;cases e
  rw[AD]
  ·exact hi
  ·rintro rfl;rw[h.h.dom _ (Nat.le_refl _)] at hi;simp at hi
 ·rintro b ⟨i,y,k,hi,hb⟩;by_cases e:i=st.ob.length
  ·subst e;rw[AQ] at hb;exact .inl ⟨ob,x,k,ho,by rw[hhd];exact hb⟩
  ·rw[AD _ _ e] at hb;refine .inl ⟨i,y,k,?_,hb⟩;rcases Nat.lt_or_ge i st.ob.length with hlt|hge
   ·rw[List.getElem?_append_left (by simpa using hlt)] at hi;by_cases e2:i=ob
    ·subst e2;rw[List.getElem?_set_self hl] at hi;simp at hi
    ·rwa [List.getElem?_set_ne (Ne.symm e2)] at hi
   ·rw[List.getElem?_eq_none (by simp;omega)] at hi;simp at hi
def al1 (o L:Nat):Ren:=fun i=>if i=o then some L else some i
def aliases:List Nat→St→List AV→(St→List AV→Prop)→Prop
 |[],st,avs,C=>C st avs
 |o::rs,st,avs,C=>∃ x,st.ob[o]?=some (some x)∧x.row=true∧aliases rs { st with ob:=st.ob.set o none++[some x] } (avs.map (AV.ren (al1 o st.ob.length))) C
theorem RelV.alias {σ:Nat→Hd} {a:Act} {w:World} (h:RelS cx σ st a w) {ob:Nat} {x:Ob} (ho:st.ob[ob]?=some (some x)) (hrow:x.row=true) {v:Value} {y:AV} (hv:RelV w (Xd cx w σ st.ob) (Xe w σ st.ob) σ v y) :
  RelV w (Xd cx w (upd σ st.ob.length (σ ob)) (st.ob.set ob none++[some x])) (Xe w (upd σ st.ob.length (σ ob)) (st.ob.set ob none++[some x])) (upd σ st.ob.length (σ ob)) v (y.ren (al1 ob st.ob.length)):=by
 obtain⟨hs,_⟩:=h.alias ho hrow;refine RelV.ren hs.Xd hs.Xe ?_ hv;intro i j hh e hi;unfold al1 at e;split at e
 ·rename_i hio
  simp at e;subst hio;subst e;rw[AQ];exact hi
 ·simp at e;subst e;rw[AD]
  ·exact hi
  ·rintro rfl;rw[h.h.dom _ (Nat.le_refl _)] at hi;simp at hi
theorem Fg {C:St→List AV→Prop}:∀ (rs:List Nat) (st:St) (avs:List AV),aliases rs st avs C→∀ {σ:Nat→Hd} {a:Act} {w:World} (vs:List Value),RelS cx σ st a w→All2 (RelV w (Xd cx w σ st.ob) (Xe w σ st.ob) σ) vs avs →
  ∃ σ' st' avs',C st' avs'∧RelS cx σ' st' a w∧All2 (RelV w (Xd cx w σ' st'.ob) (Xe w σ' st'.ob) σ') vs avs'∧st'.tm=st.tm∧st'.gh=st.gh∧st'.nt=st.nt∧st'.ls=st.ls
 |[],st,avs,h,σ,a,w,vs,hr,hv=>⟨σ,st,avs,h,hr,hv,rfl,rfl,rfl,rfl⟩
 |o::rs,st,avs,h,σ,a,w,vs,hr,hv=>by
  obtain⟨x,ho,hrow,h⟩:=h;obtain⟨σ',st',avs',h1,h2,h3,h4,h5,h6,h7⟩:=Fg rs _ _ h vs (hr.alias ho hrow).2 (All2.map _ (fun v y _ hy=>RelV.alias hr ho hrow hy) hv);exact⟨σ',st',avs',h1,h2,h3,h4,h5,h6,h7⟩
theorem D5 {w:World} {X Xa:Nat→Prop} {σ:Nat→Hd} {ρ:Ren} (hρ:∀ o h,σ o=some h→ρ o=some o) {v:Value} {x:AV} (h:RelV w X Xa σ v x):x.ren ρ=x:=by
 have hm:∀ (cs:List Nat) (vs:List Value),All2 (fun v o=>∃ b c,σ o=some (some (b,c))∧v=Value.pointer (some ⟨b,0,none⟩)) vs cs→cs.mapM ρ=some cs:=by
  intro cs;induction cs with
  |nil=>intro _ _;rfl
  |cons c cs ih =>
   intro vs hvs;cases vs with
   |nil=>exact hvs.elim
   |cons v vs =>
    obtain⟨⟨b,k,h1,_⟩,h2⟩:=hvs;rw[List.mapM_cons,hρ _ _ h1,ih vs h2];rfl
 have hL:∀ {v:Value} {x:LV},RelL w X Xa σ v x→x.ren ρ=x:=by
  intro v x h;cases x with
  |p o off=>obtain⟨b,c,h1,_⟩:=h;simp only[LV.ren,hρ _ _ h1]
  |r o sz lo hi =>
   rcases h with ⟨h1,_⟩|⟨b,k,off,h1,_⟩
   ·simp only[LV.ren,hρ _ _ h1]
   ·simp only[LV.ren,hρ _ _ h1]
  |f fn cs=>obtain⟨vs,_,hvs⟩:=h;simp only[LV.ren,hm cs vs hvs]
  |_=>rfl
 have hLs:∀ {vs:List Value} {cs:List LV},All2 (RelL w X Xa σ) vs cs→cs.map (LV.ren ρ)=cs:=by
  intro vs cs;induction cs generalizing vs with
  |nil=>intro _;rfl
  |cons c cs ih =>
   intro h;cases vs with
   |nil=>exact h.elim
   |cons v vs=>rw[List.map_cons,hL h.1,ih h.2]
 cases x with
 |l x=>simp only[AV.ren,hL h]
 |g cs=>obtain⟨vs,_,hvs⟩:=h;simp only[AV.ren,hLs hvs]
 |t xs =>
  obtain⟨vs,_,hvs⟩:=h;have key:∀ (xs:List (Bool×List LV)) (vs:List Value),All2 (RelC w X Xa σ) vs xs→xs.map (CV.ren ρ)=xs:=by
   intro xs;induction xs with
   |nil=>intro _ _;rfl
   |cons c xs ih =>
    intro vs hvs;cases vs with
    |nil=>exact hvs.elim
    |cons v vs =>
     rw[List.map_cons,ih vs hvs.2];obtain⟨b,cs⟩:=c;have h1:=hvs.1;cases b
     ·obtain⟨y,hy,hr⟩:=h1;subst hy;simp[CV.ren,hL hr]
     ·obtain⟨us,_,hus⟩:=h1;simp[CV.ren,hLs hus]
  simp only[AV.ren,key xs vs hvs]
def xcallN (P:Program) (f:Nat) (avs:List AV) (st:St) (dst:Option Nat) (K:St→Prop):Prop :=
 ∃ rs,aliases rs st avs fun st1 avs1=>∃ ids obs obs' res cargs,Enters P f∧Sound P f cargs obs res obs'∧CallOk st1 ids obs obs' res∧All2 (Vw st1 ids) avs1 cargs∧(∀ i∈ids,st.ob.length≤i) ∧
  K (St.put { st with ob:=obAfter st1 ids obs' } dst (res.ren (outR ids st1.ob.length)))
theorem OpFam.callN {c:Call} {g:Operand} {f:Nat} {caps:List Nat} (ho:o.op=.call c) (hc:c.callee=.value g) (hg:st.ev g=.l (.s (.func (.func f) #[] #[]))∧caps=[]∨st.ev g=.l (.f f caps))
  (h:xcallN P f (c.args.toList.map st.ev++caps.map fun o=>.l (.p o 0)) st o.dst K):OpFam P R cx o st K:=by
 obtain⟨rs,h⟩:=h;intro σ a w hr next Q hn;have hgv:=hr.ev g;obtain⟨cvs,hgv',hcv⟩:∃ cvs:List Value,a.eval g=.func (.func f) #[] cvs.toArray∧All2 (RelV w (Xd cx w σ st.ob) (Xe w σ st.ob) σ) cvs (caps.map fun o=>.l (.p o 0)):=by
  rcases hg with ⟨hg,rfl⟩|hg
  ·rw[hg] at hgv;exact⟨[],hgv.1,trivial⟩
  ·rw[hg] at hgv;obtain⟨vs,hv,hvs⟩:=hgv;exact⟨vs,hv,All2.map _ (fun v o _ ⟨b,k,hb,hv⟩=>⟨b,k,hb,hv⟩) hvs⟩
 have hvals:All2 (RelV w (Xd cx w σ st.ob) (Xe w σ st.ob) σ) (c.args.toList.map a.eval++cvs) (c.args.toList.map st.ev++caps.map fun o=>.l (.p o 0)):=by
  refine All2.append ?_ hcv;generalize c.args.toList=l;induction l with
  |nil=>trivial
  |cons x l ih=>exact⟨hr.ev x,ih⟩
 obtain⟨σ1,st1,avs1,⟨ids,obs,obs',res,cargs,hen,hS,hok,hargs,hids,hk⟩,hr1,hv1,e1,e2,e3,e4⟩:=Fg (cx:=cx) rs st _ h _ hr hvals;refine Gc ho hc hr1 hgv' hv1 hen hS hok hargs fun σ' a' w' hr'=>hn σ' _ a' w' hk ?_;have hρ:∀ q hh,σ q=some hh→keptR st1 ids q=some q:=by
  intro q hh hq;have hlt:q<st.ob.length:=by
   rcases Nat.lt_or_ge q st.ob.length with h|h
   ·exact h
   ·rw[hr.h.dom q h] at hq;simp at hq
  unfold keptR;rw[if_neg];intro hcon;simp only[Bool.and_eq_true,List.contains_iff_mem] at hcon;have:=hids q hcon.1;omega
 have htm:∀ i,lk (st.tm.ren (keptR st1 ids)) i=lk st.tm i:=fun i=>by
  rw[Cv];exact D5 hρ (hr.tm i)
 obtain⟨k1,k2,k3,k4,k5⟩:=hr';have hgh:∀ {G:List (Array Value)} {gs:List Tm},All2 (RelT cx w σ st.ob) G gs→∀ {X Y:Nat→Prop} {σ'':Nat→Hd} {w'':World},All2 (fun (S:Array Value) (tm:Tm)=>∀ i,RelV w'' X Y σ'' (S.getD i undef) (lk tm i)) G (gs.map (Tm.ren (keptR st1 ids))) →
   All2 (fun (S:Array Value) (tm:Tm)=>∀ i,RelV w'' X Y σ'' (S.getD i undef) (lk tm i)) G gs:=by
  intro G gs;induction gs generalizing G with
  |nil=>intro h1 _ _ _ _ h2;exact h2
  |cons t gs ih =>
   intro h1 X Y σ'' w'' h2;cases G with
   |nil=>exact h1.elim
   |cons S G =>
    refine⟨fun i=>?_,ih h1.2 h2.2⟩;have:=h2.1 i;rw[Cv,D5 hρ (h1.1 i)] at this;exact this
 have hob:(St.put { st with ob:=obAfter st1 ids obs' } o.dst (res.ren (outR ids st1.ob.length))).ob=((st1.after ids obs').put o.dst (res.ren (outR ids st1.ob.length))).ob:=by
  cases o.dst <;> rfl
 have hls:(St.put { st with ob:=obAfter st1 ids obs' } o.dst (res.ren (outR ids st1.ob.length))).ls=((st1.after ids obs').put o.dst (res.ren (outR ids st1.ob.length))).ls:=by
  cases o.dst <;> simp[St.put,St.after,e4]
 have hnt:(St.put { st with ob:=obAfter st1 ids obs' } o.dst (res.ren (outR ids st1.ob.length))).nt=((st1.after ids obs').put o.dst (res.ren (outR ids st1.ob.length))).nt:=by
  cases o.dst <;> simp[St.put,St.after,e3]
 refine⟨by rw[hob,hls];exact k1,fun i=>?_,by rw[hnt];exact k3,?_,k5⟩
 ·have:=k2 i;rw[hob];have hlk:lk (St.put { st with ob:=obAfter st1 ids obs' } o.dst (res.ren (outR ids st1.ob.length))).tm i=lk ((st1.after ids obs').put o.dst (res.ren (outR ids st1.ob.length))).tm i:=by
   cases o.dst with
   |none=>simp only[St.put,St.after,e1];exact (htm i).symm
   |some d =>
    simp only[St.put,St.after,e1,e3];cases Nat.blt d st.nt
    ·exact (htm i).symm
    ·simp only[cond_true];rw[A5,A5,htm i]
  rw[hlk];exact this
 ·rw[hob];have hg0:((st1.after ids obs').put o.dst (res.ren (outR ids st1.ob.length))).gh=st.gh.map (Tm.ren (keptR st1 ids)):=by
   cases o.dst <;> simp[St.put,St.after,e2]
  have hg1:(St.put { st with ob:=obAfter st1 ids obs' } o.dst (res.ren (outR ids st1.ob.length))).gh=st.gh:=by
   cases o.dst <;> rfl
  rw[hg1];rw[hg0] at k4;exact hgh hr.gh k4
def xext (P:Program) (f:Nat) (avs:List AV) (st:St) (dst:Option Nat) (K:St→Prop):Prop :=
 ∃ v:Value,v.oneCell'=true∧(∀ (cx:Cx) (σ:Nat→Hd) (a:Act) (w:World) (vs:List Value),RelS cx σ st a w→All2 (RelV w (Xd cx w σ st.ob) (Xe w σ st.ob) σ) vs avs→(callFunc f vs.toArray).run P w=.ok (.value v) w)∧K (st.put dst (.l (.s v)))
def xcall (P:Program) (f:Nat) (avs:List AV) (st:St) (dst:Option Nat) (K:St→Prop):Prop:=xcallS P f avs st dst K∨(xext P f avs st dst K∨xcallN P f avs st dst K)
theorem OpFam.call {c:Call} {g:Operand} {f:Nat} {caps:List Nat} (ho:o.op=.call c) (hc:c.callee=.value g) (hg:st.ev g=.l (.s (.func (.func f) #[] #[]))∧caps=[]∨st.ev g=.l (.f f caps))
  (h:xcall P f (c.args.toList.map st.ev++caps.map fun o=>.l (.p o 0)) st o.dst K):OpFam P R cx o st K:=by
 rcases h with h|⟨v,hv1,hrun,hk⟩|h
 ·exact OpFam.callS ho hc hg h
 ·intro σ a w hr next Q hn;rw[Oper.semAt_eq _ _ _ (fun c' e=>by rw[ho] at e;simp at e)];have hgv:=hr.ev g;obtain⟨cvs,hgv',hcv⟩:∃ cvs:List Value,a.eval g=.func (.func f) #[] cvs.toArray∧All2 (RelV w (Xd cx w σ st.ob) (Xe w σ st.ob) σ) cvs (caps.map fun o=>.l (.p o 0)):=by
   rcases hg with ⟨hg,rfl⟩|hg
   ·rw[hg] at hgv;exact⟨[],hgv.1,trivial⟩
   ·rw[hg] at hgv;obtain⟨vs,hv,hvs⟩:=hgv;exact⟨vs,hv,All2.map _ (fun v o _ ⟨b,k,hb,hv⟩=>⟨b,k,hb,hv⟩) hvs⟩
  have hvals:All2 (RelV w (Xd cx w σ st.ob) (Xe w σ st.ob) σ) (c.args.toList.map a.eval++cvs) (c.args.toList.map st.ev++caps.map fun o=>.l (.p o 0)):=by
   refine All2.append ?_ hcv;generalize c.args.toList=l;induction l with
   |nil=>trivial
   |cons x l ih=>exact⟨hr.ev x,ih⟩
  have h2:=hrun cx σ a w _ hr hvals;have hrun':(execOp a.eval o).run P w=.ok (.value v) w:=by
   have e:(c.args.toList.map a.eval++cvs).toArray=#[]++c.args.map a.eval++cvs.toArray:=by simp
   rw[e] at h2;simp only[execOp,ho,resolve,hc,hgv',Deferred.ofValue,Sem.run_bind,Sem.run_pure,Result.andThen_ok,invoke];simpa using h2
  rw[hrun'];exact hn σ _ _ w hk (hr.put o.dst ⟨rfl,hv1⟩)
 ·exact OpFam.callN ho hc hg h
end
end Go.Proofs.Ytenemndpignaoaa
namespace Go.Proofs.Ytenemndpignaoaa
open Go Go.RowKit
def byteL:List LV→Option (List UInt8)
 |[]=>some []
 |.s (.int .u8 n)::r=>(byteL r).map (UInt8.ofNat n.toNat::·)
 |_=>none
section
variable {P:Program} {R:Option Nat} {cx:Cx} {o:Oper} {st:St} {K:St→Prop}
theorem GO {w:World} {X Xa:Nat→Prop} {σ:Nat→Hd}:∀ {vs:List Value} {cs:List LV} {bs:List UInt8},All2 (RelL w X Xa σ) vs cs→byteL cs=some bs→∃ ns:List Int,vs=ns.map (Value.int .u8)∧bs=ns.map fun n=>UInt8.ofNat n.toNat
 |[],[],bs,_,h=>by simp[byteL] at h;subst h;exact⟨[],rfl,rfl⟩
 |v::vs,c::cs,bs,hr,h=>by
  cases c with
  |s a =>
   cases a with
   |int k n =>
    cases k with
    |u8 =>
     simp only[byteL,Option.map_eq_some_iff] at h;obtain⟨bs',h1,rfl⟩:=h;obtain⟨ns,rfl,rfl⟩:=GO hr.2 h1;exact⟨n::ns,by rw[hr.1.1];rfl,rfl⟩
    |_=>simp[byteL] at h
   |_=>simp[byteL] at h
  |_=>simp[byteL] at h
 |[],_::_,_,hr,_=>hr.elim
 |_::_,[],_,hr,_=>hr.elim
theorem GP:∀ (ns:List Int) (s:ByteArray),ns.foldl (fun r n=>r.push (UInt8.ofNat n.toNat)) s=⟨s.data++(ns.map fun n=>UInt8.ofNat n.toNat).toArray⟩
 |[],s=>by simp
 |n::ns,s=>by
  rw[List.foldl_cons,GP ns];simp[ByteArray.push]
theorem OpOk.conv_bytes {src dst e m:Nat} {x:Operand} {cs:List LV} {bs:List UInt8} (ho:o.op=.convert src dst x) (hs:elemF P src=some e) (he:intF P e=some .u8) (hd:strF P dst=true) (hx:st.src 1 (st.ev x)=some (m,cs)) (hb:byteL cs=some bs) :
  OpOk P cx o st (st.put o.dst (.l (.s (.string ⟨bs.toArray⟩)))):=by
 refine .calm fun σ a w hr=>?_;rcases hr.src (hr.ev x) hx with ⟨hv,rfl,rfl⟩|⟨ad,c,news,hv,hl,hc,h1,hall⟩
 ·simp[byteL] at hb;subst hb;refine⟨.string ByteArray.empty,0,?_,rfl,rfl⟩;simp[execOp,ho,hv,run_convert_bytes_string w src dst e none 0 0 (AE hs) (DP he) (C6 hd),Conv.bytesToString,World.drewN]
 ·obtain⟨ns,rfl,rfl⟩:=GO hall hb;refine⟨_,0,?_,rfl,rfl⟩;have hcells:(loadCells ad m).run P w=.ok (ns.map (Value.int .u8)).toArray w:=by
   have:=run_loadCells_list (P:=P) w ad (ns.map (Value.int .u8)) hc;rwa [show (ns.map (Value.int .u8)).length=m by simpa using hl] at this
  have:=run_bytesToString (P:=P) w ad m c ns hcells;rw[GP] at this;simp[execOp,ho,hv,run_convert_bytes_string w src dst e (some ad) m c (AE hs) (DP he) (C6 hd),this,World.drewN]
theorem OpFam.cap_r {t e ob sz lo hi:Nat} {x:Operand} {z:Ob} (ho:o.op=.call { callee:=.builtin .cap,args:=#[x],argTypes:=#[t] }) (he:elemF P t=some e) (hx:st.ev x=.l (.r ob sz lo hi)) (hz:st.obj ob=some z) (hrow:z.row=true)
  (hk:∀ c,hi≤c→(∀ k,z.cap=some k→c=k)→z.cs.length≤c*z.sz→K ((st.setO ob { z with cap:=some c }).put o.dst (.l (.s (.int .i64 ((c - lo:Nat):Int)))))):OpFam P R cx o st K:=by
 intro σ a w hr next Q hn;have hv:=hr.ev x;rw[hx] at hv;have hO:=hr.h.obs ob z (AK hz);have hd:∀ c,o.op≠.defer c:=fun c e=>by rw[ho] at e;simp at e
 rw[Oper.semAt_eq _ _ _ hd];have key:∀ (c:Nat) (hH:RelS cx σ (st.setO ob { z with cap:=some c }) a w) (hrun:(execOp a.eval o).run P w=.ok (.value (.int .i64 ((c - lo:Nat):Int))) w) (h1:hi≤c) (h2:∀ k,z.cap=some k→c=k) (h3:z.cs.length≤c*z.sz),
   o.uponIn (fR R) 0 P a next Q ((execOp a.eval o).run P w):=by
  intro c hH hrun h1 h2 h3;rw[hrun];exact hn σ _ _ w (hk c h1 h2 h3) (hH.put o.dst ⟨rfl,rfl⟩)
 have hset:∀ c,RelO w (Xd cx w σ st.ob) (Xe w σ st.ob) σ (σ ob) { z with cap:=some c }→RelS cx σ (st.setO ob { z with cap:=some c }) a w:=by
  intro c hOc;have hl:ob<st.ob.length:=(List.getElem?_eq_some_iff.1 (AK hz)).1;have hget:∀ (i:Nat) (y:Ob),(st.ob.set ob (some { z with cap:=some c }))[i]?=some (some y)→(i=ob∧y={ z with cap:=some c })∨(i≠ob∧st.ob[i]?=some (some y)):=by
   intro i y hy;by_cases e:i=ob
   ·subst e;rw[List.getElem?_set_self hl] at hy;simp at hy;exact .inl ⟨rfl,hy.symm⟩
   ·rw[List.getElem?_set_ne (Ne.symm e)] at hy;exact .inr ⟨e,hy⟩
  have hs:Step σ st.ob w σ (st.ob.set ob (some { z with cap:=some c })) w some:=by
   refine⟨Evo.refl _ _ _,fun o o' x e hx=>by cases e;exact hx,?_⟩;rintro b ⟨i,y,k,hi',hb⟩;rcases hget i y hi' with ⟨rfl,rfl⟩|⟨_,hy⟩
   ·exact .inl ⟨i,z,k,AK hz,hb⟩
   ·exact .inl ⟨i,y,k,hy,hb⟩
  refine hr.step_some hs (hs.relH hr.h ?_ ?_ ?_ (by simpa using hr.h.nbl) ?_)
  ·intro i y hi';rcases hget i y hi' with ⟨rfl,rfl⟩|⟨_,hy⟩
   ·have:=hs.relO (cx:=cx) (fun b k e=>rfl) hOc;rwa [Ob.ren_some] at this
   ·have:=hs.relO (cx:=cx) (fun b k e=>rfl) (hr.h.obs i y hy);rwa [Ob.ren_some] at this
  ·intro i j y y' b k k' hi' hj hb hb';have hz':=AK hz;rcases hget i y hi' with ⟨rfl,rfl⟩|⟨_,hy⟩ <;> rcases hget j y' hj with ⟨rfl,rfl⟩|⟨_,hy'⟩
   ·rfl
   ·exact hr.h.inj _ _ _ _ b k k' hz' hy' hb hb'
   ·exact hr.h.inj _ _ _ _ b k k' hy hz' hb hb'
   ·exact hr.h.inj _ _ _ _ b k k' hy hy' hb hb'
  ·intro i hi';exact hr.h.dom i (by simpa using hi')
  ·intro i y hi' hrow hlt;rcases hget i y hi' with ⟨rfl,rfl⟩|⟨_,hy⟩
   ·exact hr.h.box i z (AK hz) hrow hlt
   ·exact hr.h.box i y hy hrow hlt
 rcases hv with ⟨hb,rfl,rfl,hv⟩|⟨b,k,off,hb,h3,h4,hv,hoff⟩
 ·rw[hb] at hO;refine key 0 (hset 0 ?_) ?_ (Nat.le_refl _) (fun k hk'=>?_) (by simp[hO.2.1])
  ·rw[hb];exact⟨by simp,hO.2.1,fun _=>.inr rfl⟩
  ·simp[execOp,ho,resolve,invoke,builtin,Builtin.cap_,run_underlying (AE he),hv,goInt]
  ·rcases hO.2.2 hrow with h|h <;> rw[h] at hk' <;> simp at hk'
   exact hk'
 ·rw[hb] at hO;obtain⟨vs,rest,g1,g2,g4,g5⟩:=hO;refine key k (hset k ?_) ?_ h4 (fun k' hk'=>((g5 (Ob.bx_row hrow)).2.2 hrow k' hk').symm) ?_
  ·rw[hb];exact⟨vs,rest,g1,g2,fun e=>by simp at e,fun _=>⟨(g5 (Ob.bx_row hrow)).1,(g5 (Ob.bx_row hrow)).2.1,fun _ k' hk'=>by simp at hk';exact hk'.symm⟩⟩
  ·simp[execOp,ho,resolve,invoke,builtin,Builtin.cap_,run_underlying (AE he),hv,goInt]
  ·have:=(g5 (Ob.bx_row hrow)).1;rw[← g2.length];omega
end
end Go.Proofs.Ytenemndpignaoaa
namespace Go.Proofs.Ytenemndpignaoaa
open Go Go.RowKit
section
variable {P:Program} {R:Option Nat} {cx:Cx} {o:Oper} {st:St} {K:St→Prop}
theorem RelS.putCells {σ:Nat→Hd} {a:Act} {w:World} (hr:RelS cx σ st a w) {ob:Nat} {z:Ob} (hz:st.obj ob=some z) {b k:Nat} (hb:σ ob=some (some (b,k))) (off:Nat) {news:List Value} {nc:List LV}
  (hn:All2 (RelL w (Xd cx w σ st.ob) (Xe w σ st.ob) σ) news nc) (h1:∀ u∈news,u.oneCell'=true) (hfit:off+nc.length≤z.cs.length) :
  ∃ w',(storeCells ⟨b,off,none⟩ news).run P w=.ok () w'∧RelS cx σ (st.setO ob { z with cs:=setAt z.cs off nc }) a w':=by
 have hO:=hr.h.obs ob z (AK hz);rw[hb] at hO;obtain⟨vs,rest,g1,g2,g4,g5⟩:=hO;have hvl:=g2.length;have hnl:=hn.length;have hst:=run_storeCells_at (P:=P) b off z.ty news 0 (vs++rest).toArray w g1 (by simp only[List.size_toArray,List.length_append];omega) h1;have e:(vs++rest).toArray.toList.take (off+0)++news++(vs++rest).toArray.toList.drop (off+0+news.length)=setAt vs off news++rest:=by
  rw[← Ez _ _ _ _ (by omega),CK _ _ _ (by simp only[List.length_append];omega)];simp
 rw[e] at hst;refine⟨_,hst,hr.write (x':={ z with cs:=setAt z.cs off nc }) (AK hz) hb (setAt vs off news) rest (All2.setAt off g2 hn) rfl rfl g4 ?_⟩;rw[C5];exact g5
theorem OpOk.copy_r {t t' e ob lo hi m:Nat} {d x:Operand} {ti:TI} {nc:List LV} {z:Ob} (ho:o.op=.call { callee:=.builtin .copy,args:=#[d,x],argTypes:=#[t,t'] }) (he:elemF P t=some e) (hti:tiF P e=some ti)
  (hd:st.ev d=.l (.r ob ti.sz lo hi)) (hz:st.obj ob=some z) (hfit:hi*ti.sz≤z.cs.length) (hx:st.src ti.sz (st.ev x)=some (m,nc)) :
  OpOk P cx o st ((st.setO ob { z with cs:=setAt z.cs (lo*ti.sz) (nc.take (min m (hi - lo)*ti.sz)) }).put o.dst (.l (.s (.int .i64 ((min m (hi - lo):Nat):Int))))):=by
 intro σ a w hr;have hv:=hr.ev d;rw[hd] at hv
 -- what is read
 have hsrc:∃ news:List Value,(Builtin.lenOf (a.eval x)).run P w=.ok m w∧(Builtin.firstCells ti.sz (min m (hi - lo)) (a.eval x)).run P w=.ok news.toArray w ∧
   All2 (RelL w (Xd cx w σ st.ob) (Xe w σ st.ob) σ) news (nc.take (min m (hi - lo)*ti.sz))∧∀ u∈news,u.oneCell'=true:=by
  rcases hr.src (hr.ev x) hx with ⟨hv',rfl,rfl⟩|⟨ad,c,news,hv',hl,hc,h1,hall⟩
  ·refine⟨[],?_,?_,?_,by simp⟩
   ·simp[hv',Builtin.lenOf]
   ·simp[hv',Builtin.firstCells]
   ·simp[All2]
  ·have hmul:min m (hi - lo)*ti.sz≤m*ti.sz:=Nat.mul_le_mul_right _ (Nat.min_le_left _ _);refine⟨news.take (min m (hi - lo)*ti.sz),?_,?_,hall.take _,fun u hu=>h1 u (List.mem_of_mem_take hu)⟩
   ·simp[hv',Builtin.lenOf]
   ·have:=run_loadCells_list (P:=P) w ad (news.take (min m (hi - lo)*ti.sz)) (fun j u hj=>hc j u (by
     have hlt:=(List.getElem?_eq_some_iff.1 hj).1;rw[List.getElem?_take_of_lt (by simp at hlt;omega)] at hj;exact hj))
    rw[show (news.take (min m (hi - lo)*ti.sz)).length=min m (hi - lo)*ti.sz by simp;omega] at this;simp[hv',Builtin.firstCells,this]
 obtain⟨news,hlen,hfirst,hall,h1⟩:=hsrc;have hncl:(nc.take (min m (hi - lo)*ti.sz)).length≤min m (hi - lo)*ti.sz:=by simp;omega
 have hmn:Nat.min m (hi - lo)=min m (hi - lo):=rfl;have hself:nc.take (min m (hi - lo)*ti.sz)=[]→st.setO ob { z with cs:=setAt z.cs (lo*ti.sz) (nc.take (min m (hi - lo)*ti.sz)) }=st:=by
  intro h5;have h6:setAt z.cs (lo*ti.sz) []=z.cs:=by cases z.cs <;> rfl
  rw[h5,h6];unfold St.setO;have:st.ob.set ob (some z)=st.ob:=by
   apply List.ext_getElem?;intro i;by_cases e:i=ob
   ·subst e;rw[List.getElem?_set_self (List.getElem?_eq_some_iff.1 (AK hz)).1,AK hz]
   ·rw[List.getElem?_set_ne (Ne.symm e)]
  rw[this]
 have hnone:nc.take (min m (hi - lo)*ti.sz)=[]→news=[]:=fun h5=>by
  rw[h5] at hall;exact List.eq_nil_of_length_eq_zero hall.length
 have hz0:hi - lo=0→nc.take (min m (hi - lo)*ti.sz)=[]:=fun h5=>by simp[h5]
 rcases hv with ⟨hb,rfl,rfl,hv⟩|⟨b,k,off,hb,h3,h4,hv,hoff⟩
 ·rw[hself (hz0 rfl)];have hnews:=hnone (hz0 rfl);subst hnews;refine⟨.int .i64 ((min m (0 - 0):Nat):Int),w,σ,?_,hr.put o.dst ⟨rfl,rfl⟩⟩;have hf0:(Builtin.firstCells ti.sz 0 (a.eval x)).run P w=.ok #[] w:=by simpa using hfirst
  simp only[execOp,ho,resolve,Sem.run_bind,Sem.run_pure,Result.andThen_ok,invoke];simp[builtin,Builtin.copy_,run_underlying (AE he),hv,hlen,Bc hti,goInt,hf0]
 ·have hrun:∀ w':World,(storeCells ⟨b,off,none⟩ news).run P w=.ok () w'→(execOp a.eval o).run P w=.ok (.value (.int .i64 ((min m (hi - lo):Nat):Int))) w':=by
   intro w' hst;rw[← hmn] at hfirst;simp only[execOp,ho,resolve,Sem.run_bind,Sem.run_pure,Result.andThen_ok,invoke];simp[builtin,Builtin.copy_,run_underlying (AE he),hv,hlen,Bc hti,goInt,hfirst,hst]
  by_cases hlt:lo<k∨lo=0
  ·have hoff':=hoff hlt;obtain⟨w',hst,hr'⟩:=hr.putCells (P:=P) hz hb off hall h1 (by
    have h5:min m (hi - lo)*ti.sz≤(hi - lo)*ti.sz:=Nat.mul_le_mul_right _ (Nat.min_le_right _ _);have h6:(hi - lo)*ti.sz+lo*ti.sz=hi*ti.sz:=by rw[← Nat.add_mul];congr 1;omega
    omega)
   rw[hoff'] at hr';exact⟨_,w',σ,hrun w' hst,hr'.put o.dst ⟨rfl,rfl⟩⟩
  ·have h0:hi - lo=0:=by omega
   rw[hself (hz0 h0)];have hnews:=hnone (hz0 h0);subst hnews;exact⟨_,w,σ,hrun w (by simp[storeCells]),hr.put o.dst ⟨rfl,rfl⟩⟩
end
end Go.Proofs.Ytenemndpignaoaa
namespace Go.Proofs.Ytenemndpignaoaa
open Go Go.RowKit
section
variable {P:Program} {R:Option Nat} {cx:Cx} {o:Oper} {st:St} {K:St→Prop}
theorem zP {ob:Nat} {z:Ob} (hz:st.obj ob=some z) (p:Nat):st.setO ob { z with cs:=setAt z.cs p [] }=st:=by
 have h6:setAt z.cs p []=z.cs:=by cases z.cs <;> rfl
 rw[h6];unfold St.setO;have:st.ob.set ob (some z)=st.ob:=by
  apply List.ext_getElem?;intro i;by_cases e:i=ob
  ·subst e;rw[List.getElem?_set_self (List.getElem?_eq_some_iff.1 (AK hz)).1,AK hz]
  ·rw[List.getElem?_set_ne (Ne.symm e)]
 rw[this]
theorem Ki {σ:Nat→Hd} {a:Act} {w:World} (hr:RelS cx σ st a w) {x:Operand} {sz m:Nat} {nc:List LV} (hx:st.src sz (st.ev x)=some (m,nc)) :
  ∃ news:List Value,(Builtin.lenOf (a.eval x)).run P w=.ok m w∧(Builtin.firstCells sz m (a.eval x)).run P w=.ok news.toArray w∧All2 (RelL w (Xd cx w σ st.ob) (Xe w σ st.ob) σ) news nc∧(∀ u∈news,u.oneCell'=true)∧nc.length=m*sz:=by
 rcases hr.src (hr.ev x) hx with ⟨hv',rfl,rfl⟩|⟨ad,c,news,hv',hl,hc,h1,hall⟩
 ·exact⟨[],by simp[hv',Builtin.lenOf],by simp[hv',Builtin.firstCells],trivial,by simp,by simp⟩
 ·have:=run_loadCells_list (P:=P) w ad news hc;rw[hl] at this;exact⟨news,by simp[hv',Builtin.lenOf],by simp[hv',Builtin.firstCells,this],hall,h1,by rw[← hall.length,hl]⟩
theorem OpOk.append_in {t e m lo hi ob:Nat} {s x:Operand} {ti:TI} {nc:List LV} {z:Ob} (ho:o.op=.call { callee:=.builtin .append,args:=#[s,x],argTypes:=#[t,t] }) (he:elemF P t=some e) (hti:tiF P e=some ti)
  (h0:0<ti.sz) (hs:st.ev s=.l (.r ob ti.sz lo hi)) (hz:st.obj ob=some z) (hzt:z.sz=ti.sz∧z.row=true) (hx:st.src ti.sz (st.ev x)=some (m,nc)) (hfit:(hi+m)*ti.sz≤z.cs.length) :
  OpOk P cx o st ((st.setO ob { z with cs:=setAt z.cs (hi*ti.sz) nc }).put o.dst (.l (.r ob ti.sz lo (hi+m)))):=by
 intro σ a w hr;have hv:=hr.ev s;rw[hs] at hv;obtain⟨news,hlen,hfirst,hall,h1,hncl⟩:=Ki (P:=P) hr hx;have hO:=hr.h.obs ob z (AK hz);rcases hv with ⟨hb,rfl,rfl,hv⟩|⟨b,k,off,hb,h3,h4,hv,hoff⟩
 ·rw[hb] at hO;have hm:m=0:=by
   have h5:(0+m)*ti.sz=0:=by
    rw[hO.2.1] at hfit;simpa using hfit
   rcases Nat.mul_eq_zero.1 h5 with h|h <;> omega
  subst hm;have hnc:nc=[]:=List.eq_nil_of_length_eq_zero (by omega);subst hnc;have hnews:news=[]:=List.eq_nil_of_length_eq_zero hall.length;subst hnews;rw[zP hz];refine⟨.slice none 0 0,w,σ,?_,hr.put o.dst (.inl ⟨hb,rfl,rfl,rfl⟩)⟩;simp only[execOp,ho,resolve,Sem.run_bind,Sem.run_pure,Result.andThen_ok,invoke];simp[builtin,Builtin.append_,run_underlying (AE he),hv,hlen,Bc hti,hfirst]
 ·rw[hb] at hO;obtain⟨vs,rest,g1,g2,g4,g5⟩:=hO;have hkk:=(g5 (Ob.bx_row hzt.2)).1;rw[hzt.1] at hkk;have hcs:=g2.length;have hle:(hi+m)*ti.sz≤k*ti.sz:=by omega
  have hik:hi+m≤k:=Nat.le_of_mul_le_mul_right hle h0;have hrun:∀ w':World,(storeCells ⟨b,off+(hi - lo)*ti.sz,none⟩ news).run P w=.ok () w'→(execOp a.eval o).run P w=.ok (.value (.slice (some ⟨b,off,none⟩) (hi - lo+m) (k - lo))) w':=by
   intro w' hst;have hneed:hi - lo+m≤k - lo:=by omega
   simp only[execOp,ho,resolve,Sem.run_bind,Sem.run_pure,Result.andThen_ok,invoke];simp[builtin,Builtin.append_,run_underlying (AE he),hv,hlen,Bc hti,hfirst,hneed,Cr,hst]
  have hres:∀ (w':World) (ob':List (Option Ob)),RelV w' (Xd cx w' σ ob') (Xe w' σ ob') σ (.slice (some ⟨b,off,none⟩) (hi - lo+m) (k - lo)) (.l (.r ob ti.sz lo (hi+m))):=by
   intro w' ob';refine .inr ⟨b,k,off,hb,by omega,hik,?_,hoff⟩;rw[show hi+m - lo=hi - lo+m by omega]
  by_cases hlt:lo<k∨lo=0
  ·have hoff':=hoff hlt;have hpos:off+(hi - lo)*ti.sz=hi*ti.sz:=by
    rw[hoff',← Nat.add_mul];congr 1
    omega
   obtain⟨w',hst,hr'⟩:=hr.putCells (P:=P) hz hb (hi*ti.sz) hall h1 (by rw[hncl,← Nat.add_mul];exact hfit);refine⟨_,w',σ,hrun w' (by rw[hpos];exact hst),hr'.put o.dst (hres w' _)⟩
  ·have hm:m=0:=by omega
   subst hm;have hnc:nc=[]:=List.eq_nil_of_length_eq_zero (by omega);subst hnc;have hnews:news=[]:=List.eq_nil_of_length_eq_zero hall.length;subst hnews;rw[zP hz];exact⟨_,w,σ,hrun w (by simp[storeCells]),hr.put o.dst (hres w _)⟩
end
end Go.Proofs.Ytenemndpignaoaa
namespace Go.Proofs.Ytenemndpignaoaa
open Go Go.RowKit
section
variable {P:Program} {R:Option Nat} {cx:Cx} {o:Oper} {st:St} {K:St→Prop}
theorem D6 (z:Array Value) (n:Nat):(Builtin.zeroCells z n).toList=repZ n z.toList:=Et z n
theorem OpOk.append_make_nil {t t' e n:Nat} {s x:Operand} {ti:TI} {k kq:IntKind} (ho:o.op=.call { callee:=.builtin .append,args:=#[s,x],argTypes:=#[t,t'] }) (he:elemF P t=some e) (ht':intF P t'=some k) (hti:tiF P e=some ti)
  (hzl:ti.zero.length=ti.sz) (hz1:ti.zero.all (·.oneCell')=true) (h0:0<ti.sz) (hs:st.ev s=.l (.s (.slice none 0 0))) (hx:st.ev x=.l (.s (.int kq n))) (hn:0<n) (hb:n*ti.bytes≤281474976710656) (hn63:n≤4611686018427387904) :
  OpOk P cx o st ((st.add ⟨e,ti.sz,true,none,(repZ n ti.zero).map .s⟩).put o.dst (hdr st.ob.length ti.sz n)):=by
 intro σ a w hr;have hv:=hr.ev s;rw[hs] at hv;have hv':a.eval s=.slice none 0 0:=hv.1;have hxv:=hr.ev x;rw[hx] at hxv;have hx':a.eval x=.int kq n:=hxv.1;obtain⟨i,d,z,g1,g2,g3,rfl⟩:=Cg hti;simp only at hzl hz1 h0 hb ⊢;have hrun:=Lib.run_append_nil_zeros (P:=P) w t t' o.type e i z kq k (AE he) (DP ht') g1 g3 n hn h0 (by omega) hb;obtain⟨c,hc⟩:∃ c,c=grownCap w n 0 e:=⟨_,rfl⟩;rw[← hc] at hrun;have hcap:n≤c∧c≤maxLen:=by
  rw[hc];exact⟨grownCap_ge w n 0 e,grownCap_le_maxLen w n 0 e (by unfold maxLen;omega)⟩
 have hrun':(execOp a.eval o).run P w=.ok (.value (.slice (some ⟨w.heap.size,0,none⟩) n c)) ((w.drewN 1).alloc (.cells (repZ n z.cells.toList++repZ (c - n) z.cells.toList).toArray e)):=by
  have e1:(Builtin.zeroCells z.cells n++Builtin.zeroCells z.cells (c - n))=(repZ n z.cells.toList++repZ (c - n) z.cells.toList).toArray:=by
   apply Array.ext';simp[D6]
  rw[e1] at hrun;simp[execOp,ho,resolve,invoke,builtin,hv',hx',hrun];rfl
 have hz2:∀ m,(repZ m z.cells.toList).all (·.oneCell')=true:=fun m=>List.all_eq_true.2 fun u hu=>List.all_eq_true.1 hz1 u (D3 m hu);have hnew:=hr.new 1 c ⟨e,i.size,true,none,(repZ n z.cells.toList).map .s⟩ (repZ n z.cells.toList) (repZ (c - n) z.cells.toList) (Cn _ (hz2 n)) (fun h=>by simp at h) (fun _=>⟨by
  rw[By,By,hzl,← Nat.add_mul];congr 1
  omega,hcap.2,fun _ k' h=>by simp at h⟩)
 exact⟨_,_,_,hrun',hnew.put o.dst (.inr ⟨w.heap.size,c,0,AQ _ _ _,Nat.zero_le _,hcap.1,by simp,fun _=>by simp⟩)⟩
theorem OpOk.cap_nil {t e:Nat} {x:Operand} (ho:o.op=.call { callee:=.builtin .cap,args:=#[x],argTypes:=#[t] }) (he:elemF P t=some e) (hx:st.ev x=.l (.s (.slice none 0 0))) :
  OpOk P cx o st (st.put o.dst (.l (.s (.int .i64 0)))):=by
 refine .calm fun σ a w hr=>?_;have hv:=hr.ev x;rw[hx] at hv;have hv':a.eval x=.slice none 0 0:=hv.1;exact⟨.int .i64 0,0,by simp[execOp,ho,resolve,invoke,builtin,Builtin.cap_,run_underlying (AE he),hv',goInt,World.drewN],rfl,rfl⟩
end
end Go.Proofs.Ytenemndpignaoaa
namespace Go.Proofs.Ytenemndpignaoaa
open Go Go.RowKit
section
variable {P:Program} {R:Option Nat} {cx:Cx} {o:Oper} {st:St} {K:St→Prop}
theorem OpOk.append_make_grow {t t' e n ob lo hi c:Nat} {s x:Operand} {ti:TI} {k kq:IntKind} {z:Ob} {nc:List LV} (ho:o.op=.call { callee:=.builtin .append,args:=#[s,x],argTypes:=#[t,t'] }) (he:elemF P t=some e) (ht':intF P t'=some k) (hti:tiF P e=some ti)
  (hzl:ti.zero.length=ti.sz) (hz1:ti.zero.all (·.oneCell')=true) (h0:0<ti.sz) (hs:st.ev s=.l (.r ob ti.sz lo hi)) (hz:st.obj ob=some z) (hrow:z.row=true) (hcap:z.cap=some c) (hsrc:st.src ti.sz (.l (.r ob ti.sz lo hi))=some (hi - lo,nc))
  (hx:st.ev x=.l (.s (.int kq n))) (hn:0<n) (hlh:lo≤hi) (hg:c<hi+n) (hb:(hi - lo+n)*ti.bytes≤140737488355328) (hn63:hi - lo+n≤4611686018427387904) :
  OpOk P cx o st ((st.add ⟨e,ti.sz,true,none,nc++(repZ n ti.zero).map .s⟩).put o.dst (hdr st.ob.length ti.sz (hi - lo+n))):=by
 intro σ a w hr;have hsv:=hr.ev s;rw[hs] at hsv;have hxv:=hr.ev x;rw[hx] at hxv;have hx':a.eval x=.int kq n:=hxv.1;have hO:=hr.h.obs ob z (AK hz);obtain⟨i,d,zz,g1,g2,g3,rfl⟩:=Cg hti;simp only at hzl hz1 h0 hb hsv hsrc ⊢
 -- the row's header,and what it holds
 have hold:∃ (base:Option Addr) (sc:Nat) (olds:List Value),a.eval s=.slice base (hi - lo) sc∧sc<hi - lo+n∧(Builtin.firstCells i.size (hi - lo) (.slice base (hi - lo) sc)).run P w.drew=.ok olds.toArray w.drew ∧
   All2 (RelL w (Xd cx w σ st.ob) (Xe w σ st.ob) σ) olds nc∧olds.length=(hi - lo)*i.size:=by
  have hs2:RelV w (Xd cx w σ st.ob) (Xe w σ st.ob) σ (a.eval s) (.l (.r ob i.size lo hi)):=hsv;rcases hr.src hs2 hsrc with ⟨hv',hm0,rfl⟩|⟨ad,c',news,hv',hl,hc,h1,hall⟩
  ·refine⟨none,0,[],by rw[hv',hm0],by omega,by simp[Builtin.firstCells],trivial,by simp[hm0]⟩
  ·have hsc:c'<hi - lo+n:=by
    rcases hs2 with ⟨hb',rfl,rfl,hv⟩|⟨b,k',off,hb',h3,h4,hv,hoff⟩
    ·rw[hv] at hv';simp at hv'
    ·rw[hb'] at hO;obtain⟨vs,rest,f1,f2,f4,f5⟩:=hO;have:=(f5 (Ob.bx_row hrow)).2.2 hrow c hcap;rw[hv] at hv';simp at hv';omega
   have hld:=run_loadCells_list (P:=P) w.drew ad news (fun j u hj=>hc j u hj);rw[hl] at hld;exact⟨some ad,c',news,hv',hsc,by simp[Builtin.firstCells,hld],hall,hl⟩
 obtain⟨base,sc,olds,hs',hsc,hold,hall,hol⟩:=hold;have hfit:Builtin.nextslicecap (hi - lo+n) sc*i.bytes≤281474976710656:=by
  have h1:Builtin.nextslicecap (hi - lo+n) sc*i.bytes≤2*(hi - lo+n)*i.bytes:=Nat.mul_le_mul_right _ (Go.Room.nextslicecap_le' hsc);have h2:2*(hi - lo+n)*i.bytes=2*((hi - lo+n)*i.bytes):=Nat.mul_assoc _ _ _;omega
 have h48:n*i.bytes≤281474976710656:=by
  have:n*i.bytes≤(hi - lo+n)*i.bytes:=Nat.mul_le_mul_right _ (by omega);omega
 have hrun:=Lib.run_append_grow_zeros (P:=P) w t t' o.type e i zz kq k (AE he) (DP ht') g1 g3 base (hi - lo) sc olds hold n hn h0 hsc (by omega) h48 hfit;obtain⟨cc,hcc⟩:∃ cc,cc=grownCap w (hi - lo+n) sc e:=⟨_,rfl⟩;rw[← hcc] at hrun;have hcap2:hi - lo+n≤cc∧cc≤maxLen:=by
  rw[hcc];exact⟨grownCap_ge w _ sc e,grownCap_le_maxLen w _ sc e (by unfold maxLen;omega)⟩
 have hrun':(execOp a.eval o).run P w=.ok (.value (.slice (some ⟨w.heap.size,0,none⟩) (hi - lo+n) cc)) ((w.drewN 1).alloc (.cells ((olds++repZ n zz.cells.toList)++repZ (cc - (hi - lo+n)) zz.cells.toList).toArray e)):=by
  have e1:(olds.toArray++Builtin.zeroCells zz.cells n++Builtin.zeroCells zz.cells (cc - (hi - lo+n)))=((olds++repZ n zz.cells.toList)++repZ (cc - (hi - lo+n)) zz.cells.toList).toArray:=by
   apply Array.ext';simp[D6]
  rw[e1] at hrun;simp[execOp,ho,resolve,invoke,builtin,hs',hx',hrun];rfl
 have hz2:∀ m,(repZ m zz.cells.toList).all (·.oneCell')=true:=fun m=>List.all_eq_true.2 fun u hu=>List.all_eq_true.1 hz1 u (D3 m hu);have hnew:=hr.new 1 cc ⟨e,i.size,true,none,nc++(repZ n zz.cells.toList).map .s⟩ (olds++repZ n zz.cells.toList) (repZ (cc - (hi - lo+n)) zz.cells.toList) (hall.append (Cn _ (hz2 n))) (fun h=>by simp at h) (fun _=>⟨by
  rw[List.length_append,By,By,hzl,hol,← Nat.add_mul,← Nat.add_mul];congr 1
  omega,hcap2.2,fun _ k' h=>by simp at h⟩)
 exact⟨_,_,_,hrun',hnew.put o.dst (.inr ⟨w.heap.size,cc,0,AQ _ _ _,Nat.zero_le _,hcap2.1,by simp,fun _=>by simp⟩)⟩
theorem OpOk.copy_part {t t' e ob lo hi ob2 lo2 hi2:Nat} {d x:Operand} {ti:TI} {nc:List LV} {z:Ob} (ho:o.op=.call { callee:=.builtin .copy,args:=#[d,x],argTypes:=#[t,t'] }) (he:elemF P t=some e) (hti:tiF P e=some ti)
  (hd:st.ev d=.l (.r ob ti.sz lo hi)) (hz:st.obj ob=some z) (hfit:hi*ti.sz≤z.cs.length) (hx:st.ev x=.l (.r ob2 ti.sz lo2 hi2)) (hlh:lo2≤hi2) (hsrc:st.src ti.sz (.l (.r ob2 ti.sz lo2 (lo2+min (hi2 - lo2) (hi - lo))))=some (min (hi2 - lo2) (hi - lo),nc)) (hpos:0<min (hi2 - lo2) (hi - lo)) :
  OpOk P cx o st ((st.setO ob { z with cs:=setAt z.cs (lo*ti.sz) nc }).put o.dst (.l (.s (.int .i64 ((min (hi2 - lo2) (hi - lo):Nat):Int))))):=by
 intro σ a w hr;have hv:=hr.ev d;rw[hd] at hv;have hxv:=hr.ev x;rw[hx] at hxv;obtain⟨n,hn⟩:∃ n,n=min (hi2 - lo2) (hi - lo):=⟨_,rfl⟩;rw[← hn] at hsrc hpos ⊢;have hmn:Nat.min (hi2 - lo2) (hi - lo)=n:=hn.symm
 -- what is read
 rcases hxv with ⟨hb2,rfl,rfl,hv2⟩|⟨b2,k2,off2,hb2,h32,h42,hv2,hoff2⟩
 ·omega
 ·have hx2:RelV w (Xd cx w σ st.ob) (Xe w σ st.ob) σ (.slice (some ⟨b2,off2,none⟩) n (k2 - lo2)) (.l (.r ob2 ti.sz lo2 (lo2+n))) :=
   .inr ⟨b2,k2,off2,hb2,by omega,by omega,by rw[show lo2+n - lo2=n by omega],hoff2⟩
  rcases hr.src hx2 hsrc with ⟨hv',_,_⟩|⟨ad,c,news,hv',hl,hc,h1,hall⟩
  ·simp at hv'
  ·simp at hv';obtain⟨rfl,rfl⟩:=hv';have hld:=run_loadCells_list (P:=P) w _ news hc;rw[hl] at hld;have hlen:(Builtin.lenOf (a.eval x)).run P w=.ok (hi2 - lo2) w:=by rw[hv2];rfl
   have hfirst:(Builtin.firstCells ti.sz n (a.eval x)).run P w=.ok news.toArray w:=by rw[hv2];simpa [Builtin.firstCells] using hld
   rcases hv with ⟨hb,rfl,rfl,hv⟩|⟨b,k,off,hb,h3,h4,hv,hoff⟩
   ·omega
   ·have hncl:=hall.length;have h5:n*ti.sz≤(hi - lo)*ti.sz:=Nat.mul_le_mul_right _ (by omega);have h6:(hi - lo)*ti.sz+lo*ti.sz=hi*ti.sz:=by rw[← Nat.add_mul];congr 1;omega
    have hoff':=hoff (by omega);obtain⟨w',hst,hr'⟩:=hr.putCells (P:=P) hz hb off hall h1 (by omega);rw[hoff'] at hr';refine⟨.int .i64 (n:Int),w',σ,?_,hr'.put o.dst ⟨rfl,rfl⟩⟩;simp only[execOp,ho,resolve,Sem.run_bind,Sem.run_pure,Result.andThen_ok,invoke];simp[builtin,Builtin.copy_,run_underlying (AE he),hv,hlen,Bc hti,goInt,hmn,hfirst,hst]
theorem OpOk.clear_r {t e ob lo hi:Nat} {x:Operand} {ti:TI} {z:Ob} (ho:o.op=.call { callee:=.builtin .clear,args:=#[x],argTypes:=#[t] }) (hdst:o.dst=none) (he:elemF P t=some e) (hti:tiF P e=some ti) (hzl:ti.zero.length=ti.sz) (hz1:ti.zero.all (·.oneCell')=true)
  (hx:st.ev x=.l (.r ob ti.sz lo hi)) (hz:st.obj ob=some z) (hlh:lo≤hi) (hfit:hi*ti.sz≤z.cs.length) :
  OpOk P cx o st (st.setO ob { z with cs:=setAt z.cs (lo*ti.sz) ((repZ (hi - lo) ti.zero).map .s) }):=by
 intro σ a w hr;have hxv:=hr.ev x;rw[hx] at hxv;obtain⟨i,d,zz,g1,g2,g3,rfl⟩:=Cg hti;simp only at hzl hz1 hfit hxv ⊢;have hself:hi - lo=0→st.setO ob { z with cs:=setAt z.cs (lo*i.size) ((repZ (hi - lo) zz.cells.toList).map .s) }=st:=by
  intro h5;rw[h5];exact zP hz _
 have hrun0:hi - lo=0→(execOp a.eval o).run P w=.ok (.value (.tuple #[])) w:=by
  intro h5;have:a.eval x=.slice none 0 0∨∃ ad c,a.eval x=.slice (some ad) 0 c:=by
   rcases hxv with ⟨_,_,_,hv⟩|⟨b,k,off,_,_,_,hv,_⟩
   ·exact .inl hv
   ·exact .inr ⟨_,_,by rw[hv,h5]⟩
  simp only[execOp,ho,resolve,Sem.run_bind,Sem.run_pure,Result.andThen_ok,invoke];rcases this with h|⟨ad,c,h⟩ <;> simp[builtin,Builtin.clear_,run_underlying (AE he),h]
 by_cases h5:hi - lo=0
 ·rw[hself h5];refine⟨_,w,σ,hrun0 h5,?_⟩;rw[hdst];exact hr
 ·rcases hxv with ⟨_,rfl,rfl,_⟩|⟨b,k,off,hb,h3,h4,hv,hoff⟩
  ·omega
  ·have hoff':=hoff (by omega);have hz2:∀ m,(repZ m zz.cells.toList).all (·.oneCell')=true:=fun m=>List.all_eq_true.2 fun u hu=>List.all_eq_true.1 hz1 u (D3 m hu);have h6:(hi - lo)*i.size+lo*i.size=hi*i.size:=by rw[← Nat.add_mul];congr 1;omega
   obtain⟨w',hst,hr'⟩:=hr.putCells (P:=P) hz hb off (news:=repZ (hi - lo) zz.cells.toList) (nc:=(repZ (hi - lo) zz.cells.toList).map .s) (Cn _ (hz2 _)) (fun u hu=>List.all_eq_true.1 (hz2 _) u hu) (by rw[List.length_map,By,hzl];omega);rw[hoff'] at hr';refine⟨.tuple #[],w',σ,?_,by rw[hdst];exact hr'⟩;simp only[execOp,ho,resolve,Sem.run_bind,Sem.run_pure,Result.andThen_ok,invoke];have hzv:(zeroValue e).run P w=.ok zz w:=by simp[zeroValue,typeInfo,g1,g3]
   cases hn:hi - lo with
   |zero=>exact absurd hn h5
   |succ m =>
    rw[hn] at hst hv;simp[builtin,Builtin.clear_,run_underlying (AE he),hv,hzv,D6,hst]
theorem OpOk.slice3_r {t e:Nat} {x lq hq mq:Operand} {ti:TI} {ob lo hi:Nat} {l h m:Nat} {k1 k2 k3:IntKind} (ho:o.op=.slice t x (some lq) (some hq) (some mq)) (he:elemF P t=some e) (hti:tiF P e=some ti)
  (hx:st.ev x=.l (.r ob ti.sz lo hi)) (hl:st.ev lq=.l (.s (.int k1 l))) (hh:st.ev hq=.l (.s (.int k2 h))) (hm:st.ev mq=.l (.s (.int k3 m))) (h1:l≤h) (h2:h≤m) (h3:m≤hi - lo) :
  OpOk P cx o st (st.put o.dst (.l .u)):=by
 refine .calm fun σ a w hr=>?_;have hv:=hr.ev x;rw[hx] at hv;have hlv:=hr.ev lq;rw[hl] at hlv;have hhv:=hr.ev hq;rw[hh] at hhv;have hmv:=hr.ev mq;rw[hm] at hmv;have gl:a.eval lq=.int k1 l:=hlv.1;have gh:a.eval hq=.int k2 h:=hhv.1;have gm:a.eval mq=.int k3 m:=hmv.1;have key:∀ (base:Option Addr) (cap:Nat),a.eval x=.slice base (hi - lo) cap→m≤cap→∃ v,(execOp a.eval o).run P w=.ok (.value v) (w.drewN 0):=by
  intro base cap hvx hmc;have hb:=H6 (P:=P) (w:=w) true (hi - lo) cap l h m (some (.int k1 l)) k2 k3 (.inr ⟨k1,rfl⟩) h1 h2 hmc;simp only[execOp,ho,Instr.sliceAt,run_underlying (AE he),Instr.slice,hvx,gl,gh,gm,Option.map_some,Bc hti,Sem.run_bind,Result.andThen_ok,Sem.run_pure,hb];exact⟨_,rfl⟩
 rcases hv with ⟨_,rfl,rfl,hv⟩|⟨b,k,off,_,h3',h4',hv,_⟩
 ·obtain⟨v,hrun⟩:=key none 0 hv (by omega);exact⟨v,0,hrun,trivial⟩
 ·obtain⟨v,hrun⟩:=key _ _ hv (by omega);exact⟨v,0,hrun,trivial⟩
theorem Weak.room {ob:Nat} {z:Ob} {c:Nat} (hz:st.obj ob=some z) (hrow:z.row=true) (hcap:z.cap=some c) {n:Nat} (hn:z.cs.length+n≤c*z.sz):Weak cx st (st.setO ob { z with cs:=z.cs++List.replicate n .u }):=by
 intro σ a w hr;have hO:=hr.h.obs ob z (AK hz);match hb:σ ob with
 |none=>rw[hb] at hO;exact hO.elim
 |some none =>
  rw[hb] at hO;obtain⟨_,h1,h2⟩:=hO;have h2:=h2 hrow;rw[hcap] at h2;have hc0:c=0:=by simpa using h2
  have hn0:n=0:=by rw[hc0] at hn;omega
  subst hn0;have e:st.setO ob { z with cs:=z.cs++List.replicate 0 .u }=st:=by
   have:=zP hz 0;have h6:setAt z.cs 0 []=z.cs:=by cases z.cs <;> rfl
   rw[h6] at this;simpa using this
  rw[e];exact⟨σ,hr⟩
 |some (some (b,k)) =>
  rw[hb] at hO;obtain⟨vs,rest,g1,g2,g4,g5⟩:=hO;obtain⟨f1,f2,f3⟩:=g5 (Ob.bx_row hrow);have f3:=f3 hrow;have hkc:=f3 c hcap;subst hkc;have hvl:=g2.length;have hall:All2 (RelL w (Xd cx w σ st.ob) (Xe w σ st.ob) σ) (vs++rest.take n) (z.cs++List.replicate n .u):=by
   refine g2.append (All2.of_get (by simp;omega) fun i u x hu hx=>?_);rw[List.getElem?_replicate] at hx;split at hx
   ·simp at hx;subst hx;trivial
   ·simp at hx
  have hwr:=hr.write (x':={ z with cs:=z.cs++List.replicate n .u }) (AK hz) hb (vs++rest.take n) (rest.drop n) hall rfl rfl (fun h=>absurd h (by simp[Ob.bx,hrow])) (fun _=>⟨by
   have:(vs++rest.take n).length+(rest.drop n).length=vs.length+rest.length:=by simp;omega
   rw[this];exact f1,f2,fun _=>f3⟩)
  refine⟨σ,?_⟩;have e:w.setRow b (vs++rest.take n++rest.drop n).toArray=w:=by
   rw[List.append_assoc,List.take_append_drop];exact setRow_self _ _ _ _ _ g1
  rw[e] at hwr;exact hwr
end
end Go.Proofs.Ytenemndpignaoaa
namespace Go.Proofs.Ytenemndpignaoaa
open Go Go.RowKit
section
variable {P:Program} {R:Option Nat} {cx:Cx} {o:Oper} {st:St} {K:St→Prop}
theorem FU (z:List Value):∀ n m,repZ (n+m) z=repZ n z++repZ m z
 |0,m=>by simp[repZ]
 |n+1,m=>by rw[show n+1+m=(n+m)+1 from by omega,repZ,FU z n m,repZ,List.append_assoc]
theorem HA (n:Int):IntKind.i64.wrap n=(n+9223372036854775808) % 18446744073709551616 - 9223372036854775808:=by
 simp only[IntKind.wrap,IntKind.bits,IntKind.signed,Bool.true_and];split
 ·rename_i h
  simp at h;omega
 ·rename_i h
  simp at h;omega
theorem GQ {n:Int} (h:0≤n∧n<9223372036854775808):IntKind.i64.wrap n=n:=by rw[HA];omega
theorem OpOk.makeSlice {t e n c:Nat} {x y:Operand} {ti:TI} {k k':IntKind} (ho:o.op=.makeSlice t x y) (he:elemF P t=some e) (hti:tiF P e=some ti)
  (hzl:ti.zero.length=ti.sz) (hz1:ti.zero.all (·.oneCell')=true) (h0:0<ti.sz) (hx:st.ev x=.l (.s (.int k n))) (hy:st.ev y=.l (.s (.int k' c))) (hn:n≤c) (hb:c*ti.bytes≤140737488355328) (hc:c≤140737488355328) :
  OpOk P cx o st ((st.add ⟨e,ti.sz,true,none,(repZ n ti.zero).map .s⟩).put o.dst (hdr st.ob.length ti.sz n)):=by
 intro σ a w hr;have hxv:=hr.ev x;rw[hx] at hxv;have hx':a.eval x=.int k n:=hxv.1;have hyv:=hr.ev y;rw[hy] at hyv;have hy':a.eval y=.int k' c:=hyv.1;obtain⟨i,d,z,g1,g2,g3,rfl⟩:=Cg hti;simp only at hzl hz1 h0 hb ⊢;have hw1:IntKind.i64.wrap (n:Int)=n:=GQ (by omega);have hw2:IntKind.i64.wrap (c:Int)=c:=GQ (by omega);have hzs:z.cells.size=i.size:=by rw[← hzl];simp
 have hrun':(execOp a.eval o).run P w=.ok (.value (.slice (some ⟨w.heap.size,0,none⟩) n c)) (w.alloc (.cells (repZ n z.cells.toList++repZ (c - n) z.cells.toList).toArray e)):=by
  have e1:(Array.range (c*i.size)).map (fun j=>(if c*i.size=0 then #[] else z.cells)[j % (if c*i.size=0 then #[] else z.cells).size]!)=(repZ n z.cells.toList++repZ (c - n) z.cells.toList).toArray:=by
   apply Array.ext';rw[show (repZ n z.cells.toList++repZ (c - n) z.cells.toList).toArray.toList=repZ c z.cells.toList from by show repZ n z.cells.toList++repZ (c - n) z.cells.toList=_;rw[← FU,Nat.add_sub_cancel' hn]];split
   ·rename_i h
    have:c=0:=by rcases Nat.mul_eq_zero.1 h with h|h <;> omega
    subst this;simp[repZ]
   ·rw[← Et,hzs]
  have hno:¬ (i.bytes:Int)*(c:Int) > 2 ^ 48:=by
   rw[← Int.natCast_mul,Nat.mul_comm];omega
  have hroom:¬ c*i.bytes > roomBytes:=by unfold roomBytes;simp;omega
  simp[execOp,ho,hx',hy',Instr.makeSlice,run_underlying (AE he),asInt,asIntOf,typeInfo,g1,hw1,hw2,askRoom,hroom,sizeOf,zeroValue,g3];have hif:¬ ((((c:Int)<0∨281474976710656<(i.bytes:Int)*(c:Int))∨(n:Int)<0)∨c<n):=by
   rw[← Int.natCast_mul,Nat.mul_comm];omega
  rw[if_neg hif];by_cases hz:c*i.size=0
  ·have:c=0:=by rcases Nat.mul_eq_zero.1 hz with h|h <;> omega
   subst this;have:n=0:=by omega
   subst this;simp[newRow,repZ];exact congrArg (fun a=>w.alloc (Obj.cells a e)) (Array.ext' (by simp))
  ·simp only[if_neg hz] at e1 ⊢;rw[e1];simp[newRow]
 have hz2:∀ m,(repZ m z.cells.toList).all (·.oneCell')=true:=fun m=>List.all_eq_true.2 fun u hu=>List.all_eq_true.1 hz1 u (D3 m hu);have hnew:=hr.new 0 c ⟨e,i.size,true,none,(repZ n z.cells.toList).map .s⟩ (repZ n z.cells.toList) (repZ (c - n) z.cells.toList) (Cn _ (hz2 n)) (fun h=>by simp at h) (fun _=>⟨by
  rw[By,By,hzl,← Nat.add_mul];congr 1
  omega,by unfold maxLen;omega,fun _ k' h=>by simp at h⟩)
 exact⟨_,_,_,hrun',hnew.put o.dst (.inr ⟨w.heap.size,c,0,AQ _ _ _,Nat.zero_le _,hn,by simp,fun _=>by simp⟩)⟩
theorem OpOk.slice_nil {t e:Nat} {x:Operand} {lo hi:Option Operand} {ti:TI} (ho:o.op=.slice t x lo hi none) (he:elemF P t=some e) (hti:tiF P e=some ti) (hx:st.ev x=.l (.s (.slice none 0 0))) (hl:Bnd st lo 0 0) (hh:Bnd st hi 0 0) :
  OpOk P cx o st (st.put o.dst (.l (.s (.slice none 0 0)))):=by
 refine .calm fun σ a w hr=>?_;have hv:=hr.ev x;rw[hx] at hv;have hv':a.eval x=.slice none 0 0:=hv.1;have hb:=DU (P:=P) (w:=w) true 0 0 0 0 (lo.map a.eval) (hi.map a.eval) (hl.val hr) (hh.val hr) (Nat.le_refl _) (Nat.le_refl _);exact⟨.slice none 0 0,0,by simp[execOp,ho,Instr.sliceAt,run_underlying (AE he),Instr.slice,hv',hb,Bc hti,World.drewN],rfl,rfl⟩
end
end Go.Proofs.Ytenemndpignaoaa
namespace Go.Proofs.Ytenemndpignaoaa
open Go Go.RowKit
def bytesT (s:ByteArray):List (List T):=s.data.toList.map fun b=>[.v (.int .u8 b.toNat)]
section
variable {P:Program} {R:Option Nat} {cx:Cx} {o:Oper} {st:St} {K:St→Prop}
theorem RelS.allocB {σ:Nat→Hd} {a:Act} {w:World} (h:RelS cx σ st a w) (o:Obj):RelS cx σ st a (w.alloc o):=by
 have hs:Step σ st.ob w σ st.ob (w.alloc o) some:=⟨Evo.alloc _ _ _ _,fun o o' x e hx=>by cases e;exact hx,fun b hb=>.inl hb⟩;refine h.step_some hs (hs.relH h.h (fun i x hi=>?_) h.h.inj h.h.dom h.h.nbl h.h.box);have:=hs.relO (cx:=cx) (fun b k e=>Below.heap_alloc w o b (h.h.lt ⟨i,x,k,hi,e⟩)) (h.h.obs i x hi);rwa [Ob.ren_some] at this
theorem OpOk.conv_tobytes {src dst e:Nat} {x:Operand} {s:ByteArray} (ho:o.op=.convert src dst x) (hs:strF P src=true) (hd:elemF P dst=some e) (he:intF P e=some .u8) (hsz:s.size≤140737488355328) (hx:st.ev x=.l (.s (.string s))) :
  OpOk P cx o st (st.put o.dst (.l (.d false 1 (bytesT s)))):=by
 intro σ a w hr;have h1:=hr.ev x;rw[hx] at h1;have h1':a.eval x=.string s:=h1.1;have hrun:=run_bytes_of_string (P:=P) w src dst e s (C6 hs) (AE hd) (DP he);obtain⟨C,hC⟩:∃ C,C=bytesRow s (grownCap w s.size 0 e):=⟨_,rfl⟩;rw[← hC] at hrun;have hr2:RelS cx σ st a (w.drew.alloc (.cells C e (C.size,C.size+1))):=(show RelS cx σ st a w.drew from hr.drewN 1).allocB _;have hnew:(w.drew.alloc (.cells C e (C.size,C.size+1))).heap[w.heap.size]?=some (.cells C e (C.size,C.size+1)):=by
  show (w.heap.push _)[w.heap.size]?=_;simp
 refine⟨.slice (some ⟨w.heap.size,0,none⟩) s.size (grownCap w s.size 0 e),w.drew.alloc (.cells C e (C.size,C.size+1)),σ,by simp only[execOp,ho,h1',hrun,Sem.run_bind,Result.andThen_ok,Sem.run_pure],hr2.put o.dst ?_⟩;show Rd _ _ _ _;have hlt:∀ b k,σ b=some (some (w.heap.size,k))→∀ x,st.ob[b]?≠some (some x):=fun b k hb x hx=>by
  have:=hr.h.lt (b:=w.heap.size) ⟨b,x,k,hx,hb⟩;omega
 refine .sl _ s.size _ 1 (bytesT s) w.heap.size 0 (fun i j=>C.getD (i*1+j) undef) (by simp[bytesT]) (grownCap_ge w s.size 0 e) hsz (fun e he=>?_) (fun _=>⟨rfl,?_⟩) (fun h=>by simp at h) ?_ ?_
 ·obtain⟨b,_,rfl⟩:=List.mem_map.1 he;rfl
 ·refine⟨?_,?_,?_,_,_,_,hnew⟩
  ·show w.heap.size<(w.heap.push _).size;simp
  ·rintro⟨b,x,k,hb,hk⟩;exact hlt b k hk x hb
  ·intro hz;have:=(cx.zlt _ hz).1;have:=hr.h.size;omega
 ·intro i j hi hj;have hj0:j=0:=by omega
  subst hj0;unfold World.cell?;simp only[hnew];have hlen:i*1+0<C.size:=by
   rw[hC];have:s.data.size=s.size:=rfl;simp[bytesRow];omega
  have hl2:i<C.size:=by omega
  simp[Array.getD,hl2]
 ·intro i j e' t he' ht;simp only[bytesT,List.getElem?_map] at he';obtain⟨b,hb,rfl⟩:=Option.map_eq_some_iff.1 he';have hj:j=0:=by
   have:=(List.getElem?_eq_some_iff.1 ht).1;simp at this;exact this
  subst hj;simp at ht;subst ht;have hi:i<s.data.size:=by
   have:=(List.getElem?_eq_some_iff.1 hb).1;simpa using this
  have:C.getD (i*1+0) undef=.int .u8 (b.toNat:Int):=by
   have hb2:s.data[i]=b:=by
    have:=(List.getElem?_eq_some_iff.1 hb).2;simpa using this
   rw[hC];have hi3:i<s.size:=hi;simp[bytesRow,Array.getD_eq_getD_getElem?,Array.getElem?_append,hi,hi3,hb2]
  rw[this];exact .v _ rfl
end
end Go.Proofs.Ytenemndpignaoaa
namespace Go.Proofs.Ytenemndpignaoaa
open Go Go.RowKit
def LV.frz (o sz:Nat) (es:List (List T)):LV→LV
 |.r o' sz' lo hi=>if o'=o∧sz'=sz∧hi≤es.length then .d false sz ((es.drop lo).take (hi - lo)) else .r o' sz' lo hi
 |x=>x
def CV.frz (o sz:Nat) (es:List (List T)) (c:Bool×List LV):Bool×List LV:=(c.1,c.2.map (LV.frz o sz es))
def AV.frz (o sz:Nat) (es:List (List T)):AV→AV
 |.l x=>.l (x.frz o sz es)
 |.g cs=>.g (cs.map (LV.frz o sz es))
 |.t xs=>.t (xs.map (CV.frz o sz es))
def Ob.frz (o sz:Nat) (es:List (List T)) (x:Ob):Ob:={ x with cs:=x.cs.map (LV.frz o sz es) }
def Tm.frz (o sz:Nat) (es:List (List T)) (tm:Tm):Tm:=tm.map fun e=>(e.1,e.2.frz o sz es)
def St.freeze (st:St) (o sz:Nat) (es:List (List T)):St :=
 { st with tm:=st.tm.frz o sz es,ob:=(st.ob.set o none).map (Option.map (Ob.frz o sz es)),gh:=st.gh.map (Tm.frz o sz es) }
theorem Fh (o sz:Nat) (es:List (List T)) (i:Nat):∀ tm:Tm,lk (tm.frz o sz es) i=(lk tm i).frz o sz es
 |[]=>by simp[Tm.frz,lk,AV.frz,LV.frz]
 |(j,v)::r=>by
  have ih:=Fh o sz es i r;simp only[Tm.frz,List.map_cons,lk] at ih ⊢;cases Nat.beq i j
  ·exact ih
  ·rfl
section
variable {P:Program} {cx:Cx} {st:St} {σ:Nat→Hd} {a:Act} {w:World}
theorem frz_L {o sz:Nat} {z:Ob} {es:List (List T)} {ob':List (Option Ob)} (hH:RelH cx w σ st.ob st.ls) (hz:st.obj o=some z) (hrow:z.row=true) (hsz:z.sz=sz) (h0:0<sz) (hcs:z.cs=lvs es) (hes:∀ e∈es,e.length=sz) (hmax:es.length≤140737488355328)
  (hsub:∀ b,lvb σ ob' b→lvb σ st.ob b) (hno:∀ k b,σ o=some (some (b,k))→¬ lvb σ ob' b) (hnZ:∀ b,lvb σ st.ob b→¬ cx.Z b) {v:Value} {x:LV} (h:RelL w (Xd cx w σ st.ob) (Xe w σ st.ob) σ v x) :
  RelL w (Xd cx w σ ob') (Xe w σ ob') σ v (x.frz o sz es):=by
 have hX:∀ b,Xd cx w σ st.ob b→Xd cx w σ ob' b∧w.heap[b]?=w.heap[b]?:=fun b ⟨h1,h2,h3,h4⟩=>⟨⟨h1,fun hl=>h2 (hsub b hl),h3,h4⟩,rfl⟩;have hXa:∀ b,Xe w σ st.ob b→Xe w σ ob' b∧w.heap[b]?=w.heap[b]?:=fun b ⟨h1,h2,h4⟩=>⟨⟨h1,fun hl=>h2 (hsub b hl),h4⟩,rfl⟩;have hm:RelL w (Xd cx w σ ob') (Xe w σ ob') σ v x:=RelL.mono hX hXa (fun _ _ h=>h) h;cases x with
 |r o' sz' lo hi =>
  simp only[LV.frz];by_cases hc:o'=o∧sz'=sz∧hi≤es.length
  ·rw[if_pos hc];obtain⟨rfl,rfl,hle⟩:=hc;have hO:=hH.obs o' z (AK hz);rcases h with ⟨hb,rfl,rfl,hv⟩|⟨b,k,off,hb,g3,g4,hv,hoff⟩
   ·subst hv;exact .sl none 0 0 sz' _ 0 0 (fun _ _=>undef) (by simp) (Nat.le_refl _) (by omega) (fun e he=>by simp at he) (fun h=>by omega) (fun _=>rfl) (fun i j hi=>by omega) (fun i j e t he=>by simp at he)
   ·rw[hb] at hO;obtain⟨vs,rest,f1,f2,f4,f5⟩:=hO;rw[hcs] at f2;have hvl:=f2.length;have hll:=BJ hes;subst hv;have hlb:lvb σ st.ob b:=⟨o',z,k,AK hz,hb⟩;refine .sl _ (hi - lo) (k - lo) sz' _ b off (fun i j=>vs.getD ((lo+i)*sz'+j) undef) (by simp;omega) (by omega) (by omega) (fun e he=>hes e (List.mem_of_mem_drop (List.mem_of_mem_take he)))
     (fun _=>⟨rfl,hH.lt hlb,hno k b hb,hnZ b hlb,_,_,_,f1⟩) (fun e=>by simp at e) ?_ ?_
    ·intro i j hi' hj;have hoff':off=lo*sz':=hoff (.inl (by omega));have h5:(lo+i+1)*sz'≤es.length*sz':=Nat.mul_le_mul_right _ (by omega);have h6:(lo+i)*sz'=lo*sz'+i*sz':=Nat.add_mul _ _ _;rw[Nat.add_mul] at h5;rw[cell_of_row w b _ _ _ _ f1,hoff'];have hlt2:lo*sz'+(i*sz'+j)<vs.length:=by omega
     rw[show (lo+i)*sz'+j=lo*sz'+(i*sz'+j) by omega];simp only[List.getElem?_toArray,List.getElem?_append_left hlt2,List.getD_eq_getElem?_getD];rw[List.getElem?_eq_getElem hlt2];rfl
    ·intro i j e t he ht;rw[List.getElem?_take] at he;split at he
     ·rw[List.getElem?_drop] at he;have hj:j<sz':=by have:=(List.getElem?_eq_some_iff.1 ht).1;rwa [hes e (List.mem_of_getElem? he)] at this
      have hc:=Ir hes he j hj;rw[ht] at hc;obtain⟨u,hu,hur⟩:=f2.at _ hc;simp only[List.getD_eq_getElem?_getD,hu,Option.getD_some];cases t with
      |v x=>obtain⟨rfl,h1x⟩:=hur;exact .v _ h1x
      |sl sz2 es2=>exact Rd.mono hX hur
     ·simp at he
  ·rw[if_neg hc];exact hm
 |_=>exact hm
theorem Weak.freeze {o sz:Nat} {z:Ob} {es:List (List T)} (hz:st.obj o=some z) (hrow:z.row=true) (hsz:z.sz=sz) (h0:0<sz) (hcs:z.cs=lvs es) (hes:∀ e∈es,e.length=sz) (hmax:es.length≤140737488355328) :
  Weak cx st (st.freeze o sz es):=by
 intro σ a w hr;have hH:=hr.h;have hg:∀ i x,((st.ob.set o none).map (Option.map (Ob.frz o sz es)))[i]?=some (some x)→i≠o∧∃ y,st.ob[i]?=some (some y)∧x=y.frz o sz es:=by
  intro i x hi;rw[List.getElem?_map,List.getElem?_set] at hi;by_cases e:o=i
  ·subst e;rw[if_pos rfl] at hi;split at hi <;> simp at hi
  ·rw[if_neg e] at hi;refine⟨fun h=>e h.symm,?_⟩;cases hy:st.ob[i]? with
   |none=>rw[hy] at hi;simp at hi
   |some y =>
    rw[hy] at hi;cases y with
    |none=>simp at hi
    |some y=>simp at hi;exact⟨y,rfl,hi.symm⟩
 have hsub:∀ b,lvb σ ((st.ob.set o none).map (Option.map (Ob.frz o sz es))) b→lvb σ st.ob b:=by
  rintro b ⟨i,x,k,hi,hb⟩;obtain⟨_,y,hy,_⟩:=hg i x hi;exact⟨i,y,k,hy,hb⟩
 have hno:∀ k b,σ o=some (some (b,k))→¬ lvb σ ((st.ob.set o none).map (Option.map (Ob.frz o sz es))) b:=by
  rintro k b hb ⟨i,x,k',hi,hb'⟩;obtain⟨hne,y,hy,_⟩:=hg i x hi;exact hne (hH.inj i o y z b k' k hy (AK hz) hb' hb)
 have hL:∀ {v:Value} {x:LV},RelL w (Xd cx w σ st.ob) (Xe w σ st.ob) σ v x→RelL w (Xd cx w σ ((st.ob.set o none).map (Option.map (Ob.frz o sz es)))) (Xe w σ ((st.ob.set o none).map (Option.map (Ob.frz o sz es)))) σ v (x.frz o sz es) :=
  fun h=>frz_L hH hz hrow hsz h0 hcs hes hmax hsub hno (fun b hb=>hH.notZ hb) h
 have hC:∀ {v:Value} {x:Bool×List LV},RelC w (Xd cx w σ st.ob) (Xe w σ st.ob) σ v x→RelC w (Xd cx w σ ((st.ob.set o none).map (Option.map (Ob.frz o sz es)))) (Xe w σ ((st.ob.set o none).map (Option.map (Ob.frz o sz es)))) σ v (CV.frz o sz es x):=by
  intro v x h;obtain⟨b,cs⟩:=x;cases b
  ·obtain⟨x,rfl,hx⟩:=h;exact⟨_,rfl,hL hx⟩
  ·obtain⟨vs,rfl,hvs⟩:=h;exact⟨vs,rfl,All2.map _ (fun _ _ _ h=>hL h) hvs⟩
 have hV:∀ {v:Value} {x:AV},RelV w (Xd cx w σ st.ob) (Xe w σ st.ob) σ v x→RelV w (Xd cx w σ ((st.ob.set o none).map (Option.map (Ob.frz o sz es)))) (Xe w σ ((st.ob.set o none).map (Option.map (Ob.frz o sz es)))) σ v (x.frz o sz es):=by
  intro v x h;cases x with
  |l x=>exact hL h
  |g cs=>obtain⟨vs,rfl,hvs⟩:=h;exact⟨vs,rfl,All2.map _ (fun _ _ _ h=>hL h) hvs⟩
  |t xs=>obtain⟨vs,rfl,hvs⟩:=h;exact⟨vs,rfl,All2.map _ (fun _ _ _ h=>hC h) hvs⟩
 have hT:∀ {S:Array Value} {tm:Tm},RelT cx w σ st.ob S tm→RelT cx w σ ((st.ob.set o none).map (Option.map (Ob.frz o sz es))) S (tm.frz o sz es):=by
  intro S tm h i;rw[Fh];exact hV (h i)
 refine⟨σ,⟨?_,?_,?_,by simp[St.freeze];exact hH.nbl,?_,fun b hb=>hH.loc b (hsub b hb),hH.msize,hH.frame,hH.os,hH.tape,hH.output,hH.ext⟩,hT hr.tm,hr.nt,All2.map _ (fun _ _ _ h=>hT h) hr.gh,hr.dm⟩
 ·intro i x hi;obtain⟨hne,y,hy,rfl⟩:=hg i x hi;have hO:=hH.obs i y hy;unfold RelO at hO ⊢;split at hO
  ·exact hO.elim
  ·exact⟨hO.1,by simp[Ob.frz,hO.2.1],hO.2.2⟩
  ·obtain⟨vs,rest,f1,f2,f3⟩:=hO;exact⟨vs,rest,f1,All2.map _ (fun _ _ _ h=>hL h) f2,f3⟩
 ·intro i j x x' b k k' hi hj hb hb';obtain⟨_,y,hy,_⟩:=hg i x hi;obtain⟨_,y',hy',_⟩:=hg j x' hj;exact hH.inj i j y y' b k k' hy hy' hb hb'
 ·intro i hi;exact hH.dom i (by simpa [St.freeze] using hi)
 ·intro i x hi hrow hlt;obtain⟨_,y,hy,rfl⟩:=hg i x hi;exact hH.box i y hy hrow hlt
theorem Weak.dropOb {n:Nat} (h:∀ i,n≤i→st.ob[i]?=none∨st.ob[i]?=some none) (hn:cx.nb≤n) (hl:n≤st.ob.length):Weak cx st { st with tm:=st.tm.ren (inv ((List.range n).map some)),ob:=pickOb ((List.range n).map some) st.ob,gh:=st.gh.map (Tm.ren (inv ((List.range n).map some))) }:=by
 refine Weak.ren _ _ ?_ (by simp;exact hn) ?_ fun i=>.inl (Cv _ _ _)
 ·intro i j o hi hj;rw[List.getElem?_map] at hi hj;obtain⟨a,ha,e⟩:=Option.map_eq_some_iff.1 hi;obtain⟨b,hb,e'⟩:=Option.map_eq_some_iff.1 hj;have:=(List.getElem?_eq_some_iff.1 ha).2;have:=(List.getElem?_eq_some_iff.1 hb).2;simp at *;omega
 ·intro i o hi h;rw[List.getElem?_map] at h;obtain⟨a,ha,e⟩:=Option.map_eq_some_iff.1 h;have:=(List.getElem?_eq_some_iff.1 ha).2;simp at *;omega
end
def NilLe (a b:LV):Prop:=a=b∨(a=.s (.slice none 0 0)∧∃ k,b=.d false k [])
section
variable {P:Program} {cx:Cx} {o:Oper} {st:St}
theorem GR {w:World} {X Xa:Nat→Prop} {σ:Nat→Hd}:∀ {vs:List Value} {us bs:List LV},All2 NilLe us bs→All2 (RelL w X Xa σ) vs us→All2 (RelL w X Xa σ) vs bs
 |[],[],[],_,_=>trivial
 |v::vs,a::us,b::bs,h,r=>by
  refine⟨?_,GR h.2 r.2⟩;rcases h.1 with e|⟨e,k,e'⟩
  ·exact e ▸ r.1
  ·subst e';have h1:=r.1;rw[e] at h1;have e:=h1.1;show Rd w _ _ _;rw[e];exact .sl none 0 0 k [] 0 0 (fun _ _=>undef) rfl (Nat.le_refl _) (by omega) (fun e he=>by simp at he) (fun h=>by omega) (fun _=>rfl) (fun i j hi=>by omega) (fun i j e t he=>by simp at he)
 |_,[],_::_,h,_=>h.elim
 |_,_::_,[],h,_=>h.elim
 |[],_::_,_,_,r=>r.elim
 |_::_,[],_,_,r=>r.elim
theorem Weak.cells {i:Nat} {z:Ob} {cs':List LV} (hz:st.ob[i]?=some (some z)) (h:All2 NilLe z.cs cs'):Weak cx st { st with ob:=st.ob.set i (some { z with cs:=cs' }) }:=by
 intro σ a w hr;have hl:i<st.ob.length:=(List.getElem?_eq_some_iff.1 hz).1;have hO:=hr.h.obs i z hz;match hb:σ i with
 |none=>rw[hb] at hO;exact hO.elim
 |some none =>
  rw[hb] at hO;obtain⟨h1,h2,h3⟩:=hO;rw[h2] at h;have e:cs'=[]:=by
   cases cs' with
   |nil=>rfl
   |cons=>exact h.elim
  subst e;have e:({ z with cs:=[] }:Ob)=z:=by rw[← h2]
  rw[e];have e2:st.ob.set i (some z)=st.ob:=by
   apply List.ext_getElem?;intro j;by_cases h:i=j
   ·subst h;rw[List.getElem?_set_self hl,hz]
   ·rw[List.getElem?_set_ne h]
  rw[e2];exact⟨σ,hr⟩
 |some (some (b,k)) =>
  rw[hb] at hO;obtain⟨vs,rest,g1,g2,g4,g5⟩:=hO;have hwr:=hr.write (x':={ z with cs:=cs' }) hz hb vs rest (GR h g2) rfl rfl g4 g5;rw[setRow_self _ _ _ _ _ g1] at hwr;exact⟨σ,hwr⟩
theorem FV {w:World} {X Xa:Nat→Prop} {σ:Nat→Hd} {o sz:Nat} {es:List (List T)} (h0:σ o=none) {v:Value} {x:LV} (h:RelL w X Xa σ v x):x.frz o sz es=x:=by
 cases x with
 |r o' sz' lo hi =>
  have hne:o'≠o:=by
   rintro rfl;rcases h with ⟨h,_⟩|⟨b,k,off,h,_⟩ <;> rw[h0] at h <;> simp at h
  simp[LV.frz,hne]
 |_=>rfl
theorem Ec {w:World} {X Xa:Nat→Prop} {σ:Nat→Hd} {o sz:Nat} {es:List (List T)} (h0:σ o=none):∀ {vs:List Value} {xs:List LV},All2 (RelL w X Xa σ) vs xs→xs.map (LV.frz o sz es)=xs
 |_,[],_=>rfl
 |v::vs,x::xs,h=>by rw[List.map_cons,FV h0 h.1,Ec h0 h.2]
 |[],_::_,h=>h.elim
theorem JL {w:World} {X Xa:Nat→Prop} {σ:Nat→Hd} {o sz:Nat} {es:List (List T)} (h0:σ o=none) {v:Value} {x:Bool×List LV} (h:RelC w X Xa σ v x):CV.frz o sz es x=x:=by
 obtain⟨b,cs⟩:=x;cases b
 ·obtain⟨x,rfl,hx⟩:=h;simp[CV.frz,FV h0 hx]
 ·obtain⟨vs,rfl,hvs⟩:=h;simp[CV.frz,Ec h0 hvs]
theorem GS {w:World} {X Xa:Nat→Prop} {σ:Nat→Hd} {o sz:Nat} {es:List (List T)} (h0:σ o=none):∀ {vs:List Value} {xs:List (Bool×List LV)},All2 (RelC w X Xa σ) vs xs→xs.map (CV.frz o sz es)=xs
 |_,[],_=>rfl
 |v::vs,x::xs,h=>by rw[List.map_cons,JL h0 h.1,GS h0 h.2]
 |[],_::_,h=>h.elim
theorem DH {w:World} {X Xa:Nat→Prop} {σ:Nat→Hd} {o sz:Nat} {es:List (List T)} (h0:σ o=none) {v:Value} {x:AV} (h:RelV w X Xa σ v x):x.frz o sz es=x:=by
 cases x with
 |l x=>exact congrArg AV.l (FV h0 h)
 |g cs=>obtain⟨vs,rfl,hvs⟩:=h;exact congrArg AV.g (Ec h0 hvs)
 |t xs=>obtain⟨vs,rfl,hvs⟩:=h;exact congrArg AV.t (GS h0 hvs)
theorem All2.frz_gh {cx':Cx} {w w':World} {σ σ':Nat→Hd} {ob ob':List (Option Ob)} {o sz:Nat} {es:List (List T)} (h0:σ o=none):∀ {G:List (Array Value)} {gh:List Tm},All2 (RelT cx' w σ ob) G gh→All2 (RelT cx' w' σ' ob') G (gh.map (Tm.frz o sz es))→All2 (RelT cx' w' σ' ob') G gh
 |[],[],_,_=>trivial
 |g::G,t::gh,h,h'=>by
  refine⟨fun i=>?_,All2.frz_gh h0 h.2 h'.2⟩;have h1:=h'.1 i;rw[Fh,DH h0 (h.1 i)] at h1;exact h1
 |[],_::_,h,_=>h.elim
 |_::_,[],h,_=>h.elim
theorem NilLe.refls:∀ l:List LV,All2 NilLe l l
 |[]=>trivial
 |x::l=>⟨.inl rfl,NilLe.refls l⟩
theorem OpOk.freshN {e sz:Nat} {cs cs':List LV} {v:AV} (h:OpOk P cx o st ((st.add ⟨e,sz,true,none,cs⟩).put o.dst v)) (hn:All2 NilLe cs cs'):OpOk P cx o st ((st.add ⟨e,sz,true,none,cs'⟩).put o.dst v):=by
 intro σ a w hr;obtain⟨u,w',σ',hrun,hr'⟩:=h σ a w hr;have hob:((st.add ⟨e,sz,true,none,cs⟩).put o.dst v).ob=st.ob++[some ⟨e,sz,true,none,cs⟩]:=by
  cases o.dst <;> rfl
 have hz:((st.add ⟨e,sz,true,none,cs⟩).put o.dst v).ob[st.ob.length]?=some (some ⟨e,sz,true,none,cs⟩):=by
  rw[hob];simp
 obtain⟨σ1,h1⟩:=Weak.cells (cx:=cx) hz hn σ' _ w' hr';refine⟨u,w',σ1,hrun,?_⟩;have hs:({ ((st.add ⟨e,sz,true,none,cs⟩).put o.dst v) with ob:=((st.add ⟨e,sz,true,none,cs⟩).put o.dst v).ob.set st.ob.length (some { (⟨e,sz,true,none,cs⟩:Ob) with cs:=cs' }) }:St)=(st.add ⟨e,sz,true,none,cs'⟩).put o.dst v:=by
  cases o.dst <;> simp[St.put,St.add]
 rw[← hs];exact h1
theorem OpOk.freshD {e sz len:Nat} {cs:List LV} {es:List (List T)} (h:OpOk P cx o st ((st.add ⟨e,sz,true,none,cs⟩).put o.dst (hdr st.ob.length sz len))) (hn:All2 NilLe cs (lvs es))
  (hes:∀ x∈es,x.length=sz) (h0:0<sz) (hlen:len=es.length) (hm:es.length≤140737488355328):OpOk P cx o st (St.put { st with ob:=st.ob++[none] } o.dst (.l (.d false sz es))):=by
 subst hlen;intro σ a w hr;obtain⟨v,w',σ',hrun,hr'⟩:=h σ a w hr;have hd:σ st.ob.length=none:=hr.h.dom _ (Nat.le_refl _);have hob:((st.add ⟨e,sz,true,none,cs⟩).put o.dst (hdr st.ob.length sz es.length)).ob=st.ob++[some ⟨e,sz,true,none,cs⟩]:=by
  cases o.dst <;> rfl
 have hz:((st.add ⟨e,sz,true,none,cs⟩).put o.dst (hdr st.ob.length sz es.length)).ob[st.ob.length]?=some (some ⟨e,sz,true,none,cs⟩):=by
  rw[hob];simp
 obtain⟨σ1,h1⟩:=Weak.cells (cx:=cx) hz hn σ' _ w' hr';have hz1:({ ((st.add ⟨e,sz,true,none,cs⟩).put o.dst (hdr st.ob.length sz es.length)) with ob:=((st.add ⟨e,sz,true,none,cs⟩).put o.dst (hdr st.ob.length sz es.length)).ob.set st.ob.length (some { (⟨e,sz,true,none,cs⟩:Ob) with cs:=lvs es }) }:St).obj st.ob.length=some ⟨e,sz,true,none,lvs es⟩:=by
  simp[St.obj,hob]
 obtain⟨σ2,h2⟩:=Weak.freeze (cx:=cx) (es:=es) (sz:=sz) hz1 rfl rfl h0 rfl hes hm σ1 _ w' h1;refine⟨v,w',σ2,hrun,?_⟩;have hobf:(st.ob.map (Option.map (Ob.frz st.ob.length sz es)))=st.ob:=by
  apply List.ext_getElem?;intro i;rw[List.getElem?_map];cases hi:st.ob[i]? with
  |none=>rfl
  |some x =>
   cases x with
   |none=>rfl
   |some x =>
    have hO:=hr.h.obs i x hi;have:x.cs.map (LV.frz st.ob.length sz es)=x.cs:=by
     unfold RelO at hO;split at hO
     ·exact hO.elim
     ·rw[hO.2.1];rfl
     ·obtain⟨vs,rest,_,g2,_⟩:=hO;exact Ec hd g2
    simp[Ob.frz,this]
 have hobE:(St.freeze ({ ((st.add ⟨e,sz,true,none,cs⟩).put o.dst (hdr st.ob.length sz es.length)) with ob:=((st.add ⟨e,sz,true,none,cs⟩).put o.dst (hdr st.ob.length sz es.length)).ob.set st.ob.length (some { (⟨e,sz,true,none,cs⟩:Ob) with cs:=lvs es }) }:St) st.ob.length sz es).ob=st.ob++[none]:=by
  simp only[St.freeze,hob];rw[List.set_append_right _ _ (Nat.le_refl _)];simp[hobf]
 have hput:(St.put { st with ob:=st.ob++[none] } o.dst (.l (.d false sz es))).ob=st.ob++[none]:=by cases o.dst <;> rfl
 refine⟨?_,?_,?_,?_,h2.dm⟩
 ·have:=h2.h;rw[hobE] at this;rw[hput];have e1:(St.put { st with ob:=st.ob++[none] } o.dst (.l (.d false sz es))).ls=st.ls:=by cases o.dst <;> rfl
  have e2:(St.freeze ({ ((st.add ⟨e,sz,true,none,cs⟩).put o.dst (hdr st.ob.length sz es.length)) with ob:=((st.add ⟨e,sz,true,none,cs⟩).put o.dst (hdr st.ob.length sz es.length)).ob.set st.ob.length (some { (⟨e,sz,true,none,cs⟩:Ob) with cs:=lvs es }) }:St) st.ob.length sz es).ls=st.ls:=by
   show (St.put _ _ _).ls=_;cases o.dst <;> rfl
  rw[e1];rw[e2] at this;exact this
 ·have ht:=h2.tm;rw[hobE] at ht;rw[hput];have e2:(St.freeze ({ ((st.add ⟨e,sz,true,none,cs⟩).put o.dst (hdr st.ob.length sz es.length)) with ob:=((st.add ⟨e,sz,true,none,cs⟩).put o.dst (hdr st.ob.length sz es.length)).ob.set st.ob.length (some { (⟨e,sz,true,none,cs⟩:Ob) with cs:=lvs es }) }:St) st.ob.length sz es).tm=Tm.frz st.ob.length sz es ((st.add ⟨e,sz,true,none,cs⟩).put o.dst (hdr st.ob.length sz es.length)).tm:=rfl;rw[e2] at ht;intro i;have h3:=ht i;rw[Fh] at h3;cases hdst:o.dst with
  |none =>
   rw[hdst] at h3;have h4:=hr.tm i;have e3:lk ((st.add ⟨e,sz,true,none,cs⟩).put none (hdr st.ob.length sz es.length)).tm i=lk st.tm i:=rfl;rw[e3,DH hd h4] at h3;exact h3
  |some d =>
   rw[hdst] at h3;by_cases hdn:Nat.blt d st.nt=true
   ·have e3:((st.add ⟨e,sz,true,none,cs⟩).put (some d) (hdr st.ob.length sz es.length)).tm=(d,hdr st.ob.length sz es.length)::st.tm:=by simp[St.put,St.add,hdn]
    have e4:(St.put { st with ob:=st.ob++[none] } (some d) (.l (.d false sz es))).tm=(d,.l (.d false sz es))::st.tm:=by simp[St.put,hdn]
    rw[e3,A5] at h3;rw[e4,A5];split
    ·rename_i hi
     rw[if_pos hi] at h3;simpa [hdr,AV.frz,LV.frz] using h3
    ·rename_i hi
     rw[if_neg hi,DH hd (hr.tm i)] at h3;exact h3
   ·have e3:((st.add ⟨e,sz,true,none,cs⟩).put (some d) (hdr st.ob.length sz es.length)).tm=st.tm:=by simp[St.put,St.add,hdn]
    have e4:(St.put { st with ob:=st.ob++[none] } (some d) (.l (.d false sz es))).tm=st.tm:=by simp[St.put,hdn]
    rw[e3,DH hd (hr.tm i)] at h3;rw[e4];exact h3
 ·have:=h2.nt;rw[this];show (St.put _ _ _).nt=_;cases o.dst <;> rfl
 ·have hg:=h2.gh;rw[hobE] at hg;rw[hput];have e1:(St.put { st with ob:=st.ob++[none] } o.dst (.l (.d false sz es))).gh=st.gh:=by cases o.dst <;> rfl
  have e2:(St.freeze ({ ((st.add ⟨e,sz,true,none,cs⟩).put o.dst (hdr st.ob.length sz es.length)) with ob:=((st.add ⟨e,sz,true,none,cs⟩).put o.dst (hdr st.ob.length sz es.length)).ob.set st.ob.length (some { (⟨e,sz,true,none,cs⟩:Ob) with cs:=lvs es }) }:St) st.ob.length sz es).gh=st.gh.map (Tm.frz st.ob.length sz es):=by
   show (St.put _ _ _).gh.map _=_;cases o.dst <;> rfl
  rw[e2] at hg;rw[e1];exact All2.frz_gh hd hr.gh hg
theorem OpOk.freshG {ob':List (Option Ob)} (hlen':ob'.length=st.ob.length) (hsub:∀ (i:Nat) (x:Ob),ob'[i]?=some (some x)→st.ob[i]?=some (some x)) {e sz len:Nat} {cs:List LV} {es:List (List T)} (h:OpOk P cx o st ((({ st with ob:=ob' }:St).add ⟨e,sz,true,none,cs⟩).put o.dst (hdr ob'.length sz len))) (hn:All2 NilLe cs (lvs es))
  (hes:∀ x∈es,x.length=sz) (h0:0<sz) (hlen:len=es.length) (hm:es.length≤140737488355328):OpOk P cx o st (St.put { st with ob:=ob'++[none] } o.dst (.l (.d false sz es))):=by
 subst hlen;intro σ a w hr;obtain⟨v,w',σ',hrun,hr'⟩:=h σ a w hr;have hd:σ ob'.length=none:=hr.h.dom _ (by rw[hlen'];exact Nat.le_refl _);have hob:((({ st with ob:=ob' }:St).add ⟨e,sz,true,none,cs⟩).put o.dst (hdr ob'.length sz es.length)).ob=ob'++[some ⟨e,sz,true,none,cs⟩]:=by
  cases o.dst <;> rfl
 have hz:((({ st with ob:=ob' }:St).add ⟨e,sz,true,none,cs⟩).put o.dst (hdr ob'.length sz es.length)).ob[ob'.length]?=some (some ⟨e,sz,true,none,cs⟩):=by
  rw[hob];simp
 obtain⟨σ1,h1⟩:=Weak.cells (cx:=cx) hz hn σ' _ w' hr';have hz1:({ ((({ st with ob:=ob' }:St).add ⟨e,sz,true,none,cs⟩).put o.dst (hdr ob'.length sz es.length)) with ob:=((({ st with ob:=ob' }:St).add ⟨e,sz,true,none,cs⟩).put o.dst (hdr ob'.length sz es.length)).ob.set ob'.length (some { (⟨e,sz,true,none,cs⟩:Ob) with cs:=lvs es }) }:St).obj ob'.length=some ⟨e,sz,true,none,lvs es⟩:=by
  simp[St.obj,hob]
 obtain⟨σ2,h2⟩:=Weak.freeze (cx:=cx) (es:=es) (sz:=sz) hz1 rfl rfl h0 rfl hes hm σ1 _ w' h1;refine⟨v,w',σ2,hrun,?_⟩;have hobf:(ob'.map (Option.map (Ob.frz ob'.length sz es)))=ob':=by
  apply List.ext_getElem?;intro i;rw[List.getElem?_map];cases hi:ob'[i]? with
  |none=>rfl
  |some x =>
   cases x with
   |none=>rfl
   |some x =>
    have hO:=hr.h.obs i x (hsub i x hi);have:x.cs.map (LV.frz ob'.length sz es)=x.cs:=by
     unfold RelO at hO;split at hO
     ·exact hO.elim
     ·rw[hO.2.1];rfl
     ·obtain⟨vs,rest,_,g2,_⟩:=hO;exact Ec hd g2
    simp[Ob.frz,this]
 have hobE:(St.freeze ({ ((({ st with ob:=ob' }:St).add ⟨e,sz,true,none,cs⟩).put o.dst (hdr ob'.length sz es.length)) with ob:=((({ st with ob:=ob' }:St).add ⟨e,sz,true,none,cs⟩).put o.dst (hdr ob'.length sz es.length)).ob.set ob'.length (some { (⟨e,sz,true,none,cs⟩:Ob) with cs:=lvs es }) }:St) ob'.length sz es).ob=ob'++[none]:=by
  simp only[St.freeze,hob];rw[List.set_append_right _ _ (Nat.le_refl _)];simp[hobf]
 have hput:(St.put { st with ob:=ob'++[none] } o.dst (.l (.d false sz es))).ob=ob'++[none]:=by cases o.dst <;> rfl
 refine⟨?_,?_,?_,?_,h2.dm⟩
 ·have:=h2.h;rw[hobE] at this;rw[hput];have e1:(St.put { st with ob:=ob'++[none] } o.dst (.l (.d false sz es))).ls=st.ls:=by cases o.dst <;> rfl
  have e2:(St.freeze ({ ((({ st with ob:=ob' }:St).add ⟨e,sz,true,none,cs⟩).put o.dst (hdr ob'.length sz es.length)) with ob:=((({ st with ob:=ob' }:St).add ⟨e,sz,true,none,cs⟩).put o.dst (hdr ob'.length sz es.length)).ob.set ob'.length (some { (⟨e,sz,true,none,cs⟩:Ob) with cs:=lvs es }) }:St) ob'.length sz es).ls=st.ls:=by
   show (St.put _ _ _).ls=_;cases o.dst <;> rfl
  rw[e1];rw[e2] at this;exact this
 ·have ht:=h2.tm;rw[hobE] at ht;rw[hput];have e2:(St.freeze ({ ((({ st with ob:=ob' }:St).add ⟨e,sz,true,none,cs⟩).put o.dst (hdr ob'.length sz es.length)) with ob:=((({ st with ob:=ob' }:St).add ⟨e,sz,true,none,cs⟩).put o.dst (hdr ob'.length sz es.length)).ob.set ob'.length (some { (⟨e,sz,true,none,cs⟩:Ob) with cs:=lvs es }) }:St) ob'.length sz es).tm=Tm.frz ob'.length sz es ((({ st with ob:=ob' }:St).add ⟨e,sz,true,none,cs⟩).put o.dst (hdr ob'.length sz es.length)).tm:=rfl;rw[e2] at ht;intro i;have h3:=ht i;rw[Fh] at h3;cases hdst:o.dst with
  |none =>
   rw[hdst] at h3;have h4:=hr.tm i;have e3:lk ((({ st with ob:=ob' }:St).add ⟨e,sz,true,none,cs⟩).put none (hdr ob'.length sz es.length)).tm i=lk st.tm i:=rfl;rw[e3,DH hd h4] at h3;exact h3
  |some d =>
   rw[hdst] at h3;by_cases hdn:Nat.blt d st.nt=true
   ·have e3:((({ st with ob:=ob' }:St).add ⟨e,sz,true,none,cs⟩).put (some d) (hdr ob'.length sz es.length)).tm=(d,hdr ob'.length sz es.length)::st.tm:=by simp[St.put,St.add,hdn]
    have e4:(St.put { st with ob:=ob'++[none] } (some d) (.l (.d false sz es))).tm=(d,.l (.d false sz es))::st.tm:=by simp[St.put,hdn]
    rw[e3,A5] at h3;rw[e4,A5];split
    ·rename_i hi
     rw[if_pos hi] at h3;simpa [hdr,AV.frz,LV.frz] using h3
    ·rename_i hi
     rw[if_neg hi,DH hd (hr.tm i)] at h3;exact h3
   ·have e3:((({ st with ob:=ob' }:St).add ⟨e,sz,true,none,cs⟩).put (some d) (hdr ob'.length sz es.length)).tm=st.tm:=by simp[St.put,St.add,hdn]
    have e4:(St.put { st with ob:=ob'++[none] } (some d) (.l (.d false sz es))).tm=st.tm:=by simp[St.put,hdn]
    rw[e3,DH hd (hr.tm i)] at h3;rw[e4];exact h3
 ·have:=h2.nt;rw[this];show (St.put _ _ _).nt=_;cases o.dst <;> rfl
 ·have hg:=h2.gh;rw[hobE] at hg;rw[hput];have e1:(St.put { st with ob:=ob'++[none] } o.dst (.l (.d false sz es))).gh=st.gh:=by cases o.dst <;> rfl
  have e2:(St.freeze ({ ((({ st with ob:=ob' }:St).add ⟨e,sz,true,none,cs⟩).put o.dst (hdr ob'.length sz es.length)) with ob:=((({ st with ob:=ob' }:St).add ⟨e,sz,true,none,cs⟩).put o.dst (hdr ob'.length sz es.length)).ob.set ob'.length (some { (⟨e,sz,true,none,cs⟩:Ob) with cs:=lvs es }) }:St) ob'.length sz es).gh=st.gh.map (Tm.frz ob'.length sz es):=by
   show (St.put _ _ _).gh.map _=_;cases o.dst <;> rfl
  rw[e2] at hg;rw[e1];exact All2.frz_gh hd hr.gh hg
theorem OpOk.unNone {al:Bool} {sz:Nat} {es:List (List T)} (h:OpOk P cx o st (St.put { st with ob:=st.ob++[none] } o.dst (.l (.d al sz es)))):OpOk P cx o st (st.put o.dst (.l (.d al sz es))):=by
 intro σ a w hr;obtain⟨v,w',σ',hrun,hr'⟩:=h σ a w hr;have hob:(St.put { st with ob:=st.ob++[none] } o.dst (.l (.d al sz es))).ob=st.ob++[none]:=by cases o.dst <;> rfl
 have hgh:(St.put { st with ob:=st.ob++[none] } o.dst (.l (.d al sz es))).gh=st.gh:=by cases o.dst <;> rfl
 have hls:(St.put { st with ob:=st.ob++[none] } o.dst (.l (.d al sz es))).ls=st.ls:=by cases o.dst <;> rfl
 have hnt:(St.put { st with ob:=st.ob++[none] } o.dst (.l (.d al sz es))).nt=st.nt:=by cases o.dst <;> rfl
 have hob':(st.put o.dst (.l (.d al sz es))).ob=st.ob:=by cases o.dst <;> rfl
 have hgh':(st.put o.dst (.l (.d al sz es))).gh=st.gh:=by cases o.dst <;> rfl
 have hls':(st.put o.dst (.l (.d al sz es))).ls=st.ls:=by cases o.dst <;> rfl
 have hnt':(st.put o.dst (.l (.d al sz es))).nt=st.nt:=by cases o.dst <;> rfl
 have hρ:∀ q hh,σ q=some hh→inv ((List.range st.ob.length).map some) q=some q:=by
  intro q hh hq;have hlt:q<st.ob.length:=by
   rcases Nat.lt_or_ge q st.ob.length with h|h
   ·exact h
   ·rw[hr.h.dom q h] at hq;simp at hq
  unfold inv;rw[List.findIdx?_eq_some_iff_getElem];refine⟨by simpa using hlt,by simp,fun j hj=>?_⟩;simp;omega
 obtain⟨σ2,h2⟩:=Weak.dropOb (cx:=cx) (n:=st.ob.length) (st:=St.put { st with ob:=st.ob++[none] } o.dst (.l (.d al sz es)))
  (fun i hi=>by
   rw[hob];rcases Nat.eq_or_lt_of_le hi with e|e
   ·exact .inr (by simp[← e])
   ·exact .inl (List.getElem?_eq_none (by simp;omega)))
  hr.h.nbl (by rw[hob];simp) σ' _ w' hr'
 have hpick:pickOb ((List.range st.ob.length).map some) (st.ob++[none])=st.ob:=by
  apply List.ext_getElem?;intro i;unfold pickOb;rw[List.getElem?_map,List.getElem?_map];rcases Nat.lt_or_ge i st.ob.length with hi|hi
  ·rw[List.getElem?_range hi,List.getElem?_eq_getElem hi];simp only[Option.map_some,Option.bind_some];rw[List.getElem?_append_left hi,List.getElem?_eq_getElem hi];simp only[Option.bind_some,id];cases hx:st.ob[i] with
   |none=>rfl
   |some x =>
    have hx':st.ob[i]?=some (some x):=by rw[List.getElem?_eq_getElem hi,hx]
    have hO:=hr.h.obs i x hx';have hcs:x.cs.map (LV.ren (inv ((List.range st.ob.length).map some)))=x.cs:=by
     unfold RelO at hO;split at hO
     ·exact hO.elim
     ·rw[hO.2.1];rfl
     ·obtain⟨vs,rest,_,g2,_⟩:=hO;have:=D5 hρ (v:=.agg vs.toArray) (x:=.g x.cs) ⟨vs,rfl,g2⟩;simpa [AV.ren] using this
    simp[Ob.ren,hcs]
  ·rw[List.getElem?_eq_none (l:=List.range st.ob.length) (by simpa using hi),List.getElem?_eq_none hi];rfl
 obtain⟨k1,k2,k3,k4,k5⟩:=h2;simp only[hob,hpick,hgh,hls,hnt] at k1 k2 k3 k4;refine⟨v,w',σ2,hrun,by rw[hob',hls'];exact k1,fun i=>?_,by rw[hnt'];exact k3,?_,k5⟩
 ·rw[hob'];have h3:=k2 i;rw[Cv] at h3;have key:(lk (St.put { st with ob:=st.ob++[none] } o.dst (.l (.d al sz es))).tm i).ren (inv ((List.range st.ob.length).map some))=lk (st.put o.dst (.l (.d al sz es))).tm i:=by
   cases o.dst with
   |none=>exact D5 hρ (hr.tm i)
   |some d =>
    simp only[St.put];cases Nat.blt d st.nt
    ·exact D5 hρ (hr.tm i)
    ·simp only[cond_true];rw[A5];split
     ·rfl
     ·exact D5 hρ (hr.tm i)
  rw[key] at h3;exact h3
 ·rw[hob',hgh'];have go:∀ {G:List (Array Value)} {gs:List Tm},All2 (RelT cx w σ st.ob) G gs→∀ {X Y:Nat→Prop} {σ'':Nat→Hd} {w'':World},All2 (fun (S:Array Value) (tm:Tm)=>∀ i,RelV w'' X Y σ'' (S.getD i undef) (lk tm i)) G (gs.map (Tm.ren (inv ((List.range st.ob.length).map some)))) →
    All2 (fun (S:Array Value) (tm:Tm)=>∀ i,RelV w'' X Y σ'' (S.getD i undef) (lk tm i)) G gs:=by
   intro G gs;induction gs generalizing G with
   |nil=>intro h1 _ _ _ _ h2;exact h2
   |cons t gs ih =>
    intro h1 X Y σ'' w'' h2;cases G with
    |nil=>exact h1.elim
    |cons S G =>
     refine⟨fun i=>?_,ih h1.2 h2.2⟩;have:=h2.1 i;rw[Cv,D5 hρ (h1.1 i)] at this;exact this
  exact go hr.gh k4
end
end Go.Proofs.Ytenemndpignaoaa
