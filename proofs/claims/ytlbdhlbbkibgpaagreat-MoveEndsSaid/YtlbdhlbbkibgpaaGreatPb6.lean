/- Part 6 of the proof. -/
import Derived.Test.YtlbdhlbbkibgpaaGreatPb5
import Derived.Test.YtlbdhlbbkibgpaaGreatRows
import Derived.ProofKit
set_option linter.unusedVariables false
set_option linter.unusedSimpArgs false
set_option linter.constructorNameAsVariable false
set_option maxRecDepth 8000
set_option maxHeartbeats 8000000
namespace Go.Proofs.YtlbdhlbbkibgpaaGreat
open Go Go.RowKit
def SrtH (l:List Field):Prop:=rises (fun x:Field=>x.name) l
def applyH (l:List Field) (e:Field):List Field:=l.filter (fun p=>slt p.name e.name)++[e]++l.filter (fun p=>slt e.name p.name)
theorem GV {A B C:List Field} {e:Field} (hA:∀ a∈A,slt a.name e.name=true) (hC:∀ c∈C,slt e.name c.name=true) (hB:B=[]∨∃ x,B=[x]∧x.name=e.name):applyH (A++B++C) e=A++[e]++C:=by
 have hB1:∀ b∈B,slt b.name e.name=false:=fun b hb=>by
  rcases hB with rfl|⟨x,rfl,hx⟩
  ·simp at hb
  ·simp at hb;subst hb;rw[hx];exact BI _
 have hB2:∀ b∈B,slt e.name b.name=false:=fun b hb=>by
  rcases hB with rfl|⟨x,rfl,hx⟩
  ·simp at hb
  ·simp at hb;subst hb;rw[hx];exact BI _
 unfold applyH
 rw[List.filter_append,List.filter_append,List.filter_append,List.filter_append,Dh hA,CJ hB1,CJ (fun c hc=>CB (hC c hc)),CJ (fun a ha=>CB (hA a ha)),CJ hB2,Dh hC]
 simp
theorem Mz {l:List Field} (h:SrtH l) (e:Field):SrtH (applyH l e):=by
 unfold SrtH applyH
 have h1:SrtH (l.filter (fun p=>slt p.name e.name)):=List.Pairwise.filter _ h
 have h2:SrtH (l.filter (fun p=>slt e.name p.name)):=List.Pairwise.filter _ h
 refine List.pairwise_append.2 ⟨List.pairwise_append.2 ⟨h1,by simp,fun a ha b hb=>?_⟩,h2,fun a ha b hb=>?_⟩
 ·simp at hb;subst hb;exact (List.mem_filter.1 ha).2
 ·have hb2:=(List.mem_filter.1 hb).2
  rcases List.mem_append.1 ha with ha|ha
  ·exact C6 (List.mem_filter.1 ha).2 hb2
  ·simp at ha;subst ha;exact hb2
theorem In (l:List Field) (e:Field) (h:SrtH l):(applyH l e).length≤l.length+1:=by
 obtain⟨A,B,C,rfl,hA,hC,hB⟩:=shapeG (key:=Field.name) e.name l h
 rw[GV hA hC hB]
 simp;omega
def stepH (e:Field) (a:Bool×List Field) (x:Field):Bool×List Field :=
 let a1:=if a.1=false∧slt x.name e.name=false then (true,a.2++[e]) else a
 if x.name=e.name then a1 else (a1.1,a1.2++[x])
theorem Nv (e:Field) (a:Bool×List Field) (x:Field):(stepH e a x).2.length≤a.2.length+2:=by
 unfold stepH
 dsimp only
 split <;> split <;> simp <;> omega
theorem GW (e:Field):∀ (l:List Field) (a:Bool×List Field),(l.foldl (stepH e) a).2.length≤a.2.length+2*l.length
 |[],a=>by simp
 |x::l,a=>by
  have h1:=GW e l (stepH e a x)
  have h2:=Nv e a x
  simp only[List.foldl_cons,List.length_cons]
  omega
theorem Jh {e:Field}:∀ (A:List Field) (d:Bool) (out:List Field),(∀ a∈A,slt a.name e.name=true)→A.foldl (stepH e) (d,out)=(d,out++A)
 |[],d,out,_=>by simp
 |a::A,d,out,h=>by
  have h1:=h a (by simp)
  have e1:stepH e (d,out) a=(d,out++[a]):=by simp[stepH,h1,Cq h1]
  rw[List.foldl_cons,e1,Jh A d (out++[a]) fun b hb=>h b (by simp[hb])]
  simp
theorem F9 {e:Field}:∀ (A:List Field) (out:List Field),(∀ a∈A,slt e.name a.name=true)→A.foldl (stepH e) (true,out)=(true,out++A)
 |[],out,_=>by simp
 |a::A,out,h=>by
  have h1:=h a (by simp)
  have hne:¬ a.name=e.name:=fun h=>Cq h1 h.symm
  have e1:stepH e (true,out) a=(true,out++[a]):=by simp[stepH,hne]
  rw[List.foldl_cons,e1,F9 A (out++[a]) fun b hb=>h b (by simp[hb])]
  simp
theorem Nw {e:Field} {l:List Field} (h:SrtH l):(bif (l.foldl (stepH e) (false,[])).1 then (l.foldl (stepH e) (false,[])).2 else (l.foldl (stepH e) (false,[])).2++[e])=applyH l e:=by
 obtain⟨A,B,C,rfl,hA,hC,hB⟩:=shapeG (key:=Field.name) e.name l h
 rw[GV hA hC hB,List.foldl_append,List.foldl_append,Jh A _ _ hA]
 rcases hB with rfl|⟨x,rfl,hx⟩
 ·cases C with
  |nil=>simp
  |cons c C =>
   have h1:=hC c (by simp)
   have hne:¬ c.name=e.name:=fun h=>Cq h1 h.symm
   have e1:stepH e (false,[]++A) c=(true,A++[e,c]):=by simp[stepH,CB h1,hne]
   rw[List.foldl_nil,List.foldl_cons,e1,F9 C _ fun b hb=>hC b (by simp[hb])]
   simp
 ·have e1:stepH e (false,[]++A) x=(true,A++[e]):=by simp[stepH,hx,BI]
  rw[List.foldl_cons,List.foldl_nil,e1,F9 C _ hC]
  simp
theorem Nx (l:List Field) (e:Field) (h:SrtH l) (hl:l.length≤100000000):CI big l e.name e.val=some (applyH l e):=by
 unfold CI
 refine FK l (stepH e) (fun i a=>(a.1,(i:Int),a.2)) (false,[]) (l.foldl (stepH e) (false,[])) (by omega) rfl (fun i hi a ha=>?_) ?_ ?_
 ·have hlen:a.2.length≤2*i:=by
   have:=GW e (l.take i) (false,[])
   rw[← ha] at this
   simp at this
   omega
  simp only[Ai,Af,Aj,Ak,Al,Am,Ag,Option.some.injEq]
  rw[B5 (by omega)]
  simp only[Ai,Af,Aj,Ak,Al,Am,Ag,Option.some.injEq,Aw hi]
  have e2:(ite' (ite' (notB a.1) (some (geS l[i].name e.name)) (some false)).get! (some (true,a.2++[(e:Field)])) (some (a.1,a.2)))=some (if a.1=false∧slt l[i].name e.name=false then (true,a.2++[e]) else a):=by
   cases h1:a.1 <;> cases h2:slt l[i].name e.name <;> simp[notB,geS,h1,h2,ite'] <;> (rw[← h1])
  rw[AN (by omega) (by omega)]
  have e3:ite' (notB a.1) (some (geS l[i].name e.name)) (some false)=some (ite' (notB a.1) (some (geS l[i].name e.name)) (some false)).get!:=by
   cases a.1 <;> rfl
  rw[e3]
  simp only[Ai,Af,Aj,Ak,Al,Am,Ag,Option.some.injEq]
  rw[e2]
  simp only[Ai,Af,Aj,Ak,Al,Am,Ag,Option.some.injEq]
  rw[Ar (by omega) (by omega)]
  unfold stepH
  dsimp only
  generalize hq:(if a.1=false∧slt l[i].name e.name=false then (true,a.2++[(e:Field)]) else a)=q
  have hq2:q.2.length≤2*i+1:=by
   rw[← hq]
   split
   ·simp only[List.length_append,List.length_cons,List.length_nil];omega
   ·omega
  by_cases hk:l[i].name=e.name
  ·rw[hk,HK]
   simp[Ak,Af]
  ·rw[show neS l[i].name e.name=true by simp[neS,hk],if_neg hk,Aj,AN (by omega) (by omega)]
   simp only[Ai,Af,Aj,Ak,Al,Am,Ag,Option.some.injEq]
   simp
 ·simp only[Ai,Af,Aj,Ak,Al,Am,Ag,Option.some.injEq]
  rw[BK (by omega)]
  rfl
 ·have hlen:(l.foldl (stepH e) (false,[])).2.length≤2*l.length:=by
   have:=GW e l (false,[])
   simp at this
   omega
  have hA:=Nw (e:=e) h
  have hn:=In l e h
  simp only[Ai,Af,Aj,Ak,Al,Am,Ag,Option.some.injEq]
  rw[AN (by omega) (by omega)]
  revert hA
  cases (l.foldl (stepH e) (false,[])).1 <;> intro hA <;> simp at hA <;> rw[hA] <;> simp[notB,ite',Af] <;> rw[AN (by omega) (by omega)]
theorem MA {l:List Field} {e x:Field} (h:x∈applyH l e):x∈l∨x=e:=by
 unfold applyH at h
 rcases List.mem_append.1 h with h|h
 ·rcases List.mem_append.1 h with h|h
  ·exact .inl (List.mem_filter.1 h).1
  ·exact .inr (List.mem_singleton.1 h)
 ·exact .inl (List.mem_filter.1 h).1
theorem Ny (l:List Field) (e:Field):applyH l e≠[]:=by simp[applyH]
theorem Lp (l:List ByteArray) (x:ByteArray) (h:l.length≤1000000000):B6 big l x=some (hasS l x):=Nu l x h
theorem MB (l:List ByteArray) (x:ByteArray) (h:l.length≤1000000000) (hr:rises (fun x=>x) l):Rn (BQ big l x) fun m=>rises (fun x=>x) m∧(∀ y∈m,y∈l∨y=x)∧m≠[]∧m.length≤l.length+1:=by
 unfold BQ
 refine Rn.bnE (Lp l x h) (Rn.ite (fun hd=>Rn.room (by omega) (by omega) (Rn.some ⟨hr,fun y hy=>.inl hy,fun e=>?_,by omega⟩)) (fun hd=>?_))
 ·rw[e] at hd
  simp[hasS] at hd
 have hx:x ∉ l:=fun h=>by
  rw[Nt h] at hd
  simp at hd
 refine Rn.bn (P:=fun i:Int=>∃ k:Nat,i=k∧k≤l.length∧(∀ i (hi:i<l.length),i<k→slt l[i] x=true)∧(∀ hk:k<l.length,slt l[k] x=false)) (Rn.iter _ (fun q a=>a=(q:Int)∧∀ i (hi:i<l.length),i<q→slt l[i] x=true) l.length (by unfold big;omega) ⟨rfl,fun i hi h=>by omega⟩ fun q a hq hI=>?_) fun b hb=>?_
 ·obtain⟨rfl,hI⟩:=hI
  simp only[Ai,Af,Aj,Ak,Al,Am,Ag,Option.some.injEq]
  by_cases hq2:q<l.length
  ·rw[B5 (by omega),Aw hq2]
   simp only[Ai,Af,Aj,Ak,Al,Am,Ag,Option.some.injEq,ltS]
   cases hs:slt l[q] x
   ·exact⟨_,rfl,q,rfl,hq,hI,fun _=>hs⟩
   ·refine⟨_,rfl,hq2,by rw[Ar (by omega) (by omega)];omega,fun i hi h1=>?_⟩
    by_cases hiq:i=q
    ·subst hiq;exact hs
    ·exact hI i hi (by omega)
  ·obtain rfl:q=l.length:=by omega
   rw[BK (by omega)]
   exact⟨_,rfl,l.length,rfl,Nat.le_refl _,hI,fun h=>by omega⟩
 ·obtain⟨k,rfl,hk,h1,h2⟩:=hb
  refine Rn.bnE (KH hk) (Rn.room ?_ ?_ (Rn.room ?_ ?_ (Rn.lt (Rn.bnE (F7 hk) (Rn.room ?_ ?_ (Rn.lt (Rn.some ?_)))))))
  iterate 6 (simp only[List.length_append,List.length_cons,List.length_nil,List.length_take,List.length_drop];omega)
  have hlow:∀ a∈l.take k,slt a x=true:=fun a ha=>by
   obtain⟨i,hi,rfl⟩:=List.getElem_of_mem ha
   rw[List.length_take] at hi
   rw[List.getElem_take]
   exact h1 i (by omega) (by omega)
  have hhigh:∀ b∈l.drop k,slt x b=true:=fun b hb=>by
   obtain⟨i,hi,rfl⟩:=List.getElem_of_mem hb
   rw[List.length_drop] at hi
   rw[List.getElem_drop]
   have hk2:k<l.length:=by omega
   have hxk:slt x l[k]=true:=by
    rcases (MX _ _).1 (h2 hk2) with e|e
    ·exact absurd (e ▸ List.getElem_mem hk2) hx
    ·exact e
   by_cases hi0:i=0
   ·subst hi0;exact hxk
   ·exact C6 hxk (List.pairwise_iff_getElem.1 hr k (k+i) hk2 (by omega) (by omega))
  refine⟨?_,fun y hy=>?_,by simp,by simp only[List.length_append,List.length_cons,List.length_nil,List.length_take,List.length_drop];omega⟩
  ·refine List.pairwise_append.2 ⟨List.pairwise_append.2 ⟨List.Pairwise.sublist (List.take_sublist _ _) hr,by simp,fun a ha b hb=>?_⟩,List.Pairwise.sublist (List.drop_sublist _ _) hr,fun a ha b hb=>?_⟩
   ·simp only[List.mem_singleton] at hb;subst hb;exact hlow a ha
   ·rcases List.mem_append.1 ha with ha|ha
    ·exact C6 (hlow a ha) (hhigh b hb)
    ·simp only[List.mem_singleton] at ha;subst ha;exact hhigh b hb
  ·rcases List.mem_append.1 hy with hy|hy
   ·rcases List.mem_append.1 hy with hy|hy
    ·exact .inl (List.mem_of_mem_take hy)
    ·exact .inr (List.mem_singleton.1 hy)
   ·exact .inl (List.mem_of_mem_drop hy)
def keepM (kind:Int) (q:Nat) (s:ByteArray) (f:List Field) (l:List ByteArray):Prop :=
 s.size≤40*q∧f.length≤q∧l.length≤q∧(∀ x∈f,okFld x)∧SrtH f∧(∀ x∈l,x.size≤300)∧(kind=4→rises (fun x=>x) l) ∧
 ((kind=1∧f=[]∧l=[])∨(kind=2∧s=⟨#[]⟩∧l=[]∧(0<q→f≠[]))∨((kind=3∨kind=4)∧s=⟨#[]⟩∧f=[]∧(0<q→l≠[])))
theorem N8 (l:List Int) (e:Int) (hl:u8s l) (hlen:2≤l.length) (hlen2:l.length≤4) (h:0≤e) (h2:e≤255):Rn (Cg big l e) mayI:=by
 unfold Cg
 have hb0:=hl _ (List.getElem_mem (show 0<l.length by omega))
 refine Rn.lt (Rn.lt (Rn.ite (fun hg=>?_) (fun _=>?_)))
 ·have:(l.length:Int)=0:=of_decide_eq_true hg
  omega
 refine Rn.bnE (Aw (i:=0) (show 0<l.length by omega)) (Rn.lt ?_)
 rw[Cy (by omega) (by omega)]
 refine Rn.bnE (A9 hb0.1 (by omega)) (Rn.lt ?_)
 rw[Ar (by omega) (by omega)]
 have hkind:1+l[0] % 4=1∨1+l[0] % 4=2∨1+l[0] % 4=3∨1+l[0] % 4=4:=by omega
 generalize 1+l[0] % 4=kind at hkind
 refine Rn.bn (P:=fun x:Int=>0≤x∧x≤255) (Rn.bnE (A9 h (by omega)) (Rn.lt (Rn.ite (fun _=>Rn.lt (Rn.some ?_)) (fun _=>Rn.some (by omega))))) fun ex hex=>?_
 ·rw[Cy (by omega) (by omega)];omega
 refine Rn.bn (P:=fun b:ByteArray×List Field×List ByteArray=>∃ q,1≤q∧q≤3∧keepM kind q b.1 b.2.1 b.2.2)
  (Rn.iter _ (fun q a=>a.1=((q+1:Nat):Int)∧q+1≤l.length∧keepM kind q a.2.1 a.2.2.1 a.2.2.2) 4 (by unfold big;omega) ⟨rfl,by omega,by decide,by simp,by simp,by simp,.nil,by simp,fun _=>.nil,?_⟩ fun q a hq hI=>?_) fun b hb=>?_
 ·rcases hkind with h|h|h|h <;> simp[h]
 ·obtain⟨i,s,f,t⟩:=a
  obtain⟨i1,i2,i3⟩:=hI
  simp only at i1 i3
  subst i1
  refine Rn.bn (P:=fun b:Bool=>(b=true→q+1<l.length)∧(b=false→q+1=l.length)) ?_ fun b hb=>Rn.lt (Rn.ite (fun hd=>?_) (fun hd=>Rn.some ⟨q,by have:=hb.2 hd;omega,by have:=hb.2 hd;omega,i3⟩))
  ·refine Rn.lt (Rn.lt (Rn.ite (fun hg=>Rn.lt (Rn.some ?_)) (fun hg=>Rn.some ?_)))
   ·have hg:=DQ hg
    simp only[lenI] at hg
    refine⟨fun _=>by omega,fun h=>?_⟩
    have h:=DR h
    omega
   ·have hg:=DR hg
    simp only[lenI] at hg
    exact⟨fun h=>by simp at h,fun _=>by omega⟩
  ·have hql:=hb.1 hd
   have hb1:=hl _ (List.getElem_mem hql)
   refine Rn.bn (P:=fun b:ByteArray×List Field×List ByteArray=>keepM kind (q+1) b.1 b.2.1 b.2.2) ?_ fun b hb=>Rn.lt (Rn.some ⟨by omega,?_,hql,hb⟩)
   rotate_left
   ·show addI .i64 ((q+1:Nat):Int) 1=_
    rw[Ar (by omega) (by omega)];omega
   refine Rn.bnE (Aw hql) (Rn.bnE (A9 hb1.1 (by omega)) (Rn.lt (Rn.lt (Rn.lt ?_))))
   rw[Cy (by omega) (by omega)]
   refine Rn.bnE (A9 hb1.1 (by omega)) ?_
   refine Rn.bn (D3 _ (by omega) (by omega)) fun d hd=>?_
   refine Rn.cat (by rw[strL1];omega) ?_
   have hw:∀ x:Int,(strL [x]++d).size≤31:=fun x=>by
    rw[ByteArray.size_append,strL1];omega
   have hw:=hw (addI .u8 97 (l[q+1] % 5))
   revert hw
   generalize strL [addI .u8 97 (l[q+1] % 5)]++d=w
   intro hw
   obtain⟨k1,k2,k3,k4,k5,k6,k7,k8⟩:=i3
   refine Rn.lt (Rn.ite (fun e1=>?_) (fun e1=>?_))
   ·have e1:kind=1:=of_decide_eq_true e1
    refine Rn.cat (by simp only;omega) (Rn.some ?_)
    rcases k8 with k8|k8|k8
    ·refine⟨?_,?_,?_,k4,k5,k6,k7,.inl k8⟩
     ·rw[ByteArray.size_append];simp only;omega
     ·simp only;omega
     ·simp only;omega
    ·omega
    ·omega
   have e1:kind≠1:=of_decide_eq_false e1
   refine Rn.lt (Rn.ite (fun e2=>?_) (fun e2=>?_))
   ·have e2:kind=2:=of_decide_eq_true e2
    refine Rn.lt ?_
    rw[EW (by omega) (by omega)]
    refine Rn.bn (D3 _ (by omega) (by omega)) fun v hv=>?_
    refine Rn.bnE (Nx f ⟨w,v⟩ k5 (by omega)) (Rn.some ?_)
    rcases k8 with k8|k8|k8
    ·omega
    ·have hn:=In f ⟨w,v⟩ k5
     refine⟨by simp only;omega,by simp only;omega,by simp only;omega,fun x hx=>?_,Mz k5 _,k6,k7,.inr (.inl ⟨e2,k8.2.1,k8.2.2.1,fun _=>Ny f _⟩)⟩
     rcases MA hx with hx|rfl
     ·exact k4 x hx
     ·exact⟨by simp only;omega,by simp only;omega⟩
    ·omega
   have e2:kind≠2:=of_decide_eq_false e2
   have k8:(kind=3∨kind=4)∧s=⟨#[]⟩∧f=[]∧(0<q→t≠[]):=by
    rcases k8 with k8|k8|k8
    ·omega
    ·omega
    ·exact k8
   refine Rn.lt (Rn.ite (fun e3=>?_) (fun e3=>?_))
   ·have e3:kind=3:=of_decide_eq_true e3
    refine Rn.room (by simp only;omega) (by simp only;omega) (Rn.lt (Rn.some ?_))
    refine⟨by simp only;omega,by simp only;omega,by simp only[List.length_append,List.length_cons,List.length_nil];omega,k4,k5,fun x hx=>?_,fun h=>by omega,.inr (.inr ⟨k8.1,k8.2.1,k8.2.2.1,fun _=>by simp⟩)⟩
    rcases List.mem_append.1 hx with hx|hx
    ·exact k6 x hx
    ·simp only[List.mem_singleton] at hx;subst hx;omega
   ·have e3:kind≠3:=of_decide_eq_false e3
    have e4:kind=4:=by omega
    refine Rn.room (by simp only;omega) (by simp only;omega) ?_
    refine Rn.bn (MB t w (by omega) (k7 e4)) fun z hz=>Rn.some ?_
    obtain⟨z1,z2,z3,z4⟩:=hz
    refine⟨by simp only;omega,by simp only;omega,by simp only at z4 ⊢;omega,k4,k5,fun x hx=>?_,fun _=>z1,.inr (.inr ⟨k8.1,k8.2.1,k8.2.2.1,fun _=>z3⟩)⟩
    rcases z2 x hx with hx|rfl
    ·exact k6 x hx
    ·omega
 ·obtain⟨s,f,t⟩:=b
  obtain⟨q,q1,q2,k1,k2,k3,k4,k5,k6,k7,k8⟩:=hb
  simp only at k1 k2 k3 k4 k5 k6 k7 k8
  refine Rn.bnE (v:=false) ?_ (Rn.lt ?_)
  ·simp only[Ai,Af,Aj,Ak,Al,Am,Ag,Option.some.injEq]
   rw[show eqI (l.length:Int) 1=false by simp[eqI];omega,Ak]
  ·rw[Ak]
   refine Rn.room (by simp only;omega) (by simp only;omega) (Rn.some ⟨?_,⟨by simp only;omega,k4,k6⟩,by simp only;omega,by simp only;omega,hex.1,by simp only;omega,k5,k7⟩)
   rcases k8 with k8|k8|k8
   ·exact .inl k8
   ·exact .inr (.inl ⟨k8.1,k8.2.1,k8.2.2.1,k8.2.2.2 (by omega)⟩)
   ·exact .inr (.inr ⟨k8.1,k8.2.1,k8.2.2.1,k8.2.2.2 (by omega)⟩)
theorem Nz (l:List Int) (hl:u8s l) (i:Nat) (h:4*i+3<l.length) (e:Effect) (he:effAt l i=some e) (hg:e.gone=false):mayI e.item:=by
 have hb0:=hl _ (List.getElem_mem (show 4*i<l.length by omega))
 have hb1:=hl _ (List.getElem_mem (show 4*i+1<l.length by omega))
 have hb2:=hl _ (List.getElem_mem (show 4*i+2<l.length by omega))
 unfold effAt at he
 rw[Aw (show 4*i<l.length by omega),Aw (show 4*i+1<l.length by omega),Aw (show 4*i+2<l.length by omega),Jc (by omega) (by omega)] at he
 simp only[Af] at he
 obtain⟨j,hj,-,hk⟩:=HN _ hb0.1 hb0.2
 rw[hk,A9 hb1.1 (by omega)] at he
 simp only[Af] at he
 obtain⟨it,hit,hit2⟩:=N8 ((l.drop (4*i+1)).take (4*i+4 - (4*i+1))) l[4*i+2] (hl.seg _ _) (by simp;omega) (by simp;omega) hb2.1 hb2.2
 rw[hit] at he
 cases hg2:eqI (l[4*i+1] % 4) 0
 ·rw[hg2] at he
  simp only[GA,Aj,Af,Option.some.injEq] at he
  subst he
  exact hit2
 ·rw[hg2] at he
  simp only[Ez,Ak,Af,Option.some.injEq] at he
  subst he
  simp at hg
def okM2 (m:List Effect):Prop:=okM m∧∀ e∈m,e.gone=false→mayI e.item
theorem Lq (l:List Int) (hl:u8s l) (h:l.length≤1000000000):Rn (BD big l) okM2:=by
 obtain⟨m,hm,h1,h2,h3⟩:=GS l hl h
 obtain⟨m',hm',h4⟩:=GT l hl h
 obtain rfl:m'=m:=Option.some.inj (hm'.symm.trans hm)
 refine⟨_,hm,h4,fun e he hg=>?_⟩
 obtain⟨i,hi,rfl⟩:=List.getElem_of_mem he
 exact Nz l hl i (by omega) _ (by rw[h2 i hi,List.getElem?_eq_getElem hi]) hg
theorem Ji (Q:Pair→Prop):∀ (es:List Effect) (l:List Pair),(∀ p∈l,Q p)→(∀ e∈es,e.gone=false→Q ⟨e.key,e.item⟩)→∀ p∈es.foldl applyP l,Q p
 |[],l,h1,_=>h1
 |e::es,l,h1,h2=>by
  refine Ji Q es (applyP l e) (fun p hp=>?_) fun x hx=>h2 x (by simp[hx])
  unfold applyP newP at hp
  rcases List.mem_append.1 hp with hp|hp
  ·rcases List.mem_append.1 hp with hp|hp
   ·exact h1 p (List.mem_filter.1 hp).1
   ·split at hp
    ·simp at hp
    ·rename_i hg
     simp at hp;subst hp;exact h2 e (by simp) (by simpa using hg)
  ·exact h1 p (List.mem_filter.1 hp).1
theorem NA (ns:List Int) (hu:u8s ns) (h:ns.length≤1000000000):Rn (BJ big ns) fun db=>okDB db∧mayS db:=by
 obtain⟨db,hdb,h1⟩:=Ns ns hu h
 refine⟨db,hdb,h1,?_,h1.1⟩
 unfold BJ at hdb
 obtain⟨m,hm,h2,h3⟩:=Lq ns hu h
 rw[hm] at hdb
 simp only[Af] at hdb
 have ho:∀ e∈m,okI e.item:=fun e he=>(h2.2 e he).1
 rw[Ij [] m .nil (by simp[okP]) ho (by have:=h2.1;simp;omega)] at hdb
 have hdb:=Option.some.inj hdb
 subst hdb
 exact Ji mayP m [] (by simp) fun e he hg=>⟨by rw[Ej (h2.2 e he).2.1];omega,h3 e he hg⟩
end Go.Proofs.YtlbdhlbbkibgpaaGreat
namespace Go.Proofs.YtlbdhlbbkibgpaaGreat
open Go Go.RowKit
structure OkN (n:Node):Prop where
 srt:SrtP n.db
 okd:okP n.db
 dl:n.db.length≤1000
 key:∀ p∈n.db,keyed p.key
 bk:okE n.feed.back
 bl:n.feed.back.length≤64
 cl:n.claims.length≤1000
 mv:n.moves.length≤1000
 sn:n.seen.length≤1000
 vt:n.votes.length≤1000
 hd:n.watch.heard.length≤1000
 sy:n.watch.says.length≤1000
 sz:∀ x∈n.watch.says,x.length≤1000
theorem KP (i:Item) (h:okI i):A1 big i=some i:=by
 unfold A1
 have h1:=h.1
 have h2:=h.2
 rw[Df (by omega) (by omega),Df (by omega) (by omega),AN (by omega) (by omega),AN (by omega) (by omega)]
theorem GX {α γ:Type} [Inhabited α] (l:List α) (hl:l.length≤1000000000) (f:Int×List α→Option ((Int×List α) ⊕ List α)) (k:List α→Option γ) (r:Option γ)
  (h:∀ i (hi:i<l.length),f ((i:Int),l)=some (.inl ((i:Int)+1,l.set i l[i]))) (he:f ((l.length:Int),l)=some (.inr l)) (hk:k l=r):bn (iter big f (0,l)) k=r:=by
 refine BO l (fun i=>((i:Int),l)) l.length (by unfold big;omega) rfl (fun i hi=>?_) he hk
 rw[h i hi,List.set_getElem_self]
 exact congrArg (fun z=>some (Sum.inl (z,l))) (by omega)
theorem AU {α:Type} {c:Nat} {l:List α} {γ:Type} {k:Option γ} (h:l.length≤1000000000) (hc:c≤1000:=by omega):chk (small c l) k=k:=by
 have h3:l.length*c≤1000000000*1000:=Nat.mul_le_mul h hc
 exact Df (by omega) (by omega)
theorem AR {α:Type} {l:List α} {γ:Type} {k:Option γ} (h:l.length≤1000000000):chk (room l.length 1) k=k:=AN (by omega) (by omega)
theorem KQ {γ:Type} (l:List Pair) (hl:l.length≤1000000000) (ho:okP l) (k:List Pair→Option γ):bn (iter big (fun (y8:Int×List Pair) =>
  lt (ltI y8.1 (lenI l)) fun v11 =>
  ite' v11 (bn (nth y8.2 y8.1) fun v12 =>
  bn (A1 big v12.item) fun v14 =>
  lt (y8.2.set y8.1.toNat (⟨v12.key,v14⟩:Pair)) fun v16 =>
  lt (addI .i64 y8.1 1) fun v20 =>
  some (.inl (v20,v16))) (some (.inr y8.2))) (0,l)) k=k l:=by
 have:Inhabited Pair:=⟨⟨⟨#[]⟩,noI⟩⟩
 refine GX l hl _ k _ (fun i hi=>?_) ?_ rfl
 ·simp only[Ai,Af,Aj,Ak,Al,Am,Ag,Option.some.injEq]
  rw[B5 (by omega),Aj,Aw hi,Af,KP _ (ho _ (List.getElem_mem hi)),Af,Ar (by omega) (by omega)]
  rfl
 ·simp only[Ai,Af,Aj,Ak,Al,Am,Ag,Option.some.injEq]
  rw[BK (by omega),Ak]
theorem KR {γ:Type} (l:List Effect) (ho:okE l) (k:List Effect→Option γ):bn (iter big (fun (y22:Int×List Effect) =>
  lt (ltI y22.1 (lenI l)) fun v25 =>
  ite' v25 (bn (nth y22.2 y22.1) fun v26 =>
  bn (A1 big v26.item) fun v28 =>
  lt (y22.2.set y22.1.toNat (⟨v26.key,v26.gone,v28⟩:Effect)) fun v30 =>
  lt (addI .i64 y22.1 1) fun v34 =>
  some (.inl (v34,v30))) (some (.inr y22.2))) (0,l)) k=k l:=by
 have hl:=ho.1
 have:Inhabited Effect:=⟨⟨⟨#[]⟩,false,noI⟩⟩
 refine GX l hl _ k _ (fun i hi=>?_) ?_ rfl
 ·simp only[Ai,Af,Aj,Ak,Al,Am,Ag,Option.some.injEq]
  rw[B5 (by omega),Aj,Aw hi,Af,KP _ (ho.2 _ (List.getElem_mem hi)),Af,Ar (by omega) (by omega)]
  rfl
 ·simp only[Ai,Af,Aj,Ak,Al,Am,Ag,Option.some.injEq]
  rw[BK (by omega),Ak]
theorem HO {γ:Type} (l:List (List Int)) (hl:l.length≤1000000000) (ho:∀ x∈l,x.length≤1000) (k:List (List Int)→Option γ):bn (iter big (fun (y38:Int×List (List Int)) =>
  lt (ltI y38.1 (lenI l)) fun v41 =>
  ite' v41 (bn (nth y38.2 y38.1) fun v42 =>
  chk (small 8 v42) <|
  lt (y38.2.set y38.1.toNat v42) fun v46 =>
  lt (addI .i64 y38.1 1) fun v49 =>
  some (.inl (v49,v46))) (some (.inr y38.2))) (0,l)) k=k l:=by
 refine GX l hl _ k _ (fun i hi=>?_) ?_ rfl
 ·have h2:=ho _ (List.getElem_mem hi)
  simp only[Ai,Af,Aj,Ak,Al,Am,Ag,Option.some.injEq]
  rw[B5 (by omega),Aj,Aw hi,Af,AU (by omega),Ar (by omega) (by omega)]
  rfl
 ·simp only[Ai,Af,Aj,Ak,Al,Am,Ag,Option.some.injEq]
  rw[BK (by omega),Ak]
theorem PW (n:Node) (h:OkN n):CM big n=some n:=by
 have h1:=h.cl
 have h2:=h.mv
 have h3:=h.sn
 have h4:=h.vt
 have h5:=h.dl
 have h6:=h.bl
 have h7:=h.hd
 have h8:=h.sy
 unfold CM
 rw[AU (by omega),AU (by omega),AU (by omega),AU (by omega),AU (by omega),AU (by omega),Ai,KQ _ (by omega) h.okd,Ai,KR _ h.bk,AU (by omega),AU (by omega),Ai,HO _ (by omega) h.sz]
 rw[AR (by omega),AR (by omega),AR (by omega),AR (by omega),AR (by omega),AR (by omega),AR (by omega),AR (by omega)]
theorem LW (n:Node) (h:OkN n):Bv big n=some n:=by
 have h1:=h.cl
 have h2:=h.mv
 have h3:=h.sn
 have h4:=h.vt
 have h5:=h.dl
 have h6:=h.bl
 have h7:=h.hd
 have h8:=h.sy
 unfold Bv
 rw[AU (by omega),AU (by omega),AU (by omega),AU (by omega),AU (by omega),AU (by omega),Ai,KQ _ (by omega) h.okd,Ai,KR _ h.bk,AU (by omega),AU (by omega),Ai,HO _ (by omega) h.sz]
 rw[AR (by omega),AR (by omega),AR (by omega),AR (by omega),AR (by omega),AR (by omega),AR (by omega)]
theorem Pe (n:Node) (h:OkN n):Bu big n=some n:=by
 have h1:=h.cl
 have h2:=h.mv
 have h3:=h.sn
 have h4:=h.vt
 have h5:=h.dl
 have h6:=h.bl
 have h7:=h.hd
 have h8:=h.sy
 unfold Bu
 rw[AU (by omega),AU (by omega),AU (by omega),AU (by omega),AU (by omega),AU (by omega),Ai,KQ _ (by omega) h.okd,Ai,KR _ h.bk,AU (by omega),AU (by omega),Ai,HO _ (by omega) h.sz]
 rw[AR (by omega),AR (by omega),AR (by omega),AR (by omega),AR (by omega),AR (by omega),AR (by omega)]
def cmpI (a b:Int):Int:=if a<b then -1 else if b<a then 1 else 0
theorem N9 (x:Int):BE big x=some false:=by
 unfold BE
 simp[neI,Ai]
theorem Ga (a b:Int):A3 big a b=some (cmpI a b):=by
 unfold A3 cmpI
 simp only[N9,Ai,Af,Aj,Ak,Al,Am,Ag,Option.some.injEq]
 by_cases h:a<b
 ·simp[h,ltI,ite',Ai,Af,Aj,Ak,Al,Am,Ag,Option.some.injEq]
 ·by_cases h2:b<a <;> simp[h,h2,ltI,gtI,ite',Ai,Af,Aj,Ak,Al,Am,Ag,Option.some.injEq]
theorem IR {a b:Int}:cmpI a b<0↔a<b:=by unfold cmpI;split <;> (try split) <;> omega
theorem IS {a b:Int}:0<cmpI a b↔b<a:=by unfold cmpI;split <;> (try split) <;> omega
theorem FP {a b:Int}:cmpI a b=0↔a=b:=by unfold cmpI;split <;> (try split) <;> omega
def bsG {α:Type} (cmp:α→Option Int) (a0:List α):Option (Int×Bool) :=
lt (lenI a0) fun v1 =>
bn (iter big (fun (y2:Int×Int) =>
lt (ltI y2.1 y2.2) fun v5 =>
ite' v5 (lt (addI .i64 y2.1 y2.2) fun v6 =>
lt (cvI .u64 v6) fun v7 =>
bn (shrI .u64 v7 1) fun v8 =>
lt (cvI .i64 v8) fun v9 =>
bn (nth a0 v9) fun v10 =>
bn (cmp v10) fun v11 =>
lt (ltI v11 0) fun v12 =>
ite' v12 (lt (addI .i64 v9 1) fun v13 =>
some (.inl (v13,y2.2))) (some (.inl (y2.1,v9)))) (some (.inr y2.1))) (0,v1)) fun (y3:Int) =>
bn (lt (ltI y3 v1) fun v15 =>
ite' v15 (bn (nth a0 y3) fun v16 =>
bn (cmp v16) fun v17 =>
lt (eqI v17 0) fun v18 =>
some (v18)) (some (false))) fun (y14:Bool) =>
some (y3,y14)
theorem NB {α:Type} (cmp:α→Option Int) (c:α→Int) (hc:∀ x,cmp x=some (c x)) (A B C:List α) (hA:∀ a∈A,c a<0) (hC:∀ x∈C,0<c x) (hB:B=[]∨∃ x,B=[x]∧c x=0) (hl:(A++B++C).length≤1000000000) :
  bsG cmp (A++B++C)=some ((A.length:Int),!B.isEmpty):=by
 have hget:∀ i x,(A++B++C)[i]?=some x→decide (c x<0)=decide (i<A.length):=fun i x hx=>by
  rw[List.append_assoc] at hx
  by_cases h:i<A.length
  ·rw[List.getElem?_append_left h] at hx
   simp only[h,decide_true,decide_eq_true_eq]
   exact hA _ (List.mem_of_getElem? hx)
  ·rw[List.getElem?_append_right (by omega)] at hx
   simp only[h,decide_false,decide_eq_false_iff_not]
   rcases List.mem_append.1 (List.mem_of_getElem? hx) with hm|hm
   ·rcases hB with rfl|⟨y,rfl,hy⟩
    ·simp at hm
    ·simp at hm;rw[hm,hy];omega
   ·have:=hC _ hm;omega
 have hB2:(A++B++C)[A.length]?=(B++C)[0]?:=by rw[List.append_assoc,List.getElem?_append_right (Nat.le_refl _),Nat.sub_self]
 have hAL:A.length≤(A++B++C).length:=by simp
 generalize A++B++C=L at hget hB2 hl hAL ⊢
 refine Rn.eq ?_
 unfold bsG
 refine Rn.lt (Rn.bn (P:=fun i=>i=(A.length:Int)) (Rn.iter _ (fun q a=>∃ lo hi:Nat,a=((lo:Int),(hi:Int))∧lo≤A.length∧A.length≤hi∧hi≤L.length∧hi - lo<2 ^ (48 - q)) 48 (by unfold big;omega) ⟨0,L.length,rfl,by omega,hAL,Nat.le_refl _,by omega⟩ fun q a hq hI=>?_) fun i hi=>?_)
 ·obtain⟨lo,hi,rfl,h1,h2,h3,h4⟩:=hI
  refine Rn.lt (Rn.ite (fun hg=>?_) (fun hg=>Rn.some ?_))
  ·have hg:=DQ hg
   simp only at hg
   have hq2:q<48:=by
    apply Nat.lt_of_not_le
    intro h
    have:48 - q=0:=by omega
    rw[this] at h4
    omega
   have e48:48 - q=(48 - (q+1))+1:=by omega
   rw[e48,Nat.pow_succ] at h4
   refine Rn.lt (Rn.lt ?_)
   rw[Ar (by simp only;omega) (by simp only;omega),Nl (by simp only;omega) (by simp only;omega)]
   refine Rn.bnE (shr1 (by simp only;omega)) (Rn.lt ?_)
   rw[Cy (by simp only;omega) (by simp only;omega)]
   have em:((lo:Int)+(hi:Int)) / 2=(((lo+hi) / 2:Nat):Int):=by omega
   simp only
   rw[em]
   have hm:(lo+hi) / 2<L.length:=by omega
   have hge:=hget _ _ (List.getElem?_eq_getElem hm)
   refine Rn.bnE (Aw hm) (Rn.bnE (hc _) (Rn.lt (Rn.ite (fun hc=>Rn.lt (Rn.some ⟨hq2,(lo+hi) / 2+1,hi,?_,?_⟩)) (fun hc=>Rn.some ⟨hq2,lo,(lo+hi) / 2,rfl,?_⟩))))
   ·rw[Ar (by omega) (by omega)]
    exact congrArg (·,(hi:Int)) (by omega)
   ·rw[decide_eq_true (DQ hc)] at hge
    have:=of_decide_eq_true hge.symm
    refine⟨?_,h2,h3,?_⟩ <;> omega
   ·rw[decide_eq_false (show ¬ _ by have:=DR hc;omega)] at hge
    have:=of_decide_eq_false hge.symm
    refine⟨h1,?_,?_,?_⟩ <;> omega
  ·have hg:=DR hg
   simp only at hg ⊢
   omega
 ·subst hi
  refine Rn.bn (P:=fun b=>b=!B.isEmpty) ?_ fun b hb=>Rn.some (by rw[hb])
  refine Rn.lt (Rn.ite (fun hg=>?_) (fun hg=>Rn.some ?_))
  ·have hg:=DQ hg
   simp only[lenI] at hg
   have hm:A.length<L.length:=by omega
   refine Rn.bnE (Aw hm) (Rn.bnE (hc _) (Rn.lt (Rn.some ?_)))
   rw[List.getElem?_eq_getElem hm] at hB2
   rcases hB with rfl|⟨y,rfl,hy⟩
   ·have hc:=hC L[A.length] (List.mem_of_getElem? (by simpa using hB2.symm))
    have hne:¬ c L[A.length]=0:=by omega
    simp[eqI,hne]
   ·simp at hB2
    rw[hB2,hy]
    simp[eqI]
  ·have hg:=DR hg
   simp only[lenI] at hg
   have e:L[A.length]?=none:=List.getElem?_eq_none (by omega)
   rw[e] at hB2
   rcases hB with rfl|⟨y,rfl,hy⟩
   ·rfl
   ·simp at hB2
theorem KS (A B C:List Move) (s:Int) (hA:∀ a∈A,a.slot<s) (hC:∀ x∈C,s<x.slot) (hB:B=[]∨∃ x,B=[x]∧x.slot=s) (hl:(A++B++C).length≤1000) :
  Cv big (A++B++C) s=some ((A.length:Int),!B.isEmpty):=by
 have h:=NB (fun m:Move=>BF big m s) (fun m=>cmpI m.slot s) (fun x=>by unfold BF;rw[Ga];rfl) A B C (fun a ha=>IR.2 (hA a ha)) (fun a ha=>IS.2 (hC a ha)) (hB.imp id fun ⟨x,h1,h2⟩=>⟨x,h1,FP.2 h2⟩) (by omega)
 unfold Cv
 rw[show Bb big (A++B++C) s=bsG (fun m:Move=>BF big m s) (A++B++C) from rfl,h]
 rfl
end Go.Proofs.YtlbdhlbbkibgpaaGreat
namespace Go.Proofs.YtlbdhlbbkibgpaaGreat
open Go Go.RowKit
def nd (id:Int) (db:List Pair):Node:=⟨4,id,-1,1,0,[⟨0,16383,id,1⟩],db,[],0,[],⟨⟨id,0⟩,0,[],⟨0,0⟩,0⟩,⟨[0,0,0,0],[[],[],[],[]]⟩,0,[],0⟩
def newB (id:Int):Bool:=(Ef big 4 id 4).any fun v=>decide ({ v with claims:=(nd id []).claims,db:=[] }=nd id [])
theorem Pf:(newB 0 && newB 1 && newB 2 && newB 3)=true:=by kernel_rfl
theorem LX (id:Int) (hid:0≤id∧id≤3) (ns:List Int) (db:List Pair) (hdb:BJ big ns=some db):Cm big id ns=some (nd id db):=by
 have h4:newB id=true∧cvI .i64 id=id∧remI .i64 id 4=some id:=by
  have h:=Pf
  simp only[Bool.and_eq_true] at h
  have h5:id=0∨id=1∨id=2∨id=3:=by omega
  rcases h5 with rfl|rfl|rfl|rfl
  ·exact⟨h.1.1.1,rfl,rfl⟩
  ·exact⟨h.1.1.2,rfl,rfl⟩
  ·exact⟨h.1.2,rfl,rfl⟩
  ·exact⟨h.2,rfl,rfl⟩
 obtain⟨h1,h2,h3⟩:=h4
 unfold newB at h1
 cases hv:Ef big 4 id 4 with
 |none=>rw[hv] at h1;cases h1
 |some v =>
  rw[hv] at h1
  have e:{ v with claims:=(nd id []).claims,db:=[] }=nd id []:=of_decide_eq_true h1
  unfold Cm
  rw[h2,Ai,h3,Af,hv,Af,hdb,Af,AN (by omega) (by omega)]
  exact congrArg (fun n:Node=>some (⟨n.count,n.id,n.master,n.epoch,n.voted,[⟨0,16383,n.id,1⟩],db,n.moves,n.last,n.seen,n.feed,n.watch,n.asked,n.votes,n.wait⟩:Node)) e
theorem MC {id:Int} {db:List Pair} (h:okDB db):OkN (nd id db) where
 srt:=h.1
 okd:=h.2.1
 dl:=Nat.le_trans h.2.2.1 (by omega)
 key:=h.2.2.2
 bk:=⟨Nat.zero_le _,fun e he=>absurd he List.not_mem_nil⟩
 bl:=Nat.zero_le _
 cl:=by show 1≤1000;omega
 mv:=Nat.zero_le _
 sn:=Nat.zero_le _
 vt:=Nat.zero_le _
 hd:=by show 4≤1000;omega
 sy:=by show 4≤1000;omega
 sz:=fun x hx=>by
  have:x∈([[],[],[],[]]:List (List Int)):=hx
  simp at this
  subst this
  exact Nat.zero_le _
def slotKB:Bool:=(List.range 20).all fun j=>decide (0≤slotOf (keyT j)) && decide (slotOf (keyT j)<16384)
theorem NC:slotKB=true:=by kernel_rfl
theorem Pg {k:ByteArray} (h:keyed k):0≤slotOf k∧slotOf k<16384:=by
 obtain⟨j,hj,rfl⟩:=h
 have:=List.all_eq_true.1 NC j (List.mem_range.2 hj)
 simp only[Bool.and_eq_true,decide_eq_true_eq] at this
 exact this
theorem PX (n e slot:Int) (h1:0≤slot) (h2:slot<16384):Cr big [⟨0,16383,n,e⟩] slot=some (n,e,true):=by
 unfold Cr
 simp only[Ai,Af,Aj,Ak,Al,Am,Ag,Option.some.injEq]
 refine BO (.inr (n,e,true)) (fun i=>(i:Int)) 0 (by unfold big;omega) rfl (fun i hi=>by omega) ?_ rfl
 rw[show ltI ((0:Nat):Int) (([⟨0,16383,n,e⟩]:List Claim).length:Int)=true from rfl,Aj,show nth ([⟨0,16383,n,e⟩]:List Claim) ((0:Nat):Int)=some ⟨0,16383,n,e⟩ from rfl,Af]
 rw[show leI 0 slot=true from decide_eq_true h1,Aj,Af,show leI slot 16383=true from decide_eq_true (by omega),Aj]
theorem LY {α:Type} (A C:List α) (x:α):insL (A++[]++C) A.length x=A++[x]++C:=by
 unfold insL
 rw[List.append_nil,List.take_left',List.drop_left'] <;> simp
theorem Oa (n:Node) (h:OkN n) (hm:n.master=-1) (hc:n.count=4) (slot tt e:Int) (h1:0≤slot) (h2:slot<16384) (h3:0≤tt) (h4:tt<4) (h5:tt≠n.id)
  (hOf:Cr big n.claims slot=some (n.id,e,true)) (A B C:List Move) (hmv:n.moves=A++B++C) (hA:∀ a∈A,a.slot<slot) (hC:∀ x∈C,slot<x.slot) (hB:B=[]∨∃ x,B=[x]∧x.slot=slot) :
  B8 big n slot tt=some (if B=[] then ({ n with moves:=A++[⟨slot,tt,0,⟨#[]⟩⟩]++C },0) else (n,3)):=by
 have hmvl:=h.mv
 have f1:ltI slot 0=false:=BK (by omega)
 have f2:geI slot 16384=false:=geF (by omega)
 have f3:ltI tt 0=false:=BK (by omega)
 have f4:geI tt n.count=false:=geF (by omega)
 have f5:eqI tt n.id=false:=eqF' h5
 have f6:neI n.master (-1)=false:=by rw[hm];rfl
 unfold B8
 rw[show (⟨n.count,n.id,n.master,n.epoch,n.voted,n.claims,n.db,n.moves,n.last,n.seen,n.feed,n.watch,n.asked,n.votes,n.wait⟩:Node)=n from rfl,LW n h,Af]
 simp only[Ai,Af,Aj,Ak,Al,Am,Ag,Option.some.injEq,f1,f2,f3,f4,f5,f6,hOf,Ez,DY,AR (show n.moves.length≤1000000000 by omega)]
 have hf:=KS A B C slot hA hC hB (by rw[← hmv];exact hmvl)
 rw[← hmv] at hf
 simp only[hf,Ai,Af,Aj,Ak,Al,Am,Ag,Option.some.injEq]
 rcases hB with rfl|⟨x,rfl,hx⟩
 ·rw[if_pos rfl]
  have hl:n.moves.length=A.length+C.length:=by rw[hmv];simp
  rw[show (!([]:List Move).isEmpty)=false from rfl,Ak,F6 (show insB n.moves (A.length:Int)=true from decide_eq_true (by omega)),show ((A.length:Int)).toNat=A.length from rfl]
  rw[show insL n.moves A.length (⟨slot,tt,0,⟨#[]⟩⟩:Move)=A++[⟨slot,tt,0,⟨#[]⟩⟩]++C by rw[hmv];exact LY A C _]
  rw[AR (by simp;omega)]
 ·rw[if_neg (by simp)]
  rfl
def giveP (cl:List Claim) (s tt ep:Int):List Claim:=(Bd big cl [⟨s,s⟩] tt ep).getD []
def msgP (n:Node) (m:Move):Msg:=⟨2,n.id,m.to,0,[],[],0,m.slot,m.num,⟨0,0⟩,⟨0,0⟩,0,[⟨m.key,false,(rawP n.db m.key).getD noI⟩]⟩
def relT (n:Node) (m:Move):Node:={ n with epoch:=n.epoch+1,claims:=giveP n.claims m.slot m.to (n.epoch+1) }
def lockT (n:Node):Node:={ n with last:=n.last+1 }
def lockM (n:Node) (m:Move):Move:=⟨m.slot,m.to,n.last+1,(inP n.db m.slot).headD ⟨#[]⟩⟩
def stepT (a:Node×List Move×List Msg) (m:Move):Node×List Move×List Msg :=
 if m.num=0 then
  if inP a.1.db m.slot=[] then (relT a.1 m,a.2.1,a.2.2)
  else (lockT a.1,a.2.1++[lockM a.1 m],a.2.2++[msgP (lockT a.1) (lockM a.1 m)])
 else (a.1,a.2.1++[m],a.2.2++[msgP a.1 m])
def TickP (n:Node):Node×List Msg:=({ (n.moves.foldl stepT (n,[],[])).1 with moves:=(n.moves.foldl stepT (n,[],[])).2.1 },(n.moves.foldl stepT (n,[],[])).2.2)
structure InT (G:Nat→List Claim→Prop) (n:Node) (i:Nat) (a:Node×List Move×List Msg):Prop where
 db:a.1.db=n.db
 l0:n.last≤a.1.last
 l1:a.1.last≤n.last+i
 e0:n.epoch≤a.1.epoch
 e1:a.1.epoch≤n.epoch+i
 g:G i a.1.claims
 m1:a.2.1.length≤i
 m2:a.2.2.length≤i
 same:a.1={ n with last:=a.1.last,epoch:=a.1.epoch,claims:=a.1.claims }
def GiveOk (G:Nat→List Claim→Prop) (l:List Move):Prop:=(∀ i cl,G i cl→G (i+1) cl)∧∀ i cl ep (hi:i<l.length),G i cl→1≤ep→ep≤2000000→Bd big cl [⟨l[i].slot,l[i].slot⟩] l[i].to ep=some (giveP cl l[i].slot l[i].to ep)∧G (i+1) (giveP cl l[i].slot l[i].to ep)
theorem Oc {G:Nat→List Claim→Prop} {n:Node} {i:Nat} {a:Node×List Move×List Msg} (h:InT G n i a) (m:Move) (he:0≤n.epoch∧n.epoch+i≤1500000) (hG0:G (i+1) a.1.claims) (hG:∀ ep,1≤ep→ep≤2000000→G (i+1) (giveP a.1.claims m.slot m.to ep)):InT G n (i+1) (stepT a m):=by
 obtain⟨h1,h2,h3,h4,h5,h6,h7,h8,h9⟩:=h
 unfold stepT
 split
 ·split
  ·refine⟨h1,h2,by show a.1.last≤_;omega,by show n.epoch≤a.1.epoch+1;omega,by show a.1.epoch+1≤_;omega,hG _ (by omega) (by omega),by show a.2.1.length≤_;omega,by show a.2.2.length≤_;omega,?_⟩
   conv=>lhs;unfold relT;rw[h9]
   rfl
  ·refine⟨h1,by show n.last≤a.1.last+1;omega,by show a.1.last+1≤_;omega,h4,by show a.1.epoch≤_;omega,hG0,by simp;omega,by simp;omega,?_⟩
   conv=>lhs;unfold lockT;rw[h9]
   rfl
 ·exact⟨h1,h2,by show a.1.last≤_;omega,h4,by show a.1.epoch≤_;omega,hG0,by simp;omega,by simp;omega,h9⟩
theorem HP {G:Nat→List Claim→Prop} {n:Node} (he:0≤n.epoch∧n.epoch≤1000000) (hl:n.moves.length≤1000) (g0:G 0 n.claims) (hG:GiveOk G n.moves):∀ i,i≤n.moves.length→InT G n i ((n.moves.take i).foldl stepT (n,[],[]))
 |0,_=>⟨rfl,Int.le_refl _,by show n.last≤_;omega,Int.le_refl _,by show n.epoch≤_;omega,g0,Nat.le_refl _,Nat.le_refl _,rfl⟩
 |i+1,hi=>by
  have ih:=HP he hl g0 hG i (by omega)
  rw[← List.take_append_getElem (show i<n.moves.length by omega),List.foldl_append]
  exact Oc ih _ (by omega) (hG.1 _ _ ih.g) fun ep h1 h2=>(hG.2 _ _ ep (by omega) ih.g h1 h2).2
theorem ND (n:Node) (m:Move) (h1:SrtP n.db) (h2:okP n.db) (h3:n.db.length≤1000):DC big n m=some (msgP n m):=by
 unfold DC
 rw[KJ _ _ h1 h2 (by omega),Af,AN (by omega) (by omega)]
 rfl
theorem LZ (G:Nat→List Claim→Prop) (n:Node) (h:OkN n) (hm:n.master=-1) (hl:0≤n.last∧n.last≤1000000) (he:0≤n.epoch∧n.epoch≤1000000) (g0:G 0 n.claims) (hG:GiveOk G n.moves):BN big n=some (TickP n):=by
 have hmv:=h.mv
 have hdl:=h.dl
 unfold BN
 rw[PW n h,Af,Ai,show neI n.master (-1)=false by rw[hm];rfl,Ak]
 rw[show DN big n.moves=some n.moves from rfl]
 have hfin:=HP he hmv g0 hG n.moves.length (Nat.le_refl _)
 rw[List.take_length] at hfin
 simp only[Ai,Af,Aj,Ak,Al,Am,Ag,Option.some.injEq]
 refine congrArg (fun x=>bn x _) (?_:_=some (n.moves.foldl stepT (n,[],[]))) |>.trans ?_
 ·refine FK n.moves stepT (fun i a=>((i:Int),a.1,a.2.1,a.2.2)) (n,[],[]) (n.moves.foldl stepT (n,[],[])) (by omega) rfl (fun i hi a ha=>?_) ?_ rfl
  ·have hI:=HP he hmv g0 hG i (by omega)
   rw[← ha] at hI
   obtain⟨h1,h2,h3,h4,h5,h6,h7,h8,h9⟩:=hI
   have hL0:0≤a.1.last:=by omega
   simp only[Ai,Af,Aj,Ak,Al,Am,Ag,Option.some.injEq]
   rw[B5 (by omega),Aj,Aw hi,Af,Ar (show -9223372036854775808≤(i:Int)+1 by omega) (by omega),show (i:Int)+1=((i+1:Nat):Int) by omega]
   have hsrt:SrtP a.1.db:=by rw[h1];exact h.srt
   have hok:okP a.1.db:=by rw[h1];exact h.okd
   have hdb:a.1.db.length≤1000:=by rw[h1];exact hdl
   have hky:∀ p∈a.1.db,p.key.size≤1000000000000:=fun p hp=>by
    rw[h1] at hp
    have:=Ej (h.key p hp)
    omega
   have hr1:∀ {γ:Type} {k:Option γ},chk (room (a.2.1.length+1) 40) k=k:=AN (by omega) (by omega)
   have hr2:∀ {γ:Type} {k:Option γ},chk (room (a.2.2.length+1) 168) k=k:=AN (by omega) (by omega)
   by_cases hz:(n.moves[i]).num=0
   ·rw[show eqI (n.moves[i]).num 0=true by rw[hz];rfl,Aj,Ln _ _ (by omega) hky,Af,show eqI ((inP a.1.db (n.moves[i]).slot).length:Int) 0=decide (inP a.1.db (n.moves[i]).slot=[]) from len0 _]
    by_cases hin:inP a.1.db (n.moves[i]).slot=[]
    ·rw[decide_eq_true hin,Aj]
     have hg:=hG.2 i a.1.claims (a.1.epoch+1) hi h6 (by omega) (by omega)
     rw[show B1 big a.1 n.moves[i]=some (relT a.1 n.moves[i]) from ?_]
     ·simp only[Ai,Af,Aj,Ak,Al,Am,Ag,Option.some.injEq,Am]
      rw[stepT,if_pos hz,if_pos hin]
     ·unfold B1
      rw[Ar (by omega) (by omega),Ai,AN (by omega) (by omega),hg.1]
      rfl
    ·rw[decide_eq_false hin,Ak,Ar (by omega) (by omega)]
     obtain⟨k,ks,hks⟩:=List.exists_cons_of_ne_nil hin
     rw[hks,show nth (k::ks) 0=some k from rfl]
     simp only[Ai,Af,Aj,Ak,Al,Am,Ag,Option.some.injEq,Al,hr1,hr2]
     have hmsg:=ND (lockT a.1) ⟨(n.moves[i]).slot,(n.moves[i]).to,a.1.last+1,k⟩ hsrt hok hdb
     unfold lockT at hmsg
     rw[hmsg]
     rw[stepT,if_pos hz,if_neg hin]
     simp only[Ai,Af,Aj,Ak,Al,Am,Ag,Option.some.injEq,hr2]
     unfold lockM
     rw[hks]
     rfl
   ·rw[eqF' hz,Ak]
    simp only[Ai,Af,Aj,Ak,Al,Am,Ag,Option.some.injEq,Al,hr1,hr2]
    rw[ND _ _ hsrt hok hdb]
    rw[stepT,if_neg hz]
    simp only[Ai,Af,Aj,Ak,Al,Am,Ag,Option.some.injEq,hr2]
  ·simp only[Ai,Af,Aj,Ak,Al,Am,Ag,Option.some.injEq]
   rw[BK (by omega),Ak]
 ·have m1:=hfin.m1
  have m2:=hfin.m2
  rw[Af,AR (by omega),AR (by omega)]
  rfl
def goneE (k:ByteArray):Effect:=⟨k,true,noI⟩
theorem Od (k:ByteArray):okI (goneE k).item:=Nm
theorem Io (n:Node) (h:OkN n) (e:Effect) (he:okI e.item) (f:Node→List Effect→Option Node) (hf:f=Cj big∨f=Bo big):f n [e]=some { n with db:=applyP n.db e,feed:=addF n.feed [e] }:=by
 have h1:=h.dl
 have h2:=h.bl
 have ha:=IO n.db [e] h.srt h.okd (fun x hx=>by simp at hx;subst hx;exact he) (by simp;omega)
 have hb:=N2 n.feed [e] h.bk ⟨by simp,fun x hx=>by simp at hx;subst hx;exact he⟩ (by simp;omega)
 rcases hf with rfl|rfl
 ·unfold Cj
  rw[ha,Af,hb,Af]
  rfl
 ·unfold Bo
  rw[ha,Af,hb,Af]
  rfl
def AckedP (n:Node) (A:List Move) (x:Move) (C:List Move):Node:={ n with db:=applyP n.db (goneE x.key),feed:=addF n.feed [goneE x.key],moves:=A++[⟨x.slot,x.to,0,⟨#[]⟩⟩]++C }
theorem G9 {α:Type} (A C:List α) (x y:α):(A++[x]++C).set A.length y=A++[y]++C:=by
 rw[List.append_assoc,List.append_assoc,List.set_append_right _ _ (Nat.le_refl _),Nat.sub_self]
 rfl
theorem EX {α:Type} (A C:List α) (x:α):nth (A++[x]++C) (A.length:Int)=some x:=by
 rw[G5,List.append_assoc,List.getElem?_append_right (Nat.le_refl _),Nat.sub_self]
 rfl
theorem NE (n:Node) (h:OkN n) (m:Msg) (A C:List Move) (x:Move) (hmv:n.moves=A++[x]++C) (hA:∀ a∈A,a.slot<m.slot) (hC:∀ y∈C,m.slot<y.slot) (h1:x.slot=m.slot) (h2:1≤x.num) (h3:x.num=m.num) (h4:x.to=m.frm) :
  Ca big n m=some (AckedP n A x C):=by
 have hl:=h.mv
 have hf:=KS A [x] C m.slot hA hC (.inr ⟨x,rfl,h1⟩) (by rw[← hmv];exact hl)
 have hl2:(A++[x]++C).length≤1000:=by rw[← hmv];exact hl
 unfold Ca
 rw[LW n h,Af,AR (by omega),hmv,hf,Af]
 rw[show notB (!([x]:List Move).isEmpty)=false from rfl]
 simp only[Ai,Af,Aj,Ak,Al,Am,Ag,Option.some.injEq]
 rw[EX A C x]
 simp only[Ai,Af,Aj,Ak,Al,Am,Ag,Option.some.injEq]
 rw[BK (by omega),Ak,h3,DY,Ak,h4,DY]
 simp only[Ai,Af,Aj,Ak,Al,Am,Ag,Option.some.injEq]
 rw[show (⟨x.key,true,(⟨0,⟨#[]⟩,[],[],0⟩:Item)⟩:Effect)=goneE x.key from rfl,Io n h _ (Od _) _ (.inl rfl)]
 simp only[Ai,Af,Aj,Ak,Al,Am,Ag,Option.some.injEq]
 rw[hmv,EX A C x]
 simp only[Ai,Af,Aj,Ak,Al,Am,Ag,Option.some.injEq]
 rw[show ((A.length:Int)).toNat=A.length from rfl,G9,EX]
 simp only[Ai,Af,Aj,Ak,Al,Am,Ag,Option.some.injEq]
 rw[G9,AR (by simp at hl2 ⊢;omega)]
 rfl
end Go.Proofs.YtlbdhlbbkibgpaaGreat
namespace Go.Proofs.YtlbdhlbbkibgpaaGreat
open Go Go.RowKit
section
variable {β:Type}
def fnP:List (Int×Int×β)→Int→Option β
 |[],_=>none
 |p::l,s=>if p.1≤s∧s≤p.2.1 then some p.2.2 else fnP l s
def canP:List (Int×Int×β)→Prop
 |[]=>True
 |[p]=>p.1≤p.2.1
 |p::q::l=>p.1≤p.2.1∧p.2.1<q.1∧¬ (p.2.1+1=q.1∧p.2.2=q.2.2)∧canP (q::l)
theorem canP.head {p:Int×Int×β} {l:List (Int×Int×β)} (h:canP (p::l)):p.1≤p.2.1:=by
 cases l with
 |nil=>exact h
 |cons q l=>exact h.1
theorem canP.tail {p:Int×Int×β} {l:List (Int×Int×β)} (h:canP (p::l)):canP l:=by
 cases l with
 |nil=>trivial
 |cons q l=>exact h.2.2.2
theorem canP.lt {p:Int×Int×β}:∀ {l:List (Int×Int×β)},canP (p::l)→∀ q∈l,p.2.1<q.1
 |[],_,q,hq=>by simp at hq
 |r::l,h,q,hq=>by
  rcases List.mem_cons.1 hq with rfl|hq
  ·exact h.2.1
  ·have h1:=canP.lt h.2.2.2 q hq
   have h2:=canP.head h.2.2.2
   have h3:=h.2.1
   omega
theorem Di {l:List (Int×Int×β)} {s:Int} (h:∀ p∈l,¬ (p.1≤s∧s≤p.2.1)):fnP l s=none:=by
 induction l with
 |nil=>rfl
 |cons p l ih =>
  simp only[fnP]
  rw[if_neg (h p (by simp)),ih fun q hq=>h q (by simp[hq])]
theorem D4 {p:Int×Int×β} {l:List (Int×Int×β)} (h:canP (p::l)) {s:Int} (hs:s≤p.2.1):fnP l s=none :=
 Di fun q hq hc=>by have:=h.lt q hq;omega
theorem BH {p:Int×Int×β} {l:List (Int×Int×β)} {s:Int} (h1:p.1≤s) (h2:s≤p.2.1):fnP (p::l) s=some p.2.2:=by
 simp only[fnP]
 rw[if_pos ⟨h1,h2⟩]
theorem Cb {p:Int×Int×β} {l:List (Int×Int×β)} {s:Int} (h:¬ (p.1≤s∧s≤p.2.1)):fnP (p::l) s=fnP l s:=by
 simp only[fnP]
 rw[if_neg h]
theorem HQ:∀ {l m:List (Int×Int×β)},canP l→canP m→(∀ s,fnP l s=fnP m s)→l=m
 |[],[],_,_,_=>rfl
 |[],q::m,_,hm,h=>by
  have:=h q.1
  rw[BH (Int.le_refl _) hm.head] at this
  simp[fnP] at this
 |p::l,[],hl,_,h=>by
  have:=h p.1
  rw[BH (Int.le_refl _) hl.head] at this
  simp[fnP] at this
 |p::l,q::m,hl,hm,h=>by
  have hp:=hl.head
  have hq:=hm.head
  have e1:p.1=q.1:=by
   rcases Int.lt_trichotomy p.1 q.1 with hlt|he|hgt
   ·exfalso
    have:=h p.1
    rw[BH (Int.le_refl _) hp,Cb (by omega),D4 hm (by omega)] at this
    simp at this
   ·exact he
   ·exfalso
    have:=h q.1
    rw[BH (p:=q) (Int.le_refl _) hq,Cb (by omega),D4 hl (by omega)] at this
    simp at this
  have e2:p.2.2=q.2.2:=by
   have:=h p.1
   rw[BH (Int.le_refl _) hp,BH (by omega) (by omega)] at this
   exact Option.some.inj this
  have key:∀ {p q:Int×Int×β} {l m:List (Int×Int×β)},canP (p::l)→canP (q::m)→(∀ s,fnP (p::l) s=fnP (q::m) s)→p.1=q.1→p.2.2=q.2.2→¬ p.2.1<q.2.1:=by
   intro p q l m hl hm h e1 e2 hlt
   have hp:=hl.head
   have:=h (p.2.1+1)
   rw[Cb (by omega),BH (p:=q) (by omega) (by omega)] at this
   cases l with
   |nil=>simp[fnP] at this
   |cons r l =>
    have hr:=hl.2.1
    have hr2:=canP.head hl.2.2.2
    rcases Decidable.em (p.2.1+1=r.1) with e|e
    ·rw[BH (by omega) (by omega)] at this
     have:=Option.some.inj this
     exact hl.2.2.1 ⟨e,by rw[e2,this]⟩
    ·rw[Cb (by omega),D4 hl.2.2.2 (by omega)] at this
     simp at this
  have e3:p.2.1=q.2.1:=by
   have a:=key hl hm h e1 e2
   have b:=key hm hl (fun s=>(h s).symm) e1.symm e2.symm
   omega
  have e4:p=q:=Prod.ext e1 (Prod.ext e3 e2)
  subst e4
  rw[HQ hl.tail hm.tail fun s=>?_]
  rcases Decidable.em (s≤p.2.1) with hs|hs
  ·rw[D4 hl hs,D4 hm hs]
  ·have:=h s
   rwa [Cb (by omega),Cb (by omega)] at this
theorem Gb (l m:List (Int×Int×β)) (s:Int):fnP (l++m) s=match fnP l s with|some v=>some v|none=>fnP m s:=by
 induction l with
 |nil=>rfl
 |cons p l ih =>
  simp only[List.cons_append,fnP]
  split
  ·rfl
  ·exact ih
theorem GY:∀ {l:List (Int×Int×β)} {p:Int×Int×β},canP l→p.1≤p.2.1→(∀ q,l.getLast?=some q→q.2.1<p.1∧¬ (q.2.1+1=p.1∧q.2.2=p.2.2))→canP (l++[p])
 |[],p,_,hp,_=>hp
 |[q],p,hq,hp,h=>by
  obtain⟨h1,h2⟩:=h q rfl
  exact⟨hq,h1,h2,hp⟩
 |q::r::l,p,hl,hp,h=>by
  refine⟨hl.1,hl.2.1,hl.2.2.1,?_⟩
  exact GY (l:=r::l) hl.2.2.2 hp fun x hx=>h x (by rw[List.getLast?_cons_cons];exact hx)
theorem Jj:∀ {l:List (Int×Int×β)} {p:Int×Int×β},canP (l++[p])→canP l∧p.1≤p.2.1∧(∀ q,l.getLast?=some q→q.2.1<p.1∧¬ (q.2.1+1=p.1∧q.2.2=p.2.2))
 |[],p,h=>⟨trivial,h,fun q hq=>by simp at hq⟩
 |[q],p,h=>by
  refine⟨h.1,h.2.2.2,fun x hx=>?_⟩
  simp at hx
  subst hx
  exact⟨h.2.1,h.2.2.1⟩
 |q::r::l,p,h=>by
  have h':canP ((r::l)++[p]):=h.2.2.2
  obtain⟨a,b,c⟩:=Jj h'
  exact⟨⟨h.1,h.2.1,h.2.2.1,a⟩,b,fun x hx=>c x (by rw[List.getLast?_cons_cons] at hx;exact hx)⟩
structure BdP (at_:Int) (out:List (Int×Int×β)) (f:Int→Option β):Prop where
 can:canP out
 pos:∀ p∈out,p.2.1<at_
 fn:∀ s,s<at_→fnP out s=f s
def putP [DecidableEq β] (l:List (Int×Int×β)) (p:Int×Int×β):List (Int×Int×β) :=
 match l.getLast? with
 |some q=>if q.2.1+1=p.1∧q.2.2=p.2.2 then l.dropLast++[(q.1,p.2.1,q.2.2)] else l++[p]
 |none=>[p]
theorem BdP.skip {a b:Int} {out:List (Int×Int×β)} {f:Int→Option β} (h:BdP a out f) (hab:a≤b) (hf:∀ s,a≤s→s<b→f s=none):BdP b out f:=by
 refine⟨h.can,fun p hp=>by have:=h.pos p hp;omega,fun s hs=>?_⟩
 rcases Decidable.em (s<a) with h1|h1
 ·exact h.fn s h1
 ·rw[hf s (by omega) hs]
  exact Di fun p hp hc=>by have:=h.pos p hp;omega
theorem BdP.put [DecidableEq β] {a b:Int} {v:β} {out:List (Int×Int×β)} {f:Int→Option β} (h:BdP a out f) (hab:a≤b) (hf:∀ s,a≤s→s≤b→f s=some v):BdP (b+1) (putP out (a,b,v)) f:=by
 have hcan:=h.can
 unfold putP
 split
 ·rename_i q hq
  obtain⟨l,hl⟩:=List.getLast?_eq_some_iff.1 hq
  subst hl
  have hqp:=h.pos q (by simp)
  obtain⟨c1,c2,c3⟩:=Jj hcan
  split
  ·rename_i hc
   obtain⟨g1,g2⟩:=hc
   rw[List.dropLast_concat]
   refine⟨GY c1 (by simp only at g1 ⊢;omega) (fun x hx=>?_),?_,?_⟩
   ·exact c3 x hx
   ·intro p hp
    rcases List.mem_append.1 hp with hp|hp
    ·have:=h.pos p (by simp[hp])
     omega
    ·simp at hp
     subst hp
     simp only
     omega
   ·intro s hs
    rw[Gb]
    rcases Decidable.em (s<a) with h1|h1
    ·have:=h.fn s h1
     rw[← this,Gb]
     cases fnP l s with
     |some w=>rfl
     |none =>
      simp only[fnP]
      simp only at g1
      rcases Decidable.em (q.1≤s∧s≤q.2.1) with h2|h2
      ·rw[if_pos h2,if_pos ⟨h2.1,by omega⟩]
      ·rw[if_neg h2,if_neg (by omega)]
    ·rw[hf s (by omega) (by omega)]
     have:fnP l s=none:=Di fun p hp hc=>by have:=h.pos p (by simp[hp]);omega
     rw[this]
     simp only[fnP]
     simp only at g1 g2
     rw[if_pos ⟨by omega,by omega⟩,g2]
  ·rename_i hc
   refine⟨GY hcan hab fun x hx=>?_,?_,?_⟩
   ·rw[hq] at hx
    have:=Option.some.inj hx
    subst this
    exact⟨hqp,hc⟩
   ·intro p hp
    rcases List.mem_append.1 hp with hp|hp
    ·have:=h.pos p hp
     omega
    ·simp at hp
     subst hp
     simp only
     omega
   ·intro s hs
    rw[Gb]
    rcases Decidable.em (s<a) with h1|h1
    ·rw[h.fn s h1]
     cases f s with
     |some w=>rfl
     |none =>
      simp only[fnP]
      rw[if_neg (by omega)]
    ·rw[hf s (by omega) (by omega)]
     have:fnP (l++[q]) s=none:=Di fun p hp hc=>by have:=h.pos p hp;omega
     rw[this]
     simp only[fnP]
     rw[if_pos ⟨by omega,by omega⟩]
 ·rename_i hn
  have:out=[]:=List.getLast?_eq_none_iff.1 hn
  subst this
  refine⟨hab,?_,?_⟩
  ·intro p hp
   simp at hp
   subst hp
   simp only
   omega
  ·intro s hs
   simp only[fnP]
   rcases Decidable.em (s<a) with h1|h1
   ·have:=h.fn s h1
    rw[if_neg (by omega),← this]
    rfl
   ·rw[if_pos ⟨by omega,by omega⟩,hf s (by omega) (by omega)]
theorem BdP.nil {a:Int} {f:Int→Option β} (hf:∀ s,s<a→f s=none):BdP a [] f:=⟨trivial,fun p hp=>by simp at hp,fun s hs=>by rw[hf s hs];rfl⟩
theorem BdP.ext {a b:Int} {l m:List (Int×Int×β)} {f:Int→Option β} (hl:BdP a l f) (hm:BdP b m f) (hf:∀ s,a≤s∨b≤s→f s=none):l=m:=by
 refine HQ hl.can hm.can fun s=>?_
 have h1:fnP l s=f s:=by
  rcases Decidable.em (s<a) with h|h
  ·exact hl.fn s h
  ·rw[hf s (.inl (by omega))]
   exact Di fun p hp hc=>by have:=hl.pos p hp;omega
 have h2:fnP m s=f s:=by
  rcases Decidable.em (s<b) with h|h
  ·exact hm.fn s h
  ·rw[hf s (.inr (by omega))]
   exact Di fun p hp hc=>by have:=hm.pos p hp;omega
 rw[h1,h2]
theorem HR {s:Int}:∀ {l:List (Int×Int×β)},(∀ p∈l,s+1≠p.1∧s+1≠p.2.1+1)→fnP l (s+1)=fnP l s
 |[],_=>rfl
 |p::l,h=>by
  have h1:=h p (by simp)
  have ih:=HR (l:=l) fun q hq=>h q (by simp[hq])
  simp only[fnP]
  rcases Decidable.em (p.1≤s∧s≤p.2.1) with h2|h2
  ·rw[if_pos h2,if_pos (by omega)]
  ·rw[if_neg h2,ih]
   rcases Decidable.em (p.1≤s+1∧s+1≤p.2.1) with h3|h3
   ·omega
   ·rw[if_neg h3]
end
end Go.Proofs.YtlbdhlbbkibgpaaGreat
namespace Go.Proofs.YtlbdhlbbkibgpaaGreat
open Go Go.RowKit
theorem Rn.eqv {α:Type} {m:Option α} {v:α} (h:Rn m (·=v)):m=Option.some v:=by
 obtain⟨w,h1,rfl⟩:=h
 exact h1
theorem le_t {a b:Int} (h:a≤b):leI a b=true:=decide_eq_true h
theorem le_f {a b:Int} (h:b<a):leI a b=false:=decide_eq_false (by omega)
theorem gt_t {a b:Int} (h:b<a):gtI a b=true:=decide_eq_true h
theorem eq_t {a b:Int} (h:a=b):eqI a b=true:=decide_eq_true h
theorem eq_f {a b:Int} (h:a≠b):eqI a b=false:=decide_eq_false h
def SM (m:List Int):Prop:=m.Pairwise (·<·)∧∀ x∈m,0≤x∧x≤16384
theorem SM.nil:SM []:=⟨List.Pairwise.nil,fun x hx=>by simp at hx⟩
def cP (c:Claim):Int×Int×(Int×Int):=(c.frm,c.to,(c.node,c.epoch))
def fC (l:List Claim) (s:Int):Option (Int×Int):=fnP (l.map cP) s
def inB (x:Int):Prop:=-1000000≤x∧x≤1000000
theorem Of_ok (l:List Claim) (s:Int) (hl:l.length≤1000000):C8 big l s=some ((fC l s).getD (-1,0)):=by
 refine Rn.eqv ?_
 unfold C8
 refine Rn.bn (P:=fun y=>y=match fC l s with|some v=>.inr v|none=>.inl ()) (Rn.iter _ (fun j a=>a=(j:Int)∧fC l s=fC (l.drop j) s) l.length (by unfold big;omega) ⟨rfl,by simp⟩ fun j a hj hI=>?_) fun y hy=>?_
 ·obtain⟨rfl,hI⟩:=hI
  refine Rn.lt (Rn.lt (Rn.ite (fun hd=>?_) fun hd=>?_))
  ·have hjl:j<l.length:=by
    have:=of_decide_eq_true (p:=((j:Int)<(l.length:Int))) hd
    omega
   have hnth:=Aw hjl
   rw[List.drop_eq_getElem_cons hjl] at hI
   generalize l[j]=c at hI hnth
   rcases Decidable.em (c.frm≤s∧s≤c.to) with hc|hc
   ·refine Rn.bnE (v:=true) ?_ (Rn.lt (Rn.ite (fun _=>Rn.bnE hnth (Rn.some ?_)) (fun h=>by simp at h)))
    ·rw[hnth]
     simp only[Af,Ai]
     rw[le_t hc.1,Aj,le_t hc.2]
    ·rw[hI,show fC (c::List.drop (j+1) l) s=some (c.node,c.epoch) from BH (p:=cP c) hc.1 hc.2]
   ·refine Rn.bnE (v:=false) ?_ (Rn.lt (Rn.ite (fun h=>by simp at h) fun _=>Rn.lt (Rn.some ⟨hjl,?_,?_⟩)))
    ·rw[hnth]
     simp only[Af,Ai]
     rcases Decidable.em (c.frm≤s) with h1|h1
     ·rw[le_t h1,Aj,le_f (by omega)]
     ·rw[le_f (by omega),Ak]
    ·rw[Ar (by omega) (by omega)]
     rfl
    ·rw[hI]
     exact Cb (p:=cP c) hc
  ·have hjl:j=l.length:=by
    have:=of_decide_eq_false (p:=((j:Int)<(l.length:Int))) hd
    omega
   subst hjl
   rw[List.drop_length] at hI
   refine Rn.some ?_
   rw[hI]
   rfl
 ·subst hy
  cases fC l s with
  |some v=>exact Rn.some rfl
  |none=>exact Rn.some rfl
end Go.Proofs.YtlbdhlbbkibgpaaGreat
namespace Go.Proofs.YtlbdhlbbkibgpaaGreat
open Go Go.RowKit
section
variable {β:Type}
def FinP (out:List (Int×Int×β)) (f:Int→Option β):Prop:=canP out∧∀ s,fnP out s=f s
theorem FinP.ext {l m:List (Int×Int×β)} {f g:Int→Option β} (hl:FinP l f) (hm:FinP m g) (h:∀ s,f s=g s):l=m:=HQ hl.1 hm.1 fun s=>by rw[hl.2,hm.2,h]
def Stp (m:List Int) (f:Int→Option β):Prop:=(∀ s,s+1 ∉ m→f (s+1)=f s)∧∀ s,s<0∨16384≤s→f s=none
theorem Stp.const {m:List Int} {f:Int→Option β} (h:Stp m f) {a s:Int} (h1:a≤s) (h2:∀ x∈m,¬ (a<x∧x≤s)):f s=f a:=by
 obtain⟨n,hn⟩:=Int.eq_ofNat_of_zero_le (show 0≤s - a by omega)
 have key:∀ k:Nat,k≤n→f (a+k)=f a:=by
  intro k
  induction k with
  |zero=>intro _;simp
  |succ k ih =>
   intro hk
   have e:a+((k+1:Nat):Int)=(a+k)+1:=by omega
   rw[e,h.1 (a+k) (fun hmem=>h2 _ hmem (by omega)),ih (by omega)]
 have:=key n (Nat.le_refl _)
 rwa [← hn,show a+(s - a)=s by omega] at this
theorem Stp.first {m:List Int} {f:Int→Option β} (h:Stp m f) (hm:SM m) (hl:0<m.length):BdP m[0] [] f:=by
 refine BdP.nil fun s hs=>?_
 rcases Decidable.em (s<0) with h0|h0
 ·exact h.2 s (.inl h0)
 ·rw[h.const (a:=-1) (by omega) fun x hx hc=>?_]
  ·exact h.2 _ (.inl (by omega))
  ·obtain⟨i,hi,rfl⟩:=List.mem_iff_getElem.1 hx
   rcases Nat.eq_zero_or_pos i with rfl|hp
   ·omega
   ·have:=List.pairwise_iff_getElem.1 hm.1 0 i hl hi hp
    omega
theorem Stp.next [DecidableEq β] {m:List Int} {f:Int→Option β} (h:Stp m f) (hm:SM m) {j:Nat} (hj:j+1<m.length) {out:List (Int×Int×β)} (hb:BdP m[j] out f) :
  (f m[j]=none→BdP m[j+1] out f)∧∀ v,f m[j]=some v→BdP m[j+1] (putP out (m[j],m[j+1] - 1,v)) f:=by
 have hlt:=List.pairwise_iff_getElem.1 hm.1 j (j+1) (by omega) hj (by omega)
 have hc:∀ s,m[j]≤s→s<m[j+1]→f s=f m[j]:=by
  intro s h1 h2
  refine h.const h1 fun x hx hc=>?_
  obtain⟨i,hi,rfl⟩:=List.mem_iff_getElem.1 hx
  rcases Nat.lt_trichotomy i j with h3|rfl|h3
  ·have:=List.pairwise_iff_getElem.1 hm.1 i j hi (by omega) h3
   omega
  ·omega
  ·rcases Nat.eq_or_lt_of_le h3 with h4|h4
   ·subst h4
    have h5:m[j.succ]=m[j+1]:=rfl
    omega
   ·have:=List.pairwise_iff_getElem.1 hm.1 (j+1) i hj hi h4
    omega
 refine⟨fun hn=>hb.skip (by omega) fun s h1 h2=>by rw[hc s h1 h2,hn],fun v hv=>?_⟩
 have:=hb.put (b:=m[j+1] - 1) (v:=v) (by omega) fun s h1 h2=>by rw[hc s h1 (by omega),hv]
 rwa [show m[j+1] - 1+1=m[j+1] by omega] at this
theorem Stp.last {m:List Int} {f:Int→Option β} (h:Stp m f) (hm:SM m) {j:Nat} (hj:j<m.length) (hl:m.length≤j+1) {out:List (Int×Int×β)} (hb:BdP m[j] out f):FinP out f:=by
 refine⟨hb.can,fun s=>?_⟩
 rcases Decidable.em (s<m[j]) with h1|h1
 ·exact hb.fn s h1
 ·have e:f s=none:=by
   rcases Decidable.em (16384≤s) with h2|h2
   ·exact h.2 s (.inr h2)
   ·have:=h.const (a:=s) (s:=16384) (by omega) fun x hx hc=>by
     obtain⟨i,hi,rfl⟩:=List.mem_iff_getElem.1 hx
     rcases Nat.eq_or_lt_of_le (show i≤j by omega) with h3|h3
     ·subst h3
      omega
     ·have:=List.pairwise_iff_getElem.1 hm.1 i j hi hj h3
      omega
    rw[← this]
    exact h.2 _ (.inr (Int.le_refl _))
  rw[e]
  exact Di fun p hp hc=>by have:=hb.pos p hp;omega
theorem Stp.none {f:Int→Option β} (h:Stp [] f):FinP ([]:List (Int×Int×β)) f:=by
 refine⟨trivial,fun s=>?_⟩
 rcases Decidable.em (s<0) with h0|h0
 ·rw[h.2 s (.inl h0)];rfl
 ·rw[h.const (a:=-1) (by omega) (fun x hx=>by simp at hx),h.2 _ (.inl (by omega))];rfl
end
def sP (x:Span):Int×Int×Unit:=(x.frm,x.to,())
def inS (l:List Span) (s:Int):Prop:=(0≤s∧s<16384)∧∃ x∈l,x.frm≤s∧s≤x.to
instance (l:List Span) (s:Int):Decidable (inS l s):=by unfold inS;infer_instance
def fS (p:Int→Prop) [DecidablePred p] (s:Int):Option Unit:=if p s then some () else none
theorem Stp.inS {m:List Int} {l:List Span} (h0:(0:Int)∈m) (h1:(16384:Int)∈m) (h:∀ x∈l,x.frm≤x.to→(0≤x.frm∧x.frm≤16384→x.frm∈m)∧(x.to<16384→0≤x.to+1→x.to+1∈m)):∀ s,s+1 ∉ m→(Go.Proofs.YtlbdhlbbkibgpaaGreat.inS l (s+1)↔Go.Proofs.YtlbdhlbbkibgpaaGreat.inS l s):=by
 intro s hs
 have n0:s+1≠0:=fun e=>hs (e ▸ h0)
 have n1:s+1≠16384:=fun e=>hs (e ▸ h1)
 unfold Go.Proofs.YtlbdhlbbkibgpaaGreat.inS
 constructor
 ·rintro⟨a,x,hx,b,c⟩
  refine⟨by omega,x,hx,?_,by omega⟩
  rcases Decidable.em (x.frm≤s) with h2|h2
  ·exact h2
  ·exfalso
   have e:x.frm=s+1:=by omega
   have:=(h x hx (by omega)).1 (by omega)
   rw[e] at this
   exact hs this
 ·rintro⟨a,x,hx,b,c⟩
  refine⟨by omega,x,hx,by omega,?_⟩
  rcases Decidable.em (s+1≤x.to) with h2|h2
  ·exact h2
  ·exfalso
   have e:x.to=s:=by omega
   have:=(h x hx (by omega)).2 (by omega) (by omega)
   rw[e] at this
   exact hs this
end Go.Proofs.YtlbdhlbbkibgpaaGreat
namespace Go.Proofs.YtlbdhlbbkibgpaaGreat
open Go Go.RowKit
theorem Ph {p:Int→Prop} [DecidablePred p] {s:Int} (h:¬ p s):fS p s=none:=if_neg h
theorem Pi {p:Int→Prop} [DecidablePred p] {s:Int} (h:p s):fS p s=some ():=if_pos h
end Go.Proofs.YtlbdhlbbkibgpaaGreat
namespace Go.Proofs.YtlbdhlbbkibgpaaGreat
open Go Go.RowKit
section
variable {β:Type}
theorem Gc:∀ {l:List (Int×Int×β)} {p:Int×Int×β},canP l→p∈l→(p.1≤p.2.1∧∀ s,p.1≤s→s≤p.2.1→fnP l s=some p.2.2)
 |[],p,_,hp=>by simp at hp
 |q::l,p,h,hp=>by
  rcases List.mem_cons.1 hp with rfl|hp
  ·exact⟨h.head,fun s h1 h2=>BH h1 h2⟩
  ·obtain⟨h1,h2⟩:=Gc h.tail hp
   have h3:=h.lt p hp
   exact⟨h1,fun s g1 g2=>by rw[Cb (by omega),h2 s g1 g2]⟩
theorem HS:∀ {l:List (Int×Int×β)} {a b:Int},canP l→(∀ p∈l,a≤p.1∧p.2.1≤b)→a≤b+1→(l.length:Int)≤b+1 - a
 |[],a,b,_,_,h=>by simp;omega
 |p::l,a,b,hc,hp,h=>by
  have h1:=hp p (by simp)
  have h2:=hc.head
  have:=HS (a:=p.2.1+1) (b:=b) hc.tail (fun q hq=>⟨by have:=hc.lt q hq;omega,(hp q (by simp[hq])).2⟩) (by omega)
  simp
  omega
end
def RngC (l:List Claim):Prop:=∀ c∈l,0≤c.frm∧c.frm≤c.to∧c.to≤16383∧0≤c.node∧1≤c.epoch
def GoodC (l:List Claim):Prop:=canP (l.map cP)∧RngC l
def Tells (f:Int→Option (Int×Int)):Prop:=∀ s v,f s=some v→(0≤s∧s≤16383)∧0≤v.1∧1≤v.2
theorem FinP.good {l:List Claim} {f:Int→Option (Int×Int)} (h:FinP (l.map cP) f) (ht:Tells f):GoodC l:=by
 refine⟨h.1,fun c hc=>?_⟩
 obtain⟨h1,h2⟩:=Gc h.1 (List.mem_map_of_mem hc)
 have a:=ht c.frm _ ((h.2 _).symm.trans (h2 c.frm (Int.le_refl _) h1))
 have b:=ht c.to _ ((h.2 _).symm.trans (h2 c.to h1 (Int.le_refl _)))
 have h1':c.frm≤c.to:=h1
 have e1:(cP c).2.2.1=c.node:=rfl
 have e2:(cP c).2.2.2=c.epoch:=rfl
 rw[e1,e2] at a
 exact⟨a.1.1,h1',b.1.2,a.2.1,a.2.2⟩
theorem GoodC.tells {l:List Claim} (h:GoodC l):Tells (fC l):=by
 intro s v hv
 have key:∀ l:List Claim,RngC l→fC l s=some v→(0≤s∧s≤16383)∧0≤v.1∧1≤v.2:=by
  intro l
  induction l with
  |nil=>intro _ h;simp[fC,fnP] at h
  |cons c l ih =>
   intro hr hf
   have hc:=hr c (by simp)
   rcases Decidable.em (c.frm≤s∧s≤c.to) with h1|h1
   ·have:fC (c::l) s=some (c.node,c.epoch):=BH (p:=cP c) h1.1 h1.2
    rw[this] at hf
    have:=Option.some.inj hf
    subst this
    exact⟨by omega,hc.2.2.2.1,hc.2.2.2.2⟩
   ·have:fC (c::l) s=fC l s:=Cb (p:=cP c) h1
    rw[this] at hf
    exact ih (fun x hx=>hr x (by simp[hx])) hf
 exact key l h.2 hv
theorem GoodC.len {l:List Claim} (h:GoodC l):l.length≤16384:=by
 have:=HS (a:=0) (b:=16383) h.1 (fun p hp=>by
  obtain⟨c,hc,rfl⟩:=List.mem_map.1 hp
  have:=h.2 c hc
  exact⟨this.1,this.2.2.1⟩) (by omega)
 simp at this
 omega
theorem GoodC.fin {l:List Claim} (h:GoodC l):FinP (l.map cP) (fC l):=⟨h.1,fun _=>rfl⟩
theorem GoodC.step {l:List Claim} (h:GoodC l) {m:List Int} (hm:∀ c∈l,c.frm∈m∧c.to+1∈m):∀ s,s+1 ∉ m→fC l (s+1)=fC l s:=by
 intro s hs
 refine HR fun p hp=>?_
 obtain⟨c,hc,rfl⟩:=List.mem_map.1 hp
 obtain⟨h1,h2⟩:=hm c hc
 exact⟨fun e=>hs (by rw[e];exact h1),fun e=>hs (by rw[e];exact h2)⟩
def giveF (f:Int→Option (Int×Int)) (p:Int→Prop) [DecidablePred p] (v:Int×Int) (s:Int):Option (Int×Int):=if p s then some v else f s
theorem OE {l:List Span} {s:Int}:fnP (l.map sP) s=fS (fun s=>∃ x∈l,x.frm≤s∧s≤x.to) s:=by
 induction l with
 |nil=>rw[Ph (by simp)];rfl
 |cons x l ih =>
  rcases Decidable.em (x.frm≤s∧s≤x.to) with h|h
  ·rw[Pi ⟨x,by simp,h⟩]
   exact BH (p:=sP x) h.1 h.2
  ·have:fnP ((x::l).map sP) s=fnP (l.map sP) s:=Cb (p:=sP x) h
   rw[this,ih]
   unfold fS
   have:(∃ y∈x::l,y.frm≤s∧s≤y.to)↔(∃ y∈l,y.frm≤s∧s≤y.to):=by
    constructor
    ·rintro⟨y,hy,h2⟩
     rcases List.mem_cons.1 hy with rfl|hy
     ·exact absurd h2 h
     ·exact⟨y,hy,h2⟩
    ·rintro⟨y,hy,h2⟩
     exact⟨y,by simp[hy],h2⟩
   simp only[this]
def SaysS (l:List Span) (p:Int→Prop) [DecidablePred p]:Prop:=FinP (l.map sP) (fS p)
theorem SaysS.iff {l:List Span} {p:Int→Prop} [DecidablePred p] (h:SaysS l p) (s:Int):(∃ x∈l,x.frm≤s∧s≤x.to)↔p s:=by
 have:=h.2 s
 rw[OE] at this
 unfold fS at this
 constructor
 ·intro h1
  rw[if_pos h1] at this
  rcases Decidable.em (p s) with h2|h2
  ·exact h2
  ·rw[if_neg h2] at this
   simp at this
 ·intro h1
  rw[if_pos h1] at this
  rcases Decidable.em (∃ x∈l,x.frm≤s∧s≤x.to) with h2|h2
  ·exact h2
  ·rw[if_neg h2] at this
   simp at this
theorem SaysS.rng {l:List Span} {p:Int→Prop} [DecidablePred p] (h:SaysS l p) (hp:∀ s,p s→0≤s∧s≤16383):∀ x∈l,0≤x.frm∧x.frm≤x.to∧x.to≤16383:=by
 intro x hx
 obtain⟨h1,-⟩:=Gc h.1 (List.mem_map_of_mem hx)
 have h1':x.frm≤x.to:=h1
 have a:=hp x.frm ((h.iff _).1 ⟨x,hx,Int.le_refl _,h1'⟩)
 have b:=hp x.to ((h.iff _).1 ⟨x,hx,h1',Int.le_refl _⟩)
 omega
theorem SaysS.len {l:List Span} {p:Int→Prop} [DecidablePred p] (h:SaysS l p) (hp:∀ s,p s→0≤s∧s≤16383):l.length≤16384:=by
 have:=HS (a:=0) (b:=16383) h.1 (fun q hq=>by
  obtain⟨c,hc,rfl⟩:=List.mem_map.1 hq
  have:=h.rng hp c hc
  exact⟨this.1,this.2.2⟩) (by omega)
 simp at this
 omega
theorem IT {l:List Span}:∀ s,inS l s→0≤s∧s≤16383:=fun s h=>by have:=h.1;omega
theorem SaysS.inS {l:List Span} {p:Int→Prop} [DecidablePred p] (h:SaysS l p) (hp:∀ s,p s→0≤s∧s≤16383) (s:Int):Go.Proofs.YtlbdhlbbkibgpaaGreat.inS l s↔p s:=by
 unfold Go.Proofs.YtlbdhlbbkibgpaaGreat.inS
 rw[h.iff]
 constructor
 ·exact fun h=>h.2
 ·intro h1
  have:=hp s h1
  exact⟨by omega,h1⟩
theorem SaysS.step {l:List Span} {p:Int→Prop} [DecidablePred p] (h:SaysS l p) {m:List Int} (hm:∀ x∈l,x.frm∈m∧x.to+1∈m):∀ s,s+1 ∉ m→(p (s+1)↔p s):=by
 intro s hs
 have:fnP (l.map sP) (s+1)=fnP (l.map sP) s:=HR fun q hq=>by
  obtain⟨c,hc,rfl⟩:=List.mem_map.1 hq
  obtain⟨h1,h2⟩:=hm c hc
  exact⟨fun e=>hs (by rw[e];exact h1),fun e=>hs (by rw[e];exact h2)⟩
 rw[h.2,h.2] at this
 unfold fS at this
 constructor
 ·intro h1
  rw[if_pos h1] at this
  rcases Decidable.em (p s) with h2|h2
  ·exact h2
  ·rw[if_neg h2] at this
   simp at this
 ·intro h1
  rw[if_pos h1] at this
  rcases Decidable.em (p (s+1)) with h2|h2
  ·exact h2
  ·rw[if_neg h2] at this
   simp at this
end Go.Proofs.YtlbdhlbbkibgpaaGreat
namespace Go.Proofs.YtlbdhlbbkibgpaaGreat
open Go Go.RowKit
theorem BdP.fin {β:Type} {a:Int} {out:List (Int×Int×β)} {f:Int→Option β} (h:BdP a out f) (hf:∀ s,a≤s→f s=none):FinP out f:=by
 refine⟨h.can,fun s=>?_⟩
 rcases Decidable.em (s<a) with h1|h1
 ·exact h.fn s h1
 ·rw[hf s (by omega)]
  exact Di fun p hp hc=>by have:=h.pos p hp;omega
theorem BdP.rng {a:Int} {out:List Claim} {f:Int→Option (Int×Int)} (h:BdP a (out.map cP) f) (hf:∀ s,s<0→f s=none):∀ x∈out,0≤x.frm∧x.frm≤x.to∧x.to<a:=by
 intro x hx
 have a1:x.to<a:=h.pos _ (List.mem_map_of_mem hx)
 obtain⟨a2,a3⟩:=Gc h.can (List.mem_map_of_mem hx)
 have a5:x.frm≤x.to:=a2
 have a6:=h.fn x.frm (by omega)
 rw[a3 x.frm (Int.le_refl _) a5] at a6
 refine⟨?_,a5,a1⟩
 rcases Decidable.em (x.frm<0) with h1|h1
 ·rw[hf x.frm h1] at a6
  simp at a6
 ·omega
def valC (c:Claim):Option (Int×Int):=if c.epoch=0 then none else some (c.node,c.epoch)
theorem GoodC.tail {c:Claim} {l:List Claim} (h:GoodC (c::l)):GoodC l:=⟨canP.tail (p:=cP c) h.1,fun x hx=>h.2 x (by simp[hx])⟩
structure NextC (l:List Claim) (at_:Int) (c:Claim) (r:List Claim):Prop where
 frm:c.frm=at_
 le:at_≤c.to
 last:c.to≤16383
 val:∀ s,at_≤s→s≤c.to→fC l s=valC c
 good:GoodC r
 rest:∀ s,at_≤s→fC r s=fC l s
 num:0≤c.node∧0≤c.epoch∧(c.epoch=0→c.node=0)
theorem L0 {l:List Claim} {at_:Int} (hl:GoodC l) (h0:0≤at_∧at_≤16383):Rn (BX big l at_) fun r=>NextC l at_ r.1 r.2:=by
 unfold BX
 have hlen:=hl.len
 refine Rn.bn (P:=fun r=>GoodC r∧(∀ s,at_≤s→fC r s=fC l s)∧∀ c t,r=c::t→at_≤c.to) (Rn.iter _ (fun j r=>r=l.drop j∧GoodC r∧∀ s,at_≤s→fC r s=fC l s) l.length (by unfold big;omega) ⟨by simp,hl,fun s _=>rfl⟩ fun j r hj hI=>?_) fun r hr=>?_
 ·obtain⟨hd,hg,hf⟩:=hI
  cases r with
  |nil=>exact Rn.bnE (v:=false) rfl (Rn.lt (Rn.ite (fun h=>by simp at h) fun _=>Rn.some ⟨hg,hf,fun c t h=>by simp at h⟩))
  |cons c t =>
   have hjl:j<l.length:=by
    rcases Nat.lt_or_ge j l.length with h|h
    ·exact h
    ·rw[List.drop_eq_nil_of_le h] at hd
     simp at hd
   have ht:t=l.drop (j+1):=by
    rw[List.drop_eq_getElem_cons hjl] at hd
    exact (List.cons.inj hd).2
   refine Rn.bnE (v:=ltI c.to at_) ?_ (Rn.lt (Rn.ite (fun h=>?_) fun h=>?_))
   ·simp only[Ai]
    rw[gt_t (by rw[Ag];simp),Aj]
    rfl
   ·have h1:c.to<at_:=of_decide_eq_true h
    refine Rn.bnE (v:=t) ?_ (Rn.some ⟨hjl,ht,hg.tail,fun s hs=>?_⟩)
    ·have:=F7 (l:=c::t) (i:=1) (by simp)
     exact this
    ·rw[← hf s hs]
     exact (Cb (p:=cP c) fun hc=>by have h2:s≤c.to:=hc.2;omega).symm
   ·have h1:=of_decide_eq_false (p:=c.to<at_) h
    refine Rn.some ⟨hg,hf,fun c' t' he=>?_⟩
    rw[← (List.cons.inj he).1]
    omega
 ·obtain⟨hg,hf,hh⟩:=hr
  cases r with
  |nil =>
   refine Rn.bnE (v:=⟨at_,16383,0,0⟩) rfl (Rn.some ⟨rfl,h0.2,Int.le_refl _,fun s h1 h2=>?_,hg,hf,by simp⟩)
   rw[← hf s h1]
   rfl
  |cons c t =>
   have hc:=hg.2 c (by simp)
   have ht:=hh c t rfl
   have hn:nth (c::t) 0=some c:=rfl
   rcases Decidable.em (c.frm≤at_) with h1|h1
   ·refine Rn.bnE (v:=⟨at_,c.to,c.node,c.epoch⟩) ?_ (Rn.some ⟨rfl,ht,hc.2.2.1,fun s g1 g2=>?_,hg,hf,?_⟩)
    ·refine Rn.eqv (Rn.bnE (v:=true) ?_ (Rn.lt (Rn.ite (fun _=>Rn.bnE hn (Rn.some rfl)) fun h=>by simp at h)))
     simp only[Ai]
     rw[gt_t (by rw[Ag];simp),Aj,hn]
     simp only[Af]
     rw[le_t h1]
    ·rw[← hf s g1]
     have g2':s≤c.to:=g2
     have:fC (c::t) s=some (c.node,c.epoch):=BH (p:=cP c) (show c.frm≤s by omega) g2'
     rw[this]
     unfold valC
     rw[if_neg (show ¬ c.epoch=0 by omega)]
    ·exact⟨hc.2.2.2.1,by have:=hc.2.2.2.2;show (0:Int)≤c.epoch;omega,fun h=>by have:=hc.2.2.2.2;have h':c.epoch=0:=h;omega⟩
   ·refine Rn.bnE (v:=⟨at_,c.frm - 1,0,0⟩) ?_ (Rn.some ⟨rfl,by show at_≤c.frm - 1;omega,by show c.frm - 1≤16383;omega,fun s g1 g2=>?_,hg,hf,by simp⟩)
    ·refine Rn.eqv (Rn.bnE (v:=false) ?_ (Rn.lt (Rn.ite (fun h=>by simp at h) fun _=>Rn.lt (Rn.lt (Rn.ite (fun _=>Rn.bnE hn (Rn.lt (Rn.some ?_))) fun h=>?_)))))
     ·simp only[Ai]
      rw[gt_t (by rw[Ag];simp),Aj,hn]
      simp only[Af]
      rw[le_f (by omega)]
     ·rw[EW (by omega) (by omega)]
     ·have:gtI (lenI (c::t)) 0=true:=gt_t (by rw[Ag];simp)
      rw[this] at h
      simp at h
    ·rw[← hf s g1]
     have g2':s≤c.frm - 1:=g2
     have e1:fC (c::t) s=fC t s:=Cb (p:=cP c) fun hc2=>by have h2:c.frm≤s:=hc2.1;omega
     rw[e1]
     exact D4 (p:=cP c) hg.1 (show s≤c.to by omega)
theorem PY {l:List Claim} {c:Claim} (hl:l.length≤1000000) (hb:∀ x∈l,inB x.to) (hc:inB c.frm):Rn (BG big l c) fun m=>m.map cP=(if c.epoch=0 then l.map cP else putP (l.map cP) (cP c))∧m.length≤l.length+1:=by
 unfold BG
 refine Rn.bn (P:=fun m=>m.map cP=(if c.epoch=0 then l.map cP else putP (l.map cP) (cP c))∧m.length≤l.length+1) (Rn.lt (Rn.lt (Rn.ite (fun h=>?_) fun h=>?_))) fun m hm=>Rn.some hm
 ·have he:c.epoch=0:=of_decide_eq_true h
  exact Rn.some ⟨by rw[if_pos he],by omega⟩
 ·have he:c.epoch≠0:=of_decide_eq_false h
  rw[if_neg he]
  rcases Decidable.em (l=[]) with rfl|hne
  ·refine Rn.bnE (v:=false) rfl (Rn.lt (Rn.ite (fun h=>by simp at h) fun _=>Rn.chk rfl (Rn.lt (Rn.some ⟨rfl,by simp⟩))))
  ·obtain⟨k,x,rfl⟩:∃ k x,l=k++[x]:=⟨l.dropLast,l.getLast hne,(List.dropLast_concat_getLast hne).symm⟩
   have hx:=hb x (by simp)
   unfold inB at hx hc
   have e1:subI .i64 (lenI (k++[x])) 1=((k.length:Nat):Int):=by
    rw[Ag,EW (by omega) (by omega)]
    simp
   have hk:k.length<(k++[x]).length:=by simp
   have hn:nth (k++[x]) ((k.length:Nat):Int)=some x:=by rw[Aw hk];simp
   have hm:putP ((k++[x]).map cP) (cP c)=if x.to+1=c.frm∧(x.node,x.epoch)=(c.node,c.epoch) then k.map cP++[(x.frm,c.to,(x.node,x.epoch))] else (k++[x]).map cP++[cP c]:=by
    unfold putP
    rw[List.map_append,show [x].map cP=[cP x] from rfl,List.getLast?_concat]
    simp only[List.dropLast_concat]
    rfl
   rw[hm]
   have ht:Ci big x c=some (decide (x.to+1=c.frm∧(x.node,x.epoch)=(c.node,c.epoch))):=by
    unfold Ci
    simp only[Ai]
    rw[Ar (by omega) (by omega)]
    rcases Decidable.em (x.to+1=c.frm) with h1|h1
    ·rw[eq_t h1,Aj]
     rcases Decidable.em (x.node=c.node) with h2|h2
     ·rw[eq_t h2,Aj]
      simp[eqI,h1,h2,Af]
     ·rw[eq_f h2,Ak]
      simp[h2,Af]
    ·rw[eq_f h1,Ak]
     simp[h1,Af]
   refine Rn.bnE (v:=decide (x.to+1=c.frm∧(x.node,x.epoch)=(c.node,c.epoch))) ?_ (Rn.lt (Rn.ite (fun h=>?_) fun h=>?_))
   ·simp only[Ai]
    rw[gt_t (by rw[Ag];simp),Aj,e1,hn]
    simp only[Af]
    rw[ht]
    rfl
   ·have hq:=of_decide_eq_true h
    rw[if_pos hq]
    refine Rn.lt ?_
    rw[e1]
    refine Rn.bnE hn (Rn.lt (Rn.some ⟨?_,by simp⟩))
    rw[Int.toNat_natCast,List.set_append_right _ _ (by omega),Nat.sub_self]
    simp[cP]
   ·have hq:=of_decide_eq_false h
    rw[if_neg hq]
    exact Rn.chk (by simp[room];simp at hl;omega) (Rn.lt (Rn.some ⟨by simp,by simp⟩))
def epo:Option (Int×Int)→Int
 |some v=>v.2
 |none=>0
def nod:Option (Int×Int)→Int
 |some v=>v.1
 |none=>0
def joinV (x y:Option (Int×Int)):Option (Int×Int):=if epo y<epo x∨(epo x=epo y∧nod y<nod x) then x else y
def joinF (f g:Int→Option (Int×Int)) (s:Int):Option (Int×Int):=joinV (f s) (g s)
theorem Tells.none {f:Int→Option (Int×Int)} (h:Tells f) {s:Int} (hs:s<0∨16384≤s):f s=Option.none:=by
 cases hf:f s with
 |none=>rfl
 |some v=>exact absurd (h s v hf).1 (by omega)
theorem Oe {out:List Claim} {f:Int→Option (Int×Int)} {a b:Int} {c:Claim} (h:BdP a (out.map cP) f) (ht:Tells f) (ho:out.length≤1000000) (ha:0≤a∧a≤16384) (h1:c.frm=a) (h2:c.to=b) (h3:a≤b)
  (hv:∀ s,a≤s→s≤b→f s=valC c):Rn (BG big out c) fun m=>BdP (b+1) (m.map cP) f∧m.length≤out.length+1:=by
 have hr:=h.rng fun s hs=>ht.none (.inl hs)
 refine (PY ho (fun x hx=>by have:=hr x hx;unfold inB;omega) (by unfold inB;omega)).mono fun m hm=>⟨?_,hm.2⟩
 rw[hm.1]
 split
 ·rename_i he
  exact h.skip (by omega) fun s g1 g2=>by rw[hv s g1 (by omega),valC,if_pos he]
 ·rename_i he
  have:=h.put (b:=b) (v:=(c.node,c.epoch)) h3 fun s g1 g2=>by rw[hv s g1 g2,valC,if_neg he]
  rwa [show cP c=(a,b,(c.node,c.epoch)) by rw[← h1,← h2];rfl]
end Go.Proofs.YtlbdhlbbkibgpaaGreat
namespace Go.Proofs.YtlbdhlbbkibgpaaGreat
open Go Go.RowKit
def SortableS (l:List Span):Prop:=∃ s:Int,l=[⟨s,s⟩]∧0≤s∧s≤16383
theorem SaysS.of {l:List Span} {p:Int→Prop} [DecidablePred p] (h:canP (l.map sP)) (hp:∀ t,(∃ x∈l,x.frm≤t∧t≤x.to)↔p t):SaysS l p:=by
 refine⟨h,fun s=>?_⟩
 rw[OE]
 unfold fS
 simp only[hp s]
theorem Of (x:Span):A4 big [x]=some [x]:=by
 unfold A4
 rw[Ai,Ai,show Et big (cvI .u64 (lenI [x]))=some 1 by
  rw[show lenI [x]=1 from rfl]
  kernel_rfl,Af]
 rfl
theorem Og (s:Int) (h1:0≤s) (h2:s≤16383):CO big [⟨s,s⟩]=some [⟨s,s⟩]:=by
 unfold CO
 rw[Ai]
 refine BO [⟨s,s⟩] (fun i=>((i:Int),([⟨s,s⟩]:List Span).take i)) 1 (by unfold big;omega) rfl (fun i hi=>?_) ?_ ?_
 ·obtain rfl:i=0:=by omega
  simp only[Ai,Af,Aj,Ak,Al,Am,Ag,Option.some.injEq]
  rw[show ltI ((0:Nat):Int) (([⟨s,s⟩]:List Span).length:Int)=true from rfl,Aj,show nth ([⟨s,s⟩]:List Span) ((0:Nat):Int)=some ⟨s,s⟩ from rfl,Af]
  rw[show maxI s 0=s by show max s 0=s;omega,show minI s 16383=s by show min s 16383=s;omega,show leI s s=true from decide_eq_true (Int.le_refl _),Aj]
  rfl
 ·rfl
 ·rw[Of,Af]
  rfl
theorem Oh (s:Int) (h1:0≤s) (h2:s≤16383):B9 big [⟨s,s⟩]=some [⟨s,s⟩]:=by
 unfold B9
 rw[Og s h1 h2,Af,Ai]
 refine BO [⟨s,s⟩] (fun i=>((i:Int),([⟨s,s⟩]:List Span).take i)) 1 (by unfold big;omega) rfl (fun i hi=>?_) rfl rfl
 obtain rfl:i=0:=by omega
 rfl
theorem Oi {l:List Span} (hl:SortableS l):Rn (B9 big l) fun r=>SaysS r (inS l)∧r.length≤l.length:=by
 obtain⟨s,rfl,h1,h2⟩:=hl
 refine⟨_,Oh s h1 h2,SaysS.of (Int.le_refl s) (fun t=>?_),Nat.le_refl _⟩
 unfold inS
 constructor
 ·rintro⟨x,hx,h3,h4⟩
  simp at hx
  subst hx
  simp only at h3 h4
  exact⟨⟨by omega,by omega⟩,_,List.mem_singleton.2 rfl,h3,h4⟩
 ·exact fun h=>h.2
theorem Hr {f:Int→Option (Int×Int)} {p:Int→Prop} [DecidablePred p] {v:Int×Int} (hf:Tells f) (hp:∀ s,p s→0≤s∧s≤16383) (h1:0≤v.1) (h2:1≤v.2):Tells (giveF f p v):=by
 intro s w h
 unfold giveF at h
 split at h
 ·rename_i hps
  have:=Option.some.inj h
  subst this
  exact⟨hp s hps,h1,h2⟩
 ·exact hf s w h
theorem Oj {l:List Span} {v:Int×Int} (s:Int):fnP (l.map fun x=>(x.frm,x.to,v)) s=(fnP (l.map sP) s).map fun _=>v:=by
 induction l with
 |nil=>rfl
 |cons x l ih =>
  simp only[List.map_cons,fnP,sP]
  split
  ·rfl
  ·exact ih
theorem Jk {v:Int×Int}:∀ {l:List Span},canP (l.map sP)→canP (l.map fun x=>(x.frm,x.to,v))
 |[],_=>trivial
 |[x],h=>h
 |x::y::l,h=>⟨h.1,h.2.1,fun hc=>h.2.2.1 ⟨hc.1,rfl⟩,Jk (l:=y::l) h.2.2.2⟩
theorem NF {l:List Span} {nd ep:Int}:(l.map fun x=>(⟨x.frm,x.to,nd,ep⟩:Claim)).map cP=l.map fun x=>(x.frm,x.to,(nd,ep)):=by
 rw[List.map_map]
 rfl
theorem MD {l:List Span} {p:Int→Prop} [DecidablePred p] (h:SaysS l p) (hp:∀ s,p s→0≤s∧s≤16383) {nd ep:Int} (h1:0≤nd) (h2:1≤ep) :
  GoodC (l.map fun x=>(⟨x.frm,x.to,nd,ep⟩:Claim))∧∀ s,fC (l.map fun x=>(⟨x.frm,x.to,nd,ep⟩:Claim)) s=if p s then some (nd,ep) else none:=by
 have hr:=h.rng hp
 refine⟨⟨by rw[NF];exact Jk h.1,fun c hc=>?_⟩,fun s=>?_⟩
 ·obtain⟨x,hx,rfl⟩:=List.mem_map.1 hc
  have:=hr x hx
  exact⟨this.1,this.2.1,this.2.2,h1,h2⟩
 ·unfold fC
  rw[NF,Oj,h.2 s]
  unfold fS
  split <;> rfl
theorem Ok {a:List Claim} {l:List Span} {nd ep:Int} (ha:GoodC a) (hl:SortableS l) (h1:0≤nd) (h2:1≤ep) :
  Rn (Bd big a l nd ep) fun r=>FinP (r.map cP) (giveF (fC a) (inS l) (nd,ep)):=by
 have hl12:l.length≤1000000:=by obtain⟨s,rfl,_⟩:=hl;simp
 have ht:Tells (giveF (fC a) (inS l) (nd,ep)):=Hr ha.tells IT h1 h2
 unfold Bd
 refine Rn.bn (Oi hl) fun v hv=>Rn.lt ?_
 obtain⟨v1,v2⟩:=hv
 refine Rn.bn (P:=fun g=>g=v.map fun x=>(⟨x.frm,x.to,nd,ep⟩:Claim)) (Rn.iter _ (fun j y=>y=((j:Int),(v.take j).map fun x=>(⟨x.frm,x.to,nd,ep⟩:Claim))) v.length (by unfold big;omega) rfl fun j y hj hI=>?_) fun g hg=>?_
 ·subst hI
  refine Rn.lt (Rn.ite (fun hd=>?_) fun hd=>?_)
  ·have hjl:j<v.length:=by
    have:=of_decide_eq_true (p:=((j:Int)<(v.length:Int))) hd
    omega
   refine Rn.bnE (Aw hjl) (Rn.chk (by simp[room];omega) (Rn.lt (Rn.lt (Rn.some ⟨hjl,?_⟩))))
   rw[Ar (by first|omega|(simp only;omega)) (by first|omega|(simp only;omega)),← List.take_append_getElem hjl,List.map_append]
   rfl
  ·have hjl:j=v.length:=by
    have:=of_decide_eq_false (p:=((j:Int)<(v.length:Int))) hd
    omega
   subst hjl
   exact Rn.some (by show _=_;rw[List.take_length])
 subst hg
 obtain⟨hgg,hgf⟩:=MD v1 IT h1 h2
 have hglen:(v.map fun x=>(⟨x.frm,x.to,nd,ep⟩:Claim)).length≤16384:=hgg.len
 generalize (v.map fun x=>(⟨x.frm,x.to,nd,ep⟩:Claim))=b at hgg hgf hglen
 have hFb:∀ s,giveF (fC a) (inS l) (nd,ep) s=match fC b s with|some w=>some w|none=>fC a s:=by
  intro s
  rw[hgf s]
  unfold giveF
  split <;> rfl
 refine Rn.bn (P:=fun r=>FinP (r.map cP) (giveF (fC a) (inS l) (nd,ep))∧r.length≤16384) (Rn.chk (by simp[room];omega) (Rn.bnE (v:=(a,b)) rfl (Rn.bn (P:=fun y=>FinP (y.2.2.map cP) (giveF (fC a) (inS l) (nd,ep))∧y.2.2.length≤16384) (Rn.iter _ (fun j y=>∃ at_ a' b' p out,y=(at_,a',b',p,out)∧(j:Int)≤at_∧at_≤16384∧GoodC a'∧GoodC b'∧(∀ s,at_≤s→fC a' s=fC a s)∧(∀ s,at_≤s→fC b' s=fC b s)∧BdP at_ (out.map cP) (giveF (fC a) (inS l) (nd,ep))∧out.length≤j) 16384 (by unfold big;omega)
  ⟨0,a,b,_,[],rfl,Int.le_refl _,by omega,ha,hgg,fun s _=>rfl,fun s _=>rfl,BdP.nil fun s hs=>ht.none (.inl hs),by simp⟩ fun j y hj hI=>?_) fun y hy=>Rn.some hy))) fun r hr=>Rn.chk (by have:=hr.2;simp[room];omega) (Rn.some hr.1)
 obtain⟨at_,a',b',p,out,rfl,i1,i2,i3,i4,i5,i6,i7,i8⟩:=hI
 refine Rn.lt (Rn.ite (fun hd=>?_) fun hd=>?_)
 ·have hat:at_≤16383:=of_decide_eq_true hd
  refine Rn.bn (L0 i3 ⟨by omega,hat⟩) fun x hx=>Rn.bn (L0 i4 ⟨by omega,hat⟩) fun z hz=>Rn.lt ?_
  obtain⟨x1,x2⟩:=x
  obtain⟨z1,z2⟩:=z
  have hmin:minI x1.to z1.to=min x1.to z1.to:=rfl
  have hto:at_≤minI x1.to z1.to∧minI x1.to z1.to≤16383∧minI x1.to z1.to≤x1.to∧minI x1.to z1.to≤z1.to:=by
   have q1:=hx.le
   have q2:=hz.le
   have q3:=hx.last
   have q4:=hz.last
   simp only at q1 q2 q3 q4
   rw[hmin]
   omega
  simp only
  generalize minI x1.to z1.to=to_ at hto
  obtain⟨p1,p2,p3,p4⟩:=hto
  have hz6:=hz.num
  simp only at hz6
  have hF:∀ s,at_≤s→s≤to_→giveF (fC a) (inS l) (nd,ep) s=match valC z1 with|some w=>some w|none=>valC x1:=by
   intro s g1 g2
   rw[hFb s,← i5 s g1,← i6 s g1,hx.val s g1 (by simp only;omega),hz.val s g1 (by simp only;omega)]
  have hzf:=hz.frm
  have hxf:=hx.frm
  simp only at hzf hxf
  refine Rn.bn (P:=fun c=>(valC c.a=match valC z1 with|some w=>some w|none=>valC x1)∧c.a.frm=at_∧c.a.to=to_) ?_ fun c hc=>?_
  ·refine Rn.lt (Rn.ite (fun h=>Rn.some ⟨?_,hzf,rfl⟩) fun h=>Rn.some ⟨?_,hxf,rfl⟩)
   ·have he:0<z1.epoch:=of_decide_eq_true h
    unfold valC
    simp only
    rw[if_neg (by omega)]
   ·have he:¬ 0<z1.epoch:=of_decide_eq_false h
    have he0:z1.epoch=0:=by omega
    have:valC z1=none:=if_pos he0
    rw[this]
    rfl
  ·refine Rn.bn (Oe i7 ht (by omega) ⟨by omega,i2⟩ hc.2.1 hc.2.2 p1 fun s g1 g2=>by rw[hF s g1 g2,hc.1]) fun m hm=>Rn.lt (Rn.some ⟨by omega,to_+1,x2,z2,⟨⟨x1.frm,to_,x1.node,x1.epoch⟩,⟨z1.frm,to_,z1.node,z1.epoch⟩⟩,m,?_,by omega,by omega,hx.good,hz.good,fun s hs=>?_,fun s hs=>?_,hm.1,by omega⟩)
   ·rw[Ar (by omega) (by omega)]
   ·rw[hx.rest s (by omega),i5 s (by omega)]
   ·rw[hz.rest s (by omega),i6 s (by omega)]
 ·have hat:at_=16384:=by
   have:=of_decide_eq_false (p:=at_≤16383) hd
   omega
  subst hat
  exact Rn.some ⟨i7.fin fun s hs=>ht.none (.inr hs),show out.length≤16384 by omega⟩
theorem ME {a:List Claim} {l:List Span} {nd ep:Int} (ha:GoodC a) (hl:SortableS l) (h1:0≤nd) (h2:1≤ep) :
  Rn (Bd big a l nd ep) fun r=>GoodC r∧∀ s,fC r s=giveF (fC a) (inS l) (nd,ep) s :=
 (Ok ha hl h1 h2).mono fun r hr=>⟨hr.good (Hr ha.tells IT h1 h2),fun s=>hr.2 s⟩
end Go.Proofs.YtlbdhlbbkibgpaaGreat
namespace Go.Proofs.YtlbdhlbbkibgpaaGreat
open Go Go.RowKit
end Go.Proofs.YtlbdhlbbkibgpaaGreat
namespace Go.Proofs.YtlbdhlbbkibgpaaGreat
open Go Go.RowKit
theorem give1 {cl:List Claim} (h:GoodC cl) (s tt ep:Int) (hs:0≤s∧s≤16383) (h1:0≤tt) (h2:1≤ep):Bd big cl [⟨s,s⟩] tt ep=some (giveP cl s tt ep)∧GoodC (giveP cl s tt ep)∧∀ x,fC (giveP cl s tt ep) x=giveF (fC cl) (inS [⟨s,s⟩]) (tt,ep) x:=by
 obtain⟨r,hr,h3,h4⟩:=ME h (l:=[⟨s,s⟩]) ⟨s,rfl,hs.1,hs.2⟩ h1 h2
 have e:giveP cl s tt ep=r:=by unfold giveP;rw[hr];rfl
 rw[e]
 exact⟨hr,h3,h4⟩
theorem HT (id:Int) (h:0≤id):GoodC [⟨0,16383,id,1⟩]:=⟨by show (0:Int)≤16383;omega,fun c hc=>by
 simp at hc
 subst hc
 exact⟨by simp,by simp,by simp,h,by simp⟩⟩
theorem KT {l:List Move} (h:∀ m∈l,(0≤m.slot∧m.slot<16384)∧0≤m.to):GiveOk (fun _ cl=>GoodC cl) l:=⟨fun _ _ h=>h,fun i cl ep hi hc h1 _=>by
 have h2:=h _ (List.getElem_mem hi)
 have:=give1 hc (l[i]).slot (l[i]).to ep (by omega) h2.2 h1
 exact⟨this.1,this.2.1⟩⟩
theorem MF {l:List Pair} {k:ByteArray} {p:Pair} (h:p∈applyP l (goneE k)):p∈l:=by
 unfold applyP newP goneE at h
 simp at h
 rcases h with h|h
 ·exact h.1
 ·exact h.1
theorem OkN.app {n:Node} (h:OkN n) {e:Effect} (hk:keyed e.key) (he:okI e.item) (hl:(applyP n.db e).length≤1000) {mv:List Move} {sn:List Seen} (hm:mv.length≤1000) (hs:sn.length≤1000):OkN { n with db:=applyP n.db e,feed:=addF n.feed [e],moves:=mv,seen:=sn } where
 srt:=Ih h.srt e
 okd:=Jd h.okd he
 dl:=hl
 key:=fun p hp=>by
  have hp:p∈applyP n.db e:=hp
  unfold applyP newP at hp
  simp only[List.mem_append,List.mem_filter] at hp
  rcases hp with (h1|h1)|h1
  ·exact h.key p h1.1
  ·split at h1
   ·cases h1
   ·simp at h1;subst h1;exact hk
  ·exact h.key p h1.1
 bk:=by
  refine okE.drop ?_ _
  exact okE.app h.bk ⟨by simp,fun x hx=>by simp at hx;subst hx;exact he⟩ (by have:=h.bl;simp;omega)
 bl:=by
  show (lastN _).length≤64
  unfold lastN
  simp
  omega
 cl:=h.cl
 mv:=hm
 sn:=hs
 vt:=h.vt
 hd:=h.hd
 sy:=h.sy
 sz:=h.sz
theorem OkN.mvs {n:Node} (h:OkN n) {mv:List Move} (hm:mv.length≤1000) (l:Int):OkN { n with moves:=mv,last:=l }:=⟨h.srt,h.okd,h.dl,h.key,h.bk,h.bl,h.cl,hm,h.sn,h.vt,h.hd,h.sy,h.sz⟩
theorem Ol {db:List Pair} {s:Int} (h:inP db s≠[]):(rawP db ((inP db s).headD ⟨#[]⟩)).isSome=true∧slotOf ((inP db s).headD ⟨#[]⟩)=s:=by
 obtain⟨k,ks,hks⟩:=List.exists_cons_of_ne_nil h
 have hm:k∈inP db s:=by rw[hks];exact List.mem_cons_self
 have:=O9.1 hm
 rw[hks]
 exact⟨KN.2 this.2,this.1⟩
theorem MG (n:Node) (s tt:Int) (hmv:n.moves=[⟨s,tt,0,⟨#[]⟩⟩]) (h:inP n.db s=[]):TickP n=({ relT n ⟨s,tt,0,⟨#[]⟩⟩ with moves:=[] },[]):=by
 have e:stepT (n,[],[]) ⟨s,tt,0,⟨#[]⟩⟩=(relT n ⟨s,tt,0,⟨#[]⟩⟩,[],[]):=(if_pos rfl).trans (if_pos h)
 unfold TickP
 rw[hmv]
 simp only[List.foldl_cons,List.foldl_nil]
 rw[e]
theorem MH (n:Node) (s tt:Int) (hmv:n.moves=[⟨s,tt,0,⟨#[]⟩⟩]) (h:inP n.db s≠[]):TickP n=({ n with last:=n.last+1,moves:=[⟨s,tt,n.last+1,(inP n.db s).headD ⟨#[]⟩⟩] },[msgP n ⟨s,tt,n.last+1,(inP n.db s).headD ⟨#[]⟩⟩]):=by
 have e:stepT (n,[],[]) ⟨s,tt,0,⟨#[]⟩⟩=(lockT n,[lockM n ⟨s,tt,0,⟨#[]⟩⟩],[msgP (lockT n) (lockM n ⟨s,tt,0,⟨#[]⟩⟩)]):=(if_pos rfl).trans (if_neg h)
 unfold TickP
 rw[hmv]
 simp only[List.foldl_cons,List.foldl_nil]
 rw[e]
 rfl
theorem KV:Dd big=some true:=by kernel_rfl
end Go.Proofs.YtlbdhlbbkibgpaaGreat
namespace Go.Proofs.YtlbdhlbbkibgpaaGreat
open Go Go.RowKit
def cmpS (x:Seen) (m:Msg):Int:=if cmpI x.node m.frm=0 then cmpI x.slot m.slot else cmpI x.node m.frm
def sLt (x:Seen) (f s:Int):Prop:=x.node<f∨(x.node=f∧x.slot<s)
def sGt (x:Seen) (f s:Int):Prop:=f<x.node∨(f=x.node∧s<x.slot)
theorem Pj {x:Seen} {m:Msg} (h:sLt x m.frm m.slot):cmpS x m<0:=by
 unfold cmpS
 rcases h with h|⟨h,h2⟩
 ·have:=IR.2 h
  rw[if_neg (by omega)]
  exact this
 ·rw[if_pos (FP.2 h)]
  exact IR.2 h2
theorem Pk {x:Seen} {m:Msg} (h:sGt x m.frm m.slot):0<cmpS x m:=by
 unfold cmpS
 rcases h with h|⟨h,h2⟩
 ·have:=IS.2 h
  rw[if_neg (by omega)]
  exact this
 ·rw[if_pos (FP.2 h.symm)]
  exact IS.2 h2
theorem Pl {x:Seen} {m:Msg} (h:x.node=m.frm∧x.slot=m.slot):cmpS x m=0:=by
 unfold cmpS
 rw[if_pos (FP.2 h.1)]
 exact FP.2 h.2
theorem Or_ok (a b:Int):CP big [a,b]=some (if a=0 then b else a):=by
 refine Rn.eq ?_
 unfold CP
 have h2:(lenI [a,b])=2:=rfl
 refine Rn.lt ?_
 rw[h2]
 by_cases ha:a=0
 ·rw[if_pos ha]
  by_cases hb:b=0
  ·refine Rn.bnE (v:=.inl ()) (Fc (fun i=>(i:Int)) 2 (by unfold big;omega) rfl (fun i hi=>?_) rfl) (by rw[Al];exact Rn.some hb.symm)
   have:i=0∨i=1:=by omega
   rcases this with rfl|rfl
   ·rw[Ai,show ltI ((0:Nat):Int) 2=true from rfl,Aj,show nth [a,b] ((0:Nat):Int)=some a from rfl,Af,Ai,ha]
    rfl
   ·rw[Ai,show ltI ((1:Nat):Int) 2=true from rfl,Aj,show nth [a,b] ((1:Nat):Int)=some b from rfl,Af,Ai,hb]
    rfl
  ·refine Rn.bnE (v:=.inr b) (Fc (fun i=>(i:Int)) 1 (by unfold big;omega) rfl (fun i hi=>?_) ?_) (by rw[Am];exact Rn.some rfl)
   ·obtain rfl:i=0:=by omega
    rw[Ai,show ltI ((0:Nat):Int) 2=true from rfl,Aj,show nth [a,b] ((0:Nat):Int)=some a from rfl,Af,Ai,ha]
    rfl
   ·rw[Ai,show ltI ((1:Nat):Int) 2=true from rfl,Aj,show nth [a,b] ((1:Nat):Int)=some b from rfl,Af,Ai,neT hb]
    rfl
 ·rw[if_neg ha]
  refine Rn.bnE (v:=.inr a) (Fc (fun i=>(i:Int)) 0 (by unfold big;omega) rfl (fun i hi=>by omega) ?_) (by rw[Am];exact Rn.some rfl)
  rw[Ai,show ltI ((0:Nat):Int) 2=true from rfl,Aj,show nth [a,b] ((0:Nat):Int)=some a from rfl,Af,Ai,neT ha]
  rfl
theorem Om (x:Seen) (m:Msg):Bn big x m=some (cmpS x m):=by
 unfold Bn
 rw[Ga,Af,Ga,Af,AN (by omega) (by omega),Or_ok,Af]
 rfl
theorem On (A B C:List Seen) (m:Msg) (hA:∀ a∈A,sLt a m.frm m.slot) (hC:∀ x∈C,sGt x m.frm m.slot) (hB:B=[]∨∃ x,B=[x]∧x.node=m.frm∧x.slot=m.slot) (hl:(A++B++C).length≤1000) :
  AX big (A++B++C) m=some ((A.length:Int),!B.isEmpty):=by
 have h:=NB (fun x:Seen=>Bn big x m) (fun x=>cmpS x m) (fun x=>Om x m) A B C (fun a ha=>Pj (hA a ha)) (fun a ha=>Pk (hC a ha)) (hB.imp id fun ⟨x,h1,h2⟩=>⟨x,h1,Pl h2⟩) (by omega)
 rw[show AX big (A++B++C) m=bsG (fun x:Seen=>Bn big x m) (A++B++C) from rfl,h]
structure MayM (m:Msg) (e:Effect):Prop where
 eff:m.effects=[e]
 num:1≤m.num
 gone:e.gone=false
 key:keyed e.key
 item:mayI e.item
 ok:okI e.item
 slot:slotOf e.key=m.slot
theorem PZ {m:Msg} {e:Effect} (h:MayM m e):DF big m=some true:=by
 refine Rn.eq ?_
 unfold DF
 refine Rn.bnE (v:=false) ?_ (Rn.lt (Rn.ite (fun h=>by cases h) fun _=>?_))
 ·rw[h.eff,Ai,Ai,show neI (lenI [e]) 1=false from rfl,Ak,Ai,BK (by have:=h.num;omega)]
 ·have hk:=Ej h.key
  refine Rn.bnE (v:=e) (by rw[h.eff];rfl) (Rn.bn (P:=fun b=>b=true) ?_ fun b hb=>Rn.some hb)
  refine Rn.lt (Rn.lt (Rn.ite (fun _=>Rn.lt (Rn.ite (fun _=>?_) fun h2=>?_)) fun h2=>?_))
  ·obtain⟨b,hb,hb2⟩:=KO e.item h.ok
   rw[hb2.2 h.item] at hb
   refine Rn.bnE hb (Rn.ite (fun _=>?_) fun h=>by cases h)
   refine Rn.bnE (G7 _ (by omega)).2 (Rn.lt (Rn.some ?_))
   rw[h.slot]
   exact decide_eq_true rfl
  ·rw[h.gone] at h2;cases h2
  ·have:=of_decide_eq_false (p:=(lenS e.key≤40)) h2
   exfalso
   apply this
   show ((e.key.size:Nat):Int)≤40
   omega
def ackP (n:Node) (m:Msg):Msg:=⟨3,n.id,m.frm,0,[],[],0,m.slot,m.num,⟨0,0⟩,⟨0,0⟩,0,[]⟩
def takeN (n:Node) (m:Msg) (e:Effect) (A C:List Seen):Node:={ n with db:=applyP n.db e,feed:=addF n.feed [e],seen:=A++[⟨m.frm,m.slot,m.num⟩]++C }
theorem L1 (n:Node) (h:OkN n) (hm:n.master=-1) (m:Msg) (e:Effect) (hM:MayM m e) (A B C:List Seen) (hs:n.seen=A++B++C) (hA:∀ a∈A,sLt a m.frm m.slot) (hC:∀ x∈C,sGt x m.frm m.slot) (hB:B=[]∨∃ x,B=[x]∧x.node=m.frm∧x.slot=m.slot) :
  B3 big n m=some (if ∀ x∈B,x.num<m.num then takeN n m e A C else n,[ackP n m]):=by
 have hsl:=h.sn
 have hf:=On A B C m hA hC hB (by rw[← hs];exact hsl)
 rw[← hs] at hf
 have hlen:n.seen.length=A.length+B.length+C.length:=by rw[hs];simp[Nat.add_assoc]
 unfold B3
 rw[Pe n h,Af,hm]
 simp only[Ai,Af,Aj,Ak,Al,Am,Ag,Option.some.injEq,DY,PZ hM,Ez,AR (show n.seen.length≤1000000000 by omega),hf]
 have hap:=Io n h e hM.ok (Bo big) (.inr rfl)
 rw[hM.eff]
 rcases hB with rfl|⟨x,rfl,hx1,hx2⟩
 ·rw[if_pos (by simp)]
  simp only[List.isEmpty_nil,Bool.not_true,GA,Ai,Af,Aj,Ak,Al,Am,Ag,Option.some.injEq,hap]
  rw[F6 (show insB n.seen (A.length:Int)=true from decide_eq_true (by simp at hlen;omega))]
  simp only[Ai,Af,Aj,Ak,Al,Am,Ag,Option.some.injEq]
  rw[show ((A.length:Int)).toNat=A.length from rfl,hs,LY,EX]
  simp only[Ai,Af,Aj,Ak,Al,Am,Ag,Option.some.injEq]
  rw[G9,AR (by simp at hlen ⊢;omega)]
  unfold takeN ackP
  rw[hm]
 ·simp only[List.isEmpty_cons,Bool.not_false,Ez,Ai,Af,Aj,Ak,Al,Am,Ag,Option.some.injEq]
  rw[hs,EX]
  simp only[Ai,Af,Aj,Ak,Al,Am,Ag,Option.some.injEq]
  by_cases hlt:x.num<m.num
  ·rw[if_pos (by simpa using hlt),B5 hlt]
   simp only[Ai,Af,Aj,Ak,Al,Am,Ag,Option.some.injEq,hap]
   rw[hs,EX]
   simp only[Ai,Af,Aj,Ak,Al,Am,Ag,Option.some.injEq]
   rw[show ((A.length:Int)).toNat=A.length from rfl,G9,AR (by simp at hlen ⊢;omega)]
   unfold takeN ackP
   rw[hm,hx1,hx2]
  ·rw[if_neg (by simpa using hlt),BK hlt]
   simp only[Ai,Af,Aj,Ak,Al,Am,Ag,Option.some.injEq]
   rw[← hs,AR (by omega)]
   unfold ackP
   rw[← hm]
theorem OkN.take {n:Node} (h:OkN n) {m:Msg} {e:Effect} (hM:MayM m e) {A C:List Seen} (hl:(applyP n.db e).length≤1000) (hs:(A++[(⟨m.frm,m.slot,m.num⟩:Seen)]++C).length≤1000):OkN (takeN n m e A C):=OkN.app h hM.key hM.ok hl h.mv hs
end Go.Proofs.YtlbdhlbbkibgpaaGreat
namespace Go.Proofs.YtlbdhlbbkibgpaaGreat
open Go Go.RowKit
def C0 (n:Nat) (a0:List Int) (a1:Int):Option Bool :=
lt (lenI a0) fun v1 =>
lt (gtI v1 100) fun v2 =>
ite' v2 (bn (Dd n) fun v3 =>
some v3) (bn (Cm n 2 a0) fun v4 =>
bn (Cm n 3 []) fun v5 =>
bn (A5 n a1) fun v6 =>
bn (Ce n v6) fun v7 =>
bn (DU n v4.db v7) fun v8 =>
bn (B8 n v4 v7 3) fun v9 =>
bn (Fp n v9.2) fun v10 =>
lt (neI v10 0) fun v11 =>
ite' v11 (some false) (bn (iter n (fun (y12:Int×Node×Node) =>
lt (lenI v8) fun v15 =>
lt (ltI y12.1 v15) fun v16 =>
ite' v16 (bn (BN n y12.2.2) fun v17 =>
bn (lt (lenI v17.2) fun v19 =>
lt (neI v19 1) fun v20 =>
ite' v20 (some (true)) (bn (nth v17.2 0) fun v21 =>
lt (lenI v21.effects) fun v22 =>
lt (neI v22 1) fun v23 =>
ite' v23 (some (true)) (bn (nth v21.effects 0) fun v24 =>
bn (nth v8 y12.1) fun v25 =>
lt (neS v24.key v25) fun v26 =>
ite' v26 (some (true)) (lt (neI v21.to 3) fun v27 =>
ite' v27 (some (true)) (lt (addI .i64 y12.1 1) fun v28 =>
lt (neI v21.num v28) fun v29 =>
some (v29)))))) fun (y18:Bool) =>
lt (y18) fun v30 =>
ite' v30 (some (.inr (.inr false))) (bn (nth v17.2 0) fun v31 =>
bn (B3 n y12.2.1 v31) fun v32 =>
bn (lt (lenI v32.2) fun v34 =>
lt (neI v34 1) fun v35 =>
ite' v35 (some (true)) (bn (nth v32.2 0) fun v36 =>
lt (neI v36.to 2) fun v37 =>
some (v37))) fun (y33:Bool) =>
lt (y33) fun v38 =>
ite' v38 (some (.inr (.inr false))) (bn (nth v32.2 0) fun v39 =>
bn (Ca n v17.1 v39) fun v40 =>
lt (addI .i64 y12.1 1) fun v41 =>
some (.inl (v41,v32.1,v40))))) (some (.inr (.inl (y12.2.1,y12.2.2))))) (0,v5,v9.1)) fun (y13:(Node×Node) ⊕ Bool) =>
sm y13 (fun y42=>bn (BN n y42.2) fun v44 =>
bn (C8 n v44.1.claims v7) fun v45 =>
bn (lt (lenI v44.2) fun v47 =>
lt (eqI v47 0) fun v48 =>
ite' v48 (lt (lenI v44.1.moves) fun v49 =>
lt (eqI v49 0) fun v50 =>
ite' v50 (lt (eqI v45.1 3) fun v51 =>
ite' v51 (lt (eqI v45.2 2) fun v52 =>
ite' v52 (lt (eqI v44.1.epoch 2) fun v53 =>
ite' v53 (bn (DU n v44.1.db v7) fun v54 =>
lt (lenI v54) fun v55 =>
lt (eqI v55 0) fun v56 =>
ite' v56 (lt (lenI y42.1.db) fun v57 =>
lt (lenI v8) fun v58 =>
lt (eqI v57 v58) fun v59 =>
ite' v59 (lt (lenI v44.1.db) fun v60 =>
lt (lenI v4.db) fun v61 =>
lt (subI .i64 v61 v58) fun v62 =>
lt (eqI v60 v62) fun v63 =>
ite' v63 (bn (Dd n) fun v64 =>
some (v64)) (some (false))) (some (false))) (some (false))) (some (false))) (some (false))) (some (false))) (some (false))) (some (false))) fun (y46:Bool) =>
some y46) (fun y43=>some y43)))
def DY10t1:List DI:=[⟨[0],[],[(13,none)],false⟩,⟨[0],[0],[(54,some 0)],false⟩,⟨[0],[0,1],[(55,some 1)],false⟩,⟨[0],[0,1,2],[(56,some 2)],false⟩,⟨[0],[0,1,2,3],[(13,none),(57,some 3)],false⟩,⟨[0],[0,1,2,3,4],[(57,some 3),(58,some 4)],false⟩,⟨[0],[0,1,2,3,4,5],[(57,some 3),(59,some 5)],false⟩,⟨[0],[0,1,2,3,4,5,6],[(57,some 3),(60,some 6)],false⟩,⟨[0],[0,1,2,3,4,5,6,7],[(57,some 3),(61,some 7)],false⟩,⟨[0],[0,1,2,3,4,5,6,7,8],[(57,some 3),(62,some 8)],false⟩,⟨[0],[0,1,2,3,4,5,6,7,8,9],[(57,some 3),(63,some 9)],false⟩,⟨[0],[0,1,2,3,4,5,6,7,8,9,10],[(64,some 10)],false⟩,⟨[0],[0,1,2,3,4,5,6,7,8,9,10,11],[(13,none),(65,some 11)],false⟩,⟨[0],[0,1,2,3,4,5,6,7,8,9,10,11,12],[(65,some 11),(66,some 12)],false⟩,⟨[0],[0,1,2,3,4,5,6,7,8,9,10,11,12,13],[(65,some 11),(67,some 13)],false⟩,⟨[0],[0,1,2,3,4,5,6,7,8,9,10,11,12,13,14],[(65,some 11),(68,some 14)],false⟩,⟨[0],[0,1,2,3,4,5,6,7,8,9,10,11,12,13,14,15],[(65,some 11),(69,some 15)],false⟩,⟨[0],[0,1,2,3,4,5,6,7,8,9,10,11,12,13,14,15,16],[(65,some 11),(70,some 16)],false⟩,⟨[0],[0,1,2,3,4,5,6,7,8,9,10,11,12,13,14,15,16,17],[(65,some 11),(71,some 17)],false⟩,⟨[0],[0,1,2,3,4,5,6,7,8,9,10,11],[(8,none),(65,some 11)],false⟩,⟨[0],[0,1,2,3,4,5,6,7,8,9,10,11],[(11,none),(65,some 11)],false⟩,⟨[0],[0,1,2,3,4,5,6,7,8,9,10,11,19,20],[(65,some 11),(73,some 19),(74,some 20)],false⟩,⟨[0],[0,1,2,3,4,5,6,7,8,9,10,11,19,20,21],[(65,some 11),(75,some 21)],false⟩,⟨[0],[0,1,2,3,4,5,6,7,8,9,10,11,12,13,14,15,16,17,18,19,20,21,22],[(65,some 11),(72,some 18),(76,some 22)],false⟩,⟨[0],[0,1,2,3,4,5,6,7,8,9,10,11,12,13,14,15,16,17,18,19,20,21,22,23],[(65,some 11),(77,some 23)],false⟩,⟨[0],[0,1,2,3,4,5,6,7,8,9,10,11,12,13,14,15,16,17,18,19,20,21,22,23,24],[(78,some 24)],false⟩,⟨[0],[0,1,2,3,4,5,6,7,8,9,10,11,12,13,14,15,16,17,18,19,20,21,22,23,24,25],[(13,none),(79,some 25)],false⟩,⟨[0],[0,1,2,3,4,5,6,7,8,9,10,11,12,13,14,15,16,17,18,19,20,21,22,23,24,25,26],[(79,some 25),(80,some 26)],false⟩,⟨[0],[0,1,2,3,4,5,6,7,8,9,10,11,12,13,14,15,16,17,18,19,20,21,22,23,24,25,26,27],[(79,some 25),(81,some 27)],false⟩,⟨[0],[0,1,2,3,4,5,6,7,8,9,10,11,12,13,14,15,16,17,18,19,20,21,22,23,24,25,26,27,28],[(79,some 25),(82,some 28)],false⟩,⟨[0],[0,1,2,3,4,5,6,7,8,9,10,11,12,13,14,15,16,17,18,19,20,21,22,23,24,25,26,27,28,29],[(79,some 25),(83,some 29)],false⟩,⟨[0],[0,1,2,3,4,5,6,7,8,9,10,11,12,13,14,15,16,17,18,19,20,21,22,23,24,25,26,27,28,29,30],[(79,some 25),(84,some 30)],false⟩,⟨[0],[0,1,2,3,4,5,6,7,8,9,10,11,12,13,14,15,16,17,18,19,20,21,22,23,24,25,26,27,28,29,30,31],[(85,some 31)],false⟩,⟨[0],[0,1,2,3,4,5,6,7,8,9,10,11,12,13,14,15,16,17,18,19,20,21,22,23,24,25,26,27,28,29,30,31,32],[(13,none),(86,some 32)],false⟩,⟨[0],[0,1,2,3,4,5,6,7,8,9,10,11,12,13,14,15,16,17,18,19,20,21,22,23,24,25,26,27,28,29,30,31,32,33],[(86,some 32),(87,some 33)],false⟩,⟨[0],[0,1,2,3,4,5,6,7,8,9,10,11,12,13,14,15,16,17,18,19,20,21,22,23,24,25,26,27,28,29,30,31,32,33,34],[(86,some 32),(88,some 34)],false⟩,⟨[0],[0,1,2,3,4,5,6,7,8,9,10,11,12,13,14,15,16,17,18,19,20,21,22,23,24,25,26,27,28,29,30,31,32,33,34,35],[(86,some 32),(89,some 35)],false⟩,⟨[0],[0,1,2,3,4,5,6,7,8,9,10,11,12,13,14,15,16,17,18,19,20,21,22,23,24,25,26,27,28,29,30,31,32],[(11,none),(86,some 32)],false⟩,⟨[0],[0,1,2,3,4,5,6,7,8,9,10,11,12,13,14,15,16,17,18,19,20,21,22,23,24,25,26,27,28,29,30,31,32,37],[(86,some 32),(91,some 37)],false⟩,⟨[],[0,1,2,3,4,5,6,7,8,9,10,11,12,13,14,15,16,17,18,19,20,21,22,23,24,25,26,27,28,29,30,31,32,33,34,35,36,37,38],[],false⟩,⟨[],[0,1,2,3,4,5,6,7,8,9,10,11,12,13,14,15,16,17,18,19,20,21,22,23,24,25,26,27,28,29,30,31,32,33,34,35,36,37,38,39],[],false⟩]
theorem IU {n:Nat} {a0:List Int} {a1:Int} {r:Bool} (h:C0 n a0 a1=some r):Sound Tryz.prog 6 [.l (.d false 1 (encU a0)),.l (.s (.int .u8 a1))] [] (.l (.s (.bool r))) []:=by
 unfold C0 at h
 refine Sound.of_aw (fn:=Tryz.f6) (c:=_) Tryz.func6 rfl (by simp[Tryz.f6]) fun cx hG hnb=>?_
 rw[show Tryz.f6.ntmps=184 from rfl]
 have hn0:cx.nb=0:=hnb
 simp only[An,initTm,List.map_cons,List.map_nil]
 apply AW.step
 ·simp
  intros;rfl
 refine AW.seq ?_
 replace h:=ltE h;obtain⟨v1,e1,h⟩:=h
 replace h:=ltE h;obtain⟨v2,e2,h⟩:=h
 apply AW.step
 ·simp[Ad e1,← e2]
  intros;rfl
 cases v2 with
 |true =>
  replace h:=iteT rfl h
  refine AW.cond_true (by simp) ?_
  replace h:=bnE h;obtain⟨v3,e3,h⟩:=h
  apply AW.step
  ·simp
   intros
   refine Ae GN (Hn e3) rfl trivial ?_
   try simp
   intros;rfl
  obtain rfl:=oi h
  refine AW.ret ?_
  refine Left.plain hnb (by simp[Tryz.f6,resV,resC,comp];rfl) rfl rfl ?_
  simp
 |false =>
  replace h:=iteF rfl h
  refine AW.cond_false (by simp) ?_
  refine AW.skip ?_
  try simp only[nm]
  replace h:=bnE h;obtain⟨v4,e4,h⟩:=h
  replace h:=bnE h;obtain⟨v5,e5,h⟩:=h
  apply AW.step
  ·simp
   intros
   refine Ae Fu (F4 e4) rfl ⟨.same rfl,.same rfl,trivial⟩ ?_
   try simp
   intros
   refine Ae Fu (F4 e5) rfl ⟨.same rfl,.nil _ _,trivial⟩ ?_
   try simp
   intros;rfl
  replace h:=bnE h;obtain⟨v6,e6,h⟩:=h
  replace h:=bnE h;obtain⟨v7,e7,h⟩:=h
  apply AW.step
  ·simp
   intros
   refine Ae F3 (GJ e6) rfl ⟨.same rfl,trivial⟩ ?_
   try simp
   intros
   refine Ae H5 (Jb e7) rfl ⟨.same rfl,trivial⟩ ?_
   try simp
   intros;rfl
  replace h:=bnE h;obtain⟨v8,e8,h⟩:=h
  apply AW.step
  ·simp
   intros
   refine Ae E6 (FD e8) rfl ⟨.same rfl,.same rfl,trivial⟩ ?_
   try simp
   intros;rfl
  replace h:=bnE h;obtain⟨v9,e9,h⟩:=h
  apply AW.step
  ·simp
   intros
   refine Ae Gg (GL e9) rfl ⟨.same rfl,.same rfl,.same rfl,trivial⟩ ?_
   try simp
   intros;rfl
  refine AW.seq ?_
  replace h:=bnE h;obtain⟨v10,e10,h⟩:=h
  replace h:=ltE h;obtain⟨v11,e11,h⟩:=h
  apply AW.step
  ·simp[← e11]
   intros
   refine Ae GM (HJ e10) rfl ⟨.same rfl,trivial⟩ ?_
   try simp[← e11]
   intros;rfl
  cases v11 with
  |true =>
   replace h:=iteT rfl h
   refine AW.cond_true (by simp) ?_
   apply AW.step
   ·simp
    intros;rfl
   obtain rfl:=oi h
   refine AW.ret ?_
   refine Left.plain hnb (by simp[Tryz.f6,resV,resC,comp];rfl) rfl rfl ?_
   simp
  |false =>
   replace h:=iteF rfl h
   refine AW.cond_false (by simp) ?_
   refine AW.skip ?_
   try simp only[nm]
   refine AW.seq ?_
   apply AW.step
   ·simp
    intros;rfl
   refine AW.block ?_
   replace h:=bnE h;obtain⟨y13,g13,h⟩:=h
   refine AW.iterP g13 (mk:=fun gh ls q=>(⟨[(5,.l (.p 0 0)),(6,.l (.p 1 0)),(7,.l (.s (.int .i64 v7))),(8,.l (.d false 1 (encS v8))),(9,.l (.p 2 0)),(11,.l (.s (.int .i64 q.1)))],[some ⟨38,22,false,none,[.s (.int .i64 v4.count),.s (.int .i64 v4.id),.s (.int .i64 v4.master),.s (.int .i64 v4.epoch),.s (.int .i64 v4.voted),.d false 4 (encClaim v4.claims),.d false 6 (encPair v4.db),.d false 4 (encMove v4.moves),.s (.int .i64 v4.last),.d false 3 (encSeen v4.seen),.s (.int .i64 v4.feed.rid.node),.s (.int .i64 v4.feed.rid.epoch),.s (.int .i64 v4.feed.off),.d false 7 (encEffect v4.feed.back),.s (.int .i64 v4.feed.prev.node),.s (.int .i64 v4.feed.prev.epoch),.s (.int .i64 v4.feed.upto),.d false 1 (encI v4.watch.heard),.d false 1 (encLI v4.watch.says),.s (.int .i64 v4.asked),.d false 1 (encI v4.votes),.s (.int .i64 v4.wait)]⟩,some ⟨38,22,false,none,[.s (.int .i64 q.2.1.count),.s (.int .i64 q.2.1.id),.s (.int .i64 q.2.1.master),.s (.int .i64 q.2.1.epoch),.s (.int .i64 q.2.1.voted),.d false 4 (encClaim q.2.1.claims),.d false 6 (encPair q.2.1.db),.d false 4 (encMove q.2.1.moves),.s (.int .i64 q.2.1.last),.d false 3 (encSeen q.2.1.seen),.s (.int .i64 q.2.1.feed.rid.node),.s (.int .i64 q.2.1.feed.rid.epoch),.s (.int .i64 q.2.1.feed.off),.d false 7 (encEffect q.2.1.feed.back),.s (.int .i64 q.2.1.feed.prev.node),.s (.int .i64 q.2.1.feed.prev.epoch),.s (.int .i64 q.2.1.feed.upto),.d false 1 (encI q.2.1.watch.heard),.d false 1 (encLI q.2.1.watch.says),.s (.int .i64 q.2.1.asked),.d false 1 (encI q.2.1.votes),.s (.int .i64 q.2.1.wait)]⟩,some ⟨38,22,false,none,[.s (.int .i64 q.2.2.count),.s (.int .i64 q.2.2.id),.s (.int .i64 q.2.2.master),.s (.int .i64 q.2.2.epoch),.s (.int .i64 q.2.2.voted),.d false 4 (encClaim q.2.2.claims),.d false 6 (encPair q.2.2.db),.d false 4 (encMove q.2.2.moves),.s (.int .i64 q.2.2.last),.d false 3 (encSeen q.2.2.seen),.s (.int .i64 q.2.2.feed.rid.node),.s (.int .i64 q.2.2.feed.rid.epoch),.s (.int .i64 q.2.2.feed.off),.d false 7 (encEffect q.2.2.feed.back),.s (.int .i64 q.2.2.feed.prev.node),.s (.int .i64 q.2.2.feed.prev.epoch),.s (.int .i64 q.2.2.feed.upto),.d false 1 (encI q.2.2.watch.heard),.d false 1 (encLI q.2.2.watch.says),.s (.int .i64 q.2.2.asked),.d false 1 (encI q.2.2.votes),.s (.int .i64 q.2.2.wait)]⟩],184,gh,ls⟩:St)) (N:=fun gh ls=>(sp (xP 0 (cx:=cx) (fun q=>(⟨[(5,.l (.p 0 0)),(6,.l (.p 1 0)),(7,.l (.s (.int .i64 v7))),(8,.l (.d false 1 (encS v8))),(9,.l (.p 2 0))],[some ⟨38,22,false,none,[.s (.int .i64 v4.count),.s (.int .i64 v4.id),.s (.int .i64 v4.master),.s (.int .i64 v4.epoch),.s (.int .i64 v4.voted),.d false 4 (encClaim v4.claims),.d false 6 (encPair v4.db),.d false 4 (encMove v4.moves),.s (.int .i64 v4.last),.d false 3 (encSeen v4.seen),.s (.int .i64 v4.feed.rid.node),.s (.int .i64 v4.feed.rid.epoch),.s (.int .i64 v4.feed.off),.d false 7 (encEffect v4.feed.back),.s (.int .i64 v4.feed.prev.node),.s (.int .i64 v4.feed.prev.epoch),.s (.int .i64 v4.feed.upto),.d false 1 (encI v4.watch.heard),.d false 1 (encLI v4.watch.says),.s (.int .i64 v4.asked),.d false 1 (encI v4.votes),.s (.int .i64 v4.wait)]⟩,some ⟨38,22,false,none,[.s (.int .i64 q.1.count),.s (.int .i64 q.1.id),.s (.int .i64 q.1.master),.s (.int .i64 q.1.epoch),.s (.int .i64 q.1.voted),.d false 4 (encClaim q.1.claims),.d false 6 (encPair q.1.db),.d false 4 (encMove q.1.moves),.s (.int .i64 q.1.last),.d false 3 (encSeen q.1.seen),.s (.int .i64 q.1.feed.rid.node),.s (.int .i64 q.1.feed.rid.epoch),.s (.int .i64 q.1.feed.off),.d false 7 (encEffect q.1.feed.back),.s (.int .i64 q.1.feed.prev.node),.s (.int .i64 q.1.feed.prev.epoch),.s (.int .i64 q.1.feed.upto),.d false 1 (encI q.1.watch.heard),.d false 1 (encLI q.1.watch.says),.s (.int .i64 q.1.asked),.d false 1 (encI q.1.votes),.s (.int .i64 q.1.wait)]⟩,some ⟨38,22,false,none,[.s (.int .i64 q.2.count),.s (.int .i64 q.2.id),.s (.int .i64 q.2.master),.s (.int .i64 q.2.epoch),.s (.int .i64 q.2.voted),.d false 4 (encClaim q.2.claims),.d false 6 (encPair q.2.db),.d false 4 (encMove q.2.moves),.s (.int .i64 q.2.last),.d false 3 (encSeen q.2.seen),.s (.int .i64 q.2.feed.rid.node),.s (.int .i64 q.2.feed.rid.epoch),.s (.int .i64 q.2.feed.off),.d false 7 (encEffect q.2.feed.back),.s (.int .i64 q.2.feed.prev.node),.s (.int .i64 q.2.feed.prev.epoch),.s (.int .i64 q.2.feed.upto),.d false 1 (encI q.2.watch.heard),.d false 1 (encLI q.2.watch.says),.s (.int .i64 q.2.asked),.d false 1 (encI q.2.votes),.s (.int .i64 q.2.wait)]⟩],184,gh,ls⟩:St))) (rP (cx:=cx) (P:=Tryz.prog) Tryz.f6 (fun q=>.l (.s (.bool q))) (fun q=>[])))) ?_ (noS noX noR) ?_ ?_
   ·refine Weak.mixN [some 0,some 1,some 2] hn0 (by decide) ?_ ?_ rfl
    all_goals first|(simp[Aa,Ab,pickOb];done)|rfl
   ·clear h;intro y12 y14 h
    refine AW.seq ?_
    replace h:=ltE h;obtain⟨v15,e15,h⟩:=h
    replace h:=ltE h;obtain⟨v16,e16,h⟩:=h
    apply AW.step
    ·simp[Ad e15,← e16]
     intros;rfl
    cases v16 with
    |true =>
     replace h:=iteT rfl h
     refine AW.cond_true (by simp) ?_
     refine AW.skip ?_
     try simp only[nm]
     refine AW.seq ?_
     refine AW.block ?_
     replace h:=bnE h;obtain⟨v17,e17,h⟩:=h
     apply AW.step
     ·simp
      intros
      refine Ae Fb (Fv e17) rfl ⟨.same rfl,trivial⟩ ?_
      try simp
      intros;rfl
     refine AW.seq ?_
     replace h:=bnE h;obtain⟨y18,g18,h⟩:=h
     refine AW.flow (p:=fun gh ls=>(nP (cx:=cx) (fun q=>(⟨[(5,.l (.p 0 0)),(6,.l (.p 1 0)),(7,.l (.s (.int .i64 v7))),(8,.l (.d false 1 (encS v8))),(9,.l (.p 2 0)),(11,.l (.s (.int .i64 y12.1))),(12,.l (.p 3 0)),(13,.l (.d false 15 (encMsg v17.2))),(94,.l (.s (.bool q)))],[some ⟨38,22,false,none,[.s (.int .i64 v4.count),.s (.int .i64 v4.id),.s (.int .i64 v4.master),.s (.int .i64 v4.epoch),.s (.int .i64 v4.voted),.d false 4 (encClaim v4.claims),.d false 6 (encPair v4.db),.d false 4 (encMove v4.moves),.s (.int .i64 v4.last),.d false 3 (encSeen v4.seen),.s (.int .i64 v4.feed.rid.node),.s (.int .i64 v4.feed.rid.epoch),.s (.int .i64 v4.feed.off),.d false 7 (encEffect v4.feed.back),.s (.int .i64 v4.feed.prev.node),.s (.int .i64 v4.feed.prev.epoch),.s (.int .i64 v4.feed.upto),.d false 1 (encI v4.watch.heard),.d false 1 (encLI v4.watch.says),.s (.int .i64 v4.asked),.d false 1 (encI v4.votes),.s (.int .i64 v4.wait)]⟩,some ⟨38,22,false,none,[.s (.int .i64 y12.2.1.count),.s (.int .i64 y12.2.1.id),.s (.int .i64 y12.2.1.master),.s (.int .i64 y12.2.1.epoch),.s (.int .i64 y12.2.1.voted),.d false 4 (encClaim y12.2.1.claims),.d false 6 (encPair y12.2.1.db),.d false 4 (encMove y12.2.1.moves),.s (.int .i64 y12.2.1.last),.d false 3 (encSeen y12.2.1.seen),.s (.int .i64 y12.2.1.feed.rid.node),.s (.int .i64 y12.2.1.feed.rid.epoch),.s (.int .i64 y12.2.1.feed.off),.d false 7 (encEffect y12.2.1.feed.back),.s (.int .i64 y12.2.1.feed.prev.node),.s (.int .i64 y12.2.1.feed.prev.epoch),.s (.int .i64 y12.2.1.feed.upto),.d false 1 (encI y12.2.1.watch.heard),.d false 1 (encLI y12.2.1.watch.says),.s (.int .i64 y12.2.1.asked),.d false 1 (encI y12.2.1.votes),.s (.int .i64 y12.2.1.wait)]⟩,some ⟨38,22,false,none,[.s (.int .i64 y12.2.2.count),.s (.int .i64 y12.2.2.id),.s (.int .i64 y12.2.2.master),.s (.int .i64 y12.2.2.epoch),.s (.int .i64 y12.2.2.voted),.d false 4 (encClaim y12.2.2.claims),.d false 6 (encPair y12.2.2.db),.d false 4 (encMove y12.2.2.moves),.s (.int .i64 y12.2.2.last),.d false 3 (encSeen y12.2.2.seen),.s (.int .i64 y12.2.2.feed.rid.node),.s (.int .i64 y12.2.2.feed.rid.epoch),.s (.int .i64 y12.2.2.feed.off),.d false 7 (encEffect y12.2.2.feed.back),.s (.int .i64 y12.2.2.feed.prev.node),.s (.int .i64 y12.2.2.feed.prev.epoch),.s (.int .i64 y12.2.2.feed.upto),.d false 1 (encI y12.2.2.watch.heard),.d false 1 (encLI y12.2.2.watch.says),.s (.int .i64 y12.2.2.asked),.d false 1 (encI y12.2.2.votes),.s (.int .i64 y12.2.2.wait)]⟩,some ⟨38,22,false,none,[.s (.int .i64 v17.1.count),.s (.int .i64 v17.1.id),.s (.int .i64 v17.1.master),.s (.int .i64 v17.1.epoch),.s (.int .i64 v17.1.voted),.d false 4 (encClaim v17.1.claims),.d false 6 (encPair v17.1.db),.d false 4 (encMove v17.1.moves),.s (.int .i64 v17.1.last),.d false 3 (encSeen v17.1.seen),.s (.int .i64 v17.1.feed.rid.node),.s (.int .i64 v17.1.feed.rid.epoch),.s (.int .i64 v17.1.feed.off),.d false 7 (encEffect v17.1.feed.back),.s (.int .i64 v17.1.feed.prev.node),.s (.int .i64 v17.1.feed.prev.epoch),.s (.int .i64 v17.1.feed.upto),.d false 1 (encI v17.1.watch.heard),.d false 1 (encLI v17.1.watch.says),.s (.int .i64 v17.1.asked),.d false 1 (encI v17.1.votes),.s (.int .i64 v17.1.wait)]⟩],184,gh,ls⟩:St))) y18) ?_ ?_
     ·replace h:=g18;clear g18
      replace h:=ltE h;obtain⟨v19,e19,h⟩:=h
      replace h:=ltE h;obtain⟨v20,e20,h⟩:=h
      cases v20 with
      |true =>
       replace h:=iteT rfl h
       apply AW.drawnR (V:=[_,_,_,_,_,_,_,_,_,_,_,_,_,_,_,_,_,_,_,_,_,_,_,_,_,_,_,_,_,_,_,_,_,_,_,_,_,_,_]) mixed DY10t1 39 (by kernel_rfl) (by kernel_rfl)
       ·refine⟨?_,?_,?_,?_,?_,?_,?_,?_,?_,?_,?_,?_,?_,?_,?_,?_,?_,?_,?_,?_,?_,?_,?_,?_,?_,?_,?_,?_,?_,?_,?_,?_,?_,?_,?_,?_,?_,?_,?_,trivial⟩
        iterate 39 (· intro tm hr;simp[AllL,rdV] at hr;simp[hr,Ad e19,← e20];intros;first|exact KD.mk|exact KD.mkN)
       ·rfl
       ·simp[tmD,putD,Ad e19,← e20];rfl
       ·simp[Ad e19,← e20]
        intros;rfl
       obtain rfl:=oi h
       refine nP_i ?_
       refine Weak.mixN [some 0,some 1,some 2,some 3] hn0 (by decide) ?_ ?_ rfl
       all_goals first|(simp[Aa,Ab,pickOb];done)|rfl
      |false =>
       replace h:=iteF rfl h
       replace h:=bnE h;obtain⟨v21,e21,h⟩:=h
       replace h:=ltE h;obtain⟨v22,e22,h⟩:=h
       replace h:=ltE h;obtain⟨v23,e23,h⟩:=h
       cases v23 with
       |true =>
        replace h:=iteT rfl h
        apply AW.drawnR (V:=[_,_,_,_,_,_,_,_,_,_,_,_,_,_,_,_,_,_,_,_,_,_,_,_,_,_,_,_,_,_,_,_,_,_,_,_,_,_,_]) mixed DY10t1 39 (by kernel_rfl) (by kernel_rfl)
        ·refine⟨?_,?_,?_,?_,?_,?_,?_,?_,?_,?_,?_,?_,?_,?_,?_,?_,?_,?_,?_,?_,?_,?_,?_,?_,?_,?_,?_,?_,?_,?_,?_,?_,?_,?_,?_,?_,?_,?_,?_,trivial⟩
         iterate 39 (· intro tm hr;simp[AllL,rdV] at hr;simp[hr,Ad e19,← e20,(show v17.2[0]?=some v21 from (Ac e21).2),Ad e22,← e23];intros;first|exact KD.mk|exact KD.mkN)
        ·rfl
        ·simp[tmD,putD,Ad e19,← e20,(show v17.2[0]?=some v21 from (Ac e21).2),Ad e22,← e23];rfl
        ·simp[Ad e19,← e20,(show v17.2[0]?=some v21 from (Ac e21).2),Ad e22,← e23]
         intros;rfl
        obtain rfl:=oi h
        refine nP_i ?_
        refine Weak.mixN [some 0,some 1,some 2,some 3] hn0 (by decide) ?_ ?_ rfl
        all_goals first|(simp[Aa,Ab,pickOb];done)|rfl
       |false =>
        replace h:=iteF rfl h
        replace h:=bnE h;obtain⟨v24,e24,h⟩:=h
        replace h:=bnE h;obtain⟨v25,e25,h⟩:=h
        replace h:=ltE h;obtain⟨v26,e26,h⟩:=h
        cases v26 with
        |true =>
         replace h:=iteT rfl h
         apply AW.drawnR (V:=[_,_,_,_,_,_,_,_,_,_,_,_,_,_,_,_,_,_,_,_,_,_,_,_,_,_,_,_,_,_,_,_,_,_,_,_,_,_,_]) mixed DY10t1 39 (by kernel_rfl) (by kernel_rfl)
         ·refine⟨?_,?_,?_,?_,?_,?_,?_,?_,?_,?_,?_,?_,?_,?_,?_,?_,?_,?_,?_,?_,?_,?_,?_,?_,?_,?_,?_,?_,?_,?_,?_,?_,?_,?_,?_,?_,?_,?_,?_,trivial⟩
          iterate 39 (· intro tm hr;simp[AllL,rdV] at hr;simp[hr,Ad e19,← e20,(show v17.2[0]?=some v21 from (Ac e21).2),Ad e22,← e23,(show v21.effects[0]?=some v24 from (Ac e24).2),Ac e25,← e26];intros;first|exact KD.mk|exact KD.mkN)
         ·rfl
         ·simp[tmD,putD,Ad e19,← e20,(show v17.2[0]?=some v21 from (Ac e21).2),Ad e22,← e23,(show v21.effects[0]?=some v24 from (Ac e24).2),Ac e25,← e26];rfl
         ·simp[Ad e19,← e20,(show v17.2[0]?=some v21 from (Ac e21).2),Ad e22,← e23,(show v21.effects[0]?=some v24 from (Ac e24).2),Ac e25,← e26]
          intros;rfl
         obtain rfl:=oi h
         refine nP_i ?_
         refine Weak.mixN [some 0,some 1,some 2,some 3] hn0 (by decide) ?_ ?_ rfl
         all_goals first|(simp[Aa,Ab,pickOb];done)|rfl
        |false =>
         replace h:=iteF rfl h
         replace h:=ltE h;obtain⟨v27,e27,h⟩:=h
         cases v27 with
         |true =>
          replace h:=iteT rfl h
          apply AW.drawnR (V:=[_,_,_,_,_,_,_,_,_,_,_,_,_,_,_,_,_,_,_,_,_,_,_,_,_,_,_,_,_,_,_,_,_,_,_,_,_,_,_]) mixed DY10t1 39 (by kernel_rfl) (by kernel_rfl)
          ·refine⟨?_,?_,?_,?_,?_,?_,?_,?_,?_,?_,?_,?_,?_,?_,?_,?_,?_,?_,?_,?_,?_,?_,?_,?_,?_,?_,?_,?_,?_,?_,?_,?_,?_,?_,?_,?_,?_,?_,?_,trivial⟩
           iterate 39 (· intro tm hr;simp[AllL,rdV] at hr;simp[hr,Ad e19,← e20,(show v17.2[0]?=some v21 from (Ac e21).2),Ad e22,← e23,(show v21.effects[0]?=some v24 from (Ac e24).2),Ac e25,← e26,← e27];intros;first|exact KD.mk|exact KD.mkN)
          ·rfl
          ·simp[tmD,putD,Ad e19,← e20,(show v17.2[0]?=some v21 from (Ac e21).2),Ad e22,← e23,(show v21.effects[0]?=some v24 from (Ac e24).2),Ac e25,← e26,← e27];rfl
          ·simp[Ad e19,← e20,(show v17.2[0]?=some v21 from (Ac e21).2),Ad e22,← e23,(show v21.effects[0]?=some v24 from (Ac e24).2),Ac e25,← e26,← e27]
           intros;rfl
          obtain rfl:=oi h
          refine nP_i ?_
          refine Weak.mixN [some 0,some 1,some 2,some 3] hn0 (by decide) ?_ ?_ rfl
          all_goals first|(simp[Aa,Ab,pickOb];done)|rfl
         |false =>
          replace h:=iteF rfl h
          replace h:=ltE h;obtain⟨v28,e28,h⟩:=h
          replace h:=ltE h;obtain⟨v29,e29,h⟩:=h
          apply AW.drawnR (V:=[_,_,_,_,_,_,_,_,_,_,_,_,_,_,_,_,_,_,_,_,_,_,_,_,_,_,_,_,_,_,_,_,_,_,_,_,_,_,_]) mixed DY10t1 39 (by kernel_rfl) (by kernel_rfl)
          ·refine⟨?_,?_,?_,?_,?_,?_,?_,?_,?_,?_,?_,?_,?_,?_,?_,?_,?_,?_,?_,?_,?_,?_,?_,?_,?_,?_,?_,?_,?_,?_,?_,?_,?_,?_,?_,?_,?_,?_,?_,trivial⟩
           iterate 39 (· intro tm hr;simp[AllL,rdV] at hr;simp[hr,Ad e19,← e20,(show v17.2[0]?=some v21 from (Ac e21).2),Ad e22,← e23,(show v21.effects[0]?=some v24 from (Ac e24).2),Ac e25,← e26,← e27,← e28,← e29];intros;first|exact KD.mk|exact KD.mkN)
          ·rfl
          ·simp[tmD,putD,Ad e19,← e20,(show v17.2[0]?=some v21 from (Ac e21).2),Ad e22,← e23,(show v21.effects[0]?=some v24 from (Ac e24).2),Ac e25,← e26,← e27,← e28,← e29];rfl
          ·simp[Ad e19,← e20,(show v17.2[0]?=some v21 from (Ac e21).2),Ad e22,← e23,(show v21.effects[0]?=some v24 from (Ac e24).2),Ac e25,← e26,← e27,← e28,← e29]
           intros;rfl
          obtain rfl:=oi h
          refine nP_i ?_
          refine Weak.mixN [some 0,some 1,some 2,some 3] hn0 (by decide) ?_ ?_ rfl
          all_goals first|(simp[Aa,Ab,pickOb];done)|rfl
     ·rintro e s hp
      obtain⟨rfl,hw⟩:=hp
      refine⟨_,hw,?_⟩
      try simp only[nm]
      replace h:=ltE h;obtain⟨v30,e30,h⟩:=h
      rw[← e30]
      cases v30 with
      |true =>
       replace h:=iteT rfl h
       refine AW.cond_true (by simp) ?_
       apply AW.step
       ·simp
        intros;rfl
       obtain rfl:=oi h
       refine AW.ret ?_
       try simp only[nm]
       refine rP_i ?_
       refine Left.plain hnb (by simp[Tryz.f6,resV,resC,comp];rfl) rfl rfl ?_
       simp
      |false =>
       replace h:=iteF rfl h
       refine AW.cond_false (by simp) ?_
       refine AW.skip ?_
       try simp only[nm]
       replace h:=bnE h;obtain⟨v31,e31,h⟩:=h
       replace h:=bnE h;obtain⟨v32,e32,h⟩:=h
       apply AW.drawnE (V:=[_,_,_,_,_,_,_,_,_,_]) (M:=[[some ⟨38,22,false,none,[.s (.int .i64 v4.count),.s (.int .i64 v4.id),.s (.int .i64 v4.master),.s (.int .i64 v4.epoch),.s (.int .i64 v4.voted),.d false 4 (encClaim v4.claims),.d false 6 (encPair v4.db),.d false 4 (encMove v4.moves),.s (.int .i64 v4.last),.d false 3 (encSeen v4.seen),.s (.int .i64 v4.feed.rid.node),.s (.int .i64 v4.feed.rid.epoch),.s (.int .i64 v4.feed.off),.d false 7 (encEffect v4.feed.back),.s (.int .i64 v4.feed.prev.node),.s (.int .i64 v4.feed.prev.epoch),.s (.int .i64 v4.feed.upto),.d false 1 (encI v4.watch.heard),.d false 1 (encLI v4.watch.says),.s (.int .i64 v4.asked),.d false 1 (encI v4.votes),.s (.int .i64 v4.wait)]⟩,some ⟨38,22,false,none,[.s (.int .i64 y12.2.1.count),.s (.int .i64 y12.2.1.id),.s (.int .i64 y12.2.1.master),.s (.int .i64 y12.2.1.epoch),.s (.int .i64 y12.2.1.voted),.d false 4 (encClaim y12.2.1.claims),.d false 6 (encPair y12.2.1.db),.d false 4 (encMove y12.2.1.moves),.s (.int .i64 y12.2.1.last),.d false 3 (encSeen y12.2.1.seen),.s (.int .i64 y12.2.1.feed.rid.node),.s (.int .i64 y12.2.1.feed.rid.epoch),.s (.int .i64 y12.2.1.feed.off),.d false 7 (encEffect y12.2.1.feed.back),.s (.int .i64 y12.2.1.feed.prev.node),.s (.int .i64 y12.2.1.feed.prev.epoch),.s (.int .i64 y12.2.1.feed.upto),.d false 1 (encI y12.2.1.watch.heard),.d false 1 (encLI y12.2.1.watch.says),.s (.int .i64 y12.2.1.asked),.d false 1 (encI y12.2.1.votes),.s (.int .i64 y12.2.1.wait)]⟩,some ⟨38,22,false,none,[.s (.int .i64 y12.2.2.count),.s (.int .i64 y12.2.2.id),.s (.int .i64 y12.2.2.master),.s (.int .i64 y12.2.2.epoch),.s (.int .i64 y12.2.2.voted),.d false 4 (encClaim y12.2.2.claims),.d false 6 (encPair y12.2.2.db),.d false 4 (encMove y12.2.2.moves),.s (.int .i64 y12.2.2.last),.d false 3 (encSeen y12.2.2.seen),.s (.int .i64 y12.2.2.feed.rid.node),.s (.int .i64 y12.2.2.feed.rid.epoch),.s (.int .i64 y12.2.2.feed.off),.d false 7 (encEffect y12.2.2.feed.back),.s (.int .i64 y12.2.2.feed.prev.node),.s (.int .i64 y12.2.2.feed.prev.epoch),.s (.int .i64 y12.2.2.feed.upto),.d false 1 (encI y12.2.2.watch.heard),.d false 1 (encLI y12.2.2.watch.says),.s (.int .i64 y12.2.2.asked),.d false 1 (encI y12.2.2.votes),.s (.int .i64 y12.2.2.wait)]⟩,some ⟨38,22,false,none,[.s (.int .i64 v17.1.count),.s (.int .i64 v17.1.id),.s (.int .i64 v17.1.master),.s (.int .i64 v17.1.epoch),.s (.int .i64 v17.1.voted),.d false 4 (encClaim v17.1.claims),.d false 6 (encPair v17.1.db),.d false 4 (encMove v17.1.moves),.s (.int .i64 v17.1.last),.d false 3 (encSeen v17.1.seen),.s (.int .i64 v17.1.feed.rid.node),.s (.int .i64 v17.1.feed.rid.epoch),.s (.int .i64 v17.1.feed.off),.d false 7 (encEffect v17.1.feed.back),.s (.int .i64 v17.1.feed.prev.node),.s (.int .i64 v17.1.feed.prev.epoch),.s (.int .i64 v17.1.feed.upto),.d false 1 (encI v17.1.watch.heard),.d false 1 (encLI v17.1.watch.says),.s (.int .i64 v17.1.asked),.d false 1 (encI v17.1.votes),.s (.int .i64 v17.1.wait)]⟩],[some ⟨38,22,false,none,[.s (.int .i64 v4.count),.s (.int .i64 v4.id),.s (.int .i64 v4.master),.s (.int .i64 v4.epoch),.s (.int .i64 v4.voted),.d false 4 (encClaim v4.claims),.d false 6 (encPair v4.db),.d false 4 (encMove v4.moves),.s (.int .i64 v4.last),.d false 3 (encSeen v4.seen),.s (.int .i64 v4.feed.rid.node),.s (.int .i64 v4.feed.rid.epoch),.s (.int .i64 v4.feed.off),.d false 7 (encEffect v4.feed.back),.s (.int .i64 v4.feed.prev.node),.s (.int .i64 v4.feed.prev.epoch),.s (.int .i64 v4.feed.upto),.d false 1 (encI v4.watch.heard),.d false 1 (encLI v4.watch.says),.s (.int .i64 v4.asked),.d false 1 (encI v4.votes),.s (.int .i64 v4.wait)]⟩,some ⟨38,22,false,none,[.s (.int .i64 y12.2.1.count),.s (.int .i64 y12.2.1.id),.s (.int .i64 y12.2.1.master),.s (.int .i64 y12.2.1.epoch),.s (.int .i64 y12.2.1.voted),.d false 4 (encClaim y12.2.1.claims),.d false 6 (encPair y12.2.1.db),.d false 4 (encMove y12.2.1.moves),.s (.int .i64 y12.2.1.last),.d false 3 (encSeen y12.2.1.seen),.s (.int .i64 y12.2.1.feed.rid.node),.s (.int .i64 y12.2.1.feed.rid.epoch),.s (.int .i64 y12.2.1.feed.off),.d false 7 (encEffect y12.2.1.feed.back),.s (.int .i64 y12.2.1.feed.prev.node),.s (.int .i64 y12.2.1.feed.prev.epoch),.s (.int .i64 y12.2.1.feed.upto),.d false 1 (encI y12.2.1.watch.heard),.d false 1 (encLI y12.2.1.watch.says),.s (.int .i64 y12.2.1.asked),.d false 1 (encI y12.2.1.votes),.s (.int .i64 y12.2.1.wait)]⟩,some ⟨38,22,false,none,[.s (.int .i64 y12.2.2.count),.s (.int .i64 y12.2.2.id),.s (.int .i64 y12.2.2.master),.s (.int .i64 y12.2.2.epoch),.s (.int .i64 y12.2.2.voted),.d false 4 (encClaim y12.2.2.claims),.d false 6 (encPair y12.2.2.db),.d false 4 (encMove y12.2.2.moves),.s (.int .i64 y12.2.2.last),.d false 3 (encSeen y12.2.2.seen),.s (.int .i64 y12.2.2.feed.rid.node),.s (.int .i64 y12.2.2.feed.rid.epoch),.s (.int .i64 y12.2.2.feed.off),.d false 7 (encEffect y12.2.2.feed.back),.s (.int .i64 y12.2.2.feed.prev.node),.s (.int .i64 y12.2.2.feed.prev.epoch),.s (.int .i64 y12.2.2.feed.upto),.d false 1 (encI y12.2.2.watch.heard),.d false 1 (encLI y12.2.2.watch.says),.s (.int .i64 y12.2.2.asked),.d false 1 (encI y12.2.2.votes),.s (.int .i64 y12.2.2.wait)]⟩,some ⟨38,22,false,none,[.s (.int .i64 v17.1.count),.s (.int .i64 v17.1.id),.s (.int .i64 v17.1.master),.s (.int .i64 v17.1.epoch),.s (.int .i64 v17.1.voted),.d false 4 (encClaim v17.1.claims),.d false 6 (encPair v17.1.db),.d false 4 (encMove v17.1.moves),.s (.int .i64 v17.1.last),.d false 3 (encSeen v17.1.seen),.s (.int .i64 v17.1.feed.rid.node),.s (.int .i64 v17.1.feed.rid.epoch),.s (.int .i64 v17.1.feed.off),.d false 7 (encEffect v17.1.feed.back),.s (.int .i64 v17.1.feed.prev.node),.s (.int .i64 v17.1.feed.prev.epoch),.s (.int .i64 v17.1.feed.upto),.d false 1 (encI v17.1.watch.heard),.d false 1 (encLI v17.1.watch.says),.s (.int .i64 v17.1.asked),.d false 1 (encI v17.1.votes),.s (.int .i64 v17.1.wait)]⟩,some ⟨38,22,false,none,[.s (.int .i64 0),.s (.int .i64 0),.s (.int .i64 0),.s (.int .i64 0),.s (.int .i64 0),.s (.slice none 0 0),.s (.slice none 0 0),.s (.slice none 0 0),.s (.int .i64 0),.s (.slice none 0 0),.s (.int .i64 0),.s (.int .i64 0),.s (.int .i64 0),.s (.slice none 0 0),.s (.int .i64 0),.s (.int .i64 0),.s (.int .i64 0),.s (.slice none 0 0),.s (.slice none 0 0),.s (.int .i64 0),.s (.slice none 0 0),.s (.int .i64 0)]⟩],[some ⟨38,22,false,none,[.s (.int .i64 v4.count),.s (.int .i64 v4.id),.s (.int .i64 v4.master),.s (.int .i64 v4.epoch),.s (.int .i64 v4.voted),.d false 4 (encClaim v4.claims),.d false 6 (encPair v4.db),.d false 4 (encMove v4.moves),.s (.int .i64 v4.last),.d false 3 (encSeen v4.seen),.s (.int .i64 v4.feed.rid.node),.s (.int .i64 v4.feed.rid.epoch),.s (.int .i64 v4.feed.off),.d false 7 (encEffect v4.feed.back),.s (.int .i64 v4.feed.prev.node),.s (.int .i64 v4.feed.prev.epoch),.s (.int .i64 v4.feed.upto),.d false 1 (encI v4.watch.heard),.d false 1 (encLI v4.watch.says),.s (.int .i64 v4.asked),.d false 1 (encI v4.votes),.s (.int .i64 v4.wait)]⟩,some ⟨38,22,false,none,[.s (.int .i64 y12.2.1.count),.s (.int .i64 y12.2.1.id),.s (.int .i64 y12.2.1.master),.s (.int .i64 y12.2.1.epoch),.s (.int .i64 y12.2.1.voted),.d false 4 (encClaim y12.2.1.claims),.d false 6 (encPair y12.2.1.db),.d false 4 (encMove y12.2.1.moves),.s (.int .i64 y12.2.1.last),.d false 3 (encSeen y12.2.1.seen),.s (.int .i64 y12.2.1.feed.rid.node),.s (.int .i64 y12.2.1.feed.rid.epoch),.s (.int .i64 y12.2.1.feed.off),.d false 7 (encEffect y12.2.1.feed.back),.s (.int .i64 y12.2.1.feed.prev.node),.s (.int .i64 y12.2.1.feed.prev.epoch),.s (.int .i64 y12.2.1.feed.upto),.d false 1 (encI y12.2.1.watch.heard),.d false 1 (encLI y12.2.1.watch.says),.s (.int .i64 y12.2.1.asked),.d false 1 (encI y12.2.1.votes),.s (.int .i64 y12.2.1.wait)]⟩,some ⟨38,22,false,none,[.s (.int .i64 y12.2.2.count),.s (.int .i64 y12.2.2.id),.s (.int .i64 y12.2.2.master),.s (.int .i64 y12.2.2.epoch),.s (.int .i64 y12.2.2.voted),.d false 4 (encClaim y12.2.2.claims),.d false 6 (encPair y12.2.2.db),.d false 4 (encMove y12.2.2.moves),.s (.int .i64 y12.2.2.last),.d false 3 (encSeen y12.2.2.seen),.s (.int .i64 y12.2.2.feed.rid.node),.s (.int .i64 y12.2.2.feed.rid.epoch),.s (.int .i64 y12.2.2.feed.off),.d false 7 (encEffect y12.2.2.feed.back),.s (.int .i64 y12.2.2.feed.prev.node),.s (.int .i64 y12.2.2.feed.prev.epoch),.s (.int .i64 y12.2.2.feed.upto),.d false 1 (encI y12.2.2.watch.heard),.d false 1 (encLI y12.2.2.watch.says),.s (.int .i64 y12.2.2.asked),.d false 1 (encI y12.2.2.votes),.s (.int .i64 y12.2.2.wait)]⟩,some ⟨38,22,false,none,[.s (.int .i64 v17.1.count),.s (.int .i64 v17.1.id),.s (.int .i64 v17.1.master),.s (.int .i64 v17.1.epoch),.s (.int .i64 v17.1.voted),.d false 4 (encClaim v17.1.claims),.d false 6 (encPair v17.1.db),.d false 4 (encMove v17.1.moves),.s (.int .i64 v17.1.last),.d false 3 (encSeen v17.1.seen),.s (.int .i64 v17.1.feed.rid.node),.s (.int .i64 v17.1.feed.rid.epoch),.s (.int .i64 v17.1.feed.off),.d false 7 (encEffect v17.1.feed.back),.s (.int .i64 v17.1.feed.prev.node),.s (.int .i64 v17.1.feed.prev.epoch),.s (.int .i64 v17.1.feed.upto),.d false 1 (encI v17.1.watch.heard),.d false 1 (encLI v17.1.watch.says),.s (.int .i64 v17.1.asked),.d false 1 (encI v17.1.votes),.s (.int .i64 v17.1.wait)]⟩,some ⟨38,22,false,none,[.s (.int .i64 v32.1.count),.s (.int .i64 v32.1.id),.s (.int .i64 v32.1.master),.s (.int .i64 v32.1.epoch),.s (.int .i64 v32.1.voted),.d false 4 (encClaim v32.1.claims),.d false 6 (encPair v32.1.db),.d false 4 (encMove v32.1.moves),.s (.int .i64 v32.1.last),.d false 3 (encSeen v32.1.seen),.s (.int .i64 v32.1.feed.rid.node),.s (.int .i64 v32.1.feed.rid.epoch),.s (.int .i64 v32.1.feed.off),.d false 7 (encEffect v32.1.feed.back),.s (.int .i64 v32.1.feed.prev.node),.s (.int .i64 v32.1.feed.prev.epoch),.s (.int .i64 v32.1.feed.upto),.d false 1 (encI v32.1.watch.heard),.d false 1 (encLI v32.1.watch.says),.s (.int .i64 v32.1.asked),.d false 1 (encI v32.1.votes),.s (.int .i64 v32.1.wait)]⟩]]) mixed [⟨[0,1],[],[(6,none)],false⟩,⟨[0,1],[],[(13,none)],false⟩,⟨[0,1],[1],[(97,some 1)],false⟩,⟨[0,1],[1,2],[(98,some 2)],false⟩,⟨[0,1],[0,1,2,3],[(96,some 0),(99,some 3)],false⟩,⟨[0,1],[0,1,2,3,4],[(100,some 4)],false⟩,⟨[0,1],[0,1,2,3,4,5],[(95,some 5)],false⟩,⟨[0,1,2],[0,1,2,3,4,5],[(95,some 5)],false⟩,⟨[0],[],[],true⟩,⟨[1],[0,1,2,3,4,5,6,8],[(14,some 8),(101,some 6)],true⟩,⟨[],[0,1,2,3,4,5,6,7,8,9],[],false⟩] 10 2 (by kernel_rfl) (by kernel_rfl)
       ·rfl
       ·refine⟨⟨?_,?_⟩,⟨?_,?_⟩,⟨?_,?_⟩,⟨?_,?_⟩,⟨?_,?_⟩,⟨?_,?_⟩,⟨?_,?_⟩,⟨?_,?_,?_⟩,?_,?_,trivial⟩
        iterate 8 (· intro tm hr;simp[AllL,rdV] at hr;simp[hr,(show v17.2[0]?=some v31 from (Ac e31).2)];intros;first|exact KD.mk|exact KD.mkN)
        ·intro tm hr
         simp[AllL,rdV] at hr
         simp[hr,(show v17.2[0]?=some v31 from (Ac e31).2)]
         intros
         refine Ae GQ (Hp e32) rfl ⟨.same rfl,.same rfl,trivial⟩ ?_
         try simp[(show v17.2[0]?=some v31 from (Ac e31).2)]
         intros;first|exact KD.mk|exact KD.mkN
        ·intro tm hr
         simp[AllL,rdV] at hr
         simp[hr,(show v17.2[0]?=some v31 from (Ac e31).2)]
         intros
         refine Ae GQ (Hp e32) rfl ⟨.same rfl,.same rfl,trivial⟩ ?_
         try simp[(show v17.2[0]?=some v31 from (Ac e31).2)]
         intros;first|exact KD.mk|exact KD.mkN
        iterate 9 (· intro tm hr;simp[AllL,rdV] at hr;simp[hr,(show v17.2[0]?=some v31 from (Ac e31).2)];intros;first|exact KD.mk|exact KD.mkN)
       ·rfl
       ·simp[tmD,putD,(show v17.2[0]?=some v31 from (Ac e31).2)];rfl
       ·simp[(show v17.2[0]?=some v31 from (Ac e31).2)]
        intros;rfl
       refine AW.seq ?_
       replace h:=bnE h;obtain⟨y33,g33,h⟩:=h
       refine AW.flow (p:=fun gh ls=>(nP (cx:=cx) (fun q=>(⟨[(5,.l (.p 0 0)),(6,.l (.p 1 0)),(7,.l (.s (.int .i64 v7))),(8,.l (.d false 1 (encS v8))),(9,.l (.p 2 0)),(11,.l (.s (.int .i64 y12.1))),(12,.l (.p 3 0)),(14,.l (.p 4 0)),(15,.l (.d false 15 (encMsg v32.2))),(112,.l (.s (.bool q)))],[some ⟨38,22,false,none,[.s (.int .i64 v4.count),.s (.int .i64 v4.id),.s (.int .i64 v4.master),.s (.int .i64 v4.epoch),.s (.int .i64 v4.voted),.d false 4 (encClaim v4.claims),.d false 6 (encPair v4.db),.d false 4 (encMove v4.moves),.s (.int .i64 v4.last),.d false 3 (encSeen v4.seen),.s (.int .i64 v4.feed.rid.node),.s (.int .i64 v4.feed.rid.epoch),.s (.int .i64 v4.feed.off),.d false 7 (encEffect v4.feed.back),.s (.int .i64 v4.feed.prev.node),.s (.int .i64 v4.feed.prev.epoch),.s (.int .i64 v4.feed.upto),.d false 1 (encI v4.watch.heard),.d false 1 (encLI v4.watch.says),.s (.int .i64 v4.asked),.d false 1 (encI v4.votes),.s (.int .i64 v4.wait)]⟩,some ⟨38,22,false,none,[.s (.int .i64 y12.2.1.count),.s (.int .i64 y12.2.1.id),.s (.int .i64 y12.2.1.master),.s (.int .i64 y12.2.1.epoch),.s (.int .i64 y12.2.1.voted),.d false 4 (encClaim y12.2.1.claims),.d false 6 (encPair y12.2.1.db),.d false 4 (encMove y12.2.1.moves),.s (.int .i64 y12.2.1.last),.d false 3 (encSeen y12.2.1.seen),.s (.int .i64 y12.2.1.feed.rid.node),.s (.int .i64 y12.2.1.feed.rid.epoch),.s (.int .i64 y12.2.1.feed.off),.d false 7 (encEffect y12.2.1.feed.back),.s (.int .i64 y12.2.1.feed.prev.node),.s (.int .i64 y12.2.1.feed.prev.epoch),.s (.int .i64 y12.2.1.feed.upto),.d false 1 (encI y12.2.1.watch.heard),.d false 1 (encLI y12.2.1.watch.says),.s (.int .i64 y12.2.1.asked),.d false 1 (encI y12.2.1.votes),.s (.int .i64 y12.2.1.wait)]⟩,some ⟨38,22,false,none,[.s (.int .i64 y12.2.2.count),.s (.int .i64 y12.2.2.id),.s (.int .i64 y12.2.2.master),.s (.int .i64 y12.2.2.epoch),.s (.int .i64 y12.2.2.voted),.d false 4 (encClaim y12.2.2.claims),.d false 6 (encPair y12.2.2.db),.d false 4 (encMove y12.2.2.moves),.s (.int .i64 y12.2.2.last),.d false 3 (encSeen y12.2.2.seen),.s (.int .i64 y12.2.2.feed.rid.node),.s (.int .i64 y12.2.2.feed.rid.epoch),.s (.int .i64 y12.2.2.feed.off),.d false 7 (encEffect y12.2.2.feed.back),.s (.int .i64 y12.2.2.feed.prev.node),.s (.int .i64 y12.2.2.feed.prev.epoch),.s (.int .i64 y12.2.2.feed.upto),.d false 1 (encI y12.2.2.watch.heard),.d false 1 (encLI y12.2.2.watch.says),.s (.int .i64 y12.2.2.asked),.d false 1 (encI y12.2.2.votes),.s (.int .i64 y12.2.2.wait)]⟩,some ⟨38,22,false,none,[.s (.int .i64 v17.1.count),.s (.int .i64 v17.1.id),.s (.int .i64 v17.1.master),.s (.int .i64 v17.1.epoch),.s (.int .i64 v17.1.voted),.d false 4 (encClaim v17.1.claims),.d false 6 (encPair v17.1.db),.d false 4 (encMove v17.1.moves),.s (.int .i64 v17.1.last),.d false 3 (encSeen v17.1.seen),.s (.int .i64 v17.1.feed.rid.node),.s (.int .i64 v17.1.feed.rid.epoch),.s (.int .i64 v17.1.feed.off),.d false 7 (encEffect v17.1.feed.back),.s (.int .i64 v17.1.feed.prev.node),.s (.int .i64 v17.1.feed.prev.epoch),.s (.int .i64 v17.1.feed.upto),.d false 1 (encI v17.1.watch.heard),.d false 1 (encLI v17.1.watch.says),.s (.int .i64 v17.1.asked),.d false 1 (encI v17.1.votes),.s (.int .i64 v17.1.wait)]⟩,some ⟨38,22,false,none,[.s (.int .i64 v32.1.count),.s (.int .i64 v32.1.id),.s (.int .i64 v32.1.master),.s (.int .i64 v32.1.epoch),.s (.int .i64 v32.1.voted),.d false 4 (encClaim v32.1.claims),.d false 6 (encPair v32.1.db),.d false 4 (encMove v32.1.moves),.s (.int .i64 v32.1.last),.d false 3 (encSeen v32.1.seen),.s (.int .i64 v32.1.feed.rid.node),.s (.int .i64 v32.1.feed.rid.epoch),.s (.int .i64 v32.1.feed.off),.d false 7 (encEffect v32.1.feed.back),.s (.int .i64 v32.1.feed.prev.node),.s (.int .i64 v32.1.feed.prev.epoch),.s (.int .i64 v32.1.feed.upto),.d false 1 (encI v32.1.watch.heard),.d false 1 (encLI v32.1.watch.says),.s (.int .i64 v32.1.asked),.d false 1 (encI v32.1.votes),.s (.int .i64 v32.1.wait)]⟩],184,gh,ls⟩:St))) y33) ?_ ?_
       ·replace h:=g33;clear g33
        replace h:=ltE h;obtain⟨v34,e34,h⟩:=h
        replace h:=ltE h;obtain⟨v35,e35,h⟩:=h
        cases v35 with
        |true =>
         replace h:=iteT rfl h
         apply AW.last
         ·simp[Ad e34,← e35]
          intros;rfl
         obtain rfl:=oi h
         refine nP_i ?_
         refine Weak.mixN [some 0,some 1,some 2,some 3,some 4] hn0 (by decide) ?_ ?_ rfl
         all_goals first|(simp[Aa,Ab,pickOb];done)|rfl
        |false =>
         replace h:=iteF rfl h
         replace h:=bnE h;obtain⟨v36,e36,h⟩:=h
         replace h:=ltE h;obtain⟨v37,e37,h⟩:=h
         apply AW.last
         ·simp[Ad e34,← e35,(show v32.2[0]?=some v36 from (Ac e36).2),← e37]
          intros;rfl
         obtain rfl:=oi h
         refine nP_i ?_
         refine Weak.mixN [some 0,some 1,some 2,some 3,some 4] hn0 (by decide) ?_ ?_ rfl
         all_goals first|(simp[Aa,Ab,pickOb];done)|rfl
       ·rintro e s hp
        obtain⟨rfl,hw⟩:=hp
        refine⟨_,hw,?_⟩
        try simp only[nm]
        replace h:=ltE h;obtain⟨v38,e38,h⟩:=h
        rw[← e38]
        cases v38 with
        |true =>
         replace h:=iteT rfl h
         refine AW.cond_true (by simp) ?_
         apply AW.step
         ·simp
          intros;rfl
         obtain rfl:=oi h
         refine AW.ret ?_
         try simp only[nm]
         refine rP_i ?_
         refine Left.plain hnb (by simp[Tryz.f6,resV,resC,comp];rfl) rfl rfl ?_
         simp
        |false =>
         replace h:=iteF rfl h
         refine AW.cond_false (by simp) ?_
         refine AW.skip ?_
         try simp only[nm]
         apply AW.step
         ·simp
          intros;rfl
         replace h:=bnE h;obtain⟨v39,e39,h⟩:=h
         replace h:=bnE h;obtain⟨v40,e40,h⟩:=h
         apply AW.drawnR (V:=[_,_,_,_]) mixed [⟨[0],[],[(12,none)],false⟩,⟨[0],[],[(15,none)],false⟩,⟨[0],[1],[(115,some 1)],false⟩,⟨[0],[1,2],[(116,some 2)],false⟩,⟨[],[0,1,2,3],[],false⟩,⟨[],[0,1,2,3,4],[],false⟩] 4 (by kernel_rfl) (by kernel_rfl)
         ·refine⟨?_,?_,?_,?_,trivial⟩
          iterate 4 (· intro tm hr;simp[AllL,rdV] at hr;simp[hr,(show v32.2[0]?=some v39 from (Ac e39).2)];intros;first|exact KD.mk|exact KD.mkN)
         ·rfl
         ·simp[tmD,putD,(show v32.2[0]?=some v39 from (Ac e39).2)];rfl
         ·simp[(show v32.2[0]?=some v39 from (Ac e39).2)]
          intros
          refine Ae JG (KB e40) rfl ⟨.same rfl,.same rfl,trivial⟩ ?_
          try simp[(show v32.2[0]?=some v39 from (Ac e39).2)]
          intros;rfl
         try simp only[nm]
         replace h:=ltE h;obtain⟨v41,e41,h⟩:=h
         apply AW.last
         ·simp[← e41]
          intros;rfl
         obtain rfl:=oi h
         refine nP_i ?_
         refine Weak.mixN [some 0,some 1,some 2] hn0 (by decide) ?_ ?_ rfl
         all_goals first|(simp[Aa,Ab,pickOb];done)|rfl
    |false =>
     replace h:=iteF rfl h
     refine AW.cond_false (by simp) ?_
     refine AW.exit ?_
     try simp only[nm]
     obtain rfl:=oi h
     try simp only[sp_l,sp_r]
     refine xP_i ?_
     refine Weak.mixN [some 0,some 1,some 2] hn0 (by decide) ?_ ?_ rfl
     all_goals first|(simp[Aa,Ab,pickOb];done)|rfl
   ·rintro e s hp
    rcases y13 with y42|y43
    ·replace h:=smL h
     obtain⟨rfl,hw⟩:=hp
     refine⟨_,hw,?_⟩
     try simp only[nm]
     replace h:=bnE h;obtain⟨v44,e44,h⟩:=h
     apply AW.step
     ·simp
      intros
      refine Ae Fb (Fv e44) rfl ⟨.same rfl,trivial⟩ ?_
      try simp
      intros;rfl
     replace h:=bnE h;obtain⟨v45,e45,h⟩:=h
     apply AW.step
     ·simp
      intros
      refine Ae Nb (NV e45) rfl ⟨.same rfl,.same rfl,trivial⟩ ?_
      try simp
      intros;rfl
     replace h:=bnE h;obtain⟨y46,g46,h⟩:=h
     refine AW.flow (p:=fun gh ls=>(nP (cx:=cx) (fun q=>(⟨[(4,.l (.s (.bool q)))],[],184,gh,ls⟩:St))) y46) ?_ ?_
     ·replace h:=g46;clear g46
      replace h:=ltE h;obtain⟨v47,e47,h⟩:=h
      replace h:=ltE h;obtain⟨v48,e48,h⟩:=h
      cases v48 with
      |true =>
       replace h:=iteT rfl h
       replace h:=ltE h;obtain⟨v49,e49,h⟩:=h
       replace h:=ltE h;obtain⟨v50,e50,h⟩:=h
       cases v50 with
       |true =>
        replace h:=iteT rfl h
        replace h:=ltE h;obtain⟨v51,e51,h⟩:=h
        cases v51 with
        |true =>
         replace h:=iteT rfl h
         replace h:=ltE h;obtain⟨v52,e52,h⟩:=h
         cases v52 with
         |true =>
          replace h:=iteT rfl h
          replace h:=ltE h;obtain⟨v53,e53,h⟩:=h
          cases v53 with
          |true =>
           replace h:=iteT rfl h
           replace h:=bnE h;obtain⟨v54,e54,h⟩:=h
           replace h:=ltE h;obtain⟨v55,e55,h⟩:=h
           replace h:=ltE h;obtain⟨v56,e56,h⟩:=h
           cases v56 with
           |true =>
            replace h:=iteT rfl h
            replace h:=ltE h;obtain⟨v57,e57,h⟩:=h
            replace h:=ltE h;obtain⟨v58,e58,h⟩:=h
            replace h:=ltE h;obtain⟨v59,e59,h⟩:=h
            cases v59 with
            |true =>
             replace h:=iteT rfl h
             replace h:=ltE h;obtain⟨v60,e60,h⟩:=h
             replace h:=ltE h;obtain⟨v61,e61,h⟩:=h
             replace h:=ltE h;obtain⟨v62,e62,h⟩:=h
             replace h:=ltE h;obtain⟨v63,e63,h⟩:=h
             cases v63 with
             |true =>
              replace h:=iteT rfl h
              replace h:=bnE h;obtain⟨v64,e64,h⟩:=h
              apply AW.last
              ·simp[Ad e47,← e48,Ad e49,← e50,← e51,← e52,← e53,Ad e55,← e56,Ad e57,Ad e58,← e59,Ad e60,Ad e61,← e62,← e63]
               intros
               refine Ae E6 (FD e54) rfl ⟨.same rfl,.same rfl,trivial⟩ ?_
               try simp[Ad e47,← e48,Ad e49,← e50,← e51,← e52,← e53,Ad e55,← e56,Ad e57,Ad e58,← e59,Ad e60,Ad e61,← e62,← e63]
               intros
               refine Ae GN (Hn e64) rfl trivial ?_
               try simp[Ad e47,← e48,Ad e49,← e50,← e51,← e52,← e53,Ad e55,← e56,Ad e57,Ad e58,← e59,Ad e60,Ad e61,← e62,← e63]
               intros;rfl
              obtain rfl:=oi h
              refine nP_i ?_
              refine Weak.mixN [] hn0 (by decide) ?_ ?_ rfl
              all_goals first|(simp[Aa,Ab,pickOb];done)|rfl
             |false =>
              replace h:=iteF rfl h
              apply AW.last
              ·simp[Ad e47,← e48,Ad e49,← e50,← e51,← e52,← e53,Ad e55,← e56,Ad e57,Ad e58,← e59,Ad e60,Ad e61,← e62,← e63]
               intros
               refine Ae E6 (FD e54) rfl ⟨.same rfl,.same rfl,trivial⟩ ?_
               try simp[Ad e47,← e48,Ad e49,← e50,← e51,← e52,← e53,Ad e55,← e56,Ad e57,Ad e58,← e59,Ad e60,Ad e61,← e62,← e63]
               intros;rfl
              obtain rfl:=oi h
              refine nP_i ?_
              refine Weak.mixN [] hn0 (by decide) ?_ ?_ rfl
              all_goals first|(simp[Aa,Ab,pickOb];done)|rfl
            |false =>
             replace h:=iteF rfl h
             apply AW.last
             ·simp[Ad e47,← e48,Ad e49,← e50,← e51,← e52,← e53,Ad e55,← e56,Ad e57,Ad e58,← e59]
              intros
              refine Ae E6 (FD e54) rfl ⟨.same rfl,.same rfl,trivial⟩ ?_
              try simp[Ad e47,← e48,Ad e49,← e50,← e51,← e52,← e53,Ad e55,← e56,Ad e57,Ad e58,← e59]
              intros;rfl
             obtain rfl:=oi h
             refine nP_i ?_
             refine Weak.mixN [] hn0 (by decide) ?_ ?_ rfl
             all_goals first|(simp[Aa,Ab,pickOb];done)|rfl
           |false =>
            replace h:=iteF rfl h
            apply AW.last
            ·simp[Ad e47,← e48,Ad e49,← e50,← e51,← e52,← e53,Ad e55,← e56]
             intros
             refine Ae E6 (FD e54) rfl ⟨.same rfl,.same rfl,trivial⟩ ?_
             try simp[Ad e47,← e48,Ad e49,← e50,← e51,← e52,← e53,Ad e55,← e56]
             intros;rfl
            obtain rfl:=oi h
            refine nP_i ?_
            refine Weak.mixN [] hn0 (by decide) ?_ ?_ rfl
            all_goals first|(simp[Aa,Ab,pickOb];done)|rfl
          |false =>
           replace h:=iteF rfl h
           apply AW.last
           ·simp[Ad e47,← e48,Ad e49,← e50,← e51,← e52,← e53]
            intros;rfl
           obtain rfl:=oi h
           refine nP_i ?_
           refine Weak.mixN [] hn0 (by decide) ?_ ?_ rfl
           all_goals first|(simp[Aa,Ab,pickOb];done)|rfl
         |false =>
          replace h:=iteF rfl h
          apply AW.last
          ·simp[Ad e47,← e48,Ad e49,← e50,← e51,← e52]
           intros;rfl
          obtain rfl:=oi h
          refine nP_i ?_
          refine Weak.mixN [] hn0 (by decide) ?_ ?_ rfl
          all_goals first|(simp[Aa,Ab,pickOb];done)|rfl
        |false =>
         replace h:=iteF rfl h
         apply AW.last
         ·simp[Ad e47,← e48,Ad e49,← e50,← e51]
          intros;rfl
         obtain rfl:=oi h
         refine nP_i ?_
         refine Weak.mixN [] hn0 (by decide) ?_ ?_ rfl
         all_goals first|(simp[Aa,Ab,pickOb];done)|rfl
       |false =>
        replace h:=iteF rfl h
        apply AW.last
        ·simp[Ad e47,← e48,Ad e49,← e50]
         intros;rfl
        obtain rfl:=oi h
        refine nP_i ?_
        refine Weak.mixN [] hn0 (by decide) ?_ ?_ rfl
        all_goals first|(simp[Aa,Ab,pickOb];done)|rfl
      |false =>
       replace h:=iteF rfl h
       apply AW.last
       ·simp[Ad e47,← e48]
        intros;rfl
       obtain rfl:=oi h
       refine nP_i ?_
       refine Weak.mixN [] hn0 (by decide) ?_ ?_ rfl
       all_goals first|(simp[Aa,Ab,pickOb];done)|rfl
     ·rintro e s hp
      obtain⟨rfl,hw⟩:=hp
      refine⟨_,hw,?_⟩
      try simp only[nm]
      obtain rfl:=oi h
      refine AW.ret ?_
      refine Left.plain hnb (by simp[Tryz.f6,resV,resC,comp];rfl) rfl rfl ?_
      simp
    ·replace h:=smR h
     obtain⟨rfl,hl⟩:=hp
     refine⟨_,Weak.refl _,?_⟩
     obtain rfl:=oi h
     exact hl
end Go.Proofs.YtlbdhlbbkibgpaaGreat
namespace Go.Proofs.YtlbdhlbbkibgpaaGreat
open Go Go.RowKit
theorem Lr {l:List Pair} (h:SrtP l) (k:ByteArray):applyP l (goneE k)=l.filter fun p=>decide (p.key≠k):=by
 obtain⟨A,B,C,rfl,hA,hC,hB⟩:=shapeG (key:=Pair.key) k l h
 rw[Cz (e:=goneE k) hA hC hB]
 have hA2:A.filter (fun p=>decide (p.key≠k))=A:=Dh fun a ha=>decide_eq_true (Cq (hA a ha))
 have hC2:C.filter (fun p=>decide (p.key≠k))=C:=Dh fun a ha=>decide_eq_true fun e=>Cq (hC a ha) e.symm
 have hB2:B.filter (fun p=>decide (p.key≠k))=[]:=CJ fun b hb=>by
  rcases hB with rfl|⟨x,rfl,hx⟩
  ·simp at hb
  ·simp at hb;subst hb;simp[hx]
 rw[List.filter_append,List.filter_append,hA2,hB2,hC2]
 rfl
theorem Oo {l:List Pair} (h:SrtP l) (k:ByteArray) (s:Int):inP (applyP l (goneE k)) s=(inP l s).filter fun x=>decide (x≠k):=by
 rw[Lr h]
 unfold inP
 rw[List.filter_map,List.filter_filter,List.filter_filter]
 refine congrArg (List.map _) (List.filter_congr fun p _=>?_)
 simp only[Function.comp]
 rw[Bool.and_comm]
theorem Oq {l:List Pair} (h:SrtP l) {k:ByteArray} {ks:List ByteArray} {s:Int} (e:inP l s=k::ks):inP (applyP l (goneE k)) s=ks:=by
 have hs:=LU h s
 rw[Oo h,e]
 rw[e] at hs
 rw[List.filter_cons,if_neg (by simp)]
 exact Dh fun a ha=>decide_eq_true fun e2=>Cq ((List.pairwise_cons.1 hs).1 a ha) e2.symm
theorem MI {l:List Pair} (h:SrtP l) {e:Effect} (hg:e.gone=false) (hk:∀ p∈l,p.key≠e.key):(applyP l e).length=l.length+1:=by
 obtain⟨A,B,C,rfl,hA,hC,hB⟩:=shapeG (key:=Pair.key) e.key l h
 rw[Cz hA hC hB]
 rcases hB with rfl|⟨x,rfl,hx⟩
 ·simp[newP,hg];omega
 ·exact absurd hx (hk x (by simp))
theorem MJ {l:List Pair} {e:Effect} {p:Pair} (h:p∈applyP l e):p∈l∨(e.gone=false∧p=⟨e.key,e.item⟩):=by
 unfold applyP newP at h
 simp only[List.mem_append,List.mem_filter] at h
 rcases h with (h1|h1)|h1
 ·exact .inl h1.1
 ·split at h1
  ·cases h1
  ·rename_i hg
   simp at h1
   exact .inr ⟨by simpa using hg,h1⟩
 ·exact .inl h1.1
theorem Ot:BJ big []=some []:=by kernel_rfl
theorem Ou:okDB []:=⟨List.Pairwise.nil,fun p hp=>by simp at hp,Nat.zero_le _,fun p hp=>by simp at hp⟩
structure InE (db:List Pair) (s:Int) (ks:List ByteArray) (i:Nat) (b n:Node):Prop where
 okn:OkN n
 okb:OkN b
 nin:inP n.db s=ks.drop i
 nlen:n.db.length+i=db.length
 nmv:n.moves=[⟨s,3,0,⟨#[]⟩⟩]
 nla:n.last=i
 nep:n.epoch=1
 ncl:n.claims=[⟨0,16383,2,1⟩]
 nma:n.master=-1
 nid:n.id=2
 nmay:∀ p∈n.db,mayI p.item
 blen:b.db.length=i
 bma:b.master=-1
 bid:b.id=3
 bk:∀ p∈b.db,p.key∈ks.take i
 bsn:b.seen=if i=0 then [] else [⟨2,s,i⟩]
theorem NG {db:List Pair} {s:Int} {ks:List ByteArray} {i:Nat} {b n:Node} (hI:InE db s ks i b n) (hi:i<ks.length) (hks:ks.length≤40) (hsrt:ks.Pairwise fun a b=>slt a b=true) (hs:0≤s∧s<16384) :
  ∃ n' msg b' n'',BN big n=some (n',[msg])∧(∃ e,msg.effects=[e]∧e.key=ks[i])∧msg.to=3∧msg.num=(i:Int)+1∧B3 big b msg=some (b',[ackP b msg])∧(ackP b msg).to=2∧Ca big n' (ackP b msg)=some n''∧InE db s ks (i+1) b' n'':=by
 obtain⟨h1,h2,h3,h4,h5,h6,h7,h8,h9,h10,h11,h12,h13,h14,h15,h16⟩:=hI
 have hin:inP n.db s≠[]:=by
  rw[h3,List.drop_eq_getElem_cons hi]
  exact List.cons_ne_nil _ _
 obtain⟨hr,hsl⟩:=Ol hin
 have hk:(inP n.db s).headD ⟨#[]⟩=ks[i]:=by rw[h3,List.drop_eq_getElem_cons hi];rfl
 have hT:=LZ (fun _ cl=>GoodC cl) n h1 h9 (by rw[h6];omega) (by rw[h7];omega) (by rw[h8];exact HT 2 (by omega)) (KT (fun m hm=>by rw[h5] at hm;simp at hm;subst hm;exact⟨hs,by simp⟩))
 rw[MH n s 3 h5 hin,hk] at hT
 rw[hk] at hr hsl
 obtain⟨p,hp,hpk⟩:=KN.1 hr
 have hkk:keyed ks[i]:=by rw[← hpk];exact h1.key p hp
 obtain⟨it,hit⟩:=Option.isSome_iff_exists.1 hr
 have hitm:∃ q∈n.db,q.item=it:=by
  unfold rawP at hit
  cases hf:n.db.find? fun p=>decide (p.key=ks[i]) with
  |none=>rw[hf] at hit;cases hit
  |some q =>
   rw[hf] at hit
   exact⟨q,List.mem_of_find?_eq_some hf,Option.some.inj hit⟩
 obtain⟨q,hq,hqi⟩:=hitm
 have hM:MayM (msgP n ⟨s,3,n.last+1,ks[i]⟩) ⟨ks[i],false,it⟩:={
  eff:=by show [_]=_;rw[hit];rfl
  num:=by show 1≤n.last+1;rw[h6];omega
  gone:=rfl
  key:=hkk
  item:=by rw[← hqi];exact h11 q hq
  ok:=by show okI it;rw[← hqi];exact h1.okd q hq
  slot:=hsl }
 have hfr:(msgP n ⟨s,3,n.last+1,ks[i]⟩).frm=2:=h10
 have hTk:B3 big b (msgP n ⟨s,3,n.last+1,ks[i]⟩)=some (takeN b (msgP n ⟨s,3,n.last+1,ks[i]⟩) ⟨ks[i],false,it⟩ [] [],[ackP b (msgP n ⟨s,3,n.last+1,ks[i]⟩)]):=by
  by_cases hz:i=0
  ·rw[if_pos hz] at h16
   rw[L1 b h2 h13 _ _ hM [] [] [] h16 (by simp) (by simp) (.inl rfl),if_pos (by simp)]
  ·rw[if_neg hz] at h16
   rw[L1 b h2 h13 _ _ hM [] [⟨2,s,i⟩] [] h16 (by simp) (by simp) (.inr ⟨_,rfl,hfr.symm,rfl⟩),if_pos]
   intro x hx
   simp at hx
   subst hx
   show (i:Int)<n.last+1
   rw[h6]
   omega
 have hn2:OkN { n with last:=n.last+1,moves:=[⟨s,3,n.last+1,ks[i]⟩] }:=OkN.mvs h1 (by simp) _
 have hA:=NE { n with last:=n.last+1,moves:=[⟨s,3,n.last+1,ks[i]⟩] } hn2 (ackP b (msgP n ⟨s,3,n.last+1,ks[i]⟩)) [] [] ⟨s,3,n.last+1,ks[i]⟩ rfl (by simp) (by simp) rfl (by show 1≤n.last+1;rw[h6];omega) rfl h14.symm
 have hbnew:∀ p∈b.db,p.key≠ks[i]:=fun p hp e=>by
  have h:=h15 p hp
  rw[e] at h
  obtain⟨j,hj,hj2⟩:=List.getElem_of_mem h
  rw[List.getElem_take] at hj2
  simp at hj
  have:=List.pairwise_iff_getElem.1 hsrt j i (by omega) hi (by omega)
  rw[hj2] at this
  exact Cq this rfl
 have hblen:(applyP b.db ⟨ks[i],false,it⟩).length=i+1:=by rw[MI h2.srt rfl hbnew,h12]
 have hless:=Lo (it:=noI) h1.srt hr
 have hdl:=h1.dl
 refine⟨_,_,_,_,hT,⟨_,hM.eff,rfl⟩,rfl,by show n.last+1=_;rw[h6],hTk,hfr,hA,?_⟩
 refine⟨OkN.app hn2 (e:=goneE ks[i]) hkk Nm (by show (applyP n.db (goneE ks[i])).length≤1000;unfold goneE;omega) (by simp) hn2.sn,OkN.take h2 hM (by omega) (by simp),?_,?_,rfl,?_,h7,h8,h9,h10,fun p hp=>h11 p (MF hp),hblen,h13,h14,fun p hp=>?_,?_⟩
 ·exact Oq h1.srt (by rw[h3,List.drop_eq_getElem_cons hi])
 ·show (applyP n.db (goneE ks[i])).length+(i+1)=db.length
  unfold goneE
  omega
 ·show n.last+1=((i+1:Nat):Int)
  rw[h6];omega
 ·rcases MJ (e:=⟨ks[i],false,it⟩) hp with h|⟨_,h⟩
  ·have:=h15 p h
   rw[← List.take_append_getElem hi]
   exact List.mem_append_left _ this
  ·rw[h,← List.take_append_getElem hi]
   exact List.mem_append_right _ (List.mem_singleton.2 rfl)
 ·show []++[(⟨n.id,s,n.last+1⟩:Seen)]++[]=_
  rw[h10,h6,if_neg (by omega)]
  simp
theorem Lt (ns:List Int) (which:Int) (hu:u8s ns) (hw:0≤which∧which≤255):C0 big ns which=some true:=by
 refine Rn.eq ?_
 unfold C0
 refine Rn.lt (Rn.lt (Rn.ite (fun _=>Rn.bnE KV (Rn.some rfl)) fun hlen=>?_))
 have hlen:=OD hlen
 simp only[lenI] at hlen
 obtain⟨db,hdb,hok,hmay⟩:=NA ns hu (by omega)
 refine Rn.bnE (LX 2 (by omega) ns db hdb) (Rn.bnE (LX 3 (by omega) [] [] Ot) ?_)
 obtain⟨j,hj,-,hk⟩:=HN which hw.1 hw.2
 refine Rn.bnE hk (Rn.bnE (G7 _ (by rw[(IP hj).2.1];omega)).1 ?_)
 have hs:=Pg ⟨j,hj,rfl⟩
 generalize slotOf (keyT j)=s at hs ⊢
 have hdl:=hok.2.2.1
 have hky:∀ p∈db,p.key.size≤1000000000000:=fun p hp=>by
  have:=Ej (hok.2.2.2 p hp)
  omega
 refine Rn.bnE (LT db s (by omega) hky) ?_
 refine Rn.bnE (Oa (nd 2 db) (MC hok) rfl rfl s 3 1 hs.1 hs.2 (by omega) (by omega) (by show (3:Int)≠2;omega) (PX 2 1 s hs.1 hs.2) [] [] [] rfl (by simp) (by simp) (.inl rfl)) ?_
 rw[if_pos rfl]
 refine Rn.bnE (v:=0) rfl (Rn.lt ?_)
 rw[DY]
 refine Rn.ite (fun h=>by cases h) fun _=>?_
 have hn1:OkN { nd 2 db with moves:=[⟨s,3,0,⟨#[]⟩⟩] }:=OkN.mvs (MC hok) (by simp) 0
 have hkl:(inP db s).length≤40:=Nat.le_trans (FN db s) hdl
 have hsrt:=LU hok.1 s
 have hI0:InE db s (inP db s) 0 (nd 3 []) { nd 2 db with moves:=[⟨s,3,0,⟨#[]⟩⟩] }:=⟨hn1,MC Ou,rfl,rfl,rfl,rfl,rfl,rfl,rfl,rfl,fun p hp=>(hmay.1 p hp).2,rfl,rfl,rfl,fun p hp=>absurd hp List.not_mem_nil,rfl⟩
 generalize hkse:inP db s=ks at hkl hsrt hI0 ⊢
 refine Rn.bn (P:=fun y=>∃ b n,y=.inl (b,n)∧InE db s ks ks.length b n) (Rn.iter _ (fun i y=>∃ b n,y=((i:Int),b,n)∧InE db s ks i b n) ks.length (by unfold big;omega) ⟨_,_,rfl,hI0⟩ fun i y hi hI=>?_) fun y hy=>?_
 ·obtain⟨b,n,rfl,hI⟩:=hI
  refine Rn.lt (Rn.lt (Rn.ite (fun hd=>?_) fun hd=>?_))
  ·have hd:=DQ hd
   simp only[lenI] at hd
   have hil:i<ks.length:=by omega
   obtain⟨n',msg,b',n'',e1,⟨e,e2,e3⟩,e4,e5,e6,e7,e8,hI'⟩:=NG hI hil hkl hsrt hs
   refine Rn.bnE e1 (Rn.bnE (v:=false) ?_ (Rn.lt (Rn.ite (fun h=>by cases h) fun _=>?_)))
   ·simp only[Ai,Af,Aj,Ak,Al,Am,Ag,Option.some.injEq]
    rw[show neI ((([msg]:List Msg).length:Nat):Int) 1=false from rfl,Ak,show nth [msg] 0=some msg from rfl,Af,e2,show neI ((([e]:List Effect).length:Nat):Int) 1=false from rfl,Ak,show nth [e] 0=some e from rfl,Af,Aw hil,Af,e3,HK,Ak,e4,DY,Ak,e5,Ar (by omega) (by omega),DY]
   ·refine Rn.bnE (v:=msg) rfl (Rn.bnE e6 (Rn.bnE (v:=false) ?_ (Rn.lt (Rn.ite (fun h=>by cases h) fun _=>?_))))
    ·simp only[Ai,Af,Aj,Ak,Al,Am,Ag,Option.some.injEq]
     rw[show neI ((([ackP b msg]:List Msg).length:Nat):Int) 1=false from rfl,Ak,show nth [ackP b msg] 0=some (ackP b msg) from rfl,Af,e7]
     rfl
    ·refine Rn.bnE (v:=ackP b msg) rfl (Rn.bnE e8 (Rn.lt (Rn.some ⟨hil,b',n'',?_,hI'⟩)))
     rw[Ar (by omega) (by omega)]
     exact congrArg (fun z:Int=>(z,b',n'')) (by omega)
  ·have hd:=DR hd
   simp only[lenI] at hd
   obtain rfl:i=ks.length:=by omega
   exact Rn.some ⟨b,n,rfl,hI⟩
 ·obtain⟨b,n,rfl,hI⟩:=hy
  obtain⟨h1,h2,h3,h4,h5,h6,h7,h8,h9,h10,h11,h12,h13,h14,h15,h16⟩:=hI
  rw[List.drop_length] at h3
  have hT:=LZ (fun _ cl=>GoodC cl) n h1 h9 (by rw[h6];omega) (by rw[h7];omega) (by rw[h8];exact HT 2 (by omega)) (KT (fun m hm=>by rw[h5] at hm;simp at hm;subst hm;exact⟨hs,by simp⟩))
  rw[MG n s 3 h5 h3] at hT
  have hg:=give1 (HT 2 (by omega)) s 3 2 (by omega) (by omega) (by omega)
  have hcl:(relT n ⟨s,3,0,⟨#[]⟩⟩).claims=giveP [⟨0,16383,2,1⟩] s 3 2:=by
   unfold relT
   rw[h8,h7]
   rfl
  have hlen2:(giveP [⟨0,16383,2,1⟩] s 3 2).length≤16384:=hg.2.1.len
  have hOf:C8 big (giveP [⟨0,16383,2,1⟩] s 3 2) s=some (3,2):=by
   rw[Of_ok _ _ (by omega),hg.2.2 s]
   unfold giveF
   rw[if_pos ⟨hs,_,List.mem_singleton.2 rfl,Int.le_refl _,Int.le_refl _⟩]
   rfl
  have hep:(relT n ⟨s,3,0,⟨#[]⟩⟩).epoch=2:=by
   show n.epoch+1=2
   rw[h7];rfl
  have hdl2:=h1.dl
  refine Rn.sm (fun a ha=>?_) fun b hb=>by cases hb
  obtain rfl:=Sum.inl.inj ha
  refine Rn.bnE hT (Rn.bnE (show C8 big (relT n ⟨s,3,0,⟨#[]⟩⟩).claims s=some (3,2) by rw[hcl];exact hOf) ?_)
  refine Rn.bn (P:=fun b=>b=true) ?_ fun b hb=>Rn.some hb
  refine Rn.lt (Rn.lt (Rn.ite (fun _=>?_) fun h=>by cases h))
  refine Rn.lt (Rn.lt (Rn.ite (fun _=>?_) fun h=>by cases h))
  refine Rn.lt (Rn.ite (fun _=>?_) fun h=>by cases h)
  refine Rn.lt (Rn.ite (fun _=>?_) fun h=>by cases h)
  refine Rn.lt (Rn.ite (fun _=>?_) fun h=>absurd hep (JN h))
  have hky2:∀ p∈n.db,p.key.size≤1000000000000:=fun p hp=>by
   have:=Ej (h1.key p hp)
   omega
  refine Rn.bnE (show DU big (relT n ⟨s,3,0,⟨#[]⟩⟩).db s=some [] by rw[← h3];exact LT n.db s (by omega) hky2) ?_
  refine Rn.lt (Rn.lt (Rn.ite (fun _=>?_) fun h=>by cases h))
  refine Rn.lt (Rn.lt (Rn.lt (Rn.ite (fun _=>?_) fun h=>absurd (show (b.db.length:Int)=(ks.length:Int) by rw[h12]) (JN h))))
  refine Rn.lt (Rn.lt (Rn.lt (Rn.lt (Rn.ite (fun _=>Rn.bnE KV (Rn.some rfl)) fun h=>?_))))
  exfalso
  apply JN h
  show (n.db.length:Int)=subI .i64 (db.length:Int) (ks.length:Int)
  rw[EW (by omega) (by omega)]
  omega
end Go.Proofs.YtlbdhlbbkibgpaaGreat
namespace Go.Proofs.YtlbdhlbbkibgpaaGreat
open Go Go.RowKit
set_option maxRecDepth 100000
section
variable {P:Program} {n t:Nat} {ts:List T}
theorem WfT.bool (hu:P.underlying t=some .bool) (h:WfT P (n+1) t ts):∃ b,ts=[.v (.bool b)]:=by rw[WfT,hu] at h;exact h
theorem WfT.int {k:IntKind} (hu:P.underlying t=some (.int k)) (h:WfT P (n+1) t ts):∃ i,ts=[.v (.int k i)]∧(Lit.int k i).wf=true:=by rw[WfT,hu] at h;exact h
theorem WfT.slice {e:Nat} (hu:P.underlying t=some (.slice e)) (h:WfT P (n+1) t ts):∃ es,ts=[.sl (P.cellsOf e) es]∧es.length*P.bytesOf e≤reachBytes∧∀ x∈es,WfT P n e x:=by rw[WfT,hu] at h;exact h
theorem WfT.struct {fs:Array Go.Field} (hu:P.underlying t=some (.struct fs)) (h:WfT P (n+1) t ts):∃ ps:List (List T),ts=ps.flatten∧All2 (fun p f=>WfT P n f p) ps (fs.toList.map (·.type)):=by rw[WfT,hu] at h;exact h
end
theorem All2.cons_r {α β:Type} {R:α→β→Prop} {l:List α} {b:β} {bs:List β} (h:All2 R l (b::bs)):∃ x xs,l=x::xs∧R x b∧All2 R xs bs:=by
 cases l with
 |nil=>exact h.elim
 |cons x xs=>exact⟨x,xs,rfl,h⟩
theorem All2.nil_r {α β:Type} {R:α→β→Prop} {l:List α} (h:All2 R l ([]:List β)):l=[]:=by
 cases l with
 |nil=>rfl
 |cons x xs=>exact h.elim
def rngI (i:Int):Prop:=-9223372036854775808≤i∧i≤9223372036854775807
theorem L2 {α:Type} {enc:List α→List (List T)} {R:List T→Prop} {rng:α→Prop} (hn:enc []=[]) (hc:∀ x l,enc (x::l)=enc [x]++enc l) (h1:∀ e,R e→∃ x,enc [x]=[e]∧rng x) :
  ∀ es,(∀ x∈es,R x)→∃ l,es=enc l∧∀ x∈l,rng x
 |[],_=>⟨[],hn.symm,fun x h=>by cases h⟩
 |e::es,h=>by
  obtain⟨x,hx,rx⟩:=h1 e (h e (by simp))
  obtain⟨l,rfl,rl⟩:=L2 hn hc h1 es fun y hy=>h y (by simp[hy])
  refine⟨x::l,by rw[hc,hx];rfl,?_⟩
  intro y hy
  rcases List.mem_cons.1 hy with rfl|hy
  ·exact rx
  ·exact rl y hy
def rngU (i:Int):Prop:=0≤i∧i≤255
theorem Pm {i:Int} (h:(Lit.int .u8 i).wf=true):rngU i:=by
 have h':=(Bool.and_eq_true _ _ ▸ h:_∧_)
 exact⟨of_decide_eq_true h'.1,of_decide_eq_true h'.2⟩
theorem wf_U (n:Nat) (e:List T) (h:WfT Tryz.prog (n+1) 5 e):∃ x:Int,encU [x]=[e]∧rngU x:=by
 obtain⟨f,rfl,h2⟩:=WfT.int (t:=5) Tryz.underlying5 h
 have h':=(Bool.and_eq_true _ _ ▸ h2:_∧_)
 have h1:=of_decide_eq_true h'.1
 have h2:=of_decide_eq_true h'.2
 exact⟨f,rfl,h1,h2⟩
theorem wf_Us {n:Nat} {es:List (List T)} (h:∀ x∈es,WfT Tryz.prog (n+1) 5 x):∃ l:List Int,es=encU l∧∀ x∈l,rngU x :=
 L2 (enc:=encU) (R:=fun e=>WfT Tryz.prog (n+1) 5 e) (rng:=rngU) rfl (fun _ _=>rfl) (@wf_U n) es h
def rngField (x:Field):Prop:=True
def rngItem (x:Item):Prop:=(rngI x.kind)∧(x.f.length≤4398046510976∧∀ y∈x.f,rngField y)∧(x.l.length≤8796093021952)∧(rngI x.exp)
def rngPair (x:Pair):Prop:=(rngItem x.item)
def rngEffect (x:Effect):Prop:=(rngItem x.item)
def rngRid (x:Rid):Prop:=(rngI x.node)∧(rngI x.epoch)
def rngFeed (x:Feed):Prop:=(rngRid x.rid)∧(rngI x.off)∧(x.back.length≤1353245080300∧∀ y∈x.back,rngEffect y)∧(rngRid x.prev)∧(rngI x.upto)
def rngClaim (x:Claim):Prop:=(rngI x.frm)∧(rngI x.to)∧(rngI x.node)∧(rngI x.epoch)
def rngMsg (x:Msg):Prop:=(rngI x.kind)∧(rngI x.frm)∧(rngI x.to)∧(rngI x.epoch)∧(x.claims.length≤4398046510976∧∀ y∈x.claims,rngClaim y)∧(x.nodes.length≤17592186043904∧∀ y∈x.nodes,rngI y)∧(rngI x.node)∧(rngI x.slot)∧(rngI x.num)∧(rngRid x.rid)∧(rngRid x.prev)∧(rngI x.off)∧(x.effects.length≤1353245080300∧∀ y∈x.effects,rngEffect y)
end Go.Proofs.YtlbdhlbbkibgpaaGreat
namespace Go.Proofs.YtlbdhlbbkibgpaaGreat
open Go Go.RowKit
open Go.ChangeShapes Go.WideShapes Go.ChangeAt Go.RowKit
theorem Tryz.own:ownKnob Tryz.prog.godebug=none:=by kernel_rfl
theorem Tryz.laidOut:laidOutB Tryz.prog=true:=by kernel_rfl
end Go.Proofs.YtlbdhlbbkibgpaaGreat
