/- Part 5 of the proof. -/
import Derived.Test.YtenemndpignaoaaPd4
import Derived.Test.YtenemndpignaoaaRows
import Derived.ProofKit
set_option linter.unusedVariables false
set_option linter.unusedSimpArgs false
set_option linter.constructorNameAsVariable false
set_option maxRecDepth 8000
set_option maxHeartbeats 8000000
namespace Go.Proofs.Ytenemndpignaoaa
open Go Go.RowKit
theorem Jq {a b:List Span} (hl:a.length+b.length≤100000):Rn (Dx big a b) fun m=>SM m∧(0:Int)∈m∧(16384:Int)∈m ∧
  (∀ x∈a++b,x.frm≤x.to→(0≤x.frm∧x.frm≤16384→x.frm∈m)∧(x.to<16384→0≤x.to+1→x.to+1∈m))∧m.length≤2+2*(a.length+b.length):=by
 unfold Dx;refine Rn.chk rfl (Rn.bn (P:=fun m=>SM m∧(0:Int)∈m∧(16384:Int)∈m ∧
  (∀ x∈a++b,x.frm≤x.to→(0≤x.frm∧x.frm≤16384→x.frm∈m)∧(x.to<16384→0≤x.to+1→x.to+1∈m))∧m.length≤2+2*(a.length+b.length))
  (zG _ (fun j y=>∃ m,y=(m,(j:Int))∧SM m∧(0:Int)∈m∧(16384:Int)∈m ∧
  (∀ x∈(a++b).take j,x.frm≤x.to→(0≤x.frm∧x.frm≤16384→x.frm∈m)∧(x.to<16384→0≤x.to+1→x.to+1∈m))∧m.length≤2+2*j) (a.length+b.length) (by unfold big;omega)
  ⟨[0,16384],rfl,⟨by simp,by simp⟩,by simp,by simp,by simp,by simp⟩ fun j y hj hI=>?_) fun m h=>Rn.some h)
 obtain⟨m,rfl,s1,s2,s3,s4,s5⟩:=hI;refine Rn.lt (Rn.lt (Rn.lt ?_));rw[BB,BB,An (by omega) (by omega)];refine Rn.lt (zB (fun hd=>?_) fun hd=>?_)
 ·have hjl:j<(a++b).length:=by
   have:=of_decide_eq_true (p:=((j:Int)<(a.length:Int)+(b.length:Int))) hd;simp;omega
  have hjl':j<a.length+b.length:=by simpa using hjl
  refine Rn.bn (P:=fun m2=>SM m2∧(∀ y∈m,y∈m2)∧((a++b)[j].frm≤(a++b)[j].to→(0≤(a++b)[j].frm∧(a++b)[j].frm≤16384→(a++b)[j].frm∈m2)∧((a++b)[j].to<16384→0≤(a++b)[j].to+1→(a++b)[j].to+1∈m2))∧m2.length≤m.length+2) ?_ fun m2 h2=>?_
  ·refine zC (v:=(a++b)[j]) ?_ ?_
   ·simp only[Ay];rcases Decidable.em (j<a.length) with h1|h1
    ·rw[lt_t (by omega),AS,AM h1];simp only[Ar];rw[List.getElem_append_left h1]
    ·rw[lt_f (by omega),A6,Aq (by omega) (by omega),show (j:Int) - (a.length:Int)=((j - a.length:Nat):Int) by omega,AM (show j - a.length<b.length by omega)];simp only[Ar];rw[List.getElem_append_right (by omega)]
   ·generalize (a++b)[j]=x;rcases Decidable.em (x.frm≤x.to) with hx|hx
    ·refine Rn.bn (P:=fun m'=>SM m'∧(∀ y,y∈m'↔y∈m∨(y=x.frm∧0≤x.frm∧x.frm≤16384))∧m'.length≤m.length+1) ?_ fun m1 h1=>?_
     ·simp only[Ay];rw[le_t hx,AS];refine Rn.bn (Ey s1 (by omega)) fun v hv=>Rn.some hv
     ·obtain⟨t1,t2,t3⟩:=h1;rcases Decidable.em (x.to<16384) with hz|hz
      ·refine zC (v:=true) ?_ (Rn.lt (zB (fun _=>Rn.lt ?_) fun h=>by simp at h))
       ·simp only[Ay];rw[le_t hx,AS,lt_t hz]
       ·refine Rn.bn (P:=fun m'=>SM m'∧(∀ y,y∈m'↔y∈m1∨(y=addI .i64 x.to 1∧0≤addI .i64 x.to 1∧addI .i64 x.to 1≤16384))∧m'.length≤m1.length+1) (Ey t1 (by omega)) fun m3 h3=>Rn.some ?_;obtain⟨u1,u2,u3⟩:=h3;refine⟨u1,fun y hy=>(u2 y).2 (.inl ((t2 y).2 (.inl hy))),fun _=>⟨fun hr=>(u2 _).2 (.inl ((t2 _).2 (.inr ⟨rfl,hr⟩))),fun _ h0=>?_⟩,by omega⟩;have e:addI .i64 x.to 1=x.to+1:=An (by omega) (by omega);rw[e] at u2;exact (u2 _).2 (.inr ⟨rfl,h0,by omega⟩)
      ·refine zC (v:=false) ?_ (Rn.lt (zB (fun h=>by simp at h) fun _=>Rn.some ?_))
       ·simp only[Ay];rw[le_t hx,AS,lt_f (by omega)]
       ·exact⟨t1,fun y hy=>(t2 y).2 (.inl hy),fun _=>⟨fun hr=>(t2 _).2 (.inr ⟨rfl,hr⟩),fun h=>absurd h hz⟩,by omega⟩
    ·refine zC (v:=m) ?_ (zC (v:=false) ?_ (Rn.lt (zB (fun h=>by simp at h) fun _=>Rn.some ⟨s1,fun y hy=>hy,fun h=>absurd h hx,by omega⟩)))
     ·simp only[Ay];rw[le_f (by omega),A6]
     ·simp only[Ay];rw[le_f (by omega),A6]
  ·obtain⟨t1,t2,t3,t4⟩:=h2;refine Rn.lt (Rn.some ⟨hjl',m2,?_,t1,t2 _ s2,t2 _ s3,?_,?_⟩)
   ·rw[An (by first|omega|(simp only;omega)) (by first|omega|(simp only;omega))];rfl
   ·intro x hx hle;rw[← List.take_append_getElem hjl] at hx;rcases List.mem_append.1 hx with hx|hx
    ·obtain⟨p,q⟩:=s4 x hx hle;exact⟨fun h=>t2 _ (p h),fun h h'=>t2 _ (q h h')⟩
    ·simp at hx;subst hx;exact t3 hle
   ·omega
 ·have hjl:j=a.length+b.length:=by
   have:=of_decide_eq_false (p:=((j:Int)<(a.length:Int)+(b.length:Int))) hd;omega
  subst hjl;rw[List.take_of_length_le (by simp)] at s4;exact Rn.some ⟨s1,s2,s3,s4,s5⟩
theorem FB {p:Int→Prop} [DecidablePred p] {s:Int} (h:¬ p s):fS p s=none:=if_neg h
theorem GH {p:Int→Prop} [DecidablePred p] {s:Int} (h:p s):fS p s=some ():=if_pos h
theorem Jr {l:List Span} {k:List Span} {x:Span} {a b:Int} (hl:l=k++[x]):putP (l.map sP) (a,b,())=if x.to+1=a then (k++[(⟨x.frm,b⟩:Span)]).map sP else (l++[(⟨a,b⟩:Span)]).map sP:=by
 subst hl;unfold putP;rw[List.map_append,show [x].map sP=[sP x] from rfl,List.getLast?_concat];simp only[List.dropLast_concat,and_true,sP];split <;> simp[sP]
theorem IA {l:List Span} (hl:l.length≤10000):Rn (BY big l) fun r=>FinP (r.map sP) (fS (inS l))∧r.length≤2+2*l.length:=by
 unfold BY EK;refine Rn.bn (P:=fun r=>FinP (r.map sP) (fS (inS l))∧r.length≤2+2*l.length) (Rn.bn (Jq (b:=[]) (by simp;omega)) fun m hm=>?_) fun r h=>Rn.some h;obtain⟨s1,s2,s3,s4,s5⟩:=hm;simp only[List.append_nil,List.length_nil,Nat.add_zero] at s4 s5;have hst:Stp m (fS (inS l)):=by
  refine⟨fun s hs=>?_,fun s hs=>FB fun h=>?_⟩
  ·have:=Stp.inS s2 s3 s4 s hs;unfold fS;simp only[this]
  ·obtain⟨h1,_⟩:=h;omega
 have hpos:0<m.length:=List.length_pos_of_mem s2;refine Rn.bn (P:=fun r=>FinP (r.map sP) (fS (inS l))∧r.length≤2+2*l.length) (zG _ (fun j y=>∃ out:List Span,y=((j:Int),out)∧out.length≤j∧(∀ x∈out,inB x.to)∧∃ h:j<m.length,BdP m[j] (out.map sP) (fS (inS l))) m.length (by unfold big;omega) ⟨[],rfl,by simp,by simp,hpos,hst.first s1 hpos⟩ fun j y hj hI=>?_) fun r h=>Rn.chk (by simp[room];omega) (Rn.some h);obtain⟨out,rfl,t1,t2,hjm,t3⟩:=hI;refine Rn.lt (Rn.lt (Rn.lt ?_));rw[An (by omega) (by omega),BB];refine zB (fun hd=>?_) fun hd=>?_
 ·have hj1:j+1<m.length:=by
   have:=of_decide_eq_true (p:=((j:Int)+1<(m.length:Int))) hd;omega
  have hn0:nth m (j:Int)=some m[j]:=AM hjm;have hn1:nth m ((j:Int)+1)=some m[j+1]:=AM (i:=j+1) hj1;have hm0:=s1.2 _ (List.getElem_mem hjm);have hm1:=s1.2 _ (List.getElem_mem hj1);obtain⟨g1,g2⟩:=hst.next s1 hj1 t3;refine Rn.bn (P:=fun o=>o.length≤j+1∧(∀ x∈o,inB x.to)∧BdP m[j+1] (o.map sP) (fS (inS l))) ?_ fun o ho=>Rn.lt (Rn.some ⟨by omega,o,?_,ho.1,ho.2.1,hj1,ho.2.2⟩)
  ·refine zC hn0 (zC (HX l _ (by omega)) (zC (HX [] _ (by simp)) ?_));rw[show decide (inS [] m[j])=false from decide_eq_false (by unfold inS;simp)];rcases Decidable.em (inS l m[j]) with hin|hin
   ·rw[decide_eq_true hin];refine zC (v:=(true,true)) rfl (zC (v:=true) rfl (Rn.lt (zB (fun h=>by simp[notB] at h) fun _=>?_)));have g3:=g2 () (GH hin);rcases Decidable.em (out=[]) with he|he
    ·subst he;refine zC (v:=false) rfl (Rn.lt (zB (fun h=>by simp at h) fun _=>zC hn0 (Rn.lt ?_)));refine zC hn1 (Rn.lt (Rn.chk rfl (Rn.lt (Rn.some ⟨by simp,?_,?_⟩))))
     ·intro x hx;simp at hx;subst hx;simp only[inB];rw[Aq (by omega) (by omega)];omega
     ·rw[Aq (by omega) (by omega)];exact g3
    ·obtain⟨k,x,rfl⟩:∃ k x,out=k++[x]:=⟨out.dropLast,out.getLast he,(List.dropLast_concat_getLast he).symm⟩;have hxt:=t2 x (by simp);unfold inB at hxt;have el:subI .i64 (lenI (k++[x])) 1=((k.length:Nat):Int):=by
      rw[BB,Aq (by omega) (by omega)];simp
     have hk:k.length<(k++[x]).length:=by simp
     have hn:nth (k++[x]) ((k.length:Nat):Int)=some x:=by rw[AM hk];simp
     rw[Jr rfl] at g3;refine zC (v:=eqI x.to (m[j] - 1)) ?_ (Rn.lt (zB (fun h=>?_) fun h=>?_))
     ·simp only[Ay];rw[gt_t (by rw[BB];simp),AS,el,hn];simp only[Ar];rw[hn0];simp only[Ar];rw[Aq (by omega) (by omega)]
     ·have hx:x.to=m[j] - 1:=of_decide_eq_true h;rw[if_pos (by omega)] at g3;refine Rn.lt (Rn.lt (Rn.lt ?_));rw[el];refine zC hn1 (Rn.lt (zC hn (Rn.lt (Rn.some ?_))));rw[Aq (by omega) (by omega),Int.toNat_natCast,List.set_append_right _ _ (by omega),Nat.sub_self];refine⟨by simp at t1 ⊢;omega,?_,g3⟩;intro z hz;rcases List.mem_append.1 hz with hz|hz
      ·exact t2 z (by simp[hz])
      ·simp at hz;subst hz;simp only[inB];omega
     ·have hx:x.to≠m[j] - 1:=of_decide_eq_false h;rw[if_neg (by omega)] at g3;refine zC hn0 (Rn.lt ?_);refine zC hn1 (Rn.lt (Rn.chk (by simp[room];simp at t1;omega) (Rn.lt (Rn.some ?_))));rw[Aq (by omega) (by omega)];refine⟨by simp at t1 ⊢;omega,?_,g3⟩;intro z hz;rcases List.mem_append.1 hz with hz|hz
      ·exact t2 z hz
      ·simp at hz;subst hz;simp only[inB];omega
   ·rw[decide_eq_false hin];refine zC (v:=(false,false)) rfl (zC (v:=false) rfl (Rn.lt (zB (fun _=>Rn.some ⟨Nat.le_succ_of_le t1,t2,g1 (FB hin)⟩) fun h=>by simp[notB] at h)))
  ·rfl
 ·have hj1:m.length≤j+1:=by
   have:=of_decide_eq_false (p:=((j:Int)+1<(m.length:Int))) hd;omega
  exact Rn.some ⟨hst.last s1 hjm hj1 t3,show out.length≤2+2*l.length by omega⟩
end Go.Proofs.Ytenemndpignaoaa
namespace Go.Proofs.Ytenemndpignaoaa
open Go Go.RowKit
section
variable {β:Type}
theorem CN:∀ {l:List (Int×Int×β)} {p:Int×Int×β},canP l→p∈l→(p.1≤p.2.1∧∀ s,p.1≤s→s≤p.2.1→fnP l s=some p.2.2)
 |[],p,_,hp=>by simp at hp
 |q::l,p,h,hp=>by
  rcases List.mem_cons.1 hp with rfl|hp
  ·exact⟨h.head,fun s h1 h2=>Bx h1 h2⟩
  ·obtain⟨h1,h2⟩:=CN h.tail hp;have h3:=h.lt p hp;exact⟨h1,fun s g1 g2=>by rw[BM (by omega),h2 s g1 g2]⟩
theorem E4:∀ {l:List (Int×Int×β)} {a b:Int},canP l→(∀ p∈l,a≤p.1∧p.2.1≤b)→a≤b+1→(l.length:Int)≤b+1 - a
 |[],a,b,_,_,h=>by simp;omega
 |p::l,a,b,hc,hp,h=>by
  have h1:=hp p (by simp);have h2:=hc.head;have:=E4 (a:=p.2.1+1) (b:=b) hc.tail (fun q hq=>⟨by have:=hc.lt q hq;omega,(hp q (by simp[hq])).2⟩) (by omega);simp;omega
end
def RngC (l:List Claim):Prop:=∀ c∈l,0≤c.frm∧c.frm≤c.to∧c.to≤16383∧0≤c.node∧1≤c.epoch
def GoodC (l:List Claim):Prop:=canP (l.map cP)∧RngC l
def Tells (f:Int→Option (Int×Int)):Prop:=∀ s v,f s=some v→(0≤s∧s≤16383)∧0≤v.1∧1≤v.2
theorem Lh:∀ {a b:Claim},cP a=cP b→a=b:=by
 intro a b h;obtain⟨a1,a2,a3,a4⟩:=a;obtain⟨b1,b2,b3,b4⟩:=b;simp[cP] at h;obtain⟨h1,h2,h3,h4⟩:=h;subst h1 h2 h3 h4;rfl
theorem GI {α γ:Type} {f:α→γ} (hf:∀ {a b},f a=f b→a=b):∀ {l m:List α},l.map f=m.map f→l=m
 |[],[],_=>rfl
 |[],b::m,h=>by simp at h
 |a::l,[],h=>by simp at h
 |a::l,b::m,h=>by
  rw[List.map_cons,List.map_cons,List.cons.injEq] at h;have e1:a=b:=hf h.1;have e2:l=m:=GI (f:=f) hf h.2;rw[e1,e2]
theorem FinP.good {l:List Claim} {f:Int→Option (Int×Int)} (h:FinP (l.map cP) f) (ht:Tells f):GoodC l:=by
 refine⟨h.1,fun c hc=>?_⟩;obtain⟨h1,h2⟩:=CN h.1 (List.mem_map_of_mem hc);have a:=ht c.frm _ ((h.2 _).symm.trans (h2 c.frm (Int.le_refl _) h1));have b:=ht c.to _ ((h.2 _).symm.trans (h2 c.to h1 (Int.le_refl _)));have h1':c.frm≤c.to:=h1;have e1:(cP c).2.2.1=c.node:=rfl;have e2:(cP c).2.2.2=c.epoch:=rfl;rw[e1,e2] at a;exact⟨a.1.1,h1',b.1.2,a.2.1,a.2.2⟩
theorem GoodC.tells {l:List Claim} (h:GoodC l):Tells (fC l):=by
 intro s v hv;have key:∀ l:List Claim,RngC l→fC l s=some v→(0≤s∧s≤16383)∧0≤v.1∧1≤v.2:=by
  intro l;induction l with
  |nil=>intro _ h;simp[fC,fnP] at h
  |cons c l ih =>
   intro hr hf;have hc:=hr c (by simp);rcases Decidable.em (c.frm≤s∧s≤c.to) with h1|h1
   ·have:fC (c::l) s=some (c.node,c.epoch):=Bx (p:=cP c) h1.1 h1.2;rw[this] at hf;have:=Option.some.inj hf;subst this;exact⟨by omega,hc.2.2.2.1,hc.2.2.2.2⟩
   ·have:fC (c::l) s=fC l s:=BM (p:=cP c) h1;rw[this] at hf;exact ih (fun x hx=>hr x (by simp[hx])) hf
 exact key l h.2 hv
theorem GoodC.len {l:List Claim} (h:GoodC l):l.length≤16384:=by
 have:=E4 (a:=0) (b:=16383) h.1 (fun p hp=>by
  obtain⟨c,hc,rfl⟩:=List.mem_map.1 hp;have:=h.2 c hc;exact⟨this.1,this.2.2.1⟩) (by omega)
 simp at this;omega
theorem GoodC.fin {l:List Claim} (h:GoodC l):FinP (l.map cP) (fC l):=⟨h.1,fun _=>rfl⟩
theorem GoodC.step {l:List Claim} (h:GoodC l) {m:List Int} (hm:∀ c∈l,c.frm∈m∧c.to+1∈m):∀ s,s+1 ∉ m→fC l (s+1)=fC l s:=by
 intro s hs;refine F4 fun p hp=>?_;obtain⟨c,hc,rfl⟩:=List.mem_map.1 hp;obtain⟨h1,h2⟩:=hm c hc;exact⟨fun e=>hs (by rw[e];exact h1),fun e=>hs (by rw[e];exact h2)⟩
def giveF (f:Int→Option (Int×Int)) (p:Int→Prop) [DecidablePred p] (v:Int×Int) (s:Int):Option (Int×Int):=if p s then some v else f s
theorem Kf {l:List Span} {s:Int}:fnP (l.map sP) s=fS (fun s=>∃ x∈l,x.frm≤s∧s≤x.to) s:=by
 induction l with
 |nil=>rw[FB (by simp)];rfl
 |cons x l ih =>
  rcases Decidable.em (x.frm≤s∧s≤x.to) with h|h
  ·rw[GH ⟨x,by simp,h⟩];exact Bx (p:=sP x) h.1 h.2
  ·have:fnP ((x::l).map sP) s=fnP (l.map sP) s:=BM (p:=sP x) h;rw[this,ih];unfold fS;have:(∃ y∈x::l,y.frm≤s∧s≤y.to)↔(∃ y∈l,y.frm≤s∧s≤y.to):=by
    constructor
    ·rintro⟨y,hy,h2⟩;rcases List.mem_cons.1 hy with rfl|hy
     ·exact absurd h2 h
     ·exact⟨y,hy,h2⟩
    ·rintro⟨y,hy,h2⟩;exact⟨y,by simp[hy],h2⟩
   simp only[this]
def SaysS (l:List Span) (p:Int→Prop) [DecidablePred p]:Prop:=FinP (l.map sP) (fS p)
theorem SaysS.iff {l:List Span} {p:Int→Prop} [DecidablePred p] (h:SaysS l p) (s:Int):(∃ x∈l,x.frm≤s∧s≤x.to)↔p s:=by
 have:=h.2 s;rw[Kf] at this;unfold fS at this;constructor
 ·intro h1;rw[if_pos h1] at this;rcases Decidable.em (p s) with h2|h2
  ·exact h2
  ·rw[if_neg h2] at this;simp at this
 ·intro h1;rw[if_pos h1] at this;rcases Decidable.em (∃ x∈l,x.frm≤s∧s≤x.to) with h2|h2
  ·exact h2
  ·rw[if_neg h2] at this;simp at this
theorem SaysS.rng {l:List Span} {p:Int→Prop} [DecidablePred p] (h:SaysS l p) (hp:∀ s,p s→0≤s∧s≤16383):∀ x∈l,0≤x.frm∧x.frm≤x.to∧x.to≤16383:=by
 intro x hx;obtain⟨h1,-⟩:=CN h.1 (List.mem_map_of_mem hx);have h1':x.frm≤x.to:=h1;have a:=hp x.frm ((h.iff _).1 ⟨x,hx,Int.le_refl _,h1'⟩);have b:=hp x.to ((h.iff _).1 ⟨x,hx,h1',Int.le_refl _⟩);omega
theorem SaysS.len {l:List Span} {p:Int→Prop} [DecidablePred p] (h:SaysS l p) (hp:∀ s,p s→0≤s∧s≤16383):l.length≤16384:=by
 have:=E4 (a:=0) (b:=16383) h.1 (fun q hq=>by
  obtain⟨c,hc,rfl⟩:=List.mem_map.1 hq;have:=h.rng hp c hc;exact⟨this.1,this.2.2⟩) (by omega)
 simp at this;omega
theorem Cm {l:List Span}:∀ s,inS l s→0≤s∧s≤16383:=fun s h=>by have:=h.1;omega
theorem SaysS.inS {l:List Span} {p:Int→Prop} [DecidablePred p] (h:SaysS l p) (hp:∀ s,p s→0≤s∧s≤16383) (s:Int):Go.Proofs.Ytenemndpignaoaa.inS l s↔p s:=by
 unfold Go.Proofs.Ytenemndpignaoaa.inS;rw[h.iff];constructor
 ·exact fun h=>h.2
 ·intro h1;have:=hp s h1;exact⟨by omega,h1⟩
theorem SaysS.step {l:List Span} {p:Int→Prop} [DecidablePred p] (h:SaysS l p) {m:List Int} (hm:∀ x∈l,x.frm∈m∧x.to+1∈m):∀ s,s+1 ∉ m→(p (s+1)↔p s):=by
 intro s hs;have:fnP (l.map sP) (s+1)=fnP (l.map sP) s:=F4 fun q hq=>by
  obtain⟨c,hc,rfl⟩:=List.mem_map.1 hq;obtain⟨h1,h2⟩:=hm c hc;exact⟨fun e=>hs (by rw[e];exact h1),fun e=>hs (by rw[e];exact h2)⟩
 rw[h.2,h.2] at this;unfold fS at this;constructor
 ·intro h1;rw[if_pos h1] at this;rcases Decidable.em (p s) with h2|h2
  ·exact h2
  ·rw[if_neg h2] at this;simp at this
 ·intro h1;rw[if_pos h1] at this;rcases Decidable.em (p (s+1)) with h2|h2
  ·exact h2
  ·rw[if_neg h2] at this;simp at this
theorem Js {a:List Claim} {l:List Span} {nd ep:Int} (ha:GoodC a) (hl:l.length≤1000) (h1:0≤nd) (h2:1≤ep) :
  Rn (Dy big a l nd ep) fun r=>FinP (r.map cP) (giveF (fC a) (inS l) (nd,ep)):=by
 unfold Dy;have hal:=ha.len;refine Rn.bn (IA (by omega)) fun v hv=>?_;obtain⟨v1,v2⟩:=hv;have hv1:SaysS v (inS l):=v1;have hvr:=hv1.rng Cm;refine Rn.bn (JU SM.nil (by simp;omega) fun c hc=>by have:=ha.2 c hc;unfold inB;omega) fun m0 hm0=>?_;obtain⟨s1,s2,s3⟩:=hm0;refine Rn.bn (P:=fun m=>SM m∧(∀ y,y∈m↔y∈m0∨((∃ c∈v,y=c.frm∨y=c.to+1)∧0≤y∧y≤16384))∧m.length≤m0.length+2*v.length) (zG _ (fun j y=>∃ m,y=(m,(j:Int))∧SM m∧(∀ y,y∈m↔y∈m0∨((∃ c∈v.take j,y=c.frm∨y=c.to+1)∧0≤y∧y≤16384))∧m.length≤m0.length+2*j) v.length (by unfold big;omega) ⟨m0,rfl,s1,by simp,by omega⟩ fun j y hj hI=>?_) fun m hm=>?_
 ·obtain⟨m1,rfl,t1,t2,t3⟩:=hI;simp only[List.length_nil,Nat.zero_add] at s3;refine Rn.lt (Rn.lt (zB (fun hd=>?_) fun hd=>?_))
  ·have hjl:j<v.length:=by
    have:=of_decide_eq_true (p:=((j:Int)<(v.length:Int))) hd;omega
   refine zC (AM hjl) ?_;have hb:=hvr _ (List.getElem_mem hjl);refine Rn.bn (Ey (m:=m1) t1 (by omega)) fun m2 h2=>?_;obtain⟨u1,u2,u3⟩:=h2;refine Rn.lt ?_;rw[An (by omega) (by omega)];refine Rn.bn (Ey u1 (by omega)) fun m3 h3=>?_;obtain⟨w1,w2,w3⟩:=h3;refine Rn.lt (Rn.some ⟨hjl,m3,?_,w1,fun y=>?_,by omega⟩)
   ·simp only[];rw[An (by omega) (by omega)];rfl
   ·rw[w2,u2,t2,← List.take_append_getElem hjl];simp only[List.mem_append,List.mem_singleton];constructor
    ·rintro ((( h|⟨⟨c,hc,h⟩,h'⟩)|⟨rfl,h,h'⟩)|⟨rfl,h,h'⟩)
     ·exact .inl h
     ·exact .inr ⟨⟨c,.inl hc,h⟩,h'⟩
     ·exact .inr ⟨⟨_,.inr rfl,.inl rfl⟩,h,h'⟩
     ·exact .inr ⟨⟨_,.inr rfl,.inr rfl⟩,h,h'⟩
    ·rintro (h|⟨⟨c,hc|rfl,h⟩,h'⟩)
     ·exact .inl (.inl (.inl h))
     ·exact .inl (.inl (.inr ⟨⟨c,hc,h⟩,h'⟩))
     ·rcases h with rfl|rfl
      ·exact .inl (.inr ⟨rfl,h'⟩)
      ·exact .inr ⟨rfl,h'⟩
  ·have hjl:j=v.length:=by
    have:=of_decide_eq_false (p:=((j:Int)<(v.length:Int))) hd;omega
   subst hjl;rw[List.take_length] at t2;exact Rn.some ⟨t1,t2,t3⟩
 obtain⟨t1,t2,t3⟩:=hm;simp only[List.length_nil,Nat.zero_add] at s3;have hma:∀ c∈a,c.frm∈m∧c.to+1∈m:=by
  intro c hc;have hr:=ha.2 c hc;exact⟨(t2 _).2 (.inl ((s2 _).2 (.inr ⟨⟨c,hc,.inl rfl⟩,by omega⟩))),(t2 _).2 (.inl ((s2 _).2 (.inr ⟨⟨c,hc,.inr rfl⟩,by omega⟩)))⟩
 have hmv:∀ x∈v,x.frm∈m∧x.to+1∈m:=by
  intro x hx;have hr:=hvr x hx;exact⟨(t2 _).2 (.inr ⟨⟨x,hx,.inl rfl⟩,by omega⟩),(t2 _).2 (.inr ⟨⟨x,hx,.inr rfl⟩,by omega⟩)⟩
 have hst:Stp m (giveF (fC a) (inS l) (nd,ep)):=by
  refine⟨fun s hs=>?_,fun s hs=>?_⟩
  ·unfold giveF;rw[ha.step hma s hs];simp only[hv1.step hmv s hs]
  ·unfold giveF;rw[if_neg fun h=>by have:=Cm s h;omega];cases hf:fC a s with
   |none=>rfl
   |some w=>exact absurd (ha.tells s w hf).1 (by omega)
 rcases Nat.eq_zero_or_pos m.length with hm0|hpos
 ·have hm0':m=[]:=List.length_eq_zero_iff.1 hm0;subst hm0';refine Rn.bn (P:=fun r=>r=[]) (zG _ (fun j y=>y=((0:Int),([]:List Claim))∧j=0) 0 (by unfold big;omega) ⟨rfl,rfl⟩ fun j y hj hI=>?_) fun r h=>?_
  ·obtain⟨rfl,rfl⟩:=hI;exact Rn.lt (Rn.lt (Rn.lt (zB (fun h=>absurd h (by decide)) fun _=>Rn.some rfl)))
  ·subst h;exact Rn.chk rfl (Rn.some hst.none)
 refine Rn.bn (P:=fun r=>FinP (r.map cP) (giveF (fC a) (inS l) (nd,ep))∧r.length≤m.length) (zG _ (fun j y=>∃ out:List Claim,y=((j:Int),out)∧out.length≤j∧(∀ x∈out,inB x.to)∧∃ h:j<m.length,BdP m[j] (out.map cP) (giveF (fC a) (inS l) (nd,ep))) m.length (by unfold big;omega) ⟨[],rfl,by simp,by simp,hpos,hst.first t1 hpos⟩ fun j y hj hI=>?_) fun r h=>Rn.chk (by have:=h.2;simp[room];omega) (Rn.some h.1);obtain⟨out,rfl,o1,o2,hjm,o3⟩:=hI;refine Rn.lt (Rn.lt (Rn.lt ?_));rw[An (by omega) (by omega),BB];refine zB (fun hd=>?_) fun hd=>?_
 ·have hj1:j+1<m.length:=by
   have:=of_decide_eq_true (p:=((j:Int)+1<(m.length:Int))) hd;omega
  have hn0:nth m (j:Int)=some m[j]:=AM hjm;have hn1:nth m ((j:Int)+1)=some m[j+1]:=AM (i:=j+1) hj1;have hm0:=t1.2 _ (List.getElem_mem hjm);have hm1:=t1.2 _ (List.getElem_mem hj1);obtain⟨g1,g2⟩:=hst.next t1 hj1 o3;refine Rn.bn (P:=fun o=>o.length≤j+1∧(∀ x∈o,inB x.to)∧BdP m[j+1] (o.map cP) (giveF (fC a) (inS l) (nd,ep))) ?_ fun o ho=>Rn.lt (Rn.some ⟨by omega,o,?_,ho.1,ho.2.1,hj1,ho.2.2⟩)
  ·refine zC hn0 (zC (Of_ok a _ (by omega)) ?_);have hH:=HX v m[j] (by have:=hv1.len Cm;omega);rw[show decide (inS v m[j])=decide (inS l m[j]) from decide_eq_decide.2 (hv1.inS Cm _)] at hH;have step:∀ w:Int×Int,giveF (fC a) (inS l) (nd,ep) m[j]=some w→0≤w.1→Rn (lt (geI w.1 0) fun v24 =>
     ite' v24 (bn (nth m (j:Int)) fun v25 =>
     lt ((j:Int)+1) fun v26 =>
     bn (nth m v26) fun v27 =>
     lt (subI .i64 v27 1) fun v28 =>
     bn (Dh big out (⟨v25,v28,w.1,w.2⟩:Claim)) fun v29 =>
     some (v29)) (some out)) fun o=>o.length≤j+1∧(∀ x∈o,inB x.to)∧BdP m[j+1] (o.map cP) (giveF (fC a) (inS l) (nd,ep)):=by
    intro w hw hw0;have g3:=g2 w hw;refine Rn.lt ?_;rw[ge_t hw0];refine zB (fun _=>zC hn0 (Rn.lt (zC hn1 (Rn.lt ?_)))) fun h=>by simp at h
    rw[Aq (by omega) (by omega)];refine Rn.bn (KH (by omega) o2 (by unfold inB;show _∧_;simp only;omega)) fun o ho=>Rn.some ?_;obtain⟨p1,p2⟩:=ho;have p3:BdP m[j+1] (o.map cP) (giveF (fC a) (inS l) (nd,ep)):=by rw[p1];exact g3
    refine⟨by omega,fun x hx=>?_,p3⟩;have a1:=p3.pos _ (List.mem_map_of_mem hx);obtain⟨a2,a3⟩:=CN p3.can (List.mem_map_of_mem hx);have a4:x.to<m[j+1]:=a1;have a5:x.frm≤x.to:=a2;have a6:=p3.fn x.frm (by omega);rw[a3 x.frm (Int.le_refl _) a5] at a6;have a7:0≤x.frm:=by
     rcases Decidable.em (x.frm<0) with h|h
     ·rw[hst.2 x.frm (.inl h)] at a6;simp at a6
     ·omega
    unfold inB;omega
   rcases Decidable.em (inS l m[j]) with hin|hin
   ·have hg:giveF (fC a) (inS l) (nd,ep) m[j]=some (nd,ep):=if_pos hin;refine zC (v:=(nd,ep)) ?_ (step _ hg h1);rw[hH,decide_eq_true hin];rfl
   ·have hg:giveF (fC a) (inS l) (nd,ep) m[j]=fC a m[j]:=if_neg hin;refine zC (v:=(fC a m[j]).getD (-1,0)) ?_ ?_
    ·rw[hH,decide_eq_false hin];rfl
    ·cases hf:fC a m[j] with
     |none =>
      refine Rn.lt (zB (fun h=>absurd h (by decide)) fun _=>Rn.some ⟨Nat.le_succ_of_le o1,o2,g1 (by rw[hg,hf])⟩)
     |some w=>exact step w (by rw[hg,hf]) (ha.tells _ _ hf).2.1
  ·rfl
 ·have hj1:m.length≤j+1:=by
   have:=of_decide_eq_false (p:=((j:Int)+1<(m.length:Int))) hd;omega
  exact Rn.some ⟨hst.last t1 hjm hj1 o3,show out.length≤m.length by omega⟩
end Go.Proofs.Ytenemndpignaoaa
namespace Go.Proofs.Ytenemndpignaoaa
open Go Go.RowKit
theorem BdP.fin {β:Type} {a:Int} {out:List (Int×Int×β)} {f:Int→Option β} (h:BdP a out f) (hf:∀ s,a≤s→f s=none):FinP out f:=by
 refine⟨h.can,fun s=>?_⟩;rcases Decidable.em (s<a) with h1|h1
 ·exact h.fn s h1
 ·rw[hf s (by omega)];exact Dd fun p hp hc=>by have:=h.pos p hp;omega
theorem BdP.rng {a:Int} {out:List Claim} {f:Int→Option (Int×Int)} (h:BdP a (out.map cP) f) (hf:∀ s,s<0→f s=none):∀ x∈out,0≤x.frm∧x.frm≤x.to∧x.to<a:=by
 intro x hx;have a1:x.to<a:=h.pos _ (List.mem_map_of_mem hx);obtain⟨a2,a3⟩:=CN h.can (List.mem_map_of_mem hx);have a5:x.frm≤x.to:=a2;have a6:=h.fn x.frm (by omega);rw[a3 x.frm (Int.le_refl _) a5] at a6;refine⟨?_,a5,a1⟩;rcases Decidable.em (x.frm<0) with h1|h1
 ·rw[hf x.frm h1] at a6;simp at a6
 ·omega
def valC (c:Claim):Option (Int×Int):=if c.epoch=0 then none else some (c.node,c.epoch)
theorem GoodC.tail {c:Claim} {l:List Claim} (h:GoodC (c::l)):GoodC l:=⟨canP.tail (p:=cP c) h.1,fun x hx=>h.2 x (by simp[hx])⟩
structure NextC (l:List Claim) (at_:Int) (c:Claim) (r:List Claim):Prop where
 frm:c.frm=at_
 le:at_≤c.to
 last:c.to≤16383
 val:∀ s,at_≤s→s≤c.to→fC l s=valC c
 good:GoodC r
 rest:∀ s,at_≤s→fC r s=fC l s
 num:0≤c.node∧0≤c.epoch∧(c.epoch=0→c.node=0)
theorem IB {l:List Claim} {at_:Int} (hl:GoodC l) (h0:0≤at_∧at_≤16383):Rn (Cd big l at_) fun r=>NextC l at_ r.1 r.2:=by
 unfold Cd;have hlen:=hl.len;refine Rn.bn (P:=fun r=>GoodC r∧(∀ s,at_≤s→fC r s=fC l s)∧∀ c t,r=c::t→at_≤c.to) (zG _ (fun j r=>r=l.drop j∧GoodC r∧∀ s,at_≤s→fC r s=fC l s) l.length (by unfold big;omega) ⟨by simp,hl,fun s _=>rfl⟩ fun j r hj hI=>?_) fun r hr=>?_
 ·obtain⟨hd,hg,hf⟩:=hI;cases r with
  |nil=>exact zC (v:=false) rfl (Rn.lt (zB (fun h=>by simp at h) fun _=>Rn.some ⟨hg,hf,fun c t h=>by simp at h⟩))
  |cons c t =>
   have hjl:j<l.length:=by
    rcases Nat.lt_or_ge j l.length with h|h
    ·exact h
    ·rw[List.drop_eq_nil_of_le h] at hd;simp at hd
   have ht:t=l.drop (j+1):=by
    rw[List.drop_eq_getElem_cons hjl] at hd;exact (List.cons.inj hd).2
   refine zC (v:=ltI c.to at_) ?_ (Rn.lt (zB (fun h=>?_) fun h=>?_))
   ·simp only[Ay];rw[gt_t (by rw[BB];simp),AS];rfl
   ·have h1:c.to<at_:=of_decide_eq_true h
    refine zC (v:=t) ?_ (Rn.some ⟨hjl,ht,hg.tail,fun s hs=>?_⟩)
    ·have:=HV (l:=c::t) (i:=1) (by simp);exact this
    ·rw[← hf s hs];exact (BM (p:=cP c) fun hc=>by have h2:s≤c.to:=hc.2;omega).symm
   ·have h1:=of_decide_eq_false (p:=c.to<at_) h;refine Rn.some ⟨hg,hf,fun c' t' he=>?_⟩;rw[← (List.cons.inj he).1];omega
 ·obtain⟨hg,hf,hh⟩:=hr;cases r with
  |nil =>
   refine zC (v:=⟨at_,16383,0,0⟩) rfl (Rn.some ⟨rfl,h0.2,Int.le_refl _,fun s h1 h2=>?_,hg,hf,by simp⟩);rw[← hf s h1];rfl
  |cons c t =>
   have hc:=hg.2 c (by simp);have ht:=hh c t rfl;have hn:nth (c::t) 0=some c:=rfl;rcases Decidable.em (c.frm≤at_) with h1|h1
   ·refine zC (v:=⟨at_,c.to,c.node,c.epoch⟩) ?_ (Rn.some ⟨rfl,ht,hc.2.2.1,fun s g1 g2=>?_,hg,hf,?_⟩)
    ·refine Rn.eqv (zC (v:=true) ?_ (Rn.lt (zB (fun _=>zC hn (Rn.some rfl)) fun h=>by simp at h)));simp only[Ay];rw[gt_t (by rw[BB];simp),AS,hn];simp only[Ar];rw[le_t h1]
    ·rw[← hf s g1];have g2':s≤c.to:=g2;have:fC (c::t) s=some (c.node,c.epoch):=Bx (p:=cP c) (show c.frm≤s by omega) g2';rw[this];unfold valC;rw[if_neg (show ¬ c.epoch=0 by omega)]
    ·exact⟨hc.2.2.2.1,by have:=hc.2.2.2.2;show (0:Int)≤c.epoch;omega,fun h=>by have:=hc.2.2.2.2;have h':c.epoch=0:=h;omega⟩
   ·refine zC (v:=⟨at_,c.frm - 1,0,0⟩) ?_ (Rn.some ⟨rfl,by show at_≤c.frm - 1;omega,by show c.frm - 1≤16383;omega,fun s g1 g2=>?_,hg,hf,by simp⟩)
    ·refine Rn.eqv (zC (v:=false) ?_ (Rn.lt (zB (fun h=>by simp at h) fun _=>Rn.lt (Rn.lt (zB (fun _=>zC hn (Rn.lt (Rn.some ?_))) fun h=>?_)))))
     ·simp only[Ay];rw[gt_t (by rw[BB];simp),AS,hn];simp only[Ar];rw[le_f (by omega)]
     ·rw[Aq (by omega) (by omega)]
     ·have:gtI (lenI (c::t)) 0=true:=gt_t (by rw[BB];simp);rw[this] at h;simp at h
    ·rw[← hf s g1];have g2':s≤c.frm - 1:=g2;have e1:fC (c::t) s=fC t s:=BM (p:=cP c) fun hc2=>by have h2:c.frm≤s:=hc2.1;omega
     rw[e1];exact CJ (p:=cP c) hg.1 (show s≤c.to by omega)
theorem Li {l:List Claim} {c:Claim} (hl:l.length≤1000000) (hb:∀ x∈l,inB x.to) (hc:inB c.frm):Rn (BS big l c) fun m=>m.map cP=(if c.epoch=0 then l.map cP else putP (l.map cP) (cP c))∧m.length≤l.length+1:=by
 unfold BS;refine Rn.bn (P:=fun m=>m.map cP=(if c.epoch=0 then l.map cP else putP (l.map cP) (cP c))∧m.length≤l.length+1) (Rn.lt (Rn.lt (zB (fun h=>?_) fun h=>?_))) fun m hm=>Rn.some hm
 ·have he:c.epoch=0:=of_decide_eq_true h;exact Rn.some ⟨by rw[if_pos he],by omega⟩
 ·have he:c.epoch≠0:=of_decide_eq_false h;rw[if_neg he];rcases Decidable.em (l=[]) with rfl|hne
  ·refine zC (v:=false) rfl (Rn.lt (zB (fun h=>by simp at h) fun _=>Rn.chk rfl (Rn.lt (Rn.some ⟨rfl,by simp⟩))))
  ·obtain⟨k,x,rfl⟩:∃ k x,l=k++[x]:=⟨l.dropLast,l.getLast hne,(List.dropLast_concat_getLast hne).symm⟩;have hx:=hb x (by simp);unfold inB at hx hc;have e1:subI .i64 (lenI (k++[x])) 1=((k.length:Nat):Int):=by
    rw[BB,Aq (by omega) (by omega)];simp
   have hk:k.length<(k++[x]).length:=by simp
   have hn:nth (k++[x]) ((k.length:Nat):Int)=some x:=by rw[AM hk];simp
   have hm:putP ((k++[x]).map cP) (cP c)=if x.to+1=c.frm∧(x.node,x.epoch)=(c.node,c.epoch) then k.map cP++[(x.frm,c.to,(x.node,x.epoch))] else (k++[x]).map cP++[cP c]:=by
    unfold putP;rw[List.map_append,show [x].map cP=[cP x] from rfl,List.getLast?_concat];simp only[List.dropLast_concat];rfl
   rw[hm];have ht:Cq big x c=some (decide (x.to+1=c.frm∧(x.node,x.epoch)=(c.node,c.epoch))):=by
    unfold Cq;simp only[Ay];rw[An (by omega) (by omega)];rcases Decidable.em (x.to+1=c.frm) with h1|h1
    ·rw[eq_t h1,AS];rcases Decidable.em (x.node=c.node) with h2|h2
     ·rw[eq_t h2,AS];simp[eqI,h1,h2,Ar]
     ·rw[eq_f h2,A6];simp[h2,Ar]
    ·rw[eq_f h1,A6];simp[h1,Ar]
   refine zC (v:=decide (x.to+1=c.frm∧(x.node,x.epoch)=(c.node,c.epoch))) ?_ (Rn.lt (zB (fun h=>?_) fun h=>?_))
   ·simp only[Ay];rw[gt_t (by rw[BB];simp),AS,e1,hn];simp only[Ar];rw[ht];rfl
   ·have hq:=of_decide_eq_true h;rw[if_pos hq];refine Rn.lt ?_;rw[e1];refine zC hn (Rn.lt (Rn.some ⟨?_,by simp⟩));rw[Int.toNat_natCast,List.set_append_right _ _ (by omega),Nat.sub_self];simp[cP]
   ·have hq:=of_decide_eq_false h;rw[if_neg hq];exact Rn.chk (by simp[room];simp at hl;omega) (Rn.lt (Rn.some ⟨by simp,by simp⟩))
def epo:Option (Int×Int)→Int
 |some v=>v.2
 |none=>0
def nod:Option (Int×Int)→Int
 |some v=>v.1
 |none=>0
def joinV (x y:Option (Int×Int)):Option (Int×Int):=if epo y<epo x∨(epo x=epo y∧nod y<nod x) then x else y
def joinF (f g:Int→Option (Int×Int)) (s:Int):Option (Int×Int):=joinV (f s) (g s)
theorem Tells.none {f:Int→Option (Int×Int)} (h:Tells f) {s:Int} (hs:s<0∨16384≤s):f s=Option.none:=by
 cases hf:f s with
 |none=>rfl
 |some v=>exact absurd (h s v hf).1 (by omega)
theorem JV {out:List Claim} {f:Int→Option (Int×Int)} {a b:Int} {c:Claim} (h:BdP a (out.map cP) f) (ht:Tells f) (ho:out.length≤1000000) (ha:0≤a∧a≤16384) (h1:c.frm=a) (h2:c.to=b) (h3:a≤b)
  (hv:∀ s,a≤s→s≤b→f s=valC c):Rn (BS big out c) fun m=>BdP (b+1) (m.map cP) f∧m.length≤out.length+1:=by
 have hr:=h.rng fun s hs=>ht.none (.inl hs);refine (Li ho (fun x hx=>by have:=hr x hx;unfold inB;omega) (by unfold inB;omega)).mono fun m hm=>⟨?_,hm.2⟩;rw[hm.1];split
 ·rename_i he
  exact h.skip (by omega) fun s g1 g2=>by rw[hv s g1 (by omega),valC,if_pos he]
 ·rename_i he
  have:=h.put (b:=b) (v:=(c.node,c.epoch)) h3 fun s g1 g2=>by rw[hv s g1 g2,valC,if_neg he]
  rwa [show cP c=(a,b,(c.node,c.epoch)) by rw[← h1,← h2];rfl]
end Go.Proofs.Ytenemndpignaoaa
namespace Go.Proofs.Ytenemndpignaoaa
open Go Go.RowKit
theorem vrem {k:IntKind} {a b:Int} (h:0≤a) (hb:0<b):remI k a b=some (a % b):=by
 have:¬ b=0:=by omega
 simp only[remI,ne_eq,this,not_false_eq_true,if_true,Int.tmod_eq_emod_of_nonneg h]
def rngH (l:List Int):Prop:=∀ x∈l,0≤x∧x≤65535
theorem EQ {f:Int→Option (Int×Int)} {p:Int→Prop} [DecidablePred p] {v:Int×Int} (hf:Tells f) (hp:∀ s,p s→0≤s∧s≤16383) (h1:0≤v.1) (h2:1≤v.2):Tells (giveF f p v):=by
 intro s w h;unfold giveF at h;split at h
 ·rename_i hps
  have:=Option.some.inj h;subst this;exact⟨hp s hps,h1,h2⟩
 ·exact hf s w h
def okV (x:Option (Int×Int)):Prop:=∀ v,x=some v→0≤v.1∧1≤v.2
theorem Tells.okV {f:Int→Option (Int×Int)} (h:Tells f) (s:Int):Go.Proofs.Ytenemndpignaoaa.okV (f s):=fun v hv=>(h s v hv).2
def leV (x z:Option (Int×Int)):Prop:=epo x<epo z∨(epo x=epo z∧nod x≤nod z)
theorem leV.refl (x:Option (Int×Int)):leV x x:=.inr ⟨rfl,Int.le_refl _⟩
theorem leV.trans {x y z:Option (Int×Int)} (h1:leV x y) (h2:leV y z):leV x z:=by
 unfold leV at *;omega
theorem GoodC.ext {a b:List Claim} (ha:GoodC a) (hb:GoodC b) (h:∀ s,fC a s=fC b s):a=b:=GI (f:=cP) Lh (E2 ha.1 hb.1 h)
end Go.Proofs.Ytenemndpignaoaa
namespace Go.Proofs.Ytenemndpignaoaa
open Go Go.RowKit
def keyS (x:Span):Int:=x.frm
def ksS (d:List Span) (i:Nat):Int:=keyS (d.getD i (⟨0,0⟩:Span))
theorem nthD {α:Type} {d:List α} {i:Nat} (h:i<d.length) (z:α):nth d (i:Int)=some (d.getD i z):=by
 rw[AM h,List.getD_eq_getElem?_getD,List.getElem?_eq_getElem h];rfl
theorem scanUp {c:Int→Option Bool} {p:Nat→Bool} {i0 hi:Nat} (hhi:hi≤1000000) (h:∀ i:Nat,i0≤i→i<hi→c (i:Int)=some (p i)) (hE:c (hi:Int)=some false) (h0:i0≤hi) :
  Rn (iter big (fun (y:Int)=>bn (c y) fun (b:Bool)=>lt b fun v=>ite' v (lt (addI .i64 y 1) fun z=>some (.inl z)) (some (.inr y))) (i0:Int)) fun r=>∃ k:Nat,r=(k:Int)∧i0≤k∧k≤hi∧(∀ i,i0≤i→i<k→p i=true)∧(k<hi→p k=false):=by
 refine zG _ (fun t y=>∃ k:Nat,y=(k:Int)∧k=i0+t∧k≤hi∧∀ i,i0≤i→i<k→p i=true) (hi - i0) (by unfold big;omega) ⟨i0,rfl,rfl,h0,fun i h1 h2=>by omega⟩ fun t y ht hI=>?_;obtain⟨k,rfl,e,hk,hp⟩:=hI;rcases Nat.lt_or_ge k hi with hlt|hge
 ·refine zC (h k (by omega) hlt) (Rn.lt (zB (fun hc=>Rn.lt (Rn.some ⟨by omega,k+1,?_,by omega,by omega,fun i h1 h2=>?_⟩)) fun hc=>Rn.some ⟨k,rfl,by omega,hk,hp,fun _=>hc⟩))
  ·rw[An (by omega) (by omega)];rfl
  ·rcases Nat.lt_or_ge i k with h3|h3
   ·exact hp i h1 h3
   ·rwa [show i=k by omega]
 ·have e2:k=hi:=by omega
  subst e2;exact zC hE (Rn.lt (zB (fun hc=>by simp at hc) fun _=>Rn.some ⟨k,rfl,by omega,hk,hp,fun h=>by omega⟩))
theorem scanDown {c:Int→Option Bool} {p:Nat→Bool} {j0 lo:Nat} (hj:j0≤1000000) (h:∀ i:Nat,lo+1≤i→i≤j0→c (i:Int)=some (p i)) (hE:c (lo:Int)=some false) (h0:lo≤j0) :
  Rn (iter big (fun (y:Int)=>bn (c y) fun (b:Bool)=>lt b fun v=>ite' v (lt (subI .i64 y 1) fun z=>some (.inl z)) (some (.inr y))) (j0:Int)) fun r=>∃ k:Nat,r=(k:Int)∧lo≤k∧k≤j0∧(∀ i,k<i→i≤j0→p i=true)∧(lo<k→p k=false):=by
 refine zG _ (fun t y=>∃ k:Nat,y=(k:Int)∧k+t=j0∧lo≤k∧∀ i,k<i→i≤j0→p i=true) (j0 - lo) (by unfold big;omega) ⟨j0,rfl,rfl,h0,fun i h1 h2=>by omega⟩ fun t y ht hI=>?_;obtain⟨k,rfl,e,hk,hp⟩:=hI;rcases Nat.lt_or_ge lo k with hlt|hge
 ·refine zC (h k (by omega) (by omega)) (Rn.lt (zB (fun hc=>Rn.lt (Rn.some ⟨by omega,k - 1,?_,by omega,by omega,fun i h1 h2=>?_⟩)) fun hc=>Rn.some ⟨k,rfl,by omega,by omega,hp,fun _=>hc⟩))
  ·rw[Aq (by omega) (by omega)];omega
  ·rcases Nat.lt_or_ge k i with h3|h3
   ·exact hp i h3 h2
   ·rwa [show i=k by omega]
 ·have e2:k=lo:=by omega
  subst e2;exact zC hE (Rn.lt (zB (fun hc=>by simp at hc) fun _=>Rn.some ⟨k,rfl,by omega,by omega,hp,fun h=>by omega⟩))
def cvS (x y:Span):Int:=if x.frm<y.frm then -1 else if y.frm<x.frm then 1 else 0
theorem noNaN (a:Int):Bw big a=some false:=by simp[Bw,neI,Ay]
theorem cmpES (x y:Span):AJ big x y=some (cvS x y):=by
 have hc:B1 big x.frm y.frm=some (cvS x y):=by
  unfold B1 cvS;rw[noNaN,noNaN];simp only[Ar,A6,Ay];rcases Int.lt_trichotomy x.frm y.frm with h|h|h
  ·rw[lt_t h,AS,if_pos h]
  ·rw[lt_f (by omega),A6,gt_f (by omega),A6,if_neg (by omega),if_neg (by omega)]
  ·rw[lt_f (by omega),A6,gt_t h,AS,if_neg (by omega),if_pos h]
 unfold AJ;rw[hc];rfl
theorem cvLtS (x y:Span):ltI (cvS x y) 0=decide (keyS x<keyS y):=by
 unfold cvS keyS;rcases Int.lt_trichotomy x.frm y.frm with h|h|h
 ·rw[if_pos h,decide_eq_true h];rfl
 ·rw[if_neg (by omega),if_neg (by omega),decide_eq_false (by omega)];rfl
 ·rw[if_neg (by omega),if_pos h,decide_eq_false (by omega)];rfl
theorem CE (p:Prop) [Decidable p]:notB (decide p)=decide (¬ p):=by
 by_cases h:p <;> simp[notB,h]
structure RP {α:Type} (a b:Nat) (l r:List α):Prop where
 perm:r.Perm l
 off:∀ p,(p<a∨b≤p)→r[p]?=l[p]?
section
variable {α:Type} {a b:Nat} {l r s:List α}
theorem RP.refl (a b:Nat) (l:List α):RP a b l l:=⟨List.Perm.refl _,fun _ _=>rfl⟩
theorem RP.trans (h1:RP a b l r) (h2:RP a b r s):RP a b l s:=⟨h2.perm.trans h1.perm,fun p hp=>(h2.off p hp).trans (h1.off p hp)⟩
theorem RP.mono {a' b':Nat} (h:RP a b l r) (h1:a'≤a) (h2:b≤b'):RP a' b' l r:=⟨h.perm,fun p hp=>h.off p (by omega)⟩
theorem RP.len (h:RP a b l r):r.length=l.length:=h.perm.length_eq
theorem RP.seg (h:RP a b l r) (hab:a≤b) (hb:b≤l.length) {i:Nat} (h1:a≤i) (h2:i<b):∃ j,a≤j∧j<b∧r[i]?=l[j]?:=by
 have hlen:=h.len;have e1:r.take a=l.take a:=List.ext_getElem? fun i=>by
  rw[List.getElem?_take,List.getElem?_take];split
  ·exact h.off i (.inl (by assumption))
  ·rfl
 have e2:r.drop b=l.drop b:=List.ext_getElem? fun i=>by
  rw[List.getElem?_drop,List.getElem?_drop];exact h.off _ (.inr (by omega))
 have split3:∀ m:List α,m=m.take a++((m.drop a).take (b - a)++m.drop b):=fun m=>by
  have:m.drop b=(m.drop a).drop (b - a):=by rw[List.drop_drop];congr 1;omega
  rw[this,List.take_append_drop,List.take_append_drop]
 have hp:=h.perm;rw[split3 r,split3 l,e1,e2] at hp;have hp2:=(List.perm_append_right_iff _).1 ((List.perm_append_left_iff _).1 hp);have hi:i<r.length:=by omega
 have hm:r[i]∈(r.drop a).take (b - a):=by
  refine List.mem_take_iff_getElem.2 ⟨i - a,by simp;omega,?_⟩;rw[List.getElem_drop];congr 1
  omega
 obtain⟨k,hk,he⟩:=List.mem_take_iff_getElem.1 (hp2.mem_iff.1 hm);rw[List.getElem_drop] at he;simp at hk;refine⟨a+k,by omega,by omega,?_⟩;rw[List.getElem?_eq_getElem hi,← he,List.getElem?_eq_getElem]
end
def swS (d:List Span) (i j:Nat):List Span:=(d.set i (d.getD j (⟨0,0⟩:Span))).set j (d.getD i (⟨0,0⟩:Span))
theorem KI (d:List Span) (i j:Nat):(swS d i j).length=d.length:=by simp[swS]
theorem BP {d e:List Span} {i j:Nat} (h:d[i]?=e[j]?):ksS d i=ksS e j:=by
 unfold ksS;rw[List.getD_eq_getElem?_getD,List.getD_eq_getElem?_getD,h]
theorem Ek {d:List Span} {i j:Nat} (hi:i<d.length) (hj:j<d.length) (p:Nat):ksS (swS d i j) p=if p=j then ksS d i else if p=i then ksS d j else ksS d p:=by
 unfold ksS swS;rw[List.getD_eq_getElem?_getD,List.getElem?_set];by_cases e:j=p
 ·subst e;rw[if_pos rfl,if_pos (by simpa using hj),if_pos rfl];rfl
 ·rw[if_neg e,if_neg fun h=>e h.symm,List.getElem?_set];by_cases e2:i=p
  ·subst e2;rw[if_pos rfl,if_pos hi,if_pos rfl];rfl
  ·rw[if_neg e2,if_neg fun h=>e2 h.symm,← List.getD_eq_getElem?_getD]
theorem RP.swS {d:List Span} {a b i j:Nat} (hi:i<d.length) (hj:j<d.length) (h1:a≤i∧i<b) (h2:a≤j∧j<b):RP a b d (Go.Proofs.Ytenemndpignaoaa.swS d i j):=by
 have e1:d.getD i (⟨0,0⟩:Span)=d[i]:=by rw[List.getD_eq_getElem?_getD,List.getElem?_eq_getElem hi];rfl
 have e2:d.getD j (⟨0,0⟩:Span)=d[j]:=by rw[List.getD_eq_getElem?_getD,List.getElem?_eq_getElem hj];rfl
 unfold Go.Proofs.Ytenemndpignaoaa.swS;rw[e1,e2];refine⟨List.set_set_perm hi hj,fun p hp=>?_⟩;rw[List.getElem?_set_ne (by omega),List.getElem?_set_ne (by omega)]
theorem swapS {d:List Span} {i j:Nat} {x y:Int} (hx:x=(i:Int)) (hy:y=(j:Int)) (hi:i<d.length) (hj:j<d.length) {β:Type} {k:List Span→Option β} {Q:β→Prop} (h:Rn (k (swS d i j)) Q) :
  Rn (bn (nth d y) fun u=>bn (nth d x) fun v=>lt (d.set x.toNat u) fun w=>bn (nth w y) fun _=>lt (w.set y.toNat v) k) Q:=by
 subst hx hy;refine zC (nthD hj (⟨0,0⟩:Span)) (zC (nthD hi (⟨0,0⟩:Span)) (Rn.lt ?_));rw[Int.toNat_natCast,Int.toNat_natCast];exact zC (nthD (by simpa using hj) (⟨0,0⟩:Span)) (Rn.lt h)
def SortedS (d:List Span) (a b:Nat):Prop:=∀ p q,a≤p→p<q→q<b→ksS d p≤ksS d q
structure InsS (l d:List Span) (a i j:Nat):Prop where
 rp:RP a (i+1) l d
 aj:a≤j
 ji:j≤i
 srt:∀ p q,a≤p→p<q→q≤i→p≠j→q≠j→ksS d p≤ksS d q
 low:∀ q,j<q→q≤i→ksS d j≤ksS d q
theorem InsS.step {l d:List Span} {a i j:Nat} (h:InsS l d a i (j+1)) (hi:i<l.length) (haj:a≤j) (hlt:ksS d (j+1)<ksS d j):InsS l (swS d (j+1) j) a i j:=by
 have hji:=h.ji;have hl:=h.rp.len;have hk:=Ek (d:=d) (i:=j+1) (j:=j) (by omega) (by omega);refine⟨h.rp.trans (RP.swS (by omega) (by omega) (by omega) (by omega)),haj,by omega,fun p q g1 g2 g3 g4 g5=>?_,fun q g1 g2=>?_⟩
 ·rw[hk,hk,if_neg g4,if_neg g5];rcases Decidable.em (p=j+1) with e|e
  ·subst e;rw[if_pos rfl,if_neg (by omega)];exact h.srt j q haj (by omega) g3 (by omega) (by omega)
  ·rw[if_neg e];rcases Decidable.em (q=j+1) with e'|e'
   ·subst e';rw[if_pos rfl];exact h.srt p j g1 (by omega) (by omega) (by omega) (by omega)
   ·rw[if_neg e'];exact h.srt p q g1 g2 g3 e e'
 ·rw[hk,hk,if_pos rfl,if_neg (by omega)];rcases Decidable.em (q=j+1) with e|e
  ·rw[if_pos e];omega
  ·rw[if_neg e];exact h.low q (by omega) g2
theorem InsS.done {l d:List Span} {a i j:Nat} (h:InsS l d a i j) (hc:a<j→ksS d (j - 1)≤ksS d j):RP a (i+1) l d∧SortedS d a (i+1):=by
 refine⟨h.rp,fun p q h1 h2 h3=>?_⟩;rcases Decidable.em (p=j) with e|e
 ·subst e;exact h.low q h2 (by omega)
 ·rcases Decidable.em (q=j) with e'|e'
  ·subst e';have g3:=hc (by omega);rcases Decidable.em (p=q - 1) with e2|e2
   ·subst e2;exact g3
   ·have:=h.srt p (q - 1) h1 (by omega) (by have:=h.ji;omega) e (by omega);omega
  ·exact h.srt p q h1 h2 (by omega) e e'
theorem KJ {l:List Span} {a b:Nat} (hab:a≤b) (hb:b≤l.length) (hl:l.length≤1000000):Rn (AY big l (a:Int) (b:Int)) fun r=>RP a b l r∧SortedS r a b:=by
 unfold AY;refine Rn.lt ?_;have e0:addI .i64 (a:Int) 1=((a+1:Nat):Int):=by rw[An (by omega) (by omega)];omega
 rw[e0];refine Rn.bn (P:=fun r=>RP a b l r∧SortedS r a b) (zG _ (fun k y=>∃ d:List Span,y=(((a+1+k:Nat):Int),d)∧RP a b l d∧SortedS d a (a+1+k)) (b - a - 1) (by unfold big;omega) ⟨l,rfl,RP.refl _ _ _,fun p q h1 h2 h3=>by omega⟩ fun k y hk hI=>?_) fun r hr=>Rn.some hr;obtain⟨d,rfl,hp,hs⟩:=hI;have hdl:=hp.len;refine Rn.lt (zB (fun hd=>?_) fun hd=>?_)
 ·have hi:a+1+k<b:=by
   have:=of_decide_eq_true (p:=(((a+1+k:Nat):Int)<(b:Int))) hd;omega
  refine Rn.bn (P:=fun r=>RP a (a+1+k+1) d r∧SortedS r a (a+1+k+1)) ?_ fun r hr=>Rn.lt (Rn.some ⟨by omega,r,?_,hp.trans (hr.1.mono (Nat.le_refl _) (by omega)),fun p q h1 h2 h3=>hr.2 p q h1 h2 (by omega)⟩)
  ·have h0:InsS d d a (a+1+k) (a+1+k):=⟨RP.refl _ _ _,by omega,Nat.le_refl _,fun p q h1 h2 h3 h4 h5=>hs p q h1 h2 (by omega),fun q h1 h2=>by omega⟩;refine zG _ (fun t y=>∃ (j:Nat) (d':List Span),y=((j:Int),d')∧j+t=a+1+k∧InsS d d' a (a+1+k) j) (k+1) (by unfold big;omega) ⟨a+1+k,d,rfl,rfl,h0⟩ fun t y ht hI=>?_;obtain⟨j,d',rfl,hj,h⟩:=hI;have hdl':=h.rp.len;rcases Decidable.em (a<j) with haj|haj
   ·obtain⟨j,rfl⟩:∃ i,j=i+1:=⟨j - 1,by omega⟩;have hji:=h.ji;have h2:j+1<d'.length:=by omega
    have h1:j<d'.length:=by omega
    have es:subI .i64 ((j+1:Nat):Int) 1=(j:Int):=by rw[Aq (by omega) (by omega)];omega
    refine zC (v:=decide (ksS d' (j+1)<ksS d' j)) ?_ (Rn.lt (zB (fun hc=>?_) fun hc=>Rn.some (h.done fun _=>?_)))
    ·simp only[Ay];rw[gt_t (show (a:Int)<((j+1:Nat):Int) by omega),AS,nthD h2 (⟨0,0⟩:Span)];simp only[Ar];rw[es,nthD h1 (⟨0,0⟩:Span)];simp only[Ar,cmpES,cvLtS];rfl
    ·have hlt:=of_decide_eq_true hc;refine Rn.lt ?_;simp only;rw[es];exact swapS (x:=((j+1:Nat):Int)) rfl rfl h2 h1 (Rn.some ⟨by omega,j,_,rfl,by omega,h.step (by omega) (by omega) hlt⟩)
    ·have:=of_decide_eq_false hc;show ksS d' j≤ksS d' (j+1);omega
   ·refine zC (v:=false) ?_ (Rn.lt (zB (fun hc=>by simp at hc) fun _=>Rn.some (h.done fun hc=>absurd hc haj)));simp only[Ay];rw[gt_f (by omega),A6]
  ·rw[An (by first|omega|(simp only;omega)) (by first|omega|(simp only;omega))];rfl
 ·have hi:b≤a+1+k:=by
   have:=of_decide_eq_false (p:=(((a+1+k:Nat):Int)<(b:Int))) hd;omega
  exact Rn.some ⟨hp,fun p q h1 h2 h3=>hs p q h1 h2 (by omega)⟩
theorem vquo {a b:Int} (h:0≤a) (h2:a<9223372036854775808) (hb:0<b):quoI .i64 a b=some (a / b):=by
 have hne:¬ b=0:=by omega
 have h3:a / b≤a:=Int.ediv_le_self b h;have h4:0≤a / b:=Int.ediv_nonneg h (by omega);simp only[quoI,ne_eq,hne,not_false_eq_true,if_true,Int.tdiv_eq_ediv_of_nonneg h];rw[wrap64 (by omega) (by omega)]
theorem Cf {a b:Int} (h:-9223372036854775808≤a*b) (h2:a*b≤9223372036854775807):mulI .i64 a b=a*b:=wrap64 h h2
def sortMost:Nat:=49
theorem E5 {l:List Span} {i j:Nat} (hi:i<l.length) (hj:j<l.length) (s:Int):Rn (AH big l (i:Int) (j:Int) s) fun r=>((r.1=(i:Int)∧r.2.1=(j:Int))∨(r.1=(j:Int)∧r.2.1=(i:Int)))∧r.2.2.1=l:=by
 unfold AH;refine zC (nthD hj (⟨0,0⟩:Span)) (zC (nthD hi (⟨0,0⟩:Span)) ?_);simp only[cmpES,cvLtS,Ar,Ay];exact zB (fun _=>Rn.some ⟨.inr ⟨rfl,rfl⟩,rfl⟩) fun _=>Rn.some ⟨.inl ⟨rfl,rfl⟩,rfl⟩
theorem IU {l:List Span} {i j k:Nat} (hi:i<l.length) (hj:j<l.length) (hk:k<l.length) (s:Int):Rn (AI big l (i:Int) (j:Int) (k:Int) s) fun r=>(∃ x:Nat,r.1=(x:Int)∧(x=i∨x=j∨x=k))∧r.2.1=l:=by
 unfold AI;refine Rn.bn (E5 hi hj s) fun v hv=>?_;obtain⟨v1,v2,v3,v4⟩:=v;obtain⟨hv1,hv2⟩:=hv;simp only at hv1 hv2;subst v3;refine Rn.chk (by simp[lenB]) ?_;obtain⟨x,y,ex,ey,hxy⟩:∃ x y:Nat,v1=(x:Int)∧v2=(y:Int)∧((x=i∧y=j)∨(x=j∧y=i)):=by
  rcases hv1 with ⟨a,b⟩|⟨a,b⟩
  ·exact⟨i,j,a,b,.inl ⟨rfl,rfl⟩⟩
  ·exact⟨j,i,a,b,.inr ⟨rfl,rfl⟩⟩
 subst ex ey;have hx:x<l.length:=by omega
 have hy:y<l.length:=by omega
 refine Rn.bn (E5 hy hk v4) fun w hw=>?_;obtain⟨w1,w2,w3,w4⟩:=w;obtain⟨hw1,hw2⟩:=hw;simp only at hw1 hw2;subst w3;refine Rn.chk (by simp[lenB]) ?_;obtain⟨z,t,ez,et,hzt⟩:∃ z t:Nat,w1=(z:Int)∧w2=(t:Int)∧((z=y∧t=k)∨(z=k∧t=y)):=by
  rcases hw1 with ⟨a,b⟩|⟨a,b⟩
  ·exact⟨y,k,a,b,.inl ⟨rfl,rfl⟩⟩
  ·exact⟨k,y,a,b,.inr ⟨rfl,rfl⟩⟩
 subst ez et;have hz:z<l.length:=by omega
 refine Rn.bn (E5 hx hz w4) fun u hu=>?_;obtain⟨u1,u2,u3,u4⟩:=u;obtain⟨hu1,hu2⟩:=hu;simp only at hu1 hu2;subst u3;refine Rn.chk (by simp[lenB]) (Rn.some ⟨?_,rfl⟩);simp only;rcases hu1 with ⟨a,b⟩|⟨a,b⟩
 ·exact⟨z,b,by omega⟩
 ·exact⟨x,b,by omega⟩
theorem IV {l:List Span} {a b:Nat} (hab:a+12<b) (hb:b≤l.length) (hl:l.length≤sortMost):Rn (AL big l (a:Int) (b:Int)) fun r=>(∃ k:Nat,r.1=(k:Int)∧a≤k∧k<b)∧r.2.2=l:=by
 unfold sortMost at hl;unfold AL;refine Rn.lt ?_;rw[Aq (by omega) (by omega)];refine zC (vquo (by omega) (by omega) (by omega)) (Rn.lt ?_);obtain⟨q,hq⟩:∃ q:Nat,((b:Int) - (a:Int)) / 4=(q:Int):=⟨((b:Int) - (a:Int)).toNat / 4,by omega⟩;rw[hq];refine Rn.lt (Rn.lt (Rn.lt (Rn.lt (Rn.lt ?_))));rw[Cf (by omega) (by omega),Cf (show -9223372036854775808≤(q:Int)*2 by omega) (by omega),Cf (show -9223372036854775808≤(q:Int)*3 by omega) (by omega),An (by omega) (by omega),An (show -9223372036854775808≤(a:Int)+(q:Int)*2 by omega) (by omega),An (show -9223372036854775808≤(a:Int)+(q:Int)*3 by omega) (by omega)];refine Rn.bn (P:=fun y=>(∃ k:Nat,y.1=(k:Int)∧a≤k∧k<b)∧y.2.1=l) ?_ fun y hy=>?_
 ·refine Rn.lt (zB (fun _=>?_) fun h=>?_)
  ·refine zC (v:=((a:Int)+(q:Int)*1,(a:Int)+(q:Int)*2,(a:Int)+(q:Int)*3,l,0)) ?_ ?_
   ·simp only[Ay];rw[ge_f (by omega),A6]
   ·simp only;rw[show (a:Int)+(q:Int)*1=((a+q:Nat):Int) by omega,show (a:Int)+(q:Int)*2=((a+q*2:Nat):Int) by omega,show (a:Int)+(q:Int)*3=((a+q*3:Nat):Int) by omega];refine Rn.bn (IU (by omega) (by omega) (by omega) 0) fun v hv=>Rn.chk (by rw[hv.2];simp[lenB]) (Rn.some ⟨?_,hv.2⟩);obtain⟨x,e,hx⟩:=hv.1;exact⟨x,e,by omega⟩
  ·have:=of_decide_eq_false (p:=(8:Int)≤(b:Int) - (a:Int)) h;omega
 ·obtain⟨⟨k,e,hk⟩,hy2⟩:=hy;obtain⟨y1,y2,y3⟩:=y;simp only at e hy2;subst y2;exact Rn.lt (zB (fun _=>Rn.some ⟨⟨k,e,hk⟩,rfl⟩) fun _=>Rn.lt (zB (fun _=>Rn.some ⟨⟨k,e,hk⟩,rfl⟩) fun _=>Rn.some ⟨⟨k,e,hk⟩,rfl⟩))
theorem Ig {l:List Span} {a b:Nat} (hab:a<b) (hb:b≤l.length) (hl:l.length≤sortMost):Rn (A0 big l (a:Int) (b:Int)) fun r=>RP a b l r:=by
 unfold sortMost at hl;unfold A0;refine Rn.lt ?_;rw[Aq (by omega) (by omega),show (b:Int) - 1=((b - 1:Nat):Int) by omega];refine Rn.bn (P:=fun r=>RP a b l r) (zG _ (fun t y=>∃ (i j:Nat) (d:List Span),y=((i:Int),(j:Int),d)∧i=a+t∧j<b∧i≤j+1∧RP a b l d) (b - a) (by unfold big;omega) ⟨a,b - 1,l,rfl,rfl,by omega,by omega,RP.refl _ _ _⟩ fun t y ht hI=>?_) fun r hr=>Rn.some hr;obtain⟨i,j,d,rfl,h1,h2,h3,h4⟩:=hI;have hd:=h4.len;refine Rn.lt (zB (fun hc=>?_) fun hc=>Rn.some h4);have hij:i<j:=by
  have:=of_decide_eq_true (p:=((i:Int)<(j:Int))) hc;omega
 refine swapS rfl rfl (show i<d.length by omega) (show j<d.length by omega) (Rn.lt (Rn.lt (Rn.some ⟨by omega,i+1,j - 1,swS d i j,?_,by omega,by omega,by omega,h4.trans (RP.swS (by omega) (by omega) (by omega) (by omega))⟩)));show (addI .i64 (i:Int) 1,subI .i64 (j:Int) 1,swS d i j)=_;rw[An (by omega) (by omega),Aq (by omega) (by omega),show ((j - 1:Nat):Int)=(j:Int) - 1 by omega];rfl
theorem Ih {l:List Span} {a b:Nat} (hab:a<b) (hb:b≤l.length) (hl:l.length≤sortMost):Rn (AC big l (a:Int) (b:Int)) fun r=>r.2=l∧(r.1=true→SortedS l a b):=by
 unfold sortMost at hl;unfold AC;refine Rn.lt ?_;rw[An (by omega) (by omega),show (a:Int)+1=((a+1:Nat):Int) by omega];refine Rn.bn (P:=fun y=>y=.inr (false,l)∨(y=.inr (true,l)∧SortedS l a b)) (zG _ (fun t y=>t=0∧y=(((a+1:Nat):Int),0,l)) 0 (by unfold big;omega) ⟨rfl,rfl⟩ fun t y ht hI=>?_) fun y hy=>?_
 ·obtain⟨rfl,rfl⟩:=hI;refine Rn.lt (zB (fun _=>?_) fun h=>absurd (show ltI 0 5=false from h) (by decide));refine Rn.bn (P:=fun y=>y=.inr (false,l)∨(y=.inr (true,l)∧SortedS l a b)) ?_ fun y hy=>?_
  ·refine Rn.bn (scanUp (p:=fun i=>decide (¬ ksS l i<ksS l (i - 1))) (i0:=a+1) (hi:=b) (by omega) (fun i h1 h2=>?_) ?_ (by omega)) fun r hr=>?_
   ·simp only[Ay];rw[lt_t (by omega),AS,nthD (show i<l.length by omega) (⟨0,0⟩:Span)];simp only[Ar];rw[Aq (by omega) (by omega),show (i:Int) - 1=((i - 1:Nat):Int) by omega,nthD (show i - 1<l.length by omega) (⟨0,0⟩:Span)];simp only[Ar,cmpES,cvLtS,CE];rfl
   ·simp only[Ay];rw[lt_f (by omega),A6]
   ·obtain⟨k,rfl,k1,k2,k3,k4⟩:=hr;refine Rn.lt (zB (fun h=>Rn.some (.inr ⟨rfl,?_⟩)) fun h=>Rn.lt (Rn.lt ?_))
    ·have hk:k=b:=by
      have:=of_decide_eq_true (p:=((k:Int)=(b:Int))) h;omega
     subst hk;have hadj:∀ i,a+1≤i→i<k→ksS l (i - 1)≤ksS l i:=fun i g1 g2=>by
      have:=of_decide_eq_true (k3 i g1 g2);omega
     intro p q h1 h2 h3;obtain⟨n,rfl⟩:∃ n,q=p+1+n:=⟨q - (p+1),by omega⟩;clear h2
     induction n with
     |zero=>exact hadj (p+1) (by omega) h3
     |succ n ih =>
      have g1:=ih (by omega);have g2:=hadj (p+1+n+1) (by omega) h3;rw[show p+1+n+1 - 1=p+1+n by omega] at g2;exact Int.le_trans g1 g2
    ·rw[Aq (by omega) (by omega),lt_t (by omega)];exact zB (fun _=>Rn.some (.inl rfl)) fun h=>by simp at h
  ·rcases hy with rfl|⟨rfl,hs⟩
   ·rw[BZ];exact Rn.some (.inl rfl)
   ·rw[BZ];exact Rn.some (.inr ⟨rfl,hs⟩)
 ·rcases hy with rfl|⟨rfl,hs⟩
  ·rw[BZ];exact Rn.some ⟨rfl,fun h=>by simp at h⟩
  ·rw[BZ];exact Rn.some ⟨rfl,fun _=>hs⟩
structure PES (l d:List Span) (a b:Nat) (K:Int) (i j:Nat):Prop where
 rp:RP a b l d
 pv:ksS d a=K
 lo:∀ p,a<p→p<i→ksS d p≤K
 hi:∀ p,j<p→p<b→K<ksS d p
 ai:a+1≤i
 ij:i≤j+1
 jb:j<b
theorem IW {l:List Span} {a b k:Nat} (hk1:a≤k) (hk2:k<b) (hb:b≤l.length) (hl:l.length≤sortMost):Rn (AU big l (a:Int) (b:Int) (k:Int)) fun r=>∃ m:Nat,r.1=(m:Int)∧a<m∧m≤b∧RP a b l r.2∧(∀ p,a≤p→p<m→ksS r.2 p≤ksS l k)∧(∀ p,m≤p→p<b→ksS l k<ksS r.2 p):=by
 unfold sortMost at hl;unfold AU;refine swapS rfl rfl (show a<l.length by omega) (show k<l.length by omega) (Rn.lt (Rn.lt ?_));have hs:=RP.swS (d:=l) (a:=a) (b:=b) (i:=a) (j:=k) (by omega) (by omega) (by omega) (by omega);have hpv:ksS (swS l a k) a=ksS l k:=by
  rw[Ek (by omega) (by omega)];split
  ·rename_i h
   rw[← h]
  ·rw[if_pos rfl]
 generalize swS l a k=d0 at hs hpv;rw[An (by omega) (by omega),Aq (by omega) (by omega),show (a:Int)+1=((a+1:Nat):Int) by omega,show (b:Int) - 1=((b - 1:Nat):Int) by omega];refine Rn.bn (P:=fun y=>∃ m:Nat,y.1=(m:Int)∧a<m∧m≤b∧RP a b l y.2∧(∀ p,a≤p→p<m→ksS y.2 p≤ksS l k)∧(∀ p,m≤p→p<b→ksS l k<ksS y.2 p)) (zG _ (fun t y=>∃ (i j:Nat) (d:List Span),y=((i:Int),(j:Int),d)∧a+1+t≤i∧PES l d a b (ksS l k) i j) (b - a) (by unfold big;omega) ⟨a+1,b - 1,d0,rfl,by omega,⟨hs,hpv,fun p h1 h2=>by omega,fun p h1 h2=>by omega,by omega,by omega,by omega⟩⟩ fun t y ht hI=>?_) fun y hy=>Rn.some hy;obtain⟨i,j,d,rfl,h1,h⟩:=hI;have hd:=h.rp.len;have hai:=h.ai;have hij:=h.ij;have hjb:=h.jb;generalize ksS l k=K at h;refine Rn.bn (scanUp (p:=fun p=>decide (¬ K<ksS d p)) (i0:=i) (hi:=j+1) (by omega) (fun p g1 g2=>?_) ?_ (by omega)) fun r hr=>?_
 ·simp only[Ay];rw[le_t (by omega),AS,nthD (show a<d.length by omega) (⟨0,0⟩:Span)];simp only[Ar];rw[nthD (show p<d.length by omega) (⟨0,0⟩:Span)];simp only[Ar,cmpES,cvLtS,CE];rw[← h.pv];rfl
 ·simp only[Ay];rw[le_f (by omega),A6]
 obtain⟨i',rfl,i1,i2,i3,i4⟩:=hr;refine Rn.bn (scanDown (p:=fun p=>decide (K<ksS d p)) (j0:=j) (lo:=i' - 1) (by omega) (fun p g1 g2=>?_) ?_ (by omega)) fun r hr=>?_
 ·simp only[Ay];rw[le_t (by omega),AS,nthD (show a<d.length by omega) (⟨0,0⟩:Span)];simp only[Ar];rw[nthD (show p<d.length by omega) (⟨0,0⟩:Span)];simp only[Ar,cmpES,cvLtS];rw[← h.pv];rfl
 ·simp only[Ay];rw[le_f (by omega),A6]
 obtain⟨j',rfl,j1,j2,j3,j4⟩:=hr;have hlo:∀ p,a<p→p<i'→ksS d p≤K:=fun p g1 g2=>by
  rcases Nat.lt_or_ge p i with g3|g3
  ·exact h.lo p g1 g3
  ·have:=of_decide_eq_true (i3 p g3 g2);omega
 have hhi:∀ p,j'<p→p<b→K<ksS d p:=fun p g1 g2=>by
  rcases Nat.lt_or_ge j p with g3|g3
  ·exact h.hi p g3 g2
  ·exact of_decide_eq_true (j3 p g1 g3)
 refine Rn.lt (zB (fun hc=>Rn.some ⟨i',rfl,by omega,by omega,h.rp,fun p g1 g2=>?_,fun p g1 g2=>hhi p ?_ g2⟩) fun hc=>?_)
 ·rcases Nat.eq_or_lt_of_le g1 with g3|g3
  ·subst g3;show ksS d a≤K;rw[h.pv];exact Int.le_refl _
  ·exact hlo p g3 g2
 ·have:=of_decide_eq_true (p:=((j':Int)<(i':Int))) hc;omega
 ·have hle:i'≤j':=by
   have:=of_decide_eq_false (p:=((j':Int)<(i':Int))) hc;omega
  have e1:=of_decide_eq_false (i4 (by omega));have e2:=of_decide_eq_false (j4 (by omega));have hne:i'≠j':=fun e=>by subst e;omega
  refine swapS rfl rfl (show i'<d.length by omega) (show j'<d.length by omega) (Rn.lt (Rn.lt (Rn.some ⟨by omega,i'+1,j' - 1,swS d i' j',?_,by omega,?_⟩)))
  ·rw[An (by omega) (by omega),Aq (by omega) (by omega),show ((j' - 1:Nat):Int)=(j':Int) - 1 by omega];rfl
  ·have hk:=Ek (d:=d) (i:=i') (j:=j') (by omega) (by omega);refine⟨h.rp.trans (RP.swS (by omega) (by omega) (by omega) (by omega)),?_,fun p g1 g2=>?_,fun p g1 g2=>?_,by omega,by omega,by omega⟩
   ·rw[hk,if_neg (by omega),if_neg (by omega)];exact h.pv
   ·rw[hk,if_neg (by omega)];split
    ·omega
    ·exact hlo p g1 (by omega)
   ·rw[hk];split
    ·omega
    ·rw[if_neg (by omega)];exact hhi p (by omega) g2
structure PTS (l d:List Span) (a b:Nat) (K:Int) (i j:Nat):Prop where
 rp:RP a b l d
 pv:ksS d a=K
 lo:∀ p,a<p→p<i→ksS d p<K
 hi:∀ p,j<p→p<b→K≤ksS d p
 ai:a+1≤i
 ij:i≤j+1
 jb:j<b
structure PSS (d:List Span) (a b:Nat) (K:Int) (i' j':Nat):Prop where
 lo:∀ p,a<p→p<i'→ksS d p<K
 hi:∀ p,j'<p→p<b→K≤ksS d p
 ge:i'≤j'+1
 both:i'≤j'→K≤ksS d i'∧ksS d j'<K
theorem PTS.scan {l d:List Span} {a b i j i' j':Nat} {K:Int} (h:PTS l d a b K i j) (i1:i≤i') (i3:∀ p,i≤p→p<i'→decide (ksS d p<K)=true) (i4:i'<j+1→decide (ksS d i'<K)=false)
  (j1:i' - 1≤j') (j2:j'≤j) (j3:∀ p,j'<p→p≤j→decide (¬ ksS d p<K)=true) (j4:i' - 1<j'→decide (¬ ksS d j'<K)=false):PSS d a b K i' j':=by
 have hai:=h.ai;refine⟨fun p g1 g2=>?_,fun p g1 g2=>?_,by omega,fun hle=>⟨?_,?_⟩⟩
 ·rcases Nat.lt_or_ge p i with g3|g3
  ·exact h.lo p g1 g3
  ·exact of_decide_eq_true (i3 p g3 g2)
 ·rcases Nat.lt_or_ge j p with g3|g3
  ·exact h.hi p g3 g2
  ·have:=of_decide_eq_true (j3 p g1 g3);omega
 ·have:=of_decide_eq_false (i4 (by omega));omega
 ·have:=of_decide_eq_false (j4 (by omega));omega
theorem PSS.last {l d:List Span} {a b i' j':Nat} {K:Int} (hr:RP a b l d) (pv:ksS d a=K) (h:PSS d a b K i' j') (hb:b≤l.length) (h1:a≤j') (h2:j'<b) (h3:j'<i') :
  RP a b l (swS d j' a)∧ksS (swS d j' a) j'=K∧(∀ p,a≤p→p<j'→ksS (swS d j' a) p<K)∧∀ p,j'<p→p<b→K≤ksS (swS d j' a) p:=by
 have hd:=hr.len;have hge:=h.ge;have hk:=Ek (d:=d) (i:=j') (j:=a) (by omega) (by omega);refine⟨hr.trans (RP.swS (by omega) (by omega) (by omega) (by omega)),?_,fun p g1 g2=>?_,fun p g1 g2=>?_⟩
 ·rw[hk];split
  ·rename_i e
   rw[e];exact pv
  ·rw[if_pos rfl];exact pv
 ·rw[hk];split
  ·exact h.lo j' (by omega) (by omega)
  ·rw[if_neg (by omega)];exact h.lo p (by omega) (by omega)
 ·rw[hk,if_neg (by omega),if_neg (by omega)];exact h.hi p g1 g2
theorem PSS.more {l d:List Span} {a b i' j':Nat} {K:Int} (hr:RP a b l d) (pv:ksS d a=K) (h:PSS d a b K i' j') (hb:b≤l.length) (h1:a+1≤i') (h2:j'<b) (h3:i'≤j') :
  i'≠j'∧PTS l (swS d i' j') a b K (i'+1) (j' - 1):=by
 have hd:=hr.len;obtain⟨e1,e2⟩:=h.both h3;have hne:i'≠j':=fun e=>by subst e;omega
 have hk:=Ek (d:=d) (i:=i') (j:=j') (by omega) (by omega);refine⟨hne,hr.trans (RP.swS (by omega) (by omega) (by omega) (by omega)),?_,fun p g1 g2=>?_,fun p g1 g2=>?_,by omega,by omega,by omega⟩
 ·rw[hk,if_neg (by omega),if_neg (by omega)];exact pv
 ·rw[hk,if_neg (by omega)];split
  ·exact e2
  ·exact h.lo p g1 (by omega)
 ·rw[hk];split
  ·exact e1
  ·rw[if_neg (by omega)];exact h.hi p (by omega) g2
theorem JW {l:List Span} {a b k:Nat} (hk1:a≤k) (hk2:k<b) (hb:b≤l.length) (hl:l.length≤sortMost):Rn (A8 big l (a:Int) (b:Int) (k:Int)) fun r=>∃ m:Nat,r.1=(m:Int)∧a≤m∧m<b∧RP a b l r.2.2∧ksS r.2.2 m=ksS l k∧(∀ p,a≤p→p<m→ksS r.2.2 p<ksS l k)∧(∀ p,m<p→p<b→ksS l k≤ksS r.2.2 p):=by
 unfold sortMost at hl;unfold A8;refine swapS rfl rfl (show a<l.length by omega) (show k<l.length by omega) (Rn.lt (Rn.lt ?_));have hs:=RP.swS (d:=l) (a:=a) (b:=b) (i:=a) (j:=k) (by omega) (by omega) (by omega) (by omega);have hpv:ksS (swS l a k) a=ksS l k:=by
  rw[Ek (by omega) (by omega)];split
  ·rename_i h
   rw[← h]
  ·rw[if_pos rfl]
 generalize swS l a k=d at hs hpv;generalize ksS l k=K at hpv;rw[An (by omega) (by omega),Aq (by omega) (by omega),show (a:Int)+1=((a+1:Nat):Int) by omega,show (b:Int) - 1=((b - 1:Nat):Int) by omega];have h0:PTS l d a b K (a+1) (b - 1):=⟨hs,hpv,fun p h1 h2=>by omega,fun p h1 h2=>by omega,by omega,by omega,by omega⟩;have hd:=hs.len;refine Rn.bn (scanUp (p:=fun p=>decide (ksS d p<K)) (i0:=a+1) (hi:=b - 1+1) (by omega) (fun p g1 g2=>?_) ?_ (by omega)) fun r hr=>?_
 ·simp only[Ay];rw[le_t (by omega),AS,nthD (show p<d.length by omega) (⟨0,0⟩:Span)];simp only[Ar];rw[nthD (show a<d.length by omega) (⟨0,0⟩:Span)];simp only[Ar,cmpES,cvLtS];rw[← hpv];rfl
 ·simp only[Ay];rw[le_f (by omega),A6]
 obtain⟨i',rfl,i1,i2,i3,i4⟩:=hr;refine Rn.bn (scanDown (p:=fun p=>decide (¬ ksS d p<K)) (j0:=b - 1) (lo:=i' - 1) (by omega) (fun p g1 g2=>?_) ?_ (by omega)) fun r hr=>?_
 ·simp only[Ay];rw[le_t (by omega),AS,nthD (show p<d.length by omega) (⟨0,0⟩:Span)];simp only[Ar];rw[nthD (show a<d.length by omega) (⟨0,0⟩:Span)];simp only[Ar,cmpES,cvLtS,CE];rw[← hpv];rfl
 ·simp only[Ay];rw[le_f (by omega),A6]
 obtain⟨j',rfl,j1,j2,j3,j4⟩:=hr;have ps:=h0.scan i1 i3 i4 j1 j2 j3 j4;refine Rn.lt (zB (fun hc=>?_) fun hc=>?_)
 ·have hji:j'<i':=by
   have:=of_decide_eq_true (p:=((j':Int)<(i':Int))) hc;omega
  obtain⟨q1,q2,q3,q4⟩:=ps.last hs hpv hb (by omega) (by omega) hji;exact swapS rfl rfl (show j'<d.length by omega) (show a<d.length by omega) (Rn.some ⟨j',rfl,by omega,by omega,q1,q2,q3,q4⟩)
 have hij:i'≤j':=by
  have:=of_decide_eq_false (p:=((j':Int)<(i':Int))) hc;omega
 obtain⟨hne,h1⟩:=ps.more hs hpv hb (by omega) (by omega) hij;refine swapS rfl rfl (show i'<d.length by omega) (show j'<d.length by omega) (Rn.lt (Rn.lt ?_));rw[An (by omega) (by omega),Aq (by omega) (by omega),show (i':Int)+1=((i'+1:Nat):Int) by omega,show (j':Int) - 1=((j' - 1:Nat):Int) by omega];generalize swS d i' j'=d1 at h1;refine Rn.bn (P:=fun y=>∃ (m i:Nat) (d:List Span),y=((m:Int),d)∧RP a b l d∧ksS d a=K∧PSS d a b K i m∧a≤m∧m<b∧m<i) (zG _ (fun t y=>∃ (i j:Nat) (d:List Span),y=((i:Int),(j:Int),d)∧a+1+t≤i∧PTS l d a b K i j) (b - a) (by unfold big;omega) ⟨i'+1,j' - 1,d1,rfl,by omega,h1⟩ fun t y ht hI=>?_) fun y hy=>?_
 ·clear i3 i4 j3 j4 ps h0 hpv hs
  obtain⟨i,j,d,rfl,ht1,h⟩:=hI;have hd:=h.rp.len;have hai:=h.ai;have hij:=h.ij;have hjb:=h.jb;refine Rn.bn (scanUp (p:=fun p=>decide (ksS d p<K)) (i0:=i) (hi:=j+1) (by omega) (fun p g1 g2=>?_) ?_ (by omega)) fun r hr=>?_
  ·simp only[Ay];rw[le_t (by omega),AS,nthD (show p<d.length by omega) (⟨0,0⟩:Span)];simp only[Ar];rw[nthD (show a<d.length by omega) (⟨0,0⟩:Span)];simp only[Ar,cmpES,cvLtS];rw[← h.pv];rfl
  ·simp only[Ay];rw[le_f (by omega),A6]
  obtain⟨i',rfl,i1,i2,i3,i4⟩:=hr;refine Rn.bn (scanDown (p:=fun p=>decide (¬ ksS d p<K)) (j0:=j) (lo:=i' - 1) (by omega) (fun p g1 g2=>?_) ?_ (by omega)) fun r hr=>?_
  ·simp only[Ay];rw[le_t (by omega),AS,nthD (show p<d.length by omega) (⟨0,0⟩:Span)];simp only[Ar];rw[nthD (show a<d.length by omega) (⟨0,0⟩:Span)];simp only[Ar,cmpES,cvLtS,CE];rw[← h.pv];rfl
  ·simp only[Ay];rw[le_f (by omega),A6]
  obtain⟨j',rfl,j1,j2,j3,j4⟩:=hr;have ps:=h.scan i1 i3 i4 j1 j2 j3 j4;refine Rn.lt (zB (fun hc=>Rn.some ⟨j',i',d,rfl,h.rp,h.pv,ps,by omega,by omega,?_⟩) fun hc=>?_)
  ·have:=of_decide_eq_true (p:=((j':Int)<(i':Int))) hc;omega
  ·have hij:i'≤j':=by
    have:=of_decide_eq_false (p:=((j':Int)<(i':Int))) hc;omega
   obtain⟨hne,h1⟩:=ps.more h.rp h.pv hb (by omega) (by omega) hij;refine swapS rfl rfl (show i'<d.length by omega) (show j'<d.length by omega) (Rn.lt (Rn.lt (Rn.some ⟨by omega,i'+1,j' - 1,swS d i' j',?_,by omega,h1⟩)));rw[An (by omega) (by omega),Aq (by omega) (by omega),show ((j' - 1:Nat):Int)=(j':Int) - 1 by omega];rfl
 ·obtain⟨m,i,e,rfl,y1,y2,y3,y4,y5,y6⟩:=hy;have he:=y1.len;obtain⟨q1,q2,q3,q4⟩:=y3.last y1 y2 hb y4 y5 y6;exact swapS rfl rfl (show m<e.length by omega) (show a<e.length by omega) (Rn.some ⟨m,rfl,y4,y5,q1,q2,q3,q4⟩)
def HeapS (d:List Span) (f lo hi:Nat):Prop:=∀ i c,lo≤i→(c=2*i+1∨c=2*i+2)→c<hi→ksS d (f+c)≤ksS d (f+i)
theorem HeapS.max {d:List Span} {f hi:Nat} (h:HeapS d f 0 hi):∀ i,i<hi→ksS d (f+i)≤ksS d f:=by
 intro i;induction i using Nat.strongRecOn with
 |ind i ih =>
  intro hi';rcases Nat.eq_zero_or_pos i with rfl|hp
  ·exact Int.le_refl _
  ·have h1:=h ((i - 1) / 2) i (Nat.zero_le _) (by omega) hi';have h2:=ih ((i - 1) / 2) (by omega) (by omega);omega
structure SDS (l d:List Span) (f lo hi r:Nat):Prop where
 rp:RP f (f+hi) l d
 lr:lo≤r
 oth:∀ i c,lo≤i→i≠r→(c=2*i+1∨c=2*i+2)→c<hi→ksS d (f+c)≤ksS d (f+i)
 up:∀ p c,lo≤p→(r=2*p+1∨r=2*p+2)→(c=2*r+1∨c=2*r+2)→c<hi→ksS d (f+c)≤ksS d (f+p)
theorem SDS.stop {l d:List Span} {f lo hi r:Nat} (h:SDS l d f lo hi r) (hc:∀ c,(c=2*r+1∨c=2*r+2)→c<hi→ksS d (f+c)≤ksS d (f+r)):RP f (f+hi) l d∧HeapS d f lo hi:=by
 refine⟨h.rp,fun i c h1 h2 h3=>?_⟩;rcases Decidable.em (i=r) with e|e
 ·subst e;exact hc c h2 h3
 ·exact h.oth i c h1 e h2 h3
theorem SDS.step {l d:List Span} {f lo hi r c0:Nat} (h:SDS l d f lo hi r) (hb:f+hi≤l.length) (h1:c0=2*r+1∨c0=2*r+2) (h2:c0<hi) (h3:ksS d (f+r)<ksS d (f+c0))
  (h4:∀ c,(c=2*r+1∨c=2*r+2)→c<hi→ksS d (f+c)≤ksS d (f+c0)):SDS l (swS d (f+r) (f+c0)) f lo hi c0:=by
 have hd:=h.rp.len;have hlr:=h.lr;have hk:=Ek (d:=d) (i:=f+r) (j:=f+c0) (by omega) (by omega);refine⟨h.rp.trans (RP.swS (by omega) (by omega) (by omega) (by omega)),by omega,fun i c g1 g2 g3 g4=>?_,fun p c g1 g2 g3 g4=>?_⟩
 ·rw[hk,hk,if_neg (show ¬ f+i=f+c0 by omega)];rcases Decidable.em (i=r) with e|e
  ·subst e;rw[if_pos (show f+i=f+i from rfl)];rcases Decidable.em (c=c0) with e2|e2
   ·rw[if_pos (by omega)];omega
   ·rw[if_neg (by omega),if_neg (by omega)];exact h4 c g3 g4
  ·rw[if_neg (show ¬ f+i=f+r by omega),if_neg (show ¬ f+c=f+c0 by omega)];rcases Decidable.em (c=r) with e2|e2
   ·subst e2;rw[if_pos rfl];exact h.up i c0 g1 g3 h1 h2
   ·rw[if_neg (by omega)];exact h.oth i c g1 e g3 g4
 ·have hp:p=r:=by omega
  subst hp;rw[hk,hk,if_neg (by omega),if_neg (by omega),if_neg (by omega),if_pos rfl];exact h.oth c0 c (by omega) (by omega) g3 g4
theorem HY {l:List Span} {f lo hi:Nat} (hb:f+hi≤l.length) (hl:l.length≤sortMost) (hh:HeapS l f (lo+1) hi) (hlo:lo≤100):Rn (AX big l (lo:Int) (hi:Int) (f:Int)) fun r=>RP f (f+hi) l r∧HeapS r f lo hi:=by
 unfold sortMost at hl;unfold AX;refine Rn.bn (P:=fun y=>∃ d,(y=.inl d∨y=.inr d)∧RP f (f+hi) l d∧HeapS d f lo hi) (zG _ (fun t y=>∃ (r:Nat) (d:List Span),y=((r:Int),d)∧t≤r∧(t≤hi)∧(r<hi∨r=lo)∧SDS l d f lo hi r) hi (by unfold big;omega) ⟨lo,l,rfl,Nat.zero_le _,Nat.zero_le _,.inr rfl,RP.refl _ _ _,Nat.le_refl _,fun i c h1 h2 h3 h4=>hh i c (by omega) h3 h4,fun p c h1 h2 h3 h4=>by omega⟩ fun t y ht hI=>?_) fun y hy=>?_
 ·obtain⟨r,d,rfl,t1,t2,hr,h⟩:=hI;have hd:=h.rp.len;refine Rn.lt (Rn.lt (Rn.lt ?_));have hr2:r≤200:=by omega
  have em:mulI .i64 2 (r:Int)=((2*r:Nat):Int):=by rw[Cf (by omega) (by omega)];omega
  have e1:addI .i64 ((2*r:Nat):Int) 1=((2*r+1:Nat):Int):=by rw[An (by omega) (by omega)];omega
  simp only;rw[em,e1];refine zB (fun hc=>Rn.some ⟨d,.inl rfl,h.stop fun c g1 g2=>?_⟩) fun hc=>?_
  ·have:=of_decide_eq_true (p:=((hi:Int)≤((2*r+1:Nat):Int))) hc;omega
  ·have hc1:2*r+1<hi:=by
    have:=of_decide_eq_false (p:=((hi:Int)≤((2*r+1:Nat):Int))) hc;omega
   refine Rn.bn (P:=fun y=>∃ c0:Nat,y=(c0:Int)∧(c0=2*r+1∨c0=2*r+2)∧c0<hi∧∀ c,(c=2*r+1∨c=2*r+2)→c<hi→ksS d (f+c)≤ksS d (f+c0)) ?_ fun y hy=>?_
   ·have e2:addI .i64 ((2*r+1:Nat):Int) 1=((2*r+2:Nat):Int):=by rw[An (by omega) (by omega)];omega
    rcases Nat.lt_or_ge (2*r+2) hi with g|g
    ·refine zC (v:=decide (ksS d (f+(2*r+1))<ksS d (f+(2*r+2)))) ?_ (Rn.lt (zB (fun hq=>?_) fun hq=>?_))
     ·simp only[Ay];have e3:addI .i64 (f:Int) ((2*r+1:Nat):Int)=((f+(2*r+1):Nat):Int):=by rw[An (by omega) (by omega)];omega
      have e4:addI .i64 ((f+(2*r+1):Nat):Int) 1=((f+(2*r+2):Nat):Int):=by rw[An (by omega) (by omega)];omega
      rw[e2,lt_t (by omega),AS,e3,e4,nthD (show f+(2*r+1)<d.length by omega) (⟨0,0⟩:Span)];simp only[Ar];rw[nthD (show f+(2*r+2)<d.length by omega) (⟨0,0⟩:Span)];simp only[Ar,cmpES,cvLtS];rfl
     ·have hq':=of_decide_eq_true hq;rw[e2];refine Rn.lt (Rn.some ⟨2*r+2,rfl,.inr rfl,g,fun c g1 g2=>?_⟩);rcases g1 with rfl|rfl
      ·omega
      ·exact Int.le_refl _
     ·have hq':=of_decide_eq_false hq;refine Rn.some ⟨2*r+1,rfl,.inl rfl,hc1,fun c g1 g2=>?_⟩;rcases g1 with rfl|rfl
      ·exact Int.le_refl _
      ·omega
    ·refine zC (v:=false) ?_ (Rn.lt (zB (fun hq=>by simp at hq) fun _=>Rn.some ⟨2*r+1,rfl,.inl rfl,hc1,fun c g1 g2=>?_⟩))
     ·simp only[Ay];rw[e2,lt_f (by omega),A6]
     ·rcases g1 with rfl|rfl
      ·exact Int.le_refl _
      ·omega
   ·obtain⟨c0,rfl,k1,k2,k3⟩:=hy;have e5:addI .i64 (f:Int) (r:Int)=((f+r:Nat):Int):=by rw[An (by omega) (by omega)];omega
    have e6:addI .i64 (f:Int) (c0:Int)=((f+c0:Nat):Int):=by rw[An (by omega) (by omega)];omega
    have hfr:f+r<d.length:=by omega
    have hfc:f+c0<d.length:=by omega
    refine Rn.lt ?_;rw[e5,e6];refine zC (nthD hfr (⟨0,0⟩:Span)) (Rn.lt (zC (nthD hfc (⟨0,0⟩:Span)) ?_));simp only[cmpES,cvLtS,Ar,CE,Ay];refine zB (fun hq=>Rn.some ⟨d,.inr rfl,h.stop fun c g1 g2=>?_⟩) fun hq=>?_
    ·have hq':¬ ksS d (f+r)<ksS d (f+c0):=of_decide_eq_true hq;have:=k3 c g1 g2;omega
    ·have hq':¬ ¬ ksS d (f+r)<ksS d (f+c0):=of_decide_eq_false hq;rw[Int.toNat_natCast,Int.toNat_natCast];refine zC (nthD (by simpa using hfc) (⟨0,0⟩:Span)) (Rn.some ⟨by omega,c0,_,rfl,by omega,by omega,.inl k2,h.step hb k1 k2 (by omega) k3⟩)
 ·obtain⟨d,h1,h2⟩:=hy;rcases h1 with rfl|rfl
  ·rw[Ed];exact Rn.some h2
  ·rw[BZ];exact Rn.some h2
theorem JX {l:List Span} {a b:Nat} (hab:a<b) (hb:b≤l.length) (hl:l.length≤sortMost):Rn (Bd big l (a:Int) (b:Int)) fun r=>RP a b l r∧SortedS r a b:=by
 have hl':=hl;unfold sortMost at hl;unfold Bd;obtain⟨hi,rfl⟩:∃ hi,b=a+hi:=⟨b - a,by omega⟩;have e0:subI .i64 ((a+hi:Nat):Int) (a:Int)=(hi:Int):=by rw[Aq (by omega) (by omega)];omega
 have e1:subI .i64 (hi:Int) 1=(hi:Int) - 1:=Aq (by omega) (by omega);rw[e0];refine Rn.lt (Rn.lt ?_);rw[e1];refine zC (vquo (by omega) (by omega) (by omega)) ?_;refine Rn.bn (P:=fun d=>RP a (a+hi) l d∧HeapS d a 0 hi) (zG _ (fun t y=>∃ (k:Nat) (d:List Span),y=((k:Int) - 1,d)∧k+t=(hi - 1) / 2+1∧RP a (a+hi) l d∧HeapS d a k hi) hi (by unfold big;omega) ⟨(hi - 1) / 2+1,l,?_,by omega,RP.refl _ _ _,fun i c h1 h2 h3=>by omega⟩ fun t y ht hI=>?_) fun d hd=>?_
 ·refine Prod.ext ?_ rfl;simp only;omega
 ·obtain⟨k,d,rfl,hk,hr,hh⟩:=hI;have hd:=hr.len;refine Rn.lt (zB (fun hc=>?_) fun hc=>Rn.some ⟨hr,?_⟩)
  ·have hk1:1≤k:=by
    have:=of_decide_eq_true (p:=((0:Int)≤(k:Int) - 1)) hc;omega
   obtain⟨k,rfl⟩:∃ j,k=j+1:=⟨k - 1,by omega⟩;have e2:((k+1:Nat):Int) - 1=(k:Int):=by omega
   simp only;rw[e2];refine Rn.bn (HY (by omega) (by omega) hh (by omega)) fun r hr2=>Rn.chk (by have:=hr2.1.len;simp[lenB,this]) (Rn.lt (Rn.some ⟨by omega,k,r,?_,by omega,hr.trans hr2.1,hr2.2⟩));rw[Aq (by omega) (by omega)]
  ·have:k=0:=by
    have:=of_decide_eq_false (p:=((0:Int)≤(k:Int) - 1)) hc;omega
   subst this;exact hh
 ·obtain⟨h1,h2⟩:=hd;refine Rn.lt ?_;refine Rn.bn (P:=fun d=>RP a (a+hi) l d∧SortedS d a (a+hi)) (zG _ (fun t y=>∃ (k:Nat) (d:List Span),y=((k:Int) - 1,d)∧k+t=hi∧RP a (a+hi) l d∧HeapS d a 0 k∧∀ p q,a≤p→p<q→a+k≤q→q<a+hi→ksS d p≤ksS d q) hi (by unfold big;omega) ⟨hi,d,rfl,by omega,h1,h2,fun p q g1 g2 g3 g4=>by omega⟩ fun t y ht hI=>?_) fun r hr=>Rn.some hr;obtain⟨k,d,rfl,hk,hr,hh,htop⟩:=hI;have hd:=hr.len;refine Rn.lt (zB (fun hc=>?_) fun hc=>Rn.some ⟨hr,fun p q g1 g2 g3=>?_⟩)
  ·have hk1:1≤k:=by
    have:=of_decide_eq_true (p:=((0:Int)≤(k:Int) - 1)) hc;omega
   obtain⟨k,rfl⟩:∃ j,k=j+1:=⟨k - 1,by omega⟩;have e2:((k+1:Nat):Int) - 1=(k:Int):=by omega
   have e3:addI .i64 (a:Int) (k:Int)=((a+k:Nat):Int):=by rw[An (by omega) (by omega)];omega
   simp only;rw[e2,e3];refine Rn.lt (swapS rfl rfl (show a<d.length by omega) (show a+k<d.length by omega) ?_);have hks:=Ek (d:=d) (i:=a) (j:=a+k) (by omega) (by omega);have hsw:=RP.swS (d:=d) (a:=a) (b:=a+hi) (i:=a) (j:=a+k) (by omega) (by omega) (by omega) (by omega);have hh1:HeapS (swS d a (a+k)) a (0+1) k:=fun i c g1 g2 g3=>by
    rw[hks,hks,if_neg (by omega),if_neg (by omega),if_neg (by omega),if_neg (by omega)];exact hh i c (Nat.zero_le _) g2 (by omega)
   have hl1:(swS d a (a+k)).length=d.length:=KI _ _ _;have hmax:=hh.max;generalize swS d a (a+k)=d1 at hks hsw hh1 hl1;refine Rn.bn (HY (lo:=0) (by omega) (by omega) hh1 (by omega)) fun r hr2=>Rn.chk (by have:=hr2.1.len;simp[lenB,this]) (Rn.lt (Rn.some ⟨by omega,k,r,?_,by omega,(hr.trans hsw).trans (hr2.1.mono (Nat.le_refl _) (by omega)),hr2.2,fun p q g1 g2 g3 g4=>?_⟩))
   ·rw[Aq (by omega) (by omega)]
   ·have hq:ksS r q=ksS d1 q:=BP (hr2.1.off q (.inr (by omega)))
    -- what stands at p is one of d's,not behind a+k,or p stays
    have hp:(∃ p',a≤p'∧p'<a+k∧ksS r p=ksS d1 p')∨(a+k≤p∧ksS r p=ksS d1 p):=by
     rcases Nat.lt_or_ge p (a+k) with h|h
     ·obtain⟨p',x1,x2,x3⟩:=hr2.1.seg (by omega) (by omega) g1 h;exact .inl ⟨p',x1,x2,BP x3⟩
     ·exact .inr ⟨h,BP (hr2.1.off p (.inr h))⟩
    rw[hq,hks,if_neg (show ¬ q=a by omega) |> fun e=>e];rcases Nat.eq_or_lt_of_le g3 with g5|g5
    ·subst g5;rw[if_pos rfl];rcases hp with ⟨p',x1,x2,x3⟩|⟨x1,x3⟩
     ·rw[x3,hks,if_neg (by omega)];split
      ·exact hmax k (by omega)
      ·obtain⟨j,rfl⟩:∃ j,p'=a+j:=⟨p' - a,by omega⟩;exact hmax j (by omega)
     ·omega
    ·rw[if_neg (by omega)];rcases hp with ⟨p',x1,x2,x3⟩|⟨x1,x3⟩
     ·rw[x3,hks,if_neg (by omega)];split
      ·exact htop (a+k) q (by omega) (by omega) (by omega) g4
      ·exact htop p' q x1 (by omega) (by omega) g4
     ·rw[x3,hks];split
      ·exact htop a q (by omega) (by omega) (by omega) g4
      ·rw[if_neg (by omega)];exact htop p q g1 g2 (by omega) g4
  ·have:k=0:=by
    have:=of_decide_eq_false (p:=((0:Int)≤(k:Int) - 1)) hc;omega
   subst this;exact htop p q g1 g2 (by omega) g3
theorem Jt {n:Nat} (h1:8≤n) (h2:n≤49):∃ p:Nat,Bq big (n:Int)=some (p:Int)∧1≤p∧p≤2*n:=by
 have hb:(List.range 50).all (fun n=>decide (n<8) || (match Bq big (n:Int) with|some p=>decide (1≤p∧p≤2*(n:Int))|none=>false))=true:=by kernel_rfl
 rw[List.all_eq_true] at hb;have h:=hb n (by simp;omega);rw[decide_eq_false (by omega),Bool.false_or] at h;split at h
 ·rename_i p e
  have:=of_decide_eq_true h;exact⟨p.toNat,by rw[e];congr 1;omega,by omega,by omega⟩
 ·simp at h
theorem wrapU {a:Int} (h:0≤a) (h2:a<18446744073709551616):IntKind.u64.wrap a=a:=by
 have e:IntKind.u64.wrap a=a % 18446744073709551616:=rfl;rw[e];exact Int.emod_eq_of_lt h h2
theorem Ju (x m:Int) (h:0≤m) (h2:m≤1000000):0≤andI .u64 x m∧andI .u64 x m≤m:=by
 have e:(BitVec.ofInt 64 x &&& BitVec.ofInt 64 m).toNat≤m.toNat:=by
  rw[BitVec.toNat_and,BitVec.toNat_ofInt m];refine Nat.le_trans Nat.and_le_right ?_;have:m % 2 ^ 64=m:=Int.emod_eq_of_lt h (by omega);simp only[Int.natCast_pow] at *;omega
 have e2:andI .u64 x m=((BitVec.ofInt 64 x &&& BitVec.ofInt 64 m).toNat:Int):=by
  have h3:(BitVec.ofInt 64 x &&& BitVec.ofInt 64 m).toNat<18446744073709551616:=(BitVec.ofInt 64 x &&& BitVec.ofInt 64 m).isLt;exact wrapU (a:=((BitVec.ofInt 64 x &&& BitVec.ofInt 64 m).toNat:Int)) (by omega) (by omega)
 rw[e2];omega
theorem G3 (r:Int):∃ x y,BC big r=some (x,y):=⟨_,_,rfl⟩
theorem Jv {l:List Span} {a b:Nat} (hab:a+12<b) (hb:b≤l.length) (hl:l.length≤sortMost):Rn (AZ big l (a:Int) (b:Int)) fun r=>RP a b l r:=by
 unfold sortMost at hl;unfold AZ;obtain⟨n,rfl⟩:∃ n,b=a+n:=⟨b - a,by omega⟩;have e0:subI .i64 ((a+n:Nat):Int) (a:Int)=(n:Int):=by rw[Aq (by omega) (by omega)];omega
 rw[e0];refine Rn.lt (Rn.lt (zB (fun _=>?_) fun h=>?_))
 ·obtain⟨p,ep,p1,p2⟩:=Jt (n:=n) (by omega) (by omega);obtain⟨q,hq⟩:∃ q:Nat,(n:Int) / 4=(q:Int):=⟨n / 4,by omega⟩;have e1:mulI .i64 (q:Int) 2=((q*2:Nat):Int):=by rw[Cf (by omega) (by omega)];omega
  have e2:addI .i64 (a:Int) ((q*2:Nat):Int)=((a+q*2:Nat):Int):=by rw[An (by omega) (by omega)];omega
  have e3:subI .i64 ((a+q*2:Nat):Int) 1=((a+q*2 - 1:Nat):Int):=by rw[Aq (by omega) (by omega)];omega
  have e4:addI .i64 ((a+q*2:Nat):Int) 1=((a+q*2+1:Nat):Int):=by rw[An (by omega) (by omega)];omega
  have eq4:quoI .i64 (n:Int) 4=some (q:Int):=by rw[vquo (by omega) (by omega) (by omega),hq]
  refine Rn.lt (zC ep ?_);rw[eq4];refine zC rfl (Rn.lt (Rn.lt (Rn.lt ?_)));rw[e1,e2,e3];refine Rn.bn (P:=fun r=>RP a (a+n) l r) (zG _ (fun t y=>∃ (i:Nat) (d:List Span) (r:Int),y=((i:Int),d,r)∧i=a+q*2 - 1+t∧RP a (a+n) l d) 3 (by unfold big;omega) ⟨a+q*2 - 1,l,_,rfl,by omega,RP.refl _ _ _⟩ fun t y ht hI=>?_) fun r hr=>Rn.some hr;obtain⟨i,d,r,rfl,hi,hr⟩:=hI;have hd:=hr.len;refine zC rfl (Rn.lt ?_);rw[e1];refine Rn.lt ?_;rw[e2];refine Rn.lt ?_;rw[e4];refine Rn.lt (zB (fun hc=>?_) fun _=>Rn.some hr);have hi2:i≤a+q*2+1:=by
   have:=of_decide_eq_true (p:=((i:Int)≤((a+q*2+1:Nat):Int))) hc;omega
  obtain⟨x,y,exy⟩:=G3 r;refine zC exy (Rn.lt (Rn.lt (Rn.lt ?_)));have e5:subI .u64 (p:Int) 1=(p:Int) - 1:=wrapU (by omega) (by omega);rw[e5];obtain⟨g1,g2⟩:=Ju x ((p:Int) - 1) (by omega) (by omega);simp only;generalize andI .u64 x ((p:Int) - 1)=w at g1 g2;rw[Gn (by omega) (by omega)];refine Rn.bn (P:=fun o=>∃ k:Nat,o=(k:Int)∧k<n) (Rn.lt (zB (fun h=>Rn.lt (Rn.some ?_)) fun h=>Rn.some ?_)) fun o ho=>?_
  ·have:=of_decide_eq_true (p:=((n:Int)≤w)) h;rw[Aq (by omega) (by omega)];exact⟨(w - n).toNat,by omega,by omega⟩
  ·have:=of_decide_eq_false (p:=((n:Int)≤w)) h;exact⟨w.toNat,by omega,by omega⟩
  ·obtain⟨k,rfl,hk⟩:=ho;refine Rn.lt ?_;have e6:addI .i64 (a:Int) (k:Int)=((a+k:Nat):Int):=by rw[An (by omega) (by omega)];omega
   rw[e6];refine swapS rfl rfl (show i<d.length by omega) (show a+k<d.length by omega) (Rn.lt (Rn.some ⟨by omega,i+1,swS d i (a+k),y,?_,by omega,hr.trans (RP.swS (by omega) (by omega) (by omega) (by omega))⟩));rw[An (by omega) (by omega)];rfl
 ·have:=of_decide_eq_false (p:=((8:Int)≤(n:Int))) h;omega
def PreS (d:List Span) (a b:Nat):Prop:=0<a→∀ i,a≤i→i<b→ksS d (a - 1)≤ksS d i
def SepS (d:List Span) (a b a' b':Nat):Prop:=∀ p q,a≤p→p<q→q<b→(p<a'∨b'≤q)→ksS d p≤ksS d q
theorem PreS.keep {d r:List Span} {a b:Nat} (h:PreS d a b) (hr:RP a b d r) (hab:a≤b) (hb:b≤d.length):PreS r a b:=by
 intro h0 i h1 h2;obtain⟨j,x1,x2,x3⟩:=hr.seg hab hb h1 h2;rw[BP x3,BP (hr.off (a - 1) (.inl (by omega)))];exact h h0 j x1 x2
theorem SepS.keep {d r:List Span} {a b a' b':Nat} (h:SepS d a b a' b') (hr:RP a' b' d r) (h1:a≤a') (h2:a'≤b') (h3:b'≤b) (hb:b≤d.length):SepS r a b a' b':=by
 intro p q g1 g2 g3 g4;have key:∀ i,∃ j,ksS r i=ksS d j∧((i<a'∧j=i)∨(b'≤i∧j=i)∨(a'≤i∧i<b'∧a'≤j∧j<b')):=by
  intro i;rcases Nat.lt_or_ge i a' with x|x
  ·exact⟨i,BP (hr.off i (.inl x)),.inl ⟨x,rfl⟩⟩
  ·rcases Nat.lt_or_ge i b' with y|y
   ·obtain⟨j,x1,x2,x3⟩:=hr.seg h2 (by omega) x y;exact⟨j,BP x3,.inr (.inr ⟨x,y,x1,x2⟩)⟩
   ·exact⟨i,BP (hr.off i (.inr y)),.inr (.inl ⟨y,rfl⟩)⟩
 obtain⟨p',e1,f1⟩:=key p;obtain⟨q',e2,f2⟩:=key q;rw[e1,e2];exact h p' q' (by omega) (by omega) (by omega) (by omega)
theorem SepS.done {r:List Span} {a b a' b':Nat} (h:SepS r a b a' b') (hs:SortedS r a' b'):SortedS r a b:=by
 intro p q g1 g2 g3;rcases Decidable.em (p<a'∨b'≤q) with x|x
 ·exact h p q g1 g2 g3 x
 ·exact hs p q (by omega) g2 (by omega)
theorem KL:∀ (m:Nat) {l:List Span} {a b:Nat} {lim:Int},b - a<m→a≤b→b≤l.length→l.length≤sortMost→PreS l a b→0≤lim→lim≤1000→Rn (AA big m l (a:Int) (b:Int) lim) fun r=>RP a b l r∧SortedS r a b:=by
 intro m;induction m with
 |zero=>intro l a b lim h;omega
 |succ m ih =>
  intro l a b lim hm hab hb hl hpre hl0 hl1;have hl':=hl;unfold sortMost at hl;rw[AA];refine Rn.bn (P:=fun r=>RP a b l r∧SortedS r a b) (zG _ (fun t y=>∃ (a' b':Nat) (lim':Int) (bal part:Bool) (d:List Span),y=((a':Int),(b':Int),lim',bal,part,d)∧a≤a'∧a'≤b'∧b'≤b∧t+(b' - a')≤b - a∧RP a b l d∧SepS d a b a' b'∧PreS d a' b'∧0≤lim'∧lim'≤1000) (b - a) (by unfold big;omega)
   ⟨a,b,lim,true,true,l,rfl,Nat.le_refl _,hab,Nat.le_refl _,by omega,RP.refl _ _ _,fun p q h1 h2 h3 h4=>by omega,hpre,hl0,hl1⟩ fun t y ht hI=>?_) fun r hr=>Rn.some hr
  obtain⟨a',b',lim',bal,part,d,rfl,i1,i2,i3,i4,hr,hsep,hp,hm0,hm1⟩:=hI;have hd:=hr.len
  -- what is sorted within is sorted
  have hdone:∀ r,RP a' b' d r→SortedS r a' b'→RP a b l r∧SortedS r a b:=fun r h1 h2 =>
   ⟨hr.trans (h1.mono i1 i3),(hsep.keep h1 i1 i2 i3 (by omega)).done h2⟩
  refine Rn.lt (Rn.lt ?_);have e0:subI .i64 (b':Int) (a':Int)=((b' - a':Nat):Int):=by rw[Aq (by omega) (by omega)];omega
  simp only;rw[e0];refine zB (fun hc=>?_) fun hc=>?_
  ·refine Rn.bn (KJ i2 (by omega) (by omega)) fun r hr2=>Rn.chk (by have:=hr2.1.len;simp[lenB,this]) (Rn.some (hdone r hr2.1 hr2.2))
  have hlong:a'+12<b':=by
   have:=of_decide_eq_false (p:=(((b' - a':Nat):Int)≤12)) hc;omega
  refine Rn.lt (zB (fun hz=>?_) fun hz=>?_)
  ·refine Rn.bn (JX (by omega) (by omega) (by omega)) fun r hr2=>Rn.chk (by have:=hr2.1.len;simp[lenB,this]) (Rn.some (hdone r hr2.1 hr2.2))
  have hlim:lim'≠0:=of_decide_eq_false (p:=lim'=0) hz;refine Rn.bn (P:=fun y=>(0≤y.1∧y.1≤1000)∧RP a' b' d y.2) ?_ fun y hy=>?_
  ·refine Rn.lt (zB (fun _=>?_) fun _=>Rn.some ⟨⟨hm0,hm1⟩,RP.refl _ _ _⟩);refine Rn.bn (Jv hlong (by omega) (by omega)) fun r hr2=>Rn.chk (by have:=hr2.len;simp[lenB,this]) (Rn.lt (Rn.some ⟨?_,hr2⟩));rw[Aq (by omega) (by omega)];exact⟨by omega,by omega⟩
  obtain⟨lim2,d1⟩:=y;obtain⟨⟨hm2,hm3⟩,hr1⟩:=hy;simp only at hm2 hm3 hr1;have hd1:=hr1.len;refine Rn.bn (IV (l:=d1) hlong (by omega) (by omega)) fun v hv=>?_;obtain⟨v1,v2,v3⟩:=v;obtain⟨⟨k,hk,hk1,hk2⟩,hv3⟩:=hv;simp only at hk hv3;subst v3 v1;refine Rn.chk (by simp[lenB]) ?_;refine Rn.bn (P:=fun y=>(∃ k:Nat,y.1=(k:Int)∧a'≤k∧k<b')∧RP a' b' d y.2.2) ?_ fun y hy=>?_
  ·refine Rn.lt (zB (fun _=>?_) fun _=>Rn.some ⟨⟨k,rfl,hk1,hk2⟩,hr1⟩);refine Rn.bn (Ig (l:=d1) (by omega) (by omega) (by omega)) fun r hr2=>Rn.chk (by have:=hr2.len;simp[lenB,this]) (Rn.lt (Rn.lt (Rn.lt (Rn.some ⟨⟨b' - 1 - (k - a'),?_,by omega,by omega⟩,hr1.trans hr2⟩))));simp only;rw[Aq (a:=(b':Int)) (by omega) (by omega),Aq (a:=(k:Int)) (by omega) (by omega),Aq (by omega) (by omega)];omega
  obtain⟨y1,y2,d2⟩:=y;obtain⟨⟨k2,hk,hk1,hk2⟩,hr2⟩:=hy;simp only at hk hr2;subst y1;have hd2:=hr2.len;refine Rn.bn (P:=fun y=>(∃ c e r,y=.inl (c,e,r)∧RP a' b' d r)∨∃ r,y=.inr r∧RP a' b' d r∧SortedS r a' b') ?_ fun y hy=>?_
  ·refine Rn.bn (P:=fun _=>True) ?_ fun w _=>?_
   ·refine Rn.lt (zB (fun _=>Rn.lt (zB (fun _=>Rn.lt (Rn.some trivial)) fun _=>Rn.some trivial)) fun _=>Rn.some trivial)
   ·refine Rn.lt (zB (fun _=>?_) fun _=>Rn.some (.inl ⟨_,_,d2,rfl,hr2⟩));refine Rn.bn (Ih (l:=d2) (by omega) (by omega) (by omega)) fun r hr3=>?_;obtain⟨r1,r2⟩:=r;obtain⟨g1,g2⟩:=hr3;simp only at g1 g2;subst r2;refine Rn.chk (by simp[lenB]) (Rn.lt (zB (fun h=>Rn.some (.inr ⟨d2,rfl,hr2,g2 h⟩)) fun _=>Rn.some (.inl ⟨_,_,d2,rfl,hr2⟩)))
  rcases hy with ⟨c,e,d3,rfl,hr3⟩|⟨r,rfl,hr3,hs3⟩
  rotate_left
  ·rw[BZ];exact Rn.some (hdone r hr3 hs3)
  rw[Ed];have hd3:=hr3.len;have hsep3:=hsep.keep hr3 i1 i2 i3 (by omega);have hp3:=hp.keep hr3 i2 (by omega);have hrl3:=hr.trans (hr3.mono i1 i3);refine Rn.bn (P:=fun c=>c=decide (0<a'∧¬ ksS d3 (a' - 1)<ksS d3 k2)) ?_ fun q hq=>?_
  ·refine Rn.lt (zB (fun h=>?_) fun h=>Rn.some ?_)
   ·have h0:0<a':=by
     have:=of_decide_eq_true (p:=((0:Int)<(a':Int))) h;omega
    have e1:subI .i64 (a':Int) 1=((a' - 1:Nat):Int):=by rw[Aq (by omega) (by omega)];omega
    refine Rn.lt ?_;rw[e1];refine zC (nthD (show a' - 1<d3.length by omega) (⟨0,0⟩:Span)) (zC (nthD (show k2<d3.length by omega) (⟨0,0⟩:Span)) ?_);simp only[cmpES,cvLtS,Ar,Ay,CE];refine Rn.some ?_;simp only[h0,true_and];rfl
   ·have h0:¬ 0<a':=by
     have:=of_decide_eq_false (p:=((0:Int)<(a':Int))) h;omega
    simp[h0]
  subst hq;refine Rn.lt (zB (fun h=>?_) fun h=>?_)
  ·obtain⟨h0,hK⟩:=of_decide_eq_true h;refine Rn.bn (IW (l:=d3) hk1 hk2 (by omega) (by omega)) fun r hr4=>?_;obtain⟨r1,r2⟩:=r;obtain⟨md,g0,g1,g2,g3,g4,g5⟩:=hr4;simp only at g0 g3 g4 g5;subst r1;refine Rn.chk (by have:=g3.len;simp[lenB,this]) (Rn.some ⟨by omega,md,b',lim2,c,e,r2,rfl,by omega,g2,i3,by omega,hrl3.trans (g3.mono i1 i3),?_,?_,hm2,hm3⟩)
   ·have hs4:=hsep3.keep g3 i1 i2 i3 (by omega);have hp4:=hp3.keep g3 i2 (by omega);have hK2:ksS d3 k2≤ksS r2 (a' - 1):=by
     rw[BP (g3.off (a' - 1) (.inl (by omega)))];omega
    intro p q x1 x2 x3 x4;rcases Decidable.em (p<a'∨b'≤q) with x5|x5
    ·exact hs4 p q x1 x2 x3 x5
    ·have z1:=g4 p (by omega) (by omega);rcases Nat.lt_or_ge q md with x6|x6
     ·have z2:=hp4 h0 q (by omega) (by omega);omega
     ·have z2:=g5 q x6 (by omega);omega
   ·intro _ i x1 x2;have z1:=g4 (md - 1) (by omega) (by omega);have z2:=g5 i x1 x2;omega
  ·refine Rn.bn (JW (l:=d3) hk1 hk2 (by omega) (by omega)) fun r hr4=>?_;obtain⟨r1,r2,r4⟩:=r;obtain⟨md,g0,g1,g2,g3,g4,g5,g6⟩:=hr4;simp only at g0 g3 g4 g5 g6;subst r1;have hd4:=g3.len;have hs4:=hsep3.keep g3 i1 i2 i3 (by omega);have hp4:=hp3.keep g3 i2 (by omega);generalize ksS d3 k2=K at g4 g5 g6;have e3:addI .i64 (md:Int) 1=((md+1:Nat):Int):=by rw[An (by omega) (by omega)];omega
   refine Rn.chk (by simp[lenB,hd4]) (Rn.lt (Rn.lt (zC (vquo (by omega) (by omega) (by omega)) (Rn.lt (zB (fun _=>Rn.lt ?_) fun _=>Rn.lt (Rn.lt ?_))))))
   ·refine Rn.bn (ih (l:=r4) (a:=a') (b:=md) (by omega) g1 (by omega) (by omega) (fun h0 i x1 x2=>hp4 h0 i x1 (by omega)) hm2 hm3) fun r hr5=>?_;obtain⟨q1,q2⟩:=hr5;have hd5:=q1.len;refine Rn.chk (by simp[lenB,hd5]) (Rn.lt ?_);rw[e3];refine Rn.some ⟨by omega,md+1,b',lim2,_,_,r,rfl,by omega,by omega,i3,by omega,(hrl3.trans (g3.mono i1 i3)).trans (q1.mono i1 (by omega)),?_,?_,hm2,hm3⟩
    ·have hs5:=hs4.keep (q1.mono (Nat.le_refl _) (by omega)) i1 i2 i3 (by omega);intro p q x1 x2 x3 x4;rcases Decidable.em (p<a'∨b'≤q) with x5|x5
     ·exact hs5 p q x1 x2 x3 x5
     ·have hge:∀ i,md<i→i<b'→K≤ksS r i:=fun i y1 y2=>by
       rw[BP (q1.off i (.inr (by omega)))];exact g6 i y1 y2
      have hmd:ksS r md=K:=by rw[BP (q1.off md (.inr (Nat.le_refl _)))];exact g4
      rcases Nat.lt_or_ge p md with x6|x6
      ·obtain⟨j,y1,y2,y3⟩:=q1.seg g1 (by omega) (show a'≤p by omega) x6;have z1:=g5 j y1 y2;rw[← BP y3] at z1;rcases Nat.lt_trichotomy q md with x7|x7|x7
       ·exact q2 p q (by omega) x2 x7
       ·subst x7;omega
       ·have:=hge q x7 (by omega);omega
      ·have:p=md:=by omega
       subst this;have:=hge q x2 (by omega);omega
    ·intro _ i x1 x2;show ksS r md≤_;rw[BP (q1.off md (.inr (Nat.le_refl _))),BP (q1.off i (.inr (by omega))),g4];exact g6 i (by omega) x2
   ·rw[e3];refine Rn.bn (ih (l:=r4) (a:=md+1) (b:=b') (by omega) (by omega) (by omega) (by omega) (fun h0 i x1 x2=>by show ksS r4 md≤_;rw[g4];exact g6 i (by omega) x2) hm2 hm3) fun r hr5=>?_;obtain⟨q1,q2⟩:=hr5;have hd5:=q1.len;refine Rn.chk (by simp[lenB,hd5]) ?_;refine Rn.some ⟨by omega,a',md,lim2,_,_,r,rfl,i1,g1,by omega,by omega,(hrl3.trans (g3.mono i1 i3)).trans (q1.mono (by omega) i3),?_,?_,hm2,hm3⟩
    ·have hs5:=hs4.keep (q1.mono (by omega) (Nat.le_refl _)) i1 i2 i3 (by omega);intro p q x1 x2 x3 x4;rcases Decidable.em (p<a'∨b'≤q) with x5|x5
     ·exact hs5 p q x1 x2 x3 x5
     ·have hmd:ksS r md=K:=by rw[BP (q1.off md (.inl (by omega)))];exact g4
      have hge:∀ i,md<i→i<b'→K≤ksS r i:=fun i y1 y2=>by
       obtain⟨j,z1,z2,z3⟩:=q1.seg (by omega) (by omega) (show md+1≤i by omega) y2;rw[BP z3];exact g6 j (by omega) z2
      have hle:∀ i,a'≤i→i<md→ksS r i<K:=fun i y1 y2=>by
       rw[BP (q1.off i (.inl (by omega)))];exact g5 i y1 y2
      rcases Nat.lt_trichotomy p md with x6|x6|x6
      ·have z1:=hle p (by omega) x6;rcases Nat.eq_or_lt_of_le (show md≤q by omega) with x7|x7
       ·subst x7;omega
       ·have:=hge q x7 (by omega);omega
      ·subst x6;have:=hge q x2 (by omega);omega
      ·exact q2 p q (by omega) x2 (by omega)
    ·intro h0 i x1 x2;rw[BP (q1.off (a' - 1) (.inl (by omega))),BP (q1.off i (.inl (by omega)))];exact hp4 h0 i x1 (by omega)
theorem E6 {l:List Span} {i j:Nat} (hi:i<l.length) (hj:j<l.length) (h:ksS l i≤ksS l j) (s:Int):AH big l (i:Int) (j:Int) s=some ((i:Int),(j:Int),l,s):=by
 unfold AH;rw[nthD hj (⟨0,0⟩:Span)];simp only[Ar];rw[nthD hi (⟨0,0⟩:Span)];simp only[cmpES,cvLtS,Ar,Ay];rw[show decide (keyS (l.getD j ⟨0,0⟩)<keyS (l.getD i ⟨0,0⟩))=false from decide_eq_false (by have h':keyS (l.getD i ⟨0,0⟩)≤keyS (l.getD j ⟨0,0⟩):=h;omega),A6]
theorem Gp {l:List Span} {i j k:Nat} (hi:i<l.length) (hj:j<l.length) (hk:k<l.length) (h1:ksS l i≤ksS l j) (h2:ksS l j≤ksS l k) (s:Int):AI big l (i:Int) (j:Int) (k:Int) s=some ((j:Int),l,s):=by
 unfold AI;rw[E6 hi hj h1];simp only[Ar];rw[show lenB l l=true from decide_eq_true rfl,EL rfl,E6 hj hk h2];simp only[Ar];rw[show lenB l l=true from decide_eq_true rfl,EL rfl,E6 hi hj h1];simp only[Ar];rw[show lenB l l=true from decide_eq_true rfl,EL rfl]
theorem GJ {l:List Span} {i:Nat} (h0:1≤i) (hi:i+1<l.length) (hl:l.length≤1000) (h1:ksS l (i - 1)≤ksS l i) (h2:ksS l i≤ksS l (i+1)) (s:Int):Aw big l (i:Int) s=some ((i:Int),l,s):=by
 unfold Aw;rw[Aq (by omega) (by omega),An (by omega) (by omega),show (i:Int) - 1=((i - 1:Nat):Int) by omega,show (i:Int)+1=((i+1:Nat):Int) by omega];simp only[Ay];rw[Gp (by omega) (by omega) hi h1 h2];simp only[Ar];rw[show lenB l l=true from decide_eq_true rfl,EL rfl]
theorem IX {l:List Span} (hlen:12<l.length) (hl:l.length≤1000) (hs:SortedS l 0 (l.length - 1)):∃ k:Nat,AL big l ((0:Nat):Int) (l.length:Int)=some ((k:Int),1,l):=by
 have key:∀ p q,p<q→q<l.length - 1→ksS l p≤ksS l q:=fun p q h1 h2=>hs p q (Nat.zero_le _) h1 h2;have lb:lenB l l=true:=decide_eq_true rfl;unfold AL;obtain⟨q,hq⟩:∃ q:Nat,((l.length:Int) - ((0:Nat):Int)) / 4=(q:Int):=⟨l.length / 4,by omega⟩;refine⟨q*2,?_⟩;simp only[Ay];rw[Aq (by omega) (by omega),vquo (by omega) (by omega) (by omega),hq];simp only[Ar];rw[Cf (by omega) (by omega),Cf (show -9223372036854775808≤(q:Int)*2 by omega) (by omega),Cf (show -9223372036854775808≤(q:Int)*3 by omega) (by omega),An (by omega) (by omega),An (show -9223372036854775808≤((0:Nat):Int)+(q:Int)*2 by omega) (by omega),An (show -9223372036854775808≤((0:Nat):Int)+(q:Int)*3 by omega) (by omega)];rw[show ((0:Nat):Int)+(q:Int)*1=((q:Nat):Int) by omega,show ((0:Nat):Int)+(q:Int)*2=((q*2:Nat):Int) by omega,show ((0:Nat):Int)+(q:Int)*3=((q*3:Nat):Int) by omega,ge_t (by omega),AS];have hm:AI big l ((q:Nat):Int) ((q*2:Nat):Int) ((q*3:Nat):Int) 0=some (((q*2:Nat):Int),l,0):=Gp (by omega) (by omega) (by omega) (key _ _ (by omega) (by omega)) (key _ _ (by omega) (by omega)) 0;have hb:∀ (c:Bool),(c=true→50≤l.length)→(ite' c (bn (Aw big l ((q:Nat):Int) 0) fun v13 =>
   chk (lenB v13.2.1 l) <|
   bn (Aw big v13.2.1 ((q*2:Nat):Int) v13.2.2) fun v15 =>
   chk (lenB v15.2.1 v13.2.1) <|
   bn (Aw big v15.2.1 ((q*3:Nat):Int) v15.2.2) fun v17 =>
   chk (lenB v17.2.1 v15.2.1) <|
   some ((v13.1,v15.1,v17.1,v17.2.1,v17.2.2))) (some ((((q:Nat):Int),((q*2:Nat):Int),((q*3:Nat):Int),l,0))))=some (((q:Nat):Int),((q*2:Nat):Int),((q*3:Nat):Int),l,0):=by
  intro c hc;cases c with
  |false=>rfl
  |true =>
   have h50:=hc rfl;rw[AS,GJ (by omega) (by omega) hl (key _ _ (by omega) (by omega)) (key _ _ (by omega) (by omega))];simp only[Ar];rw[lb,EL rfl,GJ (by omega) (by omega) hl (key _ _ (by omega) (by omega)) (key _ _ (by omega) (by omega))];simp only[Ar];rw[lb,EL rfl,GJ (by omega) (by omega) hl (key _ _ (by omega) (by omega)) (key _ _ (by omega) (by omega))];simp only[Ar];rw[lb,EL rfl]
 rw[hb _ fun h=>by
  have:=of_decide_eq_true (p:=((50:Int)≤(l.length:Int) - ((0:Nat):Int))) h;omega]
 simp only[Ar];rw[hm];simp only[Ar];rw[lb,EL rfl];rfl
theorem HZ {l:List Span} (h50:50≤l.length) (hl:l.length≤1000) (hs:SortedS l 0 (l.length - 1)):Rn (AC big l ((0:Nat):Int) (l.length:Int)) fun r=>r.1=true∧RP 0 l.length l r.2∧SortedS r.2 0 l.length:=by
 unfold AC;refine Rn.lt ?_;rw[An (by omega) (by omega),show ((0:Nat):Int)+1=((0+1:Nat):Int) by omega];refine Rn.bn (P:=fun y=>∃ r,y=.inr (true,r)∧RP 0 l.length l r∧SortedS r 0 l.length) (zG _ (fun t y=>(t=0∧y=(((0+1:Nat):Int),0,l))∨(t=1∧∃ r,y=(((l.length - 1:Nat):Int),1,r)∧RP 0 l.length l r∧SortedS r 0 l.length)) 1 (by unfold big;omega) (.inl ⟨rfl,rfl⟩) fun t y ht hI=>?_) fun y hy=>?_
 ·have scan:∀ (d:List Span) (i0:Nat),1≤i0→i0≤l.length→d.length=l.length→Rn (iter big (fun (y7:Int)=>bn (lt (ltI y7 (l.length:Int)) fun v11=>ite' v11 (bn (nth d y7) fun v12=>lt (subI .i64 y7 1) fun v14=>bn (nth d v14) fun v15=>bn (AJ big v12 v15) fun v17=>lt (ltI v17 0) fun v18=>lt (notB v18) fun v19=>some (v19)) (some (false))) fun (y10:Bool)=>lt (y10) fun v20=>ite' v20 (lt (addI .i64 y7 1) fun v21=>some (.inl v21)) (some (.inr y7))) (i0:Int)) fun r=>∃ k:Nat,r=(k:Int)∧i0≤k∧k≤l.length∧(∀ i,i0≤i→i<k→decide (¬ ksS d i<ksS d (i - 1))=true)∧(k<l.length→decide (¬ ksS d k<ksS d (k - 1))=false):=by
   intro d i0 g1 g2 g3;refine scanUp (p:=fun i=>decide (¬ ksS d i<ksS d (i - 1))) (by omega) (fun i h1 h2=>?_) ?_ g2
   ·simp only[Ay];rw[lt_t (by omega),AS,nthD (show i<d.length by omega) (⟨0,0⟩:Span)];simp only[Ar];rw[Aq (by omega) (by omega),show (i:Int) - 1=((i - 1:Nat):Int) by omega,nthD (show i - 1<d.length by omega) (⟨0,0⟩:Span)];simp only[Ar,cmpES,cvLtS,CE];rfl
   ·simp only[Ay];rw[lt_f (by omega),A6]
  rcases hI with ⟨rfl,rfl⟩|⟨rfl,r,rfl,hr,hsr⟩
  ·refine Rn.lt (zB (fun _=>?_) fun h=>absurd (show ltI 0 5=false from h) (by decide));refine Rn.bn (P:=fun y=>(y=.inr (true,l)∧SortedS l 0 l.length)∨∃ r,y=.inl (((l.length - 1:Nat):Int),r)∧RP 0 l.length l r∧SortedS r 0 l.length) ?_ fun y hy=>?_
   ·refine Rn.bn (scan l (0+1) (by omega) (by omega) rfl) fun k hk=>?_;obtain⟨k,rfl,k1,k2,k3,k4⟩:=hk;refine Rn.lt (zB (fun h=>Rn.some (.inl ⟨rfl,?_⟩)) fun h=>?_)
    ·have hk:k=l.length:=by
      have:=of_decide_eq_true (p:=((k:Int)=(l.length:Int))) h;omega
     intro p q h1 h2 h3;rcases Nat.lt_or_ge q (l.length - 1) with h4|h4
     ·exact hs p q h1 h2 h4
     ·have e:q=l.length - 1:=by omega
      subst e;have g:=of_decide_eq_true (k3 (l.length - 1) (by omega) (by omega));rcases Nat.lt_or_ge p (l.length - 1 - 1) with h5|h5
      ·have:=hs p (l.length - 1 - 1) h1 h5 (by omega);omega
      ·have e:p=l.length - 1 - 1:=by omega
       subst e;omega
    ·have hk:k=l.length - 1:=by
      have hne:k≠l.length:=fun e=>by
       subst e;exact absurd h (by rw[eq_t rfl];simp)
      rcases Nat.lt_or_ge k (l.length - 1) with h5|h5
      ·have h6:=of_decide_eq_false (k4 (by omega));have:=hs (k - 1) k (Nat.zero_le _) (by omega) h5;omega
      ·omega
     have hlt:ksS l k<ksS l (k - 1):=by
      have:=of_decide_eq_false (k4 (by omega));omega
     refine Rn.lt (Rn.lt ?_);rw[Aq (by omega) (by omega),lt_f (by omega)];refine zB (fun h=>by simp at h) fun _=>Rn.lt ?_;obtain⟨j0,ej⟩:∃ j0,k=j0+1:=⟨k - 1,by omega⟩;rw[Aq (by omega) (by omega),show (k:Int) - 1=(j0:Int) by omega];refine swapS (d:=l) (x:=(k:Int)) rfl rfl (by omega) (by omega) ?_;have h0:InsS l l 0 k k:=⟨RP.refl _ _ _,by omega,Nat.le_refl _,fun p q h1 h2 h3 h4 h5=>hs p q h1 h2 (by omega),fun q h1 h2=>by omega⟩;have hk':ksS l (j0+1)<ksS l j0:=by rw[ej] at hlt;exact hlt
     have h0':InsS l (swS l k j0) 0 k j0:=by
      rw[ej] at h0 ⊢;exact h0.step (by omega) (Nat.zero_le _) hk'
     refine Rn.bn (P:=fun r=>RP 0 (k+1) l r∧SortedS r 0 (k+1)) ?_ fun r hr=>?_
     ·refine Rn.lt ?_;rw[Aq (by omega) (by omega)];refine Rn.lt (zB (fun _=>?_) fun h=>absurd (show geI ((k:Int) - ((0:Nat):Int)) 2=false from h) (by rw[ge_t (by omega)];simp));refine Rn.bn (P:=fun r=>RP 0 (k+1) l r∧SortedS r 0 (k+1)) (zG _ (fun t y=>∃ (j:Nat) (d':List Span),y=((j:Int),d')∧j+t=j0∧InsS l d' 0 k j) j0 (by unfold big;omega) ⟨j0,_,rfl,rfl,h0'⟩ fun t y ht hI=>?_) fun r hr=>Rn.some hr;obtain⟨j,d',rfl,hj,h⟩:=hI;have hdl':=h.rp.len;rcases Decidable.em (0<j) with haj|haj
      ·obtain⟨j,rfl⟩:∃ i,j=i+1:=⟨j - 1,by omega⟩;have h2:j+1<d'.length:=by omega
       have h1:j<d'.length:=by omega
       have es:subI .i64 ((j+1:Nat):Int) 1=(j:Int):=by rw[Aq (by omega) (by omega)];omega
       refine Rn.lt ?_;simp only;rw[ge_t (by omega)];refine zB (fun _=>?_) fun h=>by simp at h
       refine zC (nthD h2 (⟨0,0⟩:Span)) (Rn.lt ?_);rw[es];refine zC (nthD h1 (⟨0,0⟩:Span)) (zC (cmpES _ _) (Rn.lt ?_));rw[cvLtS];rcases Decidable.em (ksS d' (j+1)<ksS d' j) with hc|hc
       ·rw[show decide (keyS (d'.getD (j+1) ⟨0,0⟩)<keyS (d'.getD j ⟨0,0⟩))=true from decide_eq_true hc];refine Rn.lt (zB (fun h=>by simp[notB] at h) fun _=>?_);have sw:∀ {β:Type} {K:List Span→Option β} {Q:β→Prop},Rn (K (swS d' (j+1) j)) Q→Rn (lt (d'.set ((j+1:Nat):Int).toNat (d'.getD j ⟨0,0⟩)) fun w=>bn (nth w (j:Int)) fun _=>lt (w.set (j:Int).toNat (d'.getD (j+1) ⟨0,0⟩)) K) Q:=fun h=>by
         rw[Int.toNat_natCast,Int.toNat_natCast];exact Rn.lt (zC (nthD (by simpa using h1) (⟨0,0⟩:Span)) (Rn.lt h))
        exact sw (Rn.some ⟨by omega,j,_,rfl,by omega,h.step (by omega) (Nat.zero_le _) hc⟩)
       ·rw[show decide (keyS (d'.getD (j+1) ⟨0,0⟩)<keyS (d'.getD j ⟨0,0⟩))=false from decide_eq_false hc];refine Rn.lt (zB (fun _=>Rn.some (h.done fun _=>?_)) fun h=>by simp[notB] at h);show ksS d' j≤ksS d' (j+1);omega
      ·have e:j=0:=by omega
       subst e;refine Rn.lt ?_;simp only;rw[ge_f (by omega)];exact zB (fun h=>by simp at h) fun _=>Rn.some (h.done fun h=>by omega)
     ·rw[show k+1=l.length by omega] at hr;refine Rn.lt ?_;rw[Aq (by omega) (by omega)];refine Rn.lt ?_;rw[ge_f (by omega)];exact zB (fun h=>by simp at h) fun _=>Rn.some (.inr ⟨r,by rw[hk],hr.1,hr.2⟩)
   ·rcases hy with ⟨rfl,h⟩|⟨r,rfl,h1,h2⟩
    ·rw[BZ];exact Rn.some ⟨l,rfl,RP.refl _ _ _,h⟩
    ·rw[Ed];exact Rn.lt (Rn.some ⟨by omega,.inr ⟨rfl,r,rfl,h1,h2⟩⟩)
  ·have hrl:=hr.len;refine Rn.lt (zB (fun _=>?_) fun h=>absurd (show ltI 1 5=false from h) (by decide));refine Rn.bn (P:=fun y=>y=.inr (true,r)) ?_ fun y hy=>?_
   ·refine Rn.bn (scan r (l.length - 1) (by omega) (by omega) hrl) fun k hk=>?_;obtain⟨k,rfl,k1,k2,k3,k4⟩:=hk;have hk:k=l.length:=by
     rcases Nat.lt_or_ge k l.length with h|h
     ·have h5:=of_decide_eq_false (k4 h);have:=hsr (k - 1) k (Nat.zero_le _) (by omega) h;omega
     ·omega
    subst hk;rw[eq_t rfl];exact Rn.lt (zB (fun _=>Rn.some rfl) fun h=>by simp at h)
   ·subst hy;rw[BZ];exact Rn.some ⟨r,rfl,hr,hsr⟩
 ·obtain⟨r,rfl,h1,h2⟩:=hy;rw[BZ];exact Rn.some ⟨rfl,h1,h2⟩
theorem JY {l:List Span} (h50:50≤l.length) (hl:l.length≤1000) (hs:SortedS l 0 (l.length - 1)) {lim:Int} (h0:1≤lim) (h1:lim≤1000):Rn (BH big l ((0:Nat):Int) (l.length:Int) lim) fun r=>RP 0 l.length l r∧SortedS r 0 l.length:=by
 show Rn (AA big (281474976710655+1) l ((0:Nat):Int) (l.length:Int) lim) _;rw[AA];refine Rn.bn (P:=fun r=>RP 0 l.length l r∧SortedS r 0 l.length) (zG _ (fun t y=>t=0∧y=(((0:Nat):Int),(l.length:Int),lim,true,true,l)) 0 (by unfold big;omega) ⟨rfl,rfl⟩ fun t y ht hI=>?_) fun r hr=>Rn.some hr;obtain⟨rfl,rfl⟩:=hI;refine Rn.lt (Rn.lt ?_);simp only;rw[Aq (by omega) (by omega),le_f (by omega)];refine zB (fun hc=>by simp at hc) fun hc=>?_;obtain⟨k,hk⟩:=IX (by omega) hl hs;refine Rn.lt ?_;rw[eq_f (by omega)];refine zB (fun h=>by simp at h) fun _=>zC (v:=(lim,l)) rfl (zC hk (Rn.chk (decide_eq_true rfl) (zC (v:=((k:Int),1,l)) rfl (Rn.bn (P:=fun y=>∃ r,y=.inr r∧RP 0 l.length l r∧SortedS r 0 l.length) ?_ fun y hy=>?_))))
 ·refine zC (v:=(true,true,true)) rfl (Rn.lt (zB (fun _=>Rn.bn (HZ h50 hl hs) fun r hr=>Rn.chk (decide_eq_true hr.2.1.len) (Rn.lt ?_)) fun h=>by simp at h));rw[hr.1];exact zB (fun _=>Rn.some ⟨_,rfl,hr.2⟩) fun h=>by simp at h
 ·obtain⟨r,rfl,hr⟩:=hy;rw[BZ];exact Rn.some hr
--MORE
end Go.Proofs.Ytenemndpignaoaa
namespace Go.Proofs.Ytenemndpignaoaa
open Go Go.RowKit
def Rises (l:List Span):Prop:=l.Pairwise fun x y=>x.frm≤y.frm
theorem SortedS.rises {l:List Span} (h:SortedS l 0 l.length):Rises l:=by
 refine List.pairwise_iff_getElem.2 fun i j hi hj hij=>?_;have:=h i j (Nat.zero_le _) hij hj;unfold ksS keyS at this;rw[List.getD_eq_getElem?_getD,List.getD_eq_getElem?_getD,List.getElem?_eq_getElem hi,List.getElem?_eq_getElem hj] at this;exact this
theorem Rises.sorted {l:List Span} (h:Rises l):SortedS l 0 l.length:=by
 intro p q h1 h2 h3;have:=List.pairwise_iff_getElem.1 h p q (by omega) h3 h2;unfold ksS keyS;rw[List.getD_eq_getElem?_getD,List.getD_eq_getElem?_getD,List.getElem?_eq_getElem (show p<l.length by omega),List.getElem?_eq_getElem h3];exact this
theorem Jw {n:Nat} (h:n≤200):∃ v,Ct big (cvI .u64 (n:Int))=some v∧0≤v∧v≤1000∧(1≤n→1≤v):=by
 have hb:(List.range 201).all (fun n=>match Ct big (cvI .u64 (n:Int)) with|some v=>decide (0≤v∧v≤1000) && (decide (n=0) || decide (1≤v))|none=>false)=true:=by kernel_rfl
 rw[List.all_eq_true] at hb;have h:=hb n (List.mem_range.2 (by omega));split at h
 ·rename_i p e
  simp only[Bool.and_eq_true,Bool.or_eq_true,decide_eq_true_eq] at h;exact⟨p,e,h.1.1,h.1.2,fun h1=>by omega⟩
 ·simp at h
def SortableS (l:List Span):Prop:=l.length≤200∧(l.length≤sortMost∨Rises l.dropLast)
theorem Rises.drop {l:List Span} (h:Rises l):Rises l.dropLast:=List.Pairwise.sublist (List.dropLast_sublist l) h
theorem Rises.sortedL {l:List Span} (h:Rises l.dropLast):SortedS l 0 (l.length - 1):=by
 intro p q h1 h2 h3;have:=h.sorted p q h1 h2 (by simpa using h3);unfold ksS at this ⊢;rw[List.getD_eq_getElem?_getD,List.getD_eq_getElem?_getD,List.getElem?_dropLast,List.getElem?_dropLast,if_pos (by omega),if_pos (by omega),← List.getD_eq_getElem?_getD,← List.getD_eq_getElem?_getD] at this;exact this
theorem KM {l:List Span} (hl:SortableS l):Rn (Br big l) fun r=>r.Perm l∧Rises r:=by
 obtain⟨h200,hl⟩:=hl;unfold Br;refine Rn.lt (Rn.lt ?_);obtain⟨v,ev,v0,v1,v2⟩:=Jw h200;refine zC ev (Rn.bn (P:=fun r=>RP 0 l.length l r∧SortedS r 0 l.length) ?_ fun r hr=>Rn.chk (by simp[lenB,hr.1.len]) (Rn.some ⟨hr.1.perm,?_⟩))
 ·rcases Decidable.em (l.length≤sortMost) with h|h
  ·exact KL big (l:=l) (a:=0) (b:=l.length) (lim:=v) (by unfold big;omega) (Nat.zero_le _) (Nat.le_refl _) h (fun h=>by omega) v0 v1
  ·have hr:Rises l.dropLast:=hl.resolve_left h;have h1:50≤l.length:=by unfold sortMost at h;omega
   exact JY h1 (by omega) hr.sortedL (v2 (by omega)) v1
 ·have h2:=hr.2;rw[← hr.1.len] at h2;exact h2.rises
theorem KN {l:List Span} (hl:SortableS l):Rn (CS big l) fun r=>Rises r∧(∀ x∈r,0≤x.frm∧x.frm≤x.to∧x.to≤16383)∧(∀ t,(∃ x∈r,x.frm≤t∧t≤x.to)↔inS l t)∧r.length≤l.length:=by
 have hl12:l.length≤1000000:=Nat.le_trans hl.1 (by omega);unfold CS;refine Rn.lt (Rn.bn (P:=fun r=>(∀ x∈r,0≤x.frm∧x.frm≤x.to∧x.to≤16383)∧(∀ t,(∃ x∈r,x.frm≤t∧t≤x.to)↔inS l t)∧r.length≤l.length∧(Rises l.dropLast→Rises r.dropLast)) (zG _ (fun j y=>∃ r:List Span,y=((j:Int),r)∧(∀ x∈r,0≤x.frm∧x.frm≤x.to∧x.to≤16383)∧(∀ t,(∃ x∈r,x.frm≤t∧t≤x.to)↔inS (l.take j) t)∧r.length≤j∧(Rises (l.take j)→Rises r)∧(Rises (l.take (j - 1))→Rises r.dropLast)∧∀ x∈r,∃ y∈l.take j,x.frm=max y.frm 0) l.length (by unfold big;omega) ⟨[],rfl,by simp,fun t=>by unfold inS;simp,by simp,fun _=>List.Pairwise.nil,fun _=>List.Pairwise.nil,by simp⟩ fun j y hj hI=>?_) fun r hr=>?_)
 ·obtain⟨r,rfl,r1,r2,r3,r4,r6,r5⟩:=hI;refine Rn.lt (zB (fun hd=>?_) fun hd=>?_)
  ·have hjl:j<l.length:=by
    have:=of_decide_eq_true (p:=((j:Int)<(l.length:Int))) hd;omega
   have hnth:=AM hjl;have htk:l.take (j+1)=l.take j++[l[j]]:=(List.take_append_getElem hjl).symm;have hbef:Rises (l.take (j+1))→Rises (l.take j)∧∀ y∈l.take j,y.frm≤l[j].frm:=by
    intro hri;rw[htk] at hri;obtain⟨g1,-,g2⟩:=List.pairwise_append.1 hri;exact⟨g1,fun y hy=>g2 y hy _ (by simp)⟩
   generalize l[j]=x at hnth htk hbef;have hin:∀ t,inS (l.take (j+1)) t↔inS (l.take j) t∨((0≤t∧t<16384)∧x.frm≤t∧t≤x.to):=by
    intro t;rw[htk];unfold inS;constructor
    ·rintro⟨h1,y,hy,h2⟩;rcases List.mem_append.1 hy with hy|hy
     ·exact .inl ⟨h1,y,hy,h2⟩
     ·simp at hy;subst hy;exact .inr ⟨h1,h2⟩
    ·rintro (⟨h1,y,hy,h2⟩|⟨h1,h2⟩)
     ·exact⟨h1,y,by simp[hy],h2⟩
     ·exact⟨h1,x,by simp,h2⟩
   refine Rn.bn (P:=fun r'=>(∀ x∈r',0≤x.frm∧x.frm≤x.to∧x.to≤16383)∧(∀ t,(∃ x∈r',x.frm≤t∧t≤x.to)↔inS (l.take (j+1)) t)∧r'.length≤j+1∧(Rises (l.take (j+1))→Rises r')∧(Rises (l.take (j+1 - 1))→Rises r'.dropLast)∧∀ x∈r',∃ y∈l.take (j+1),x.frm=max y.frm 0) ?_ fun r' hr'=>Rn.lt (Rn.some ⟨hjl,r',?_,hr'⟩)
   ·refine zC hnth (Rn.lt (Rn.lt (Rn.lt (zB (fun hc=>Rn.chk (by simp[room];omega) (Rn.lt (Rn.some ⟨?_,fun t=>?_,by simp;omega,fun hri=>?_,fun hri=>?_,fun y hy=>?_⟩))) fun hc=>Rn.some ⟨r1,fun t=>?_,Nat.le_succ_of_le r3,fun hri=>r4 (hbef hri).1,fun hri=>(r4 hri).drop,fun y hy=>?_⟩))))
    ·intro y hy;have hc':maxI x.frm 0≤minI x.to 16383:=of_decide_eq_true hc;rcases List.mem_append.1 hy with hy|hy
     ·exact r1 y hy
     ·simp at hy;subst hy;simp only[maxI,minI] at hc' ⊢;omega
    ·rw[hin t,← r2 t];constructor
     ·rintro⟨y,hy,h2⟩;rcases List.mem_append.1 hy with hy|hy
      ·exact .inl ⟨y,hy,h2⟩
      ·simp at hy;subst hy;simp only[maxI,minI] at h2;exact .inr ⟨by omega,by omega⟩
     ·rintro (⟨y,hy,h2⟩|⟨h1,h2⟩)
      ·exact⟨y,by simp[hy],h2⟩
      ·exact⟨⟨maxI x.frm 0,minI x.to 16383⟩,by simp,by simp only[maxI,minI];omega⟩
    ·refine List.pairwise_append.2 ⟨r4 (hbef hri).1,List.pairwise_singleton _ _,fun u hu w hw=>?_⟩;simp at hw;subst hw;obtain⟨y,hy,e⟩:=r5 u hu;have:=(hbef hri).2 y hy;simp only[maxI];omega
    ·rw[List.dropLast_concat];exact r4 hri
    ·rcases List.mem_append.1 hy with hy|hy
     ·obtain⟨z,hz,e⟩:=r5 y hy;exact⟨z,by rw[htk];simp[hz],e⟩
     ·simp at hy;subst hy;exact⟨x,by rw[htk];simp,rfl⟩
    ·have hc':¬ maxI x.frm 0≤minI x.to 16383:=of_decide_eq_false hc;rw[hin t,← r2 t];refine⟨.inl,?_⟩;rintro (h|⟨h1,h2⟩)
     ·exact h
     ·simp only[maxI,minI] at hc';omega
    ·obtain⟨z,hz,e⟩:=r5 y hy;exact⟨z,by rw[htk];simp[hz],e⟩
   ·rw[An (by first|omega|(simp only;omega)) (by first|omega|(simp only;omega))];rfl
  ·have hjl:j=l.length:=by
    have:=of_decide_eq_false (p:=((j:Int)<(l.length:Int))) hd;omega
   subst hjl;rw[List.take_length] at r2;exact Rn.some ⟨r1,r2,r3,fun h=>r6 (by rwa [← List.dropLast_eq_take])⟩
 ·obtain⟨r1,r2,r3,r4⟩:=hr;refine Rn.bn (KM ⟨Nat.le_trans r3 hl.1,hl.2.imp (Nat.le_trans r3) r4⟩) fun v hv=>Rn.chk (by simp[lenB,hv.1.length_eq]) (Rn.chk (by have:=hv.1.length_eq;simp[room];omega) (Rn.some ⟨hv.2,fun x hx=>r1 x (hv.1.mem_iff.1 hx),fun t=>?_,by have:=hv.1.length_eq;omega⟩));rw[← r2 t];constructor
  ·rintro⟨x,hx,h⟩;exact⟨x,hv.1.mem_iff.1 hx,h⟩
  ·rintro⟨x,hx,h⟩;exact⟨x,hv.1.mem_iff.2 hx,h⟩
theorem SaysS.of {l:List Span} {p:Int→Prop} [DecidablePred p] (h:canP (l.map sP)) (hp:∀ t,(∃ x∈l,x.frm≤t∧t≤x.to)↔p t):SaysS l p:=by
 refine⟨h,fun s=>?_⟩;rw[Kf];unfold fS;simp only[hp s]
theorem De {l:List Span} (hl:SortableS l):Rn (A3 big l) fun r=>SaysS r (inS l)∧r.length≤l.length:=by
 have hl12:l.length≤1000000:=Nat.le_trans hl.1 (by omega);unfold A3;refine Rn.bn (KN hl) fun v hv=>Rn.lt ?_;obtain⟨v1,v2,v3,v4⟩:=hv;refine Rn.bn (P:=fun r=>SaysS r (inS l)∧r.length≤l.length) (zG _ (fun j y=>∃ out:List Span,y=((j:Int),out)∧canP (out.map sP)∧(∀ t,(∃ x∈out,x.frm≤t∧t≤x.to)↔∃ x∈v.take j,x.frm≤t∧t≤x.to)∧(∀ x∈out,x.to≤16383∧0≤x.to∧∀ y∈v.drop j,x.frm≤y.frm)∧out.length≤j) v.length (by unfold big;omega) ⟨[],rfl,trivial,by simp,by simp,by simp⟩ fun j y hj hI=>?_) fun r hr=>Rn.chk (by have:=hr.2;simp[room];omega) (Rn.some hr);obtain⟨out,rfl,o1,o2,o3,o4⟩:=hI;refine Rn.lt (zB (fun hd=>?_) fun hd=>?_)
 ·have hjl:j<v.length:=by
   have:=of_decide_eq_true (p:=((j:Int)<(v.length:Int))) hd;omega
  have hnth:=AM hjl;have htk:v.take (j+1)=v.take j++[v[j]]:=(List.take_append_getElem hjl).symm;have hdr:=List.drop_eq_getElem_cons hjl;have hs:=v2 _ (List.getElem_mem hjl);have hri:∀ y∈v.drop (j+1),v[j].frm≤y.frm:=by
   intro y hy;have h1:(v.drop j).Pairwise fun x y=>x.frm≤y.frm:=v1.sublist (List.drop_sublist _ _);rw[hdr] at h1;exact List.rel_of_pairwise_cons h1 hy
  have ho3:∀ x∈out,x.to≤16383∧0≤x.to∧x.frm≤v[j].frm∧∀ y∈v.drop (j+1),x.frm≤y.frm:=by
   intro x hx;obtain⟨a,a',b⟩:=o3 x hx;rw[hdr] at b;exact⟨a,a',b _ List.mem_cons_self,fun y hy=>b y (List.mem_cons_of_mem _ hy)⟩
  generalize v[j]=s at hnth htk hs hri ho3;have hin:∀ t,(∃ x∈v.take (j+1),x.frm≤t∧t≤x.to)↔(∃ x∈out,x.frm≤t∧t≤x.to)∨(s.frm≤t∧t≤s.to):=by
   intro t;rw[htk,o2 t];constructor
   ·rintro⟨y,hy,h2⟩;rcases List.mem_append.1 hy with hy|hy
    ·exact .inl ⟨y,hy,h2⟩
    ·simp at hy;subst hy;exact .inr h2
   ·rintro (⟨y,hy,h2⟩|h2)
    ·exact⟨y,by simp[hy],h2⟩
    ·exact⟨s,by simp,h2⟩
  refine Rn.bn (P:=fun o=>canP (o.map sP)∧(∀ t,(∃ x∈o,x.frm≤t∧t≤x.to)↔∃ x∈v.take (j+1),x.frm≤t∧t≤x.to)∧(∀ x∈o,x.to≤16383∧0≤x.to∧∀ y∈v.drop (j+1),x.frm≤y.frm)∧o.length≤j+1) ?_ fun o ho=>Rn.lt (Rn.some ⟨hjl,o,?_,ho⟩)
  ·refine zC hnth (Rn.lt ?_);have happ:(∀ q,(out.map sP).getLast?=some q→q.2.1<s.frm∧¬ (q.2.1+1=s.frm∧q.2.2=()))→canP ((out++[s]).map sP)∧(∀ t,(∃ x∈out++[s],x.frm≤t∧t≤x.to)↔∃ x∈v.take (j+1),x.frm≤t∧t≤x.to)∧(∀ x∈out++[s],x.to≤16383∧0≤x.to∧∀ y∈v.drop (j+1),x.frm≤y.frm)∧(out++[s]).length≤j+1:=by
    intro hc;refine⟨?_,fun t=>?_,fun x hx=>?_,by simp;omega⟩
    ·rw[List.map_append];exact Ej (p:=sP s) o1 hs.2.1 hc
    ·rw[hin t];constructor
     ·rintro⟨y,hy,h2⟩;rcases List.mem_append.1 hy with hy|hy
      ·exact .inl ⟨y,hy,h2⟩
      ·simp at hy;subst hy;exact .inr h2
     ·rintro (⟨y,hy,h2⟩|h2)
      ·exact⟨y,by simp[hy],h2⟩
      ·exact⟨s,by simp,h2⟩
    ·rcases List.mem_append.1 hx with hx|hx
     ·have:=ho3 x hx;exact⟨this.1,this.2.1,this.2.2.2⟩
     ·simp at hx;subst hx;exact⟨hs.2.2,by omega,hri⟩
   rcases Decidable.em (out=[]) with he|he
   ·subst he;exact zC (v:=false) rfl (Rn.lt (zB (fun h=>by simp at h) fun _=>Rn.chk rfl (Rn.lt (Rn.some (happ (by simp))))))
   ·obtain⟨k,x,rfl⟩:∃ k x,out=k++[x]:=⟨out.dropLast,out.getLast he,(List.dropLast_concat_getLast he).symm⟩;have hx:=ho3 x (by simp);obtain⟨x1,x2,x3,x4⟩:=hx;have el:subI .i64 (lenI (k++[x])) 1=((k.length:Nat):Int):=by
     rw[BB,Aq (by omega) (by omega)];simp
    have hk:k.length<(k++[x]).length:=by simp
    have hn:nth (k++[x]) ((k.length:Nat):Int)=some x:=by rw[AM hk];simp
    refine zC (v:=leI s.frm (x.to+1)) ?_ (Rn.lt (zB (fun h=>?_) fun h=>Rn.chk (by simp[room];simp at o4;omega) (Rn.lt (Rn.some (happ fun q hq=>?_)))))
    ·simp only[Ay];rw[gt_t (by rw[BB];simp),AS,el,hn];simp only[Ar];rw[An (by omega) (by omega)]
    ·have hle:s.frm≤x.to+1:=of_decide_eq_true h;rw[List.map_append] at o1;obtain⟨c1,c2,c3⟩:=Fx (p:=sP x) o1;have c2':x.frm≤x.to:=c2;refine Rn.lt ?_;rw[el];refine zC hn (Rn.lt (Rn.lt (Rn.some ?_)));rw[Int.toNat_natCast,List.set_append_right _ _ (by omega),Nat.sub_self,show [x].set 0 (⟨x.frm,maxI x.to s.to⟩:Span)=[⟨x.frm,maxI x.to s.to⟩] from rfl];have hm:maxI x.to s.to=max x.to s.to:=rfl;rw[hm];refine⟨?_,fun t=>?_,fun y hy=>?_,by simp at o4 ⊢;omega⟩
     ·rw[List.map_append];exact Ej (p:=sP ⟨x.frm,max x.to s.to⟩) c1 (show x.frm≤max x.to s.to by omega) c3
     ·rw[hin t];constructor
      ·rintro⟨y,hy,h2⟩;rcases List.mem_append.1 hy with hy|hy
       ·exact .inl ⟨y,by simp[hy],h2⟩
       ·simp at hy;subst hy;simp only at h2;rcases Decidable.em (t≤x.to) with h3|h3
        ·exact .inl ⟨x,by simp,h2.1,h3⟩
        ·exact .inr ⟨by omega,by omega⟩
      ·rintro (⟨y,hy,h2⟩|h2)
       ·rcases List.mem_append.1 hy with hy|hy
        ·exact⟨y,by simp[hy],h2⟩
        ·simp at hy;subst hy;exact⟨⟨y.frm,max y.to s.to⟩,by simp,h2.1,by simp only;omega⟩
       ·exact⟨⟨x.frm,max x.to s.to⟩,by simp,by simp only;omega,by simp only;omega⟩
     ·rcases List.mem_append.1 hy with hy|hy
      ·have:=ho3 y (by simp[hy]);exact⟨this.1,this.2.1,this.2.2.2⟩
      ·simp at hy;subst hy;exact⟨by simp only;omega,by simp only;omega,x4⟩
    ·have hle:¬ s.frm≤x.to+1:=of_decide_eq_false h;rw[List.map_append,show [x].map sP=[sP x] from rfl,List.getLast?_concat] at hq;have:=Option.some.inj hq;subst this;show x.to<s.frm∧¬ (x.to+1=s.frm∧()=());omega
  ·rw[An (by first|omega|(simp only;omega)) (by first|omega|(simp only;omega))];rfl
 ·have hjl:j=v.length:=by
   have:=of_decide_eq_false (p:=((j:Int)<(v.length:Int))) hd;omega
  subst hjl;rw[List.take_length] at o2;exact Rn.some ⟨SaysS.of o1 fun t=>by rw[o2 t,v3 t],show out.length≤l.length by omega⟩
theorem JZ {l:List Span} {v:Int×Int} (s:Int):fnP (l.map fun x=>(x.frm,x.to,v)) s=(fnP (l.map sP) s).map fun _=>v:=by
 induction l with
 |nil=>rfl
 |cons x l ih =>
  simp only[List.map_cons,fnP,sP];split
  ·rfl
  ·exact ih
theorem G4 {v:Int×Int}:∀ {l:List Span},canP (l.map sP)→canP (l.map fun x=>(x.frm,x.to,v))
 |[],_=>trivial
 |[x],h=>h
 |x::y::l,h=>⟨h.1,h.2.1,fun hc=>h.2.2.1 ⟨hc.1,rfl⟩,G4 (l:=y::l) h.2.2.2⟩
theorem Jx {l:List Span} {nd ep:Int}:(l.map fun x=>(⟨x.frm,x.to,nd,ep⟩:Claim)).map cP=l.map fun x=>(x.frm,x.to,(nd,ep)):=by
 rw[List.map_map];rfl
theorem IY {l:List Span} {p:Int→Prop} [DecidablePred p] (h:SaysS l p) (hp:∀ s,p s→0≤s∧s≤16383) {nd ep:Int} (h1:0≤nd) (h2:1≤ep) :
  GoodC (l.map fun x=>(⟨x.frm,x.to,nd,ep⟩:Claim))∧∀ s,fC (l.map fun x=>(⟨x.frm,x.to,nd,ep⟩:Claim)) s=if p s then some (nd,ep) else none:=by
 have hr:=h.rng hp;refine⟨⟨by rw[Jx];exact G4 h.1,fun c hc=>?_⟩,fun s=>?_⟩
 ·obtain⟨x,hx,rfl⟩:=List.mem_map.1 hc;have:=hr x hx;exact⟨this.1,this.2.1,this.2.2,h1,h2⟩
 ·unfold fC;rw[Jx,JZ,h.2 s];unfold fS;split <;> rfl
theorem J0 {a:List Claim} {l:List Span} {nd ep:Int} (ha:GoodC a) (hl:SortableS l) (h1:0≤nd) (h2:1≤ep) :
  Rn (BT big a l nd ep) fun r=>FinP (r.map cP) (giveF (fC a) (inS l) (nd,ep)):=by
 have hl12:l.length≤1000000:=Nat.le_trans hl.1 (by omega);have ht:Tells (giveF (fC a) (inS l) (nd,ep)):=EQ ha.tells Cm h1 h2;unfold BT;refine Rn.bn (De hl) fun v hv=>Rn.lt ?_;obtain⟨v1,v2⟩:=hv;refine Rn.bn (P:=fun g=>g=v.map fun x=>(⟨x.frm,x.to,nd,ep⟩:Claim)) (zG _ (fun j y=>y=((j:Int),(v.take j).map fun x=>(⟨x.frm,x.to,nd,ep⟩:Claim))) v.length (by unfold big;omega) rfl fun j y hj hI=>?_) fun g hg=>?_
 ·subst hI;refine Rn.lt (zB (fun hd=>?_) fun hd=>?_)
  ·have hjl:j<v.length:=by
    have:=of_decide_eq_true (p:=((j:Int)<(v.length:Int))) hd;omega
   refine zC (AM hjl) (Rn.chk (by simp[room];omega) (Rn.lt (Rn.lt (Rn.some ⟨hjl,?_⟩))));rw[An (by first|omega|(simp only;omega)) (by first|omega|(simp only;omega)),← List.take_append_getElem hjl,List.map_append];rfl
  ·have hjl:j=v.length:=by
    have:=of_decide_eq_false (p:=((j:Int)<(v.length:Int))) hd;omega
   subst hjl;exact Rn.some (by show _=_;rw[List.take_length])
 subst hg;obtain⟨hgg,hgf⟩:=IY v1 Cm h1 h2;have hglen:(v.map fun x=>(⟨x.frm,x.to,nd,ep⟩:Claim)).length≤16384:=hgg.len;generalize (v.map fun x=>(⟨x.frm,x.to,nd,ep⟩:Claim))=b at hgg hgf hglen;have hFb:∀ s,giveF (fC a) (inS l) (nd,ep) s=match fC b s with|some w=>some w|none=>fC a s:=by
  intro s;rw[hgf s];unfold giveF;split <;> rfl
 refine Rn.bn (P:=fun r=>FinP (r.map cP) (giveF (fC a) (inS l) (nd,ep))∧r.length≤16384) (Rn.chk (by simp[room];omega) (zC (v:=(a,b)) rfl (Rn.bn (P:=fun y=>FinP (y.2.2.map cP) (giveF (fC a) (inS l) (nd,ep))∧y.2.2.length≤16384) (zG _ (fun j y=>∃ at_ a' b' p out,y=(at_,a',b',p,out)∧(j:Int)≤at_∧at_≤16384∧GoodC a'∧GoodC b'∧(∀ s,at_≤s→fC a' s=fC a s)∧(∀ s,at_≤s→fC b' s=fC b s)∧BdP at_ (out.map cP) (giveF (fC a) (inS l) (nd,ep))∧out.length≤j) 16384 (by unfold big;omega)
  ⟨0,a,b,_,[],rfl,Int.le_refl _,by omega,ha,hgg,fun s _=>rfl,fun s _=>rfl,BdP.nil fun s hs=>ht.none (.inl hs),by simp⟩ fun j y hj hI=>?_) fun y hy=>Rn.some hy))) fun r hr=>Rn.chk (by have:=hr.2;simp[room];omega) (Rn.some hr.1)
 obtain⟨at_,a',b',p,out,rfl,i1,i2,i3,i4,i5,i6,i7,i8⟩:=hI;refine Rn.lt (zB (fun hd=>?_) fun hd=>?_)
 ·have hat:at_≤16383:=of_decide_eq_true hd
  refine Rn.bn (IB i3 ⟨by omega,hat⟩) fun x hx=>Rn.bn (IB i4 ⟨by omega,hat⟩) fun z hz=>Rn.lt ?_;obtain⟨x1,x2⟩:=x;obtain⟨z1,z2⟩:=z;have hmin:minI x1.to z1.to=min x1.to z1.to:=rfl;have hto:at_≤minI x1.to z1.to∧minI x1.to z1.to≤16383∧minI x1.to z1.to≤x1.to∧minI x1.to z1.to≤z1.to:=by
   have q1:=hx.le;have q2:=hz.le;have q3:=hx.last;have q4:=hz.last;simp only at q1 q2 q3 q4;rw[hmin];omega
  simp only;generalize minI x1.to z1.to=to_ at hto;obtain⟨p1,p2,p3,p4⟩:=hto;have hz6:=hz.num;simp only at hz6;have hF:∀ s,at_≤s→s≤to_→giveF (fC a) (inS l) (nd,ep) s=match valC z1 with|some w=>some w|none=>valC x1:=by
   intro s g1 g2;rw[hFb s,← i5 s g1,← i6 s g1,hx.val s g1 (by simp only;omega),hz.val s g1 (by simp only;omega)]
  have hzf:=hz.frm;have hxf:=hx.frm;simp only at hzf hxf;refine Rn.bn (P:=fun c=>(valC c.a=match valC z1 with|some w=>some w|none=>valC x1)∧c.a.frm=at_∧c.a.to=to_) ?_ fun c hc=>?_
  ·refine Rn.lt (zB (fun h=>Rn.some ⟨?_,hzf,rfl⟩) fun h=>Rn.some ⟨?_,hxf,rfl⟩)
   ·have he:0<z1.epoch:=of_decide_eq_true h;unfold valC;simp only;rw[if_neg (by omega)]
   ·have he:¬ 0<z1.epoch:=of_decide_eq_false h;have he0:z1.epoch=0:=by omega
    have:valC z1=none:=if_pos he0;rw[this];rfl
  ·refine Rn.bn (JV i7 ht (by omega) ⟨by omega,i2⟩ hc.2.1 hc.2.2 p1 fun s g1 g2=>by rw[hF s g1 g2,hc.1]) fun m hm=>Rn.lt (Rn.some ⟨by omega,to_+1,x2,z2,⟨⟨x1.frm,to_,x1.node,x1.epoch⟩,⟨z1.frm,to_,z1.node,z1.epoch⟩⟩,m,?_,by omega,by omega,hx.good,hz.good,fun s hs=>?_,fun s hs=>?_,hm.1,by omega⟩)
   ·rw[An (by omega) (by omega)]
   ·rw[hx.rest s (by omega),i5 s (by omega)]
   ·rw[hz.rest s (by omega),i6 s (by omega)]
 ·have hat:at_=16384:=by
   have:=of_decide_eq_false (p:=at_≤16383) hd;omega
  subst hat;exact Rn.some ⟨i7.fin fun s hs=>ht.none (.inr hs),show out.length≤16384 by omega⟩
theorem IZ {a:List Claim} {l:List Span} {nd ep:Int} (ha:GoodC a) (hl:SortableS l) (h1:0≤nd) (h2:1≤ep) :
  Rn (BT big a l nd ep) fun r=>GoodC r∧∀ s,fC r s=giveF (fC a) (inS l) (nd,ep) s :=
 (J0 ha hl h1 h2).mono fun r hr=>⟨hr.good (EQ ha.tells Cm h1 h2),fun s=>hr.2 s⟩
end Go.Proofs.Ytenemndpignaoaa
namespace Go.Proofs.Ytenemndpignaoaa
open Go Go.RowKit
end Go.Proofs.Ytenemndpignaoaa
namespace Go.Proofs.Ytenemndpignaoaa
open Go Go.RowKit
def minP (a b:List Span) (t:Int):Prop:=inS a t∧¬ inS b t
instance (a b:List Span) (t:Int):Decidable (minP a b t):=by unfold minP;infer_instance
theorem G5 {β:Type} {l:List (Int×Int×β)} (h:canP l) {s:Int} {w:β} (h1:fnP l s=some w) (h2:fnP l (s - 1)≠some w):∃ p∈l,p.1=s:=by
 induction l with
 |nil=>simp[fnP] at h1
 |cons p l ih =>
  rcases Decidable.em (p.1≤s∧s≤p.2.1) with hc|hc
  ·rw[Bx hc.1 hc.2] at h1;rcases Decidable.em (p.1=s) with e|e
   ·exact⟨p,by simp,e⟩
   ·exact absurd (by rw[Bx (by omega) (by omega)];exact h1) h2
  ·rw[BM hc] at h1;rcases Decidable.em (p.1≤s - 1∧s - 1≤p.2.1) with hd|hd
   ·-- s is just behind p: it begins a piece of the rest
    have h3:fnP l (s - 1)≠some w:=by
     rw[CJ h hd.2];simp
    obtain⟨q,hq,e⟩:=ih h.tail h1 h3;exact⟨q,by simp[hq],e⟩
   ·rw[BM hd] at h2;obtain⟨q,hq,e⟩:=ih h.tail h1 h2;exact⟨q,by simp[hq],e⟩
theorem Ii {β:Type} {l:List (Int×Int×β)} (h:canP l) {p:Int×Int×β} (hp:p∈l):fnP l p.1=some p.2.2∧fnP l (p.1 - 1)≠some p.2.2:=by
 refine⟨(CN h hp).2 _ (Int.le_refl _) (CN h hp).1,?_⟩;induction l with
 |nil=>simp at hp
 |cons q l ih =>
  rcases List.mem_cons.1 hp with rfl|hp'
  ·have:=h.head;rw[BM (by omega),CJ h (by omega)];simp
  ·rcases Decidable.em (q.1≤p.1 - 1∧p.1 - 1≤q.2.1) with hc|hc
   ·rw[Bx hc.1 hc.2];intro e;have e:=Option.some.inj e;cases l with
    |nil=>simp at hp'
    |cons r l =>
     have hqr:=h.2.1;rcases List.mem_cons.1 hp' with rfl|hp2
     ·exact h.2.2.1 ⟨by omega,e⟩
     ·have h3:=(canP.tail h).lt p hp2;have h4:=(canP.tail h).head;omega
   ·rw[BM hc];exact ih h.tail hp'
theorem EM:∀ (l m:List Int),l.Pairwise (·≠·)→(∀ x∈l,x∈m)→l.length≤m.length
 |[],m,_,_=>Nat.zero_le _
 |x::l,m,hn,hs=>by
  rw[List.pairwise_cons] at hn;have hx:=hs x (by simp);have:=EM l (m.erase x) hn.2 fun y hy=>(List.mem_erase_of_ne (fun e=>hn.1 y hy e.symm)).2 (hs y (by simp[hy]));rw[List.length_erase_of_mem hx] at this;have h0:0<m.length:=List.length_pos_of_mem hx;simp;omega
theorem FP {β:Type}:∀ {l:List (Int×Int×β)},canP l→(l.map fun p=>p.1).Pairwise (·≠·)
 |[],_=>List.Pairwise.nil
 |p::l,h=>by
  rw[List.map_cons,List.pairwise_cons];refine⟨fun x hx=>?_,FP h.tail⟩;obtain⟨q,hq,rfl⟩:=List.mem_map.1 hx;have h1:=h.lt q hq;have h2:=h.head;omega
theorem J1 {a r:List Claim} {v:List Span} {p:Int→Prop} [DecidablePred p] {w:Int×Int} (ha:GoodC a) (hr:GoodC r) (hv:SaysS v p) (hf:∀ s,fC r s=giveF (fC a) p w s):r.length≤a.length+2*v.length:=by
 have h1:=EM ((r.map cP).map fun q=>q.1) (a.map (·.frm)++(v.map (·.frm)++v.map fun x=>x.to+1)) (FP hr.1) fun s hs=>?_
 ·simpa [Nat.two_mul] using h1
 ·obtain⟨q,hq,rfl⟩:=List.mem_map.1 hs;obtain⟨e1,e2⟩:=Ii hr.1 hq;have e1:fC r q.1=some q.2.2:=e1;have e2:fC r (q.1 - 1)≠some q.2.2:=e2;rw[hf] at e1 e2;unfold giveF at e1 e2;generalize q.1=s at e1 e2;generalize q.2.2=u at e1 e2;rw[List.mem_append,List.mem_append,List.mem_map,List.mem_map,List.mem_map];by_cases h3:p s
  ·rw[if_pos h3] at e1;by_cases h4:p (s - 1)
   ·rw[if_pos h4] at e2;exact absurd e1 e2
   ·refine .inr (.inl ?_);have g1:fnP (v.map sP) s=some ():=by rw[hv.2];exact GH h3
    have g2:fnP (v.map sP) (s - 1)≠some ():=by rw[hv.2,FB h4];simp
    obtain⟨x,hx,e⟩:=G5 hv.1 g1 g2;obtain⟨y,hy,rfl⟩:=List.mem_map.1 hx;exact⟨y,hy,e⟩
  ·rw[if_neg h3] at e1;by_cases h4:p (s - 1)
   ·-- a span ends just ahead
    refine .inr (.inr ?_);obtain⟨x,hx,g1,g2⟩:=(hv.iff (s - 1)).2 h4;have g3:¬ (x.frm≤s∧s≤x.to):=fun h=>h3 ((hv.iff s).1 ⟨x,hx,h⟩);exact⟨x,hx,by omega⟩
   ·rw[if_neg h4] at e2;refine .inl ?_;obtain⟨x,hx,e⟩:=G5 ha.1 e1 e2;obtain⟨y,hy,rfl⟩:=List.mem_map.1 hx;exact⟨y,hy,e⟩
theorem Ij {a:List Claim} {l:List Span} {nd ep:Int} (ha:GoodC a) (hl:SortableS l) (h1:0≤nd) (h2:1≤ep) :
  Rn (Dy big a l nd ep) fun r=>GoodC r∧(∀ s,fC r s=giveF (fC a) (inS l) (nd,ep) s)∧r.length≤a.length+2*l.length:=by
 refine (Js ha (by have:=hl.1;omega) h1 h2).mono fun r hr=>?_;have hg:=hr.good (EQ ha.tells Cm h1 h2);obtain⟨v,-,h3,h4⟩:=De hl;have:=J1 ha hg h3 fun s=>hr.2 s;exact⟨hg,fun s=>hr.2 s,by omega⟩
structure Made (a:List Claim) (n:Nat):Prop where
 good:GoodC a
 few:a.length≤n
 low:∀ s v,fC a s=some v→v.1≤3∧v.2≤6
def ownP (f:Int→Option (Int×Int)) (nd:Int) (s:Int):Prop:=(f s).map (·.1)=some nd
instance (f:Int→Option (Int×Int)) (nd s:Int):Decidable (ownP f nd s):=by unfold ownP;infer_instance
theorem GoodC.iff {l:List Claim} (h:GoodC l) (s:Int) (v:Int×Int):fC l s=some v↔∃ c∈l,(c.frm≤s∧s≤c.to)∧(c.node,c.epoch)=v:=by
 constructor
 ·intro hv;have key:∀ l:List Claim,fC l s=some v→∃ c∈l,(c.frm≤s∧s≤c.to)∧(c.node,c.epoch)=v:=by
   intro l;induction l with
   |nil=>intro h;simp[fC,fnP] at h
   |cons c l ih =>
    intro hf;rcases Decidable.em (c.frm≤s∧s≤c.to) with h1|h1
    ·have:fC (c::l) s=some (c.node,c.epoch):=Bx (p:=cP c) h1.1 h1.2;rw[this] at hf;exact⟨c,by simp,h1,Option.some.inj hf⟩
    ·have:fC (c::l) s=fC l s:=BM (p:=cP c) h1;rw[this] at hf;obtain⟨x,hx,h2⟩:=ih hf;exact⟨x,by simp[hx],h2⟩
  exact key l hv
 ·rintro⟨c,hc,h1,rfl⟩;exact (CN h.1 (List.mem_map_of_mem hc)).2 s h1.1 h1.2
theorem GoodC.rises {l:List Claim} (h:GoodC l):l.Pairwise fun x y=>x.frm≤y.frm:=by
 have:∀ l:List Claim,canP (l.map cP)→l.Pairwise fun x y=>x.frm≤y.frm:=by
  intro l;induction l with
  |nil=>intro _;exact List.Pairwise.nil
  |cons c l ih =>
   intro hc;rw[List.pairwise_cons];refine⟨fun y hy=>?_,ih (canP.tail (p:=cP c) hc)⟩;have h1:c.to<y.frm:=canP.lt (p:=cP c) hc (cP y) (List.mem_map_of_mem hy);have h2:c.frm≤c.to:=canP.head (p:=cP c) hc;omega
 exact this l h.1
theorem normT:@A3=@A3:=rfl
theorem H0 {l:List Claim} {nd:Int} (hl:GoodC l) (h200:l.length≤200):Rn (B6 big l nd) fun r=>SaysS r (ownP (fC l) nd)∧r.length≤l.length:=by
 unfold B6;refine Rn.lt (Rn.bn (P:=fun r=>Rises r∧r.length≤l.length∧∀ t,(∃ x∈r,x.frm≤t∧t≤x.to)↔∃ c∈l,(c.frm≤t∧t≤c.to)∧c.node=nd) (zG _ (fun j y=>∃ r:List Span,y=((j:Int),r)∧Rises r∧r.length≤j∧(∀ x∈r,∃ c∈l.take j,x.frm=c.frm)∧∀ t,(∃ x∈r,x.frm≤t∧t≤x.to)↔∃ c∈l.take j,(c.frm≤t∧t≤c.to)∧c.node=nd) l.length (by unfold big;omega) ⟨[],rfl,List.Pairwise.nil,by simp,by simp,by simp⟩ fun j y hj hI=>?_) fun r hr=>?_)
 ·obtain⟨r,rfl,r1,r2,r3,r4⟩:=hI;refine Rn.lt (zB (fun hd=>?_) fun hd=>?_)
  ·have hjl:j<l.length:=by
    have:=of_decide_eq_true (p:=((j:Int)<(l.length:Int))) hd;omega
   have hnth:=AM hjl;have htk:l.take (j+1)=l.take j++[l[j]]:=(List.take_append_getElem hjl).symm;have hbef:∀ y∈l.take j,y.frm≤l[j].frm:=by
    intro y hy;obtain⟨i,hi,rfl⟩:=List.mem_take_iff_getElem.1 hy;exact List.pairwise_iff_getElem.1 hl.rises i j (by omega) hjl (by omega)
   generalize l[j]=c at hnth htk hbef;refine Rn.bn (P:=fun r'=>Rises r'∧r'.length≤j+1∧(∀ x∈r',∃ c∈l.take (j+1),x.frm=c.frm)∧∀ t,(∃ x∈r',x.frm≤t∧t≤x.to)↔∃ c∈l.take (j+1),(c.frm≤t∧t≤c.to)∧c.node=nd) ?_ fun r' hr'=>Rn.lt (Rn.some ⟨hjl,r',?_,hr'⟩)
   ·refine zC hnth (Rn.lt (zB (fun hc=>Rn.chk (by simp[room];omega) (Rn.lt (Rn.some ⟨?_,by simp;omega,fun x hx=>?_,fun t=>?_⟩))) fun hc=>Rn.some ⟨r1,Nat.le_succ_of_le r2,fun x hx=>?_,fun t=>?_⟩))
    ·refine List.pairwise_append.2 ⟨r1,List.pairwise_singleton _ _,fun u hu w hw=>?_⟩;simp at hw;subst hw;obtain⟨y,hy,e⟩:=r3 u hu;have:=hbef y hy;simp only;omega
    ·rw[htk];rcases List.mem_append.1 hx with hx|hx
     ·obtain⟨y,hy,e⟩:=r3 x hx;exact⟨y,by simp[hy],e⟩
     ·simp at hx;subst hx;exact⟨c,by simp,rfl⟩
    ·have hn:c.node=nd:=of_decide_eq_true hc;rw[htk];constructor
     ·rintro⟨x,hx,h⟩;rcases List.mem_append.1 hx with hx|hx
      ·obtain⟨y,hy,h2⟩:=(r4 t).1 ⟨x,hx,h⟩;exact⟨y,by simp[hy],h2⟩
      ·simp at hx;subst hx;exact⟨c,by simp,h,hn⟩
     ·rintro⟨y,hy,h,h2⟩;rcases List.mem_append.1 hy with hy|hy
      ·obtain⟨x,hx,h3⟩:=(r4 t).2 ⟨y,hy,h,h2⟩;exact⟨x,by simp[hx],h3⟩
      ·simp at hy;subst hy;exact⟨⟨y.frm,y.to⟩,by simp,h⟩
    ·obtain⟨y,hy,e⟩:=r3 x hx;exact⟨y,by rw[htk];simp[hy],e⟩
    ·have hn:c.node≠nd:=of_decide_eq_false hc;rw[r4 t,htk];constructor
     ·rintro⟨y,hy,h⟩;exact⟨y,by simp[hy],h⟩
     ·rintro⟨y,hy,h,h2⟩;rcases List.mem_append.1 hy with hy|hy
      ·exact⟨y,hy,h,h2⟩
      ·simp at hy;subst hy;exact absurd h2 hn
   ·rw[An (by first|omega|(simp only;omega)) (by first|omega|(simp only;omega))];rfl
  ·have hjl:j=l.length:=by
    have:=of_decide_eq_false (p:=((j:Int)<(l.length:Int))) hd;omega
   subst hjl;rw[List.take_length] at r4;exact Rn.some ⟨r1,r2,r4⟩
 ·obtain⟨r1,r2,r3⟩:=hr;refine Rn.chk (by simp[room];omega) ?_;rw[normT];refine Rn.bn (De ⟨by omega,.inr r1.drop⟩) fun v hv=>Rn.some ⟨?_,by omega⟩;refine SaysS.of hv.1.1 fun t=>?_;rw[hv.1.iff];unfold inS ownP;rw[r3 t];constructor
  ·rintro⟨h1,c,hc,h2,h3⟩;rw[(hl.iff t _).2 ⟨c,hc,h2,rfl⟩,← h3];rfl
  ·intro h;cases hf:fC l t with
   |none=>rw[hf] at h;simp at h
   |some w =>
    rw[hf] at h;obtain⟨c,hc,h2,rfl⟩:=(hl.iff t w).1 hf;have:=(hl.tells t _ hf).1;exact⟨by omega,c,hc,h2,by simpa using h⟩
theorem SaysS.empty {l:List Span} {p:Int→Prop} [DecidablePred p] (h:SaysS l p) (hp:∀ t,¬ p t):l=[]:=by
 cases l with
 |nil=>rfl
 |cons x l=>exact absurd ((h.iff x.frm).1 ⟨x,by simp,Int.le_refl _,h.1.head⟩) (hp _)
end Go.Proofs.Ytenemndpignaoaa
namespace Go.Proofs.Ytenemndpignaoaa
open Go Go.RowKit
def keyI (x:Int):Int:=x
def ksI (d:List Int) (i:Nat):Int:=keyI (d.getD i (0:Int))
theorem cmpEI (x y:Int):AP big x y=some (decide (keyI x<keyI y)):=by
 unfold AP;rw[noNaN];simp only[Ar,A6,Ay];rfl
def swI (d:List Int) (i j:Nat):List Int:=(d.set i (d.getD j (0:Int))).set j (d.getD i (0:Int))
theorem KO (d:List Int) (i j:Nat):(swI d i j).length=d.length:=by simp[swI]
theorem BQ {d e:List Int} {i j:Nat} (h:d[i]?=e[j]?):ksI d i=ksI e j:=by
 unfold ksI;rw[List.getD_eq_getElem?_getD,List.getD_eq_getElem?_getD,h]
theorem El {d:List Int} {i j:Nat} (hi:i<d.length) (hj:j<d.length) (p:Nat):ksI (swI d i j) p=if p=j then ksI d i else if p=i then ksI d j else ksI d p:=by
 unfold ksI swI;rw[List.getD_eq_getElem?_getD,List.getElem?_set];by_cases e:j=p
 ·subst e;rw[if_pos rfl,if_pos (by simpa using hj),if_pos rfl];rfl
 ·rw[if_neg e,if_neg fun h=>e h.symm,List.getElem?_set];by_cases e2:i=p
  ·subst e2;rw[if_pos rfl,if_pos hi,if_pos rfl];rfl
  ·rw[if_neg e2,if_neg fun h=>e2 h.symm,← List.getD_eq_getElem?_getD]
theorem RP.swI {d:List Int} {a b i j:Nat} (hi:i<d.length) (hj:j<d.length) (h1:a≤i∧i<b) (h2:a≤j∧j<b):RP a b d (Go.Proofs.Ytenemndpignaoaa.swI d i j):=by
 have e1:d.getD i (0:Int)=d[i]:=by rw[List.getD_eq_getElem?_getD,List.getElem?_eq_getElem hi];rfl
 have e2:d.getD j (0:Int)=d[j]:=by rw[List.getD_eq_getElem?_getD,List.getElem?_eq_getElem hj];rfl
 unfold Go.Proofs.Ytenemndpignaoaa.swI;rw[e1,e2];refine⟨List.set_set_perm hi hj,fun p hp=>?_⟩;rw[List.getElem?_set_ne (by omega),List.getElem?_set_ne (by omega)]
theorem swapI {d:List Int} {i j:Nat} {x y:Int} (hx:x=(i:Int)) (hy:y=(j:Int)) (hi:i<d.length) (hj:j<d.length) {β:Type} {k:List Int→Option β} {Q:β→Prop} (h:Rn (k (swI d i j)) Q) :
  Rn (bn (nth d y) fun u=>bn (nth d x) fun v=>lt (d.set x.toNat u) fun w=>bn (nth w y) fun _=>lt (w.set y.toNat v) k) Q:=by
 subst hx hy;refine zC (nthD hj (0:Int)) (zC (nthD hi (0:Int)) (Rn.lt ?_));rw[Int.toNat_natCast,Int.toNat_natCast];exact zC (nthD (by simpa using hj) (0:Int)) (Rn.lt h)
def SortedI (d:List Int) (a b:Nat):Prop:=∀ p q,a≤p→p<q→q<b→ksI d p≤ksI d q
structure InsI (l d:List Int) (a i j:Nat):Prop where
 rp:RP a (i+1) l d
 aj:a≤j
 ji:j≤i
 srt:∀ p q,a≤p→p<q→q≤i→p≠j→q≠j→ksI d p≤ksI d q
 low:∀ q,j<q→q≤i→ksI d j≤ksI d q
theorem InsI.step {l d:List Int} {a i j:Nat} (h:InsI l d a i (j+1)) (hi:i<l.length) (haj:a≤j) (hlt:ksI d (j+1)<ksI d j):InsI l (swI d (j+1) j) a i j:=by
 have hji:=h.ji;have hl:=h.rp.len;have hk:=El (d:=d) (i:=j+1) (j:=j) (by omega) (by omega);refine⟨h.rp.trans (RP.swI (by omega) (by omega) (by omega) (by omega)),haj,by omega,fun p q g1 g2 g3 g4 g5=>?_,fun q g1 g2=>?_⟩
 ·rw[hk,hk,if_neg g4,if_neg g5];rcases Decidable.em (p=j+1) with e|e
  ·subst e;rw[if_pos rfl,if_neg (by omega)];exact h.srt j q haj (by omega) g3 (by omega) (by omega)
  ·rw[if_neg e];rcases Decidable.em (q=j+1) with e'|e'
   ·subst e';rw[if_pos rfl];exact h.srt p j g1 (by omega) (by omega) (by omega) (by omega)
   ·rw[if_neg e'];exact h.srt p q g1 g2 g3 e e'
 ·rw[hk,hk,if_pos rfl,if_neg (by omega)];rcases Decidable.em (q=j+1) with e|e
  ·rw[if_pos e];omega
  ·rw[if_neg e];exact h.low q (by omega) g2
theorem InsI.done {l d:List Int} {a i j:Nat} (h:InsI l d a i j) (hc:a<j→ksI d (j - 1)≤ksI d j):RP a (i+1) l d∧SortedI d a (i+1):=by
 refine⟨h.rp,fun p q h1 h2 h3=>?_⟩;rcases Decidable.em (p=j) with e|e
 ·subst e;exact h.low q h2 (by omega)
 ·rcases Decidable.em (q=j) with e'|e'
  ·subst e';have g3:=hc (by omega);rcases Decidable.em (p=q - 1) with e2|e2
   ·subst e2;exact g3
   ·have:=h.srt p (q - 1) h1 (by omega) (by have:=h.ji;omega) e (by omega);omega
  ·exact h.srt p q h1 h2 (by omega) e e'
theorem KP {l:List Int} {a b:Nat} (hab:a≤b) (hb:b≤l.length) (hl:l.length≤1000000):Rn (Be big l (a:Int) (b:Int)) fun r=>RP a b l r∧SortedI r a b:=by
 unfold Be;refine Rn.lt ?_;have e0:addI .i64 (a:Int) 1=((a+1:Nat):Int):=by rw[An (by omega) (by omega)];omega
 rw[e0];refine Rn.bn (P:=fun r=>RP a b l r∧SortedI r a b) (zG _ (fun k y=>∃ d:List Int,y=(((a+1+k:Nat):Int),d)∧RP a b l d∧SortedI d a (a+1+k)) (b - a - 1) (by unfold big;omega) ⟨l,rfl,RP.refl _ _ _,fun p q h1 h2 h3=>by omega⟩ fun k y hk hI=>?_) fun r hr=>Rn.some hr;obtain⟨d,rfl,hp,hs⟩:=hI;have hdl:=hp.len;refine Rn.lt (zB (fun hd=>?_) fun hd=>?_)
 ·have hi:a+1+k<b:=by
   have:=of_decide_eq_true (p:=(((a+1+k:Nat):Int)<(b:Int))) hd;omega
  refine Rn.bn (P:=fun r=>RP a (a+1+k+1) d r∧SortedI r a (a+1+k+1)) ?_ fun r hr=>Rn.lt (Rn.some ⟨by omega,r,?_,hp.trans (hr.1.mono (Nat.le_refl _) (by omega)),fun p q h1 h2 h3=>hr.2 p q h1 h2 (by omega)⟩)
  ·have h0:InsI d d a (a+1+k) (a+1+k):=⟨RP.refl _ _ _,by omega,Nat.le_refl _,fun p q h1 h2 h3 h4 h5=>hs p q h1 h2 (by omega),fun q h1 h2=>by omega⟩;refine zG _ (fun t y=>∃ (j:Nat) (d':List Int),y=((j:Int),d')∧j+t=a+1+k∧InsI d d' a (a+1+k) j) (k+1) (by unfold big;omega) ⟨a+1+k,d,rfl,rfl,h0⟩ fun t y ht hI=>?_;obtain⟨j,d',rfl,hj,h⟩:=hI;have hdl':=h.rp.len;rcases Decidable.em (a<j) with haj|haj
   ·obtain⟨j,rfl⟩:∃ i,j=i+1:=⟨j - 1,by omega⟩;have hji:=h.ji;have h2:j+1<d'.length:=by omega
    have h1:j<d'.length:=by omega
    have es:subI .i64 ((j+1:Nat):Int) 1=(j:Int):=by rw[Aq (by omega) (by omega)];omega
    refine zC (v:=decide (ksI d' (j+1)<ksI d' j)) ?_ (Rn.lt (zB (fun hc=>?_) fun hc=>Rn.some (h.done fun _=>?_)))
    ·simp only[Ay];rw[gt_t (show (a:Int)<((j+1:Nat):Int) by omega),AS,nthD h2 (0:Int)];simp only[Ar];rw[es,nthD h1 (0:Int)];simp only[Ar,cmpEI];rfl
    ·have hlt:=of_decide_eq_true hc;refine Rn.lt ?_;simp only;rw[es];exact swapI (x:=((j+1:Nat):Int)) rfl rfl h2 h1 (Rn.some ⟨by omega,j,_,rfl,by omega,h.step (by omega) (by omega) hlt⟩)
    ·have:=of_decide_eq_false hc;show ksI d' j≤ksI d' (j+1);omega
   ·refine zC (v:=false) ?_ (Rn.lt (zB (fun hc=>by simp at hc) fun _=>Rn.some (h.done fun hc=>absurd hc haj)));simp only[Ay];rw[gt_f (by omega),A6]
  ·rw[An (by first|omega|(simp only;omega)) (by first|omega|(simp only;omega))];rfl
 ·have hi:b≤a+1+k:=by
   have:=of_decide_eq_false (p:=(((a+1+k:Nat):Int)<(b:Int))) hd;omega
  exact Rn.some ⟨hp,fun p q h1 h2 h3=>hs p q h1 h2 (by omega)⟩
theorem E7 {l:List Int} {i j:Nat} (hi:i<l.length) (hj:j<l.length) (s:Int):Rn (A4 big l (i:Int) (j:Int) s) fun r=>((r.1=(i:Int)∧r.2.1=(j:Int))∨(r.1=(j:Int)∧r.2.1=(i:Int)))∧r.2.2.1=l:=by
 unfold A4;refine zC (nthD hj (0:Int)) (zC (nthD hi (0:Int)) ?_);simp only[cmpEI,Ar,Ay];exact zB (fun _=>Rn.some ⟨.inr ⟨rfl,rfl⟩,rfl⟩) fun _=>Rn.some ⟨.inl ⟨rfl,rfl⟩,rfl⟩
theorem I0 {l:List Int} {i j k:Nat} (hi:i<l.length) (hj:j<l.length) (hk:k<l.length) (s:Int):Rn (Bl big l (i:Int) (j:Int) (k:Int) s) fun r=>(∃ x:Nat,r.1=(x:Int)∧(x=i∨x=j∨x=k))∧r.2.1=l:=by
 unfold Bl;refine Rn.bn (E7 hi hj s) fun v hv=>?_;obtain⟨v1,v2,v3,v4⟩:=v;obtain⟨hv1,hv2⟩:=hv;simp only at hv1 hv2;subst v3;refine Rn.chk (by simp[lenB]) ?_;obtain⟨x,y,ex,ey,hxy⟩:∃ x y:Nat,v1=(x:Int)∧v2=(y:Int)∧((x=i∧y=j)∨(x=j∧y=i)):=by
  rcases hv1 with ⟨a,b⟩|⟨a,b⟩
  ·exact⟨i,j,a,b,.inl ⟨rfl,rfl⟩⟩
  ·exact⟨j,i,a,b,.inr ⟨rfl,rfl⟩⟩
 subst ex ey;have hx:x<l.length:=by omega
 have hy:y<l.length:=by omega
 refine Rn.bn (E7 hy hk v4) fun w hw=>?_;obtain⟨w1,w2,w3,w4⟩:=w;obtain⟨hw1,hw2⟩:=hw;simp only at hw1 hw2;subst w3;refine Rn.chk (by simp[lenB]) ?_;obtain⟨z,t,ez,et,hzt⟩:∃ z t:Nat,w1=(z:Int)∧w2=(t:Int)∧((z=y∧t=k)∨(z=k∧t=y)):=by
  rcases hw1 with ⟨a,b⟩|⟨a,b⟩
  ·exact⟨y,k,a,b,.inl ⟨rfl,rfl⟩⟩
  ·exact⟨k,y,a,b,.inr ⟨rfl,rfl⟩⟩
 subst ez et;have hz:z<l.length:=by omega
 refine Rn.bn (E7 hx hz w4) fun u hu=>?_;obtain⟨u1,u2,u3,u4⟩:=u;obtain⟨hu1,hu2⟩:=hu;simp only at hu1 hu2;subst u3;refine Rn.chk (by simp[lenB]) (Rn.some ⟨?_,rfl⟩);simp only;rcases hu1 with ⟨a,b⟩|⟨a,b⟩
 ·exact⟨z,b,by omega⟩
 ·exact⟨x,b,by omega⟩
theorem I1 {l:List Int} {a b:Nat} (hab:a+12<b) (hb:b≤l.length) (hl:l.length≤sortMost):Rn (Bj big l (a:Int) (b:Int)) fun r=>(∃ k:Nat,r.1=(k:Int)∧a≤k∧k<b)∧r.2.2=l:=by
 unfold sortMost at hl;unfold Bj;refine Rn.lt ?_;rw[Aq (by omega) (by omega)];refine zC (vquo (by omega) (by omega) (by omega)) (Rn.lt ?_);obtain⟨q,hq⟩:∃ q:Nat,((b:Int) - (a:Int)) / 4=(q:Int):=⟨((b:Int) - (a:Int)).toNat / 4,by omega⟩;rw[hq];refine Rn.lt (Rn.lt (Rn.lt (Rn.lt (Rn.lt ?_))));rw[Cf (by omega) (by omega),Cf (show -9223372036854775808≤(q:Int)*2 by omega) (by omega),Cf (show -9223372036854775808≤(q:Int)*3 by omega) (by omega),An (by omega) (by omega),An (show -9223372036854775808≤(a:Int)+(q:Int)*2 by omega) (by omega),An (show -9223372036854775808≤(a:Int)+(q:Int)*3 by omega) (by omega)];refine Rn.bn (P:=fun y=>(∃ k:Nat,y.1=(k:Int)∧a≤k∧k<b)∧y.2.1=l) ?_ fun y hy=>?_
 ·refine Rn.lt (zB (fun _=>?_) fun h=>?_)
  ·refine zC (v:=((a:Int)+(q:Int)*1,(a:Int)+(q:Int)*2,(a:Int)+(q:Int)*3,l,0)) ?_ ?_
   ·simp only[Ay];rw[ge_f (by omega),A6]
   ·simp only;rw[show (a:Int)+(q:Int)*1=((a+q:Nat):Int) by omega,show (a:Int)+(q:Int)*2=((a+q*2:Nat):Int) by omega,show (a:Int)+(q:Int)*3=((a+q*3:Nat):Int) by omega];refine Rn.bn (I0 (by omega) (by omega) (by omega) 0) fun v hv=>Rn.chk (by rw[hv.2];simp[lenB]) (Rn.some ⟨?_,hv.2⟩);obtain⟨x,e,hx⟩:=hv.1;exact⟨x,e,by omega⟩
  ·have:=of_decide_eq_false (p:=(8:Int)≤(b:Int) - (a:Int)) h;omega
 ·obtain⟨⟨k,e,hk⟩,hy2⟩:=hy;obtain⟨y1,y2,y3⟩:=y;simp only at e hy2;subst y2;exact Rn.lt (zB (fun _=>Rn.some ⟨⟨k,e,hk⟩,rfl⟩) fun _=>Rn.lt (zB (fun _=>Rn.some ⟨⟨k,e,hk⟩,rfl⟩) fun _=>Rn.some ⟨⟨k,e,hk⟩,rfl⟩))
theorem Ik {l:List Int} {a b:Nat} (hab:a<b) (hb:b≤l.length) (hl:l.length≤sortMost):Rn (Bi big l (a:Int) (b:Int)) fun r=>RP a b l r:=by
 unfold sortMost at hl;unfold Bi;refine Rn.lt ?_;rw[Aq (by omega) (by omega),show (b:Int) - 1=((b - 1:Nat):Int) by omega];refine Rn.bn (P:=fun r=>RP a b l r) (zG _ (fun t y=>∃ (i j:Nat) (d:List Int),y=((i:Int),(j:Int),d)∧i=a+t∧j<b∧i≤j+1∧RP a b l d) (b - a) (by unfold big;omega) ⟨a,b - 1,l,rfl,rfl,by omega,by omega,RP.refl _ _ _⟩ fun t y ht hI=>?_) fun r hr=>Rn.some hr;obtain⟨i,j,d,rfl,h1,h2,h3,h4⟩:=hI;have hd:=h4.len;refine Rn.lt (zB (fun hc=>?_) fun hc=>Rn.some h4);have hij:i<j:=by
  have:=of_decide_eq_true (p:=((i:Int)<(j:Int))) hc;omega
 refine swapI rfl rfl (show i<d.length by omega) (show j<d.length by omega) (Rn.lt (Rn.lt (Rn.some ⟨by omega,i+1,j - 1,swI d i j,?_,by omega,by omega,by omega,h4.trans (RP.swI (by omega) (by omega) (by omega) (by omega))⟩)));show (addI .i64 (i:Int) 1,subI .i64 (j:Int) 1,swI d i j)=_;rw[An (by omega) (by omega),Aq (by omega) (by omega),show ((j - 1:Nat):Int)=(j:Int) - 1 by omega];rfl
theorem Il {l:List Int} {a b:Nat} (hab:a<b) (hb:b≤l.length) (hl:l.length≤sortMost):Rn (AT big l (a:Int) (b:Int)) fun r=>r.2=l∧(r.1=true→SortedI l a b):=by
 unfold sortMost at hl;unfold AT;refine Rn.lt ?_;rw[An (by omega) (by omega),show (a:Int)+1=((a+1:Nat):Int) by omega];refine Rn.bn (P:=fun y=>y=.inr (false,l)∨(y=.inr (true,l)∧SortedI l a b)) (zG _ (fun t y=>t=0∧y=(((a+1:Nat):Int),0,l)) 0 (by unfold big;omega) ⟨rfl,rfl⟩ fun t y ht hI=>?_) fun y hy=>?_
 ·obtain⟨rfl,rfl⟩:=hI;refine Rn.lt (zB (fun _=>?_) fun h=>absurd (show ltI 0 5=false from h) (by decide));refine Rn.bn (P:=fun y=>y=.inr (false,l)∨(y=.inr (true,l)∧SortedI l a b)) ?_ fun y hy=>?_
  ·refine Rn.bn (scanUp (p:=fun i=>decide (¬ ksI l i<ksI l (i - 1))) (i0:=a+1) (hi:=b) (by omega) (fun i h1 h2=>?_) ?_ (by omega)) fun r hr=>?_
   ·simp only[Ay];rw[lt_t (by omega),AS,nthD (show i<l.length by omega) (0:Int)];simp only[Ar];rw[Aq (by omega) (by omega),show (i:Int) - 1=((i - 1:Nat):Int) by omega,nthD (show i - 1<l.length by omega) (0:Int)];simp only[Ar,cmpEI,CE];rfl
   ·simp only[Ay];rw[lt_f (by omega),A6]
   ·obtain⟨k,rfl,k1,k2,k3,k4⟩:=hr;refine Rn.lt (zB (fun h=>Rn.some (.inr ⟨rfl,?_⟩)) fun h=>Rn.lt (Rn.lt ?_))
    ·have hk:k=b:=by
      have:=of_decide_eq_true (p:=((k:Int)=(b:Int))) h;omega
     subst hk;have hadj:∀ i,a+1≤i→i<k→ksI l (i - 1)≤ksI l i:=fun i g1 g2=>by
      have:=of_decide_eq_true (k3 i g1 g2);omega
     intro p q h1 h2 h3;obtain⟨n,rfl⟩:∃ n,q=p+1+n:=⟨q - (p+1),by omega⟩;clear h2
     induction n with
     |zero=>exact hadj (p+1) (by omega) h3
     |succ n ih =>
      have g1:=ih (by omega);have g2:=hadj (p+1+n+1) (by omega) h3;rw[show p+1+n+1 - 1=p+1+n by omega] at g2;exact Int.le_trans g1 g2
    ·rw[Aq (by omega) (by omega),lt_t (by omega)];exact zB (fun _=>Rn.some (.inl rfl)) fun h=>by simp at h
  ·rcases hy with rfl|⟨rfl,hs⟩
   ·rw[BZ];exact Rn.some (.inl rfl)
   ·rw[BZ];exact Rn.some (.inr ⟨rfl,hs⟩)
 ·rcases hy with rfl|⟨rfl,hs⟩
  ·rw[BZ];exact Rn.some ⟨rfl,fun h=>by simp at h⟩
  ·rw[BZ];exact Rn.some ⟨rfl,fun _=>hs⟩
structure PEI (l d:List Int) (a b:Nat) (K:Int) (i j:Nat):Prop where
 rp:RP a b l d
 pv:ksI d a=K
 lo:∀ p,a<p→p<i→ksI d p≤K
 hi:∀ p,j<p→p<b→K<ksI d p
 ai:a+1≤i
 ij:i≤j+1
 jb:j<b
theorem I2 {l:List Int} {a b k:Nat} (hk1:a≤k) (hk2:k<b) (hb:b≤l.length) (hl:l.length≤sortMost):Rn (Bb big l (a:Int) (b:Int) (k:Int)) fun r=>∃ m:Nat,r.1=(m:Int)∧a<m∧m≤b∧RP a b l r.2∧(∀ p,a≤p→p<m→ksI r.2 p≤ksI l k)∧(∀ p,m≤p→p<b→ksI l k<ksI r.2 p):=by
 unfold sortMost at hl;unfold Bb;refine swapI rfl rfl (show a<l.length by omega) (show k<l.length by omega) (Rn.lt (Rn.lt ?_));have hs:=RP.swI (d:=l) (a:=a) (b:=b) (i:=a) (j:=k) (by omega) (by omega) (by omega) (by omega);have hpv:ksI (swI l a k) a=ksI l k:=by
  rw[El (by omega) (by omega)];split
  ·rename_i h
   rw[← h]
  ·rw[if_pos rfl]
 generalize swI l a k=d0 at hs hpv;rw[An (by omega) (by omega),Aq (by omega) (by omega),show (a:Int)+1=((a+1:Nat):Int) by omega,show (b:Int) - 1=((b - 1:Nat):Int) by omega];refine Rn.bn (P:=fun y=>∃ m:Nat,y.1=(m:Int)∧a<m∧m≤b∧RP a b l y.2∧(∀ p,a≤p→p<m→ksI y.2 p≤ksI l k)∧(∀ p,m≤p→p<b→ksI l k<ksI y.2 p)) (zG _ (fun t y=>∃ (i j:Nat) (d:List Int),y=((i:Int),(j:Int),d)∧a+1+t≤i∧PEI l d a b (ksI l k) i j) (b - a) (by unfold big;omega) ⟨a+1,b - 1,d0,rfl,by omega,⟨hs,hpv,fun p h1 h2=>by omega,fun p h1 h2=>by omega,by omega,by omega,by omega⟩⟩ fun t y ht hI=>?_) fun y hy=>Rn.some hy;obtain⟨i,j,d,rfl,h1,h⟩:=hI;have hd:=h.rp.len;have hai:=h.ai;have hij:=h.ij;have hjb:=h.jb;generalize ksI l k=K at h;refine Rn.bn (scanUp (p:=fun p=>decide (¬ K<ksI d p)) (i0:=i) (hi:=j+1) (by omega) (fun p g1 g2=>?_) ?_ (by omega)) fun r hr=>?_
 ·simp only[Ay];rw[le_t (by omega),AS,nthD (show a<d.length by omega) (0:Int)];simp only[Ar];rw[nthD (show p<d.length by omega) (0:Int)];simp only[Ar,cmpEI,CE];rw[← h.pv];rfl
 ·simp only[Ay];rw[le_f (by omega),A6]
 obtain⟨i',rfl,i1,i2,i3,i4⟩:=hr;refine Rn.bn (scanDown (p:=fun p=>decide (K<ksI d p)) (j0:=j) (lo:=i' - 1) (by omega) (fun p g1 g2=>?_) ?_ (by omega)) fun r hr=>?_
 ·simp only[Ay];rw[le_t (by omega),AS,nthD (show a<d.length by omega) (0:Int)];simp only[Ar];rw[nthD (show p<d.length by omega) (0:Int)];simp only[Ar,cmpEI];rw[← h.pv];rfl
 ·simp only[Ay];rw[le_f (by omega),A6]
 obtain⟨j',rfl,j1,j2,j3,j4⟩:=hr;have hlo:∀ p,a<p→p<i'→ksI d p≤K:=fun p g1 g2=>by
  rcases Nat.lt_or_ge p i with g3|g3
  ·exact h.lo p g1 g3
  ·have:=of_decide_eq_true (i3 p g3 g2);omega
 have hhi:∀ p,j'<p→p<b→K<ksI d p:=fun p g1 g2=>by
  rcases Nat.lt_or_ge j p with g3|g3
  ·exact h.hi p g3 g2
  ·exact of_decide_eq_true (j3 p g1 g3)
 refine Rn.lt (zB (fun hc=>Rn.some ⟨i',rfl,by omega,by omega,h.rp,fun p g1 g2=>?_,fun p g1 g2=>hhi p ?_ g2⟩) fun hc=>?_)
 ·rcases Nat.eq_or_lt_of_le g1 with g3|g3
  ·subst g3;show ksI d a≤K;rw[h.pv];exact Int.le_refl _
  ·exact hlo p g3 g2
 ·have:=of_decide_eq_true (p:=((j':Int)<(i':Int))) hc;omega
 ·have hle:i'≤j':=by
   have:=of_decide_eq_false (p:=((j':Int)<(i':Int))) hc;omega
  have e1:=of_decide_eq_false (i4 (by omega));have e2:=of_decide_eq_false (j4 (by omega));have hne:i'≠j':=fun e=>by subst e;omega
  refine swapI rfl rfl (show i'<d.length by omega) (show j'<d.length by omega) (Rn.lt (Rn.lt (Rn.some ⟨by omega,i'+1,j' - 1,swI d i' j',?_,by omega,?_⟩)))
  ·rw[An (by omega) (by omega),Aq (by omega) (by omega),show ((j' - 1:Nat):Int)=(j':Int) - 1 by omega];rfl
  ·have hk:=El (d:=d) (i:=i') (j:=j') (by omega) (by omega);refine⟨h.rp.trans (RP.swI (by omega) (by omega) (by omega) (by omega)),?_,fun p g1 g2=>?_,fun p g1 g2=>?_,by omega,by omega,by omega⟩
   ·rw[hk,if_neg (by omega),if_neg (by omega)];exact h.pv
   ·rw[hk,if_neg (by omega)];split
    ·omega
    ·exact hlo p g1 (by omega)
   ·rw[hk];split
    ·omega
    ·rw[if_neg (by omega)];exact hhi p (by omega) g2
structure PTI (l d:List Int) (a b:Nat) (K:Int) (i j:Nat):Prop where
 rp:RP a b l d
 pv:ksI d a=K
 lo:∀ p,a<p→p<i→ksI d p<K
 hi:∀ p,j<p→p<b→K≤ksI d p
 ai:a+1≤i
 ij:i≤j+1
 jb:j<b
structure PSI (d:List Int) (a b:Nat) (K:Int) (i' j':Nat):Prop where
 lo:∀ p,a<p→p<i'→ksI d p<K
 hi:∀ p,j'<p→p<b→K≤ksI d p
 ge:i'≤j'+1
 both:i'≤j'→K≤ksI d i'∧ksI d j'<K
theorem PTI.scan {l d:List Int} {a b i j i' j':Nat} {K:Int} (h:PTI l d a b K i j) (i1:i≤i') (i3:∀ p,i≤p→p<i'→decide (ksI d p<K)=true) (i4:i'<j+1→decide (ksI d i'<K)=false)
  (j1:i' - 1≤j') (j2:j'≤j) (j3:∀ p,j'<p→p≤j→decide (¬ ksI d p<K)=true) (j4:i' - 1<j'→decide (¬ ksI d j'<K)=false):PSI d a b K i' j':=by
 have hai:=h.ai;refine⟨fun p g1 g2=>?_,fun p g1 g2=>?_,by omega,fun hle=>⟨?_,?_⟩⟩
 ·rcases Nat.lt_or_ge p i with g3|g3
  ·exact h.lo p g1 g3
  ·exact of_decide_eq_true (i3 p g3 g2)
 ·rcases Nat.lt_or_ge j p with g3|g3
  ·exact h.hi p g3 g2
  ·have:=of_decide_eq_true (j3 p g1 g3);omega
 ·have:=of_decide_eq_false (i4 (by omega));omega
 ·have:=of_decide_eq_false (j4 (by omega));omega
theorem PSI.last {l d:List Int} {a b i' j':Nat} {K:Int} (hr:RP a b l d) (pv:ksI d a=K) (h:PSI d a b K i' j') (hb:b≤l.length) (h1:a≤j') (h2:j'<b) (h3:j'<i') :
  RP a b l (swI d j' a)∧ksI (swI d j' a) j'=K∧(∀ p,a≤p→p<j'→ksI (swI d j' a) p<K)∧∀ p,j'<p→p<b→K≤ksI (swI d j' a) p:=by
 have hd:=hr.len;have hge:=h.ge;have hk:=El (d:=d) (i:=j') (j:=a) (by omega) (by omega);refine⟨hr.trans (RP.swI (by omega) (by omega) (by omega) (by omega)),?_,fun p g1 g2=>?_,fun p g1 g2=>?_⟩
 ·rw[hk];split
  ·rename_i e
   rw[e];exact pv
  ·rw[if_pos rfl];exact pv
 ·rw[hk];split
  ·exact h.lo j' (by omega) (by omega)
  ·rw[if_neg (by omega)];exact h.lo p (by omega) (by omega)
 ·rw[hk,if_neg (by omega),if_neg (by omega)];exact h.hi p g1 g2
theorem PSI.more {l d:List Int} {a b i' j':Nat} {K:Int} (hr:RP a b l d) (pv:ksI d a=K) (h:PSI d a b K i' j') (hb:b≤l.length) (h1:a+1≤i') (h2:j'<b) (h3:i'≤j') :
  i'≠j'∧PTI l (swI d i' j') a b K (i'+1) (j' - 1):=by
 have hd:=hr.len;obtain⟨e1,e2⟩:=h.both h3;have hne:i'≠j':=fun e=>by subst e;omega
 have hk:=El (d:=d) (i:=i') (j:=j') (by omega) (by omega);refine⟨hne,hr.trans (RP.swI (by omega) (by omega) (by omega) (by omega)),?_,fun p g1 g2=>?_,fun p g1 g2=>?_,by omega,by omega,by omega⟩
 ·rw[hk,if_neg (by omega),if_neg (by omega)];exact pv
 ·rw[hk,if_neg (by omega)];split
  ·exact e2
  ·exact h.lo p g1 (by omega)
 ·rw[hk];split
  ·exact e1
  ·rw[if_neg (by omega)];exact h.hi p (by omega) g2
theorem J2 {l:List Int} {a b k:Nat} (hk1:a≤k) (hk2:k<b) (hb:b≤l.length) (hl:l.length≤sortMost):Rn (Bn big l (a:Int) (b:Int) (k:Int)) fun r=>∃ m:Nat,r.1=(m:Int)∧a≤m∧m<b∧RP a b l r.2.2∧ksI r.2.2 m=ksI l k∧(∀ p,a≤p→p<m→ksI r.2.2 p<ksI l k)∧(∀ p,m<p→p<b→ksI l k≤ksI r.2.2 p):=by
 unfold sortMost at hl;unfold Bn;refine swapI rfl rfl (show a<l.length by omega) (show k<l.length by omega) (Rn.lt (Rn.lt ?_));have hs:=RP.swI (d:=l) (a:=a) (b:=b) (i:=a) (j:=k) (by omega) (by omega) (by omega) (by omega);have hpv:ksI (swI l a k) a=ksI l k:=by
  rw[El (by omega) (by omega)];split
  ·rename_i h
   rw[← h]
  ·rw[if_pos rfl]
 generalize swI l a k=d at hs hpv;generalize ksI l k=K at hpv;rw[An (by omega) (by omega),Aq (by omega) (by omega),show (a:Int)+1=((a+1:Nat):Int) by omega,show (b:Int) - 1=((b - 1:Nat):Int) by omega];have h0:PTI l d a b K (a+1) (b - 1):=⟨hs,hpv,fun p h1 h2=>by omega,fun p h1 h2=>by omega,by omega,by omega,by omega⟩;have hd:=hs.len;refine Rn.bn (scanUp (p:=fun p=>decide (ksI d p<K)) (i0:=a+1) (hi:=b - 1+1) (by omega) (fun p g1 g2=>?_) ?_ (by omega)) fun r hr=>?_
 ·simp only[Ay];rw[le_t (by omega),AS,nthD (show p<d.length by omega) (0:Int)];simp only[Ar];rw[nthD (show a<d.length by omega) (0:Int)];simp only[Ar,cmpEI];rw[← hpv];rfl
 ·simp only[Ay];rw[le_f (by omega),A6]
 obtain⟨i',rfl,i1,i2,i3,i4⟩:=hr;refine Rn.bn (scanDown (p:=fun p=>decide (¬ ksI d p<K)) (j0:=b - 1) (lo:=i' - 1) (by omega) (fun p g1 g2=>?_) ?_ (by omega)) fun r hr=>?_
 ·simp only[Ay];rw[le_t (by omega),AS,nthD (show p<d.length by omega) (0:Int)];simp only[Ar];rw[nthD (show a<d.length by omega) (0:Int)];simp only[Ar,cmpEI,CE];rw[← hpv];rfl
 ·simp only[Ay];rw[le_f (by omega),A6]
 obtain⟨j',rfl,j1,j2,j3,j4⟩:=hr;have ps:=h0.scan i1 i3 i4 j1 j2 j3 j4;refine Rn.lt (zB (fun hc=>?_) fun hc=>?_)
 ·have hji:j'<i':=by
   have:=of_decide_eq_true (p:=((j':Int)<(i':Int))) hc;omega
  obtain⟨q1,q2,q3,q4⟩:=ps.last hs hpv hb (by omega) (by omega) hji;exact swapI rfl rfl (show j'<d.length by omega) (show a<d.length by omega) (Rn.some ⟨j',rfl,by omega,by omega,q1,q2,q3,q4⟩)
 have hij:i'≤j':=by
  have:=of_decide_eq_false (p:=((j':Int)<(i':Int))) hc;omega
 obtain⟨hne,h1⟩:=ps.more hs hpv hb (by omega) (by omega) hij;refine swapI rfl rfl (show i'<d.length by omega) (show j'<d.length by omega) (Rn.lt (Rn.lt ?_));rw[An (by omega) (by omega),Aq (by omega) (by omega),show (i':Int)+1=((i'+1:Nat):Int) by omega,show (j':Int) - 1=((j' - 1:Nat):Int) by omega];generalize swI d i' j'=d1 at h1;refine Rn.bn (P:=fun y=>∃ (m i:Nat) (d:List Int),y=((m:Int),d)∧RP a b l d∧ksI d a=K∧PSI d a b K i m∧a≤m∧m<b∧m<i) (zG _ (fun t y=>∃ (i j:Nat) (d:List Int),y=((i:Int),(j:Int),d)∧a+1+t≤i∧PTI l d a b K i j) (b - a) (by unfold big;omega) ⟨i'+1,j' - 1,d1,rfl,by omega,h1⟩ fun t y ht hI=>?_) fun y hy=>?_
 ·clear i3 i4 j3 j4 ps h0 hpv hs
  obtain⟨i,j,d,rfl,ht1,h⟩:=hI;have hd:=h.rp.len;have hai:=h.ai;have hij:=h.ij;have hjb:=h.jb;refine Rn.bn (scanUp (p:=fun p=>decide (ksI d p<K)) (i0:=i) (hi:=j+1) (by omega) (fun p g1 g2=>?_) ?_ (by omega)) fun r hr=>?_
  ·simp only[Ay];rw[le_t (by omega),AS,nthD (show p<d.length by omega) (0:Int)];simp only[Ar];rw[nthD (show a<d.length by omega) (0:Int)];simp only[Ar,cmpEI];rw[← h.pv];rfl
  ·simp only[Ay];rw[le_f (by omega),A6]
  obtain⟨i',rfl,i1,i2,i3,i4⟩:=hr;refine Rn.bn (scanDown (p:=fun p=>decide (¬ ksI d p<K)) (j0:=j) (lo:=i' - 1) (by omega) (fun p g1 g2=>?_) ?_ (by omega)) fun r hr=>?_
  ·simp only[Ay];rw[le_t (by omega),AS,nthD (show p<d.length by omega) (0:Int)];simp only[Ar];rw[nthD (show a<d.length by omega) (0:Int)];simp only[Ar,cmpEI,CE];rw[← h.pv];rfl
  ·simp only[Ay];rw[le_f (by omega),A6]
  obtain⟨j',rfl,j1,j2,j3,j4⟩:=hr;have ps:=h.scan i1 i3 i4 j1 j2 j3 j4;refine Rn.lt (zB (fun hc=>Rn.some ⟨j',i',d,rfl,h.rp,h.pv,ps,by omega,by omega,?_⟩) fun hc=>?_)
  ·have:=of_decide_eq_true (p:=((j':Int)<(i':Int))) hc;omega
  ·have hij:i'≤j':=by
    have:=of_decide_eq_false (p:=((j':Int)<(i':Int))) hc;omega
   obtain⟨hne,h1⟩:=ps.more h.rp h.pv hb (by omega) (by omega) hij;refine swapI rfl rfl (show i'<d.length by omega) (show j'<d.length by omega) (Rn.lt (Rn.lt (Rn.some ⟨by omega,i'+1,j' - 1,swI d i' j',?_,by omega,h1⟩)));rw[An (by omega) (by omega),Aq (by omega) (by omega),show ((j' - 1:Nat):Int)=(j':Int) - 1 by omega];rfl
 ·obtain⟨m,i,e,rfl,y1,y2,y3,y4,y5,y6⟩:=hy;have he:=y1.len;obtain⟨q1,q2,q3,q4⟩:=y3.last y1 y2 hb y4 y5 y6;exact swapI rfl rfl (show m<e.length by omega) (show a<e.length by omega) (Rn.some ⟨m,rfl,y4,y5,q1,q2,q3,q4⟩)
def HeapI (d:List Int) (f lo hi:Nat):Prop:=∀ i c,lo≤i→(c=2*i+1∨c=2*i+2)→c<hi→ksI d (f+c)≤ksI d (f+i)
theorem HeapI.max {d:List Int} {f hi:Nat} (h:HeapI d f 0 hi):∀ i,i<hi→ksI d (f+i)≤ksI d f:=by
 intro i;induction i using Nat.strongRecOn with
 |ind i ih =>
  intro hi';rcases Nat.eq_zero_or_pos i with rfl|hp
  ·exact Int.le_refl _
  ·have h1:=h ((i - 1) / 2) i (Nat.zero_le _) (by omega) hi';have h2:=ih ((i - 1) / 2) (by omega) (by omega);omega
structure SDI (l d:List Int) (f lo hi r:Nat):Prop where
 rp:RP f (f+hi) l d
 lr:lo≤r
 oth:∀ i c,lo≤i→i≠r→(c=2*i+1∨c=2*i+2)→c<hi→ksI d (f+c)≤ksI d (f+i)
 up:∀ p c,lo≤p→(r=2*p+1∨r=2*p+2)→(c=2*r+1∨c=2*r+2)→c<hi→ksI d (f+c)≤ksI d (f+p)
theorem SDI.stop {l d:List Int} {f lo hi r:Nat} (h:SDI l d f lo hi r) (hc:∀ c,(c=2*r+1∨c=2*r+2)→c<hi→ksI d (f+c)≤ksI d (f+r)):RP f (f+hi) l d∧HeapI d f lo hi:=by
 refine⟨h.rp,fun i c h1 h2 h3=>?_⟩;rcases Decidable.em (i=r) with e|e
 ·subst e;exact hc c h2 h3
 ·exact h.oth i c h1 e h2 h3
theorem SDI.step {l d:List Int} {f lo hi r c0:Nat} (h:SDI l d f lo hi r) (hb:f+hi≤l.length) (h1:c0=2*r+1∨c0=2*r+2) (h2:c0<hi) (h3:ksI d (f+r)<ksI d (f+c0))
  (h4:∀ c,(c=2*r+1∨c=2*r+2)→c<hi→ksI d (f+c)≤ksI d (f+c0)):SDI l (swI d (f+r) (f+c0)) f lo hi c0:=by
 have hd:=h.rp.len;have hlr:=h.lr;have hk:=El (d:=d) (i:=f+r) (j:=f+c0) (by omega) (by omega);refine⟨h.rp.trans (RP.swI (by omega) (by omega) (by omega) (by omega)),by omega,fun i c g1 g2 g3 g4=>?_,fun p c g1 g2 g3 g4=>?_⟩
 ·rw[hk,hk,if_neg (show ¬ f+i=f+c0 by omega)];rcases Decidable.em (i=r) with e|e
  ·subst e;rw[if_pos (show f+i=f+i from rfl)];rcases Decidable.em (c=c0) with e2|e2
   ·rw[if_pos (by omega)];omega
   ·rw[if_neg (by omega),if_neg (by omega)];exact h4 c g3 g4
  ·rw[if_neg (show ¬ f+i=f+r by omega),if_neg (show ¬ f+c=f+c0 by omega)];rcases Decidable.em (c=r) with e2|e2
   ·subst e2;rw[if_pos rfl];exact h.up i c0 g1 g3 h1 h2
   ·rw[if_neg (by omega)];exact h.oth i c g1 e g3 g4
 ·have hp:p=r:=by omega
  subst hp;rw[hk,hk,if_neg (by omega),if_neg (by omega),if_neg (by omega),if_pos rfl];exact h.oth c0 c (by omega) (by omega) g3 g4
theorem H1 {l:List Int} {f lo hi:Nat} (hb:f+hi≤l.length) (hl:l.length≤sortMost) (hh:HeapI l f (lo+1) hi) (hlo:lo≤100):Rn (Bg big l (lo:Int) (hi:Int) (f:Int)) fun r=>RP f (f+hi) l r∧HeapI r f lo hi:=by
 unfold sortMost at hl;unfold Bg;refine Rn.bn (P:=fun y=>∃ d,(y=.inl d∨y=.inr d)∧RP f (f+hi) l d∧HeapI d f lo hi) (zG _ (fun t y=>∃ (r:Nat) (d:List Int),y=((r:Int),d)∧t≤r∧(t≤hi)∧(r<hi∨r=lo)∧SDI l d f lo hi r) hi (by unfold big;omega) ⟨lo,l,rfl,Nat.zero_le _,Nat.zero_le _,.inr rfl,RP.refl _ _ _,Nat.le_refl _,fun i c h1 h2 h3 h4=>hh i c (by omega) h3 h4,fun p c h1 h2 h3 h4=>by omega⟩ fun t y ht hI=>?_) fun y hy=>?_
 ·obtain⟨r,d,rfl,t1,t2,hr,h⟩:=hI;have hd:=h.rp.len;refine Rn.lt (Rn.lt (Rn.lt ?_));have hr2:r≤200:=by omega
  have em:mulI .i64 2 (r:Int)=((2*r:Nat):Int):=by rw[Cf (by omega) (by omega)];omega
  have e1:addI .i64 ((2*r:Nat):Int) 1=((2*r+1:Nat):Int):=by rw[An (by omega) (by omega)];omega
  simp only;rw[em,e1];refine zB (fun hc=>Rn.some ⟨d,.inl rfl,h.stop fun c g1 g2=>?_⟩) fun hc=>?_
  ·have:=of_decide_eq_true (p:=((hi:Int)≤((2*r+1:Nat):Int))) hc;omega
  ·have hc1:2*r+1<hi:=by
    have:=of_decide_eq_false (p:=((hi:Int)≤((2*r+1:Nat):Int))) hc;omega
   refine Rn.bn (P:=fun y=>∃ c0:Nat,y=(c0:Int)∧(c0=2*r+1∨c0=2*r+2)∧c0<hi∧∀ c,(c=2*r+1∨c=2*r+2)→c<hi→ksI d (f+c)≤ksI d (f+c0)) ?_ fun y hy=>?_
   ·have e2:addI .i64 ((2*r+1:Nat):Int) 1=((2*r+2:Nat):Int):=by rw[An (by omega) (by omega)];omega
    rcases Nat.lt_or_ge (2*r+2) hi with g|g
    ·refine zC (v:=decide (ksI d (f+(2*r+1))<ksI d (f+(2*r+2)))) ?_ (Rn.lt (zB (fun hq=>?_) fun hq=>?_))
     ·simp only[Ay];have e3:addI .i64 (f:Int) ((2*r+1:Nat):Int)=((f+(2*r+1):Nat):Int):=by rw[An (by omega) (by omega)];omega
      have e4:addI .i64 ((f+(2*r+1):Nat):Int) 1=((f+(2*r+2):Nat):Int):=by rw[An (by omega) (by omega)];omega
      rw[e2,lt_t (by omega),AS,e3,e4,nthD (show f+(2*r+1)<d.length by omega) (0:Int)];simp only[Ar];rw[nthD (show f+(2*r+2)<d.length by omega) (0:Int)];simp only[Ar,cmpEI];rfl
     ·have hq':=of_decide_eq_true hq;rw[e2];refine Rn.lt (Rn.some ⟨2*r+2,rfl,.inr rfl,g,fun c g1 g2=>?_⟩);rcases g1 with rfl|rfl
      ·omega
      ·exact Int.le_refl _
     ·have hq':=of_decide_eq_false hq;refine Rn.some ⟨2*r+1,rfl,.inl rfl,hc1,fun c g1 g2=>?_⟩;rcases g1 with rfl|rfl
      ·exact Int.le_refl _
      ·omega
    ·refine zC (v:=false) ?_ (Rn.lt (zB (fun hq=>by simp at hq) fun _=>Rn.some ⟨2*r+1,rfl,.inl rfl,hc1,fun c g1 g2=>?_⟩))
     ·simp only[Ay];rw[e2,lt_f (by omega),A6]
     ·rcases g1 with rfl|rfl
      ·exact Int.le_refl _
      ·omega
   ·obtain⟨c0,rfl,k1,k2,k3⟩:=hy;have e5:addI .i64 (f:Int) (r:Int)=((f+r:Nat):Int):=by rw[An (by omega) (by omega)];omega
    have e6:addI .i64 (f:Int) (c0:Int)=((f+c0:Nat):Int):=by rw[An (by omega) (by omega)];omega
    have hfr:f+r<d.length:=by omega
    have hfc:f+c0<d.length:=by omega
    refine Rn.lt ?_;rw[e5,e6];refine zC (nthD hfr (0:Int)) (Rn.lt (zC (nthD hfc (0:Int)) ?_));simp only[cmpEI,Ar,CE,Ay];refine zB (fun hq=>Rn.some ⟨d,.inr rfl,h.stop fun c g1 g2=>?_⟩) fun hq=>?_
    ·have hq':¬ ksI d (f+r)<ksI d (f+c0):=of_decide_eq_true hq;have:=k3 c g1 g2;omega
    ·have hq':¬ ¬ ksI d (f+r)<ksI d (f+c0):=of_decide_eq_false hq;rw[Int.toNat_natCast,Int.toNat_natCast];refine zC (nthD (by simpa using hfc) (0:Int)) (Rn.some ⟨by omega,c0,_,rfl,by omega,by omega,.inl k2,h.step hb k1 k2 (by omega) k3⟩)
 ·obtain⟨d,h1,h2⟩:=hy;rcases h1 with rfl|rfl
  ·rw[Ed];exact Rn.some h2
  ·rw[BZ];exact Rn.some h2
theorem J3 {l:List Int} {a b:Nat} (hab:a<b) (hb:b≤l.length) (hl:l.length≤sortMost):Rn (Bp big l (a:Int) (b:Int)) fun r=>RP a b l r∧SortedI r a b:=by
 have hl':=hl;unfold sortMost at hl;unfold Bp;obtain⟨hi,rfl⟩:∃ hi,b=a+hi:=⟨b - a,by omega⟩;have e0:subI .i64 ((a+hi:Nat):Int) (a:Int)=(hi:Int):=by rw[Aq (by omega) (by omega)];omega
 have e1:subI .i64 (hi:Int) 1=(hi:Int) - 1:=Aq (by omega) (by omega);rw[e0];refine Rn.lt (Rn.lt ?_);rw[e1];refine zC (vquo (by omega) (by omega) (by omega)) ?_;refine Rn.bn (P:=fun d=>RP a (a+hi) l d∧HeapI d a 0 hi) (zG _ (fun t y=>∃ (k:Nat) (d:List Int),y=((k:Int) - 1,d)∧k+t=(hi - 1) / 2+1∧RP a (a+hi) l d∧HeapI d a k hi) hi (by unfold big;omega) ⟨(hi - 1) / 2+1,l,?_,by omega,RP.refl _ _ _,fun i c h1 h2 h3=>by omega⟩ fun t y ht hI=>?_) fun d hd=>?_
 ·refine Prod.ext ?_ rfl;simp only;omega
 ·obtain⟨k,d,rfl,hk,hr,hh⟩:=hI;have hd:=hr.len;refine Rn.lt (zB (fun hc=>?_) fun hc=>Rn.some ⟨hr,?_⟩)
  ·have hk1:1≤k:=by
    have:=of_decide_eq_true (p:=((0:Int)≤(k:Int) - 1)) hc;omega
   obtain⟨k,rfl⟩:∃ j,k=j+1:=⟨k - 1,by omega⟩;have e2:((k+1:Nat):Int) - 1=(k:Int):=by omega
   simp only;rw[e2];refine Rn.bn (H1 (by omega) (by omega) hh (by omega)) fun r hr2=>Rn.chk (by have:=hr2.1.len;simp[lenB,this]) (Rn.lt (Rn.some ⟨by omega,k,r,?_,by omega,hr.trans hr2.1,hr2.2⟩));rw[Aq (by omega) (by omega)]
  ·have:k=0:=by
    have:=of_decide_eq_false (p:=((0:Int)≤(k:Int) - 1)) hc;omega
   subst this;exact hh
 ·obtain⟨h1,h2⟩:=hd;refine Rn.lt ?_;refine Rn.bn (P:=fun d=>RP a (a+hi) l d∧SortedI d a (a+hi)) (zG _ (fun t y=>∃ (k:Nat) (d:List Int),y=((k:Int) - 1,d)∧k+t=hi∧RP a (a+hi) l d∧HeapI d a 0 k∧∀ p q,a≤p→p<q→a+k≤q→q<a+hi→ksI d p≤ksI d q) hi (by unfold big;omega) ⟨hi,d,rfl,by omega,h1,h2,fun p q g1 g2 g3 g4=>by omega⟩ fun t y ht hI=>?_) fun r hr=>Rn.some hr;obtain⟨k,d,rfl,hk,hr,hh,htop⟩:=hI;have hd:=hr.len;refine Rn.lt (zB (fun hc=>?_) fun hc=>Rn.some ⟨hr,fun p q g1 g2 g3=>?_⟩)
  ·have hk1:1≤k:=by
    have:=of_decide_eq_true (p:=((0:Int)≤(k:Int) - 1)) hc;omega
   obtain⟨k,rfl⟩:∃ j,k=j+1:=⟨k - 1,by omega⟩;have e2:((k+1:Nat):Int) - 1=(k:Int):=by omega
   have e3:addI .i64 (a:Int) (k:Int)=((a+k:Nat):Int):=by rw[An (by omega) (by omega)];omega
   simp only;rw[e2,e3];refine Rn.lt (swapI rfl rfl (show a<d.length by omega) (show a+k<d.length by omega) ?_);have hks:=El (d:=d) (i:=a) (j:=a+k) (by omega) (by omega);have hsw:=RP.swI (d:=d) (a:=a) (b:=a+hi) (i:=a) (j:=a+k) (by omega) (by omega) (by omega) (by omega);have hh1:HeapI (swI d a (a+k)) a (0+1) k:=fun i c g1 g2 g3=>by
    rw[hks,hks,if_neg (by omega),if_neg (by omega),if_neg (by omega),if_neg (by omega)];exact hh i c (Nat.zero_le _) g2 (by omega)
   have hl1:(swI d a (a+k)).length=d.length:=KO _ _ _;have hmax:=hh.max;generalize swI d a (a+k)=d1 at hks hsw hh1 hl1;refine Rn.bn (H1 (lo:=0) (by omega) (by omega) hh1 (by omega)) fun r hr2=>Rn.chk (by have:=hr2.1.len;simp[lenB,this]) (Rn.lt (Rn.some ⟨by omega,k,r,?_,by omega,(hr.trans hsw).trans (hr2.1.mono (Nat.le_refl _) (by omega)),hr2.2,fun p q g1 g2 g3 g4=>?_⟩))
   ·rw[Aq (by omega) (by omega)]
   ·have hq:ksI r q=ksI d1 q:=BQ (hr2.1.off q (.inr (by omega)))
    -- what stands at p is one of d's,not behind a+k,or p stays
    have hp:(∃ p',a≤p'∧p'<a+k∧ksI r p=ksI d1 p')∨(a+k≤p∧ksI r p=ksI d1 p):=by
     rcases Nat.lt_or_ge p (a+k) with h|h
     ·obtain⟨p',x1,x2,x3⟩:=hr2.1.seg (by omega) (by omega) g1 h;exact .inl ⟨p',x1,x2,BQ x3⟩
     ·exact .inr ⟨h,BQ (hr2.1.off p (.inr h))⟩
    rw[hq,hks,if_neg (show ¬ q=a by omega) |> fun e=>e];rcases Nat.eq_or_lt_of_le g3 with g5|g5
    ·subst g5;rw[if_pos rfl];rcases hp with ⟨p',x1,x2,x3⟩|⟨x1,x3⟩
     ·rw[x3,hks,if_neg (by omega)];split
      ·exact hmax k (by omega)
      ·obtain⟨j,rfl⟩:∃ j,p'=a+j:=⟨p' - a,by omega⟩;exact hmax j (by omega)
     ·omega
    ·rw[if_neg (by omega)];rcases hp with ⟨p',x1,x2,x3⟩|⟨x1,x3⟩
     ·rw[x3,hks,if_neg (by omega)];split
      ·exact htop (a+k) q (by omega) (by omega) (by omega) g4
      ·exact htop p' q x1 (by omega) (by omega) g4
     ·rw[x3,hks];split
      ·exact htop a q (by omega) (by omega) (by omega) g4
      ·rw[if_neg (by omega)];exact htop p q g1 g2 (by omega) g4
  ·have:k=0:=by
    have:=of_decide_eq_false (p:=((0:Int)≤(k:Int) - 1)) hc;omega
   subst this;exact htop p q g1 g2 (by omega) g3
theorem Jy {l:List Int} {a b:Nat} (hab:a+12<b) (hb:b≤l.length) (hl:l.length≤sortMost):Rn (Bf big l (a:Int) (b:Int)) fun r=>RP a b l r:=by
 unfold sortMost at hl;unfold Bf;obtain⟨n,rfl⟩:∃ n,b=a+n:=⟨b - a,by omega⟩;have e0:subI .i64 ((a+n:Nat):Int) (a:Int)=(n:Int):=by rw[Aq (by omega) (by omega)];omega
 rw[e0];refine Rn.lt (Rn.lt (zB (fun _=>?_) fun h=>?_))
 ·obtain⟨p,ep,p1,p2⟩:=Jt (n:=n) (by omega) (by omega);obtain⟨q,hq⟩:∃ q:Nat,(n:Int) / 4=(q:Int):=⟨n / 4,by omega⟩;have e1:mulI .i64 (q:Int) 2=((q*2:Nat):Int):=by rw[Cf (by omega) (by omega)];omega
  have e2:addI .i64 (a:Int) ((q*2:Nat):Int)=((a+q*2:Nat):Int):=by rw[An (by omega) (by omega)];omega
  have e3:subI .i64 ((a+q*2:Nat):Int) 1=((a+q*2 - 1:Nat):Int):=by rw[Aq (by omega) (by omega)];omega
  have e4:addI .i64 ((a+q*2:Nat):Int) 1=((a+q*2+1:Nat):Int):=by rw[An (by omega) (by omega)];omega
  have eq4:quoI .i64 (n:Int) 4=some (q:Int):=by rw[vquo (by omega) (by omega) (by omega),hq]
  refine Rn.lt (zC ep ?_);rw[eq4];refine zC rfl (Rn.lt (Rn.lt (Rn.lt ?_)));rw[e1,e2,e3];refine Rn.bn (P:=fun r=>RP a (a+n) l r) (zG _ (fun t y=>∃ (i:Nat) (d:List Int) (r:Int),y=((i:Int),d,r)∧i=a+q*2 - 1+t∧RP a (a+n) l d) 3 (by unfold big;omega) ⟨a+q*2 - 1,l,_,rfl,by omega,RP.refl _ _ _⟩ fun t y ht hI=>?_) fun r hr=>Rn.some hr;obtain⟨i,d,r,rfl,hi,hr⟩:=hI;have hd:=hr.len;refine zC rfl (Rn.lt ?_);rw[e1];refine Rn.lt ?_;rw[e2];refine Rn.lt ?_;rw[e4];refine Rn.lt (zB (fun hc=>?_) fun _=>Rn.some hr);have hi2:i≤a+q*2+1:=by
   have:=of_decide_eq_true (p:=((i:Int)≤((a+q*2+1:Nat):Int))) hc;omega
  obtain⟨x,y,exy⟩:=G3 r;refine zC exy (Rn.lt (Rn.lt (Rn.lt ?_)));have e5:subI .u64 (p:Int) 1=(p:Int) - 1:=wrapU (by omega) (by omega);rw[e5];obtain⟨g1,g2⟩:=Ju x ((p:Int) - 1) (by omega) (by omega);simp only;generalize andI .u64 x ((p:Int) - 1)=w at g1 g2;rw[Gn (by omega) (by omega)];refine Rn.bn (P:=fun o=>∃ k:Nat,o=(k:Int)∧k<n) (Rn.lt (zB (fun h=>Rn.lt (Rn.some ?_)) fun h=>Rn.some ?_)) fun o ho=>?_
  ·have:=of_decide_eq_true (p:=((n:Int)≤w)) h;rw[Aq (by omega) (by omega)];exact⟨(w - n).toNat,by omega,by omega⟩
  ·have:=of_decide_eq_false (p:=((n:Int)≤w)) h;exact⟨w.toNat,by omega,by omega⟩
  ·obtain⟨k,rfl,hk⟩:=ho;refine Rn.lt ?_;have e6:addI .i64 (a:Int) (k:Int)=((a+k:Nat):Int):=by rw[An (by omega) (by omega)];omega
   rw[e6];refine swapI rfl rfl (show i<d.length by omega) (show a+k<d.length by omega) (Rn.lt (Rn.some ⟨by omega,i+1,swI d i (a+k),y,?_,by omega,hr.trans (RP.swI (by omega) (by omega) (by omega) (by omega))⟩));rw[An (by omega) (by omega)];rfl
 ·have:=of_decide_eq_false (p:=((8:Int)≤(n:Int))) h;omega
def PreI (d:List Int) (a b:Nat):Prop:=0<a→∀ i,a≤i→i<b→ksI d (a - 1)≤ksI d i
def SepI (d:List Int) (a b a' b':Nat):Prop:=∀ p q,a≤p→p<q→q<b→(p<a'∨b'≤q)→ksI d p≤ksI d q
theorem PreI.keep {d r:List Int} {a b:Nat} (h:PreI d a b) (hr:RP a b d r) (hab:a≤b) (hb:b≤d.length):PreI r a b:=by
 intro h0 i h1 h2;obtain⟨j,x1,x2,x3⟩:=hr.seg hab hb h1 h2;rw[BQ x3,BQ (hr.off (a - 1) (.inl (by omega)))];exact h h0 j x1 x2
theorem SepI.keep {d r:List Int} {a b a' b':Nat} (h:SepI d a b a' b') (hr:RP a' b' d r) (h1:a≤a') (h2:a'≤b') (h3:b'≤b) (hb:b≤d.length):SepI r a b a' b':=by
 intro p q g1 g2 g3 g4;have key:∀ i,∃ j,ksI r i=ksI d j∧((i<a'∧j=i)∨(b'≤i∧j=i)∨(a'≤i∧i<b'∧a'≤j∧j<b')):=by
  intro i;rcases Nat.lt_or_ge i a' with x|x
  ·exact⟨i,BQ (hr.off i (.inl x)),.inl ⟨x,rfl⟩⟩
  ·rcases Nat.lt_or_ge i b' with y|y
   ·obtain⟨j,x1,x2,x3⟩:=hr.seg h2 (by omega) x y;exact⟨j,BQ x3,.inr (.inr ⟨x,y,x1,x2⟩)⟩
   ·exact⟨i,BQ (hr.off i (.inr y)),.inr (.inl ⟨y,rfl⟩)⟩
 obtain⟨p',e1,f1⟩:=key p;obtain⟨q',e2,f2⟩:=key q;rw[e1,e2];exact h p' q' (by omega) (by omega) (by omega) (by omega)
theorem SepI.done {r:List Int} {a b a' b':Nat} (h:SepI r a b a' b') (hs:SortedI r a' b'):SortedI r a b:=by
 intro p q g1 g2 g3;rcases Decidable.em (p<a'∨b'≤q) with x|x
 ·exact h p q g1 g2 g3 x
 ·exact hs p q (by omega) g2 (by omega)
theorem KQ:∀ (m:Nat) {l:List Int} {a b:Nat} {lim:Int},b - a<m→a≤b→b≤l.length→l.length≤sortMost→PreI l a b→0≤lim→lim≤1000→Rn (AR big m l (a:Int) (b:Int) lim) fun r=>RP a b l r∧SortedI r a b:=by
 intro m;induction m with
 |zero=>intro l a b lim h;omega
 |succ m ih =>
  intro l a b lim hm hab hb hl hpre hl0 hl1;have hl':=hl;unfold sortMost at hl;rw[AR];refine Rn.bn (P:=fun r=>RP a b l r∧SortedI r a b) (zG _ (fun t y=>∃ (a' b':Nat) (lim':Int) (bal part:Bool) (d:List Int),y=((a':Int),(b':Int),lim',bal,part,d)∧a≤a'∧a'≤b'∧b'≤b∧t+(b' - a')≤b - a∧RP a b l d∧SepI d a b a' b'∧PreI d a' b'∧0≤lim'∧lim'≤1000) (b - a) (by unfold big;omega)
   ⟨a,b,lim,true,true,l,rfl,Nat.le_refl _,hab,Nat.le_refl _,by omega,RP.refl _ _ _,fun p q h1 h2 h3 h4=>by omega,hpre,hl0,hl1⟩ fun t y ht hI=>?_) fun r hr=>Rn.some hr
  obtain⟨a',b',lim',bal,part,d,rfl,i1,i2,i3,i4,hr,hsep,hp,hm0,hm1⟩:=hI;have hd:=hr.len
  -- what is sorted within is sorted
  have hdone:∀ r,RP a' b' d r→SortedI r a' b'→RP a b l r∧SortedI r a b:=fun r h1 h2 =>
   ⟨hr.trans (h1.mono i1 i3),(hsep.keep h1 i1 i2 i3 (by omega)).done h2⟩
  refine Rn.lt (Rn.lt ?_);have e0:subI .i64 (b':Int) (a':Int)=((b' - a':Nat):Int):=by rw[Aq (by omega) (by omega)];omega
  simp only;rw[e0];refine zB (fun hc=>?_) fun hc=>?_
  ·refine Rn.bn (KP i2 (by omega) (by omega)) fun r hr2=>Rn.chk (by have:=hr2.1.len;simp[lenB,this]) (Rn.some (hdone r hr2.1 hr2.2))
  have hlong:a'+12<b':=by
   have:=of_decide_eq_false (p:=(((b' - a':Nat):Int)≤12)) hc;omega
  refine Rn.lt (zB (fun hz=>?_) fun hz=>?_)
  ·refine Rn.bn (J3 (by omega) (by omega) (by omega)) fun r hr2=>Rn.chk (by have:=hr2.1.len;simp[lenB,this]) (Rn.some (hdone r hr2.1 hr2.2))
  have hlim:lim'≠0:=of_decide_eq_false (p:=lim'=0) hz;refine Rn.bn (P:=fun y=>(0≤y.1∧y.1≤1000)∧RP a' b' d y.2) ?_ fun y hy=>?_
  ·refine Rn.lt (zB (fun _=>?_) fun _=>Rn.some ⟨⟨hm0,hm1⟩,RP.refl _ _ _⟩);refine Rn.bn (Jy hlong (by omega) (by omega)) fun r hr2=>Rn.chk (by have:=hr2.len;simp[lenB,this]) (Rn.lt (Rn.some ⟨?_,hr2⟩));rw[Aq (by omega) (by omega)];exact⟨by omega,by omega⟩
  obtain⟨lim2,d1⟩:=y;obtain⟨⟨hm2,hm3⟩,hr1⟩:=hy;simp only at hm2 hm3 hr1;have hd1:=hr1.len;refine Rn.bn (I1 (l:=d1) hlong (by omega) (by omega)) fun v hv=>?_;obtain⟨v1,v2,v3⟩:=v;obtain⟨⟨k,hk,hk1,hk2⟩,hv3⟩:=hv;simp only at hk hv3;subst v3 v1;refine Rn.chk (by simp[lenB]) ?_;refine Rn.bn (P:=fun y=>(∃ k:Nat,y.1=(k:Int)∧a'≤k∧k<b')∧RP a' b' d y.2.2) ?_ fun y hy=>?_
  ·refine Rn.lt (zB (fun _=>?_) fun _=>Rn.some ⟨⟨k,rfl,hk1,hk2⟩,hr1⟩);refine Rn.bn (Ik (l:=d1) (by omega) (by omega) (by omega)) fun r hr2=>Rn.chk (by have:=hr2.len;simp[lenB,this]) (Rn.lt (Rn.lt (Rn.lt (Rn.some ⟨⟨b' - 1 - (k - a'),?_,by omega,by omega⟩,hr1.trans hr2⟩))));simp only;rw[Aq (a:=(b':Int)) (by omega) (by omega),Aq (a:=(k:Int)) (by omega) (by omega),Aq (by omega) (by omega)];omega
  obtain⟨y1,y2,d2⟩:=y;obtain⟨⟨k2,hk,hk1,hk2⟩,hr2⟩:=hy;simp only at hk hr2;subst y1;have hd2:=hr2.len;refine Rn.bn (P:=fun y=>(∃ c e r,y=.inl (c,e,r)∧RP a' b' d r)∨∃ r,y=.inr r∧RP a' b' d r∧SortedI r a' b') ?_ fun y hy=>?_
  ·refine Rn.bn (P:=fun _=>True) ?_ fun w _=>?_
   ·refine Rn.lt (zB (fun _=>Rn.lt (zB (fun _=>Rn.lt (Rn.some trivial)) fun _=>Rn.some trivial)) fun _=>Rn.some trivial)
   ·refine Rn.lt (zB (fun _=>?_) fun _=>Rn.some (.inl ⟨_,_,d2,rfl,hr2⟩));refine Rn.bn (Il (l:=d2) (by omega) (by omega) (by omega)) fun r hr3=>?_;obtain⟨r1,r2⟩:=r;obtain⟨g1,g2⟩:=hr3;simp only at g1 g2;subst r2;refine Rn.chk (by simp[lenB]) (Rn.lt (zB (fun h=>Rn.some (.inr ⟨d2,rfl,hr2,g2 h⟩)) fun _=>Rn.some (.inl ⟨_,_,d2,rfl,hr2⟩)))
  rcases hy with ⟨c,e,d3,rfl,hr3⟩|⟨r,rfl,hr3,hs3⟩
  rotate_left
  ·rw[BZ];exact Rn.some (hdone r hr3 hs3)
  rw[Ed];have hd3:=hr3.len;have hsep3:=hsep.keep hr3 i1 i2 i3 (by omega);have hp3:=hp.keep hr3 i2 (by omega);have hrl3:=hr.trans (hr3.mono i1 i3);refine Rn.bn (P:=fun c=>c=decide (0<a'∧¬ ksI d3 (a' - 1)<ksI d3 k2)) ?_ fun q hq=>?_
  ·refine Rn.lt (zB (fun h=>?_) fun h=>Rn.some ?_)
   ·have h0:0<a':=by
     have:=of_decide_eq_true (p:=((0:Int)<(a':Int))) h;omega
    have e1:subI .i64 (a':Int) 1=((a' - 1:Nat):Int):=by rw[Aq (by omega) (by omega)];omega
    refine Rn.lt ?_;rw[e1];refine zC (nthD (show a' - 1<d3.length by omega) (0:Int)) (zC (nthD (show k2<d3.length by omega) (0:Int)) ?_);simp only[cmpEI,Ar,Ay,CE];refine Rn.some ?_;simp only[h0,true_and];rfl
   ·have h0:¬ 0<a':=by
     have:=of_decide_eq_false (p:=((0:Int)<(a':Int))) h;omega
    simp[h0]
  subst hq;refine Rn.lt (zB (fun h=>?_) fun h=>?_)
  ·obtain⟨h0,hK⟩:=of_decide_eq_true h;refine Rn.bn (I2 (l:=d3) hk1 hk2 (by omega) (by omega)) fun r hr4=>?_;obtain⟨r1,r2⟩:=r;obtain⟨md,g0,g1,g2,g3,g4,g5⟩:=hr4;simp only at g0 g3 g4 g5;subst r1;refine Rn.chk (by have:=g3.len;simp[lenB,this]) (Rn.some ⟨by omega,md,b',lim2,c,e,r2,rfl,by omega,g2,i3,by omega,hrl3.trans (g3.mono i1 i3),?_,?_,hm2,hm3⟩)
   ·have hs4:=hsep3.keep g3 i1 i2 i3 (by omega);have hp4:=hp3.keep g3 i2 (by omega);have hK2:ksI d3 k2≤ksI r2 (a' - 1):=by
     rw[BQ (g3.off (a' - 1) (.inl (by omega)))];omega
    intro p q x1 x2 x3 x4;rcases Decidable.em (p<a'∨b'≤q) with x5|x5
    ·exact hs4 p q x1 x2 x3 x5
    ·have z1:=g4 p (by omega) (by omega);rcases Nat.lt_or_ge q md with x6|x6
     ·have z2:=hp4 h0 q (by omega) (by omega);omega
     ·have z2:=g5 q x6 (by omega);omega
   ·intro _ i x1 x2;have z1:=g4 (md - 1) (by omega) (by omega);have z2:=g5 i x1 x2;omega
  ·refine Rn.bn (J2 (l:=d3) hk1 hk2 (by omega) (by omega)) fun r hr4=>?_;obtain⟨r1,r2,r4⟩:=r;obtain⟨md,g0,g1,g2,g3,g4,g5,g6⟩:=hr4;simp only at g0 g3 g4 g5 g6;subst r1;have hd4:=g3.len;have hs4:=hsep3.keep g3 i1 i2 i3 (by omega);have hp4:=hp3.keep g3 i2 (by omega);generalize ksI d3 k2=K at g4 g5 g6;have e3:addI .i64 (md:Int) 1=((md+1:Nat):Int):=by rw[An (by omega) (by omega)];omega
   refine Rn.chk (by simp[lenB,hd4]) (Rn.lt (Rn.lt (zC (vquo (by omega) (by omega) (by omega)) (Rn.lt (zB (fun _=>Rn.lt ?_) fun _=>Rn.lt (Rn.lt ?_))))))
   ·refine Rn.bn (ih (l:=r4) (a:=a') (b:=md) (by omega) g1 (by omega) (by omega) (fun h0 i x1 x2=>hp4 h0 i x1 (by omega)) hm2 hm3) fun r hr5=>?_;obtain⟨q1,q2⟩:=hr5;have hd5:=q1.len;refine Rn.chk (by simp[lenB,hd5]) (Rn.lt ?_);rw[e3];refine Rn.some ⟨by omega,md+1,b',lim2,_,_,r,rfl,by omega,by omega,i3,by omega,(hrl3.trans (g3.mono i1 i3)).trans (q1.mono i1 (by omega)),?_,?_,hm2,hm3⟩
    ·have hs5:=hs4.keep (q1.mono (Nat.le_refl _) (by omega)) i1 i2 i3 (by omega);intro p q x1 x2 x3 x4;rcases Decidable.em (p<a'∨b'≤q) with x5|x5
     ·exact hs5 p q x1 x2 x3 x5
     ·have hge:∀ i,md<i→i<b'→K≤ksI r i:=fun i y1 y2=>by
       rw[BQ (q1.off i (.inr (by omega)))];exact g6 i y1 y2
      have hmd:ksI r md=K:=by rw[BQ (q1.off md (.inr (Nat.le_refl _)))];exact g4
      rcases Nat.lt_or_ge p md with x6|x6
      ·obtain⟨j,y1,y2,y3⟩:=q1.seg g1 (by omega) (show a'≤p by omega) x6;have z1:=g5 j y1 y2;rw[← BQ y3] at z1;rcases Nat.lt_trichotomy q md with x7|x7|x7
       ·exact q2 p q (by omega) x2 x7
       ·subst x7;omega
       ·have:=hge q x7 (by omega);omega
      ·have:p=md:=by omega
       subst this;have:=hge q x2 (by omega);omega
    ·intro _ i x1 x2;show ksI r md≤_;rw[BQ (q1.off md (.inr (Nat.le_refl _))),BQ (q1.off i (.inr (by omega))),g4];exact g6 i (by omega) x2
   ·rw[e3];refine Rn.bn (ih (l:=r4) (a:=md+1) (b:=b') (by omega) (by omega) (by omega) (by omega) (fun h0 i x1 x2=>by show ksI r4 md≤_;rw[g4];exact g6 i (by omega) x2) hm2 hm3) fun r hr5=>?_;obtain⟨q1,q2⟩:=hr5;have hd5:=q1.len;refine Rn.chk (by simp[lenB,hd5]) ?_;refine Rn.some ⟨by omega,a',md,lim2,_,_,r,rfl,i1,g1,by omega,by omega,(hrl3.trans (g3.mono i1 i3)).trans (q1.mono (by omega) i3),?_,?_,hm2,hm3⟩
    ·have hs5:=hs4.keep (q1.mono (by omega) (Nat.le_refl _)) i1 i2 i3 (by omega);intro p q x1 x2 x3 x4;rcases Decidable.em (p<a'∨b'≤q) with x5|x5
     ·exact hs5 p q x1 x2 x3 x5
     ·have hmd:ksI r md=K:=by rw[BQ (q1.off md (.inl (by omega)))];exact g4
      have hge:∀ i,md<i→i<b'→K≤ksI r i:=fun i y1 y2=>by
       obtain⟨j,z1,z2,z3⟩:=q1.seg (by omega) (by omega) (show md+1≤i by omega) y2;rw[BQ z3];exact g6 j (by omega) z2
      have hle:∀ i,a'≤i→i<md→ksI r i<K:=fun i y1 y2=>by
       rw[BQ (q1.off i (.inl (by omega)))];exact g5 i y1 y2
      rcases Nat.lt_trichotomy p md with x6|x6|x6
      ·have z1:=hle p (by omega) x6;rcases Nat.eq_or_lt_of_le (show md≤q by omega) with x7|x7
       ·subst x7;omega
       ·have:=hge q x7 (by omega);omega
      ·subst x6;have:=hge q x2 (by omega);omega
      ·exact q2 p q (by omega) x2 (by omega)
    ·intro h0 i x1 x2;rw[BQ (q1.off (a' - 1) (.inl (by omega))),BQ (q1.off i (.inl (by omega)))];exact hp4 h0 i x1 (by omega)
--MORE
end Go.Proofs.Ytenemndpignaoaa
namespace Go.Proofs.Ytenemndpignaoaa
open Go Go.RowKit
def cntP (p:Int→Prop) [DecidablePred p]:Nat:=(List.range 16384).countP fun k:Nat=>decide (p (k:Int))
theorem H2 (p q:Int→Prop) [DecidablePred p] [DecidablePred q] (h:∀ s,p s→¬ q s):cntP (fun s=>p s∨q s)=cntP p+cntP q:=by
 unfold cntP;have:∀ l:List Nat,l.countP (fun k:Nat=>decide (p (k:Int)∨q (k:Int)))=l.countP (fun k:Nat=>decide (p (k:Int)))+l.countP fun k:Nat=>decide (q (k:Int)):=by
  intro l;induction l with
  |nil=>rfl
  |cons x l ih =>
   rw[List.countP_cons,List.countP_cons,List.countP_cons,ih];by_cases h1:p (x:Int)
   ·simp[h1,h _ h1];omega
   ·by_cases h2:q (x:Int) <;> simp[h1,h2]
    omega
 exact this _
theorem Dk (p q:Int→Prop) [DecidablePred p] [DecidablePred q] (h:∀ s,p s↔q s):cntP p=cntP q:=by
 unfold cntP;congr 1
 funext k
 exact decide_eq_decide.2 (h _)
theorem E8 (p:Int→Prop) [DecidablePred p] (h:∀ s,¬ p s):cntP p=0:=by
 unfold cntP;rw[List.countP_eq_zero];intro a _;simp[h]
theorem F5 {a b:Nat} (h1:a≤b) (h2:b<16384):cntP (fun s=>(a:Int)≤s∧s≤(b:Int))=b - a+1:=by
 unfold cntP;have:∀ n,(List.range n).countP (fun k:Nat=>decide ((a:Int)≤(k:Int)∧(k:Int)≤(b:Int)))=min n (b+1) - min n a:=by
  intro n;induction n with
  |zero=>simp
  |succ n ih =>
   rw[List.range_succ,List.countP_append,ih,List.countP_singleton];split
   ·rename_i h
    have:=of_decide_eq_true h;omega
   ·rename_i h
    have:¬ ((a:Int)≤(n:Int)∧(n:Int)≤(b:Int)):=fun h'=>h (decide_eq_true h');omega
 rw[this];omega
def sumS (l:List Span):Int:=(l.map fun x=>x.to - x.frm+1).sum
theorem IC:∀ {l:List Span},canP (l.map sP)→(∀ x∈l,0≤x.frm∧x.frm≤x.to∧x.to≤16383)→sumS l=(cntP (fun s=>∃ x∈l,x.frm≤s∧s≤x.to):Nat)
 |[],_,_=>by
  rw[E8 _ (by simp)];rfl
 |x::l,hc,hr=>by
  have hx:=hr x (by simp);have ih:=IC (l:=l) (canP.tail (p:=sP x) hc) fun y hy=>hr y (by simp[hy]);have hlt:∀ y∈l,x.to<y.frm:=fun y hy=>canP.lt (p:=sP x) hc (sP y) (List.mem_map_of_mem hy);rw[Dk _ (fun s=>(x.frm≤s∧s≤x.to)∨∃ y∈l,y.frm≤s∧s≤y.to) (fun s=>by simp),H2 _ _ (fun s h1 h2=>by
   obtain⟨y,hy,h3⟩:=h2;have:=hlt y hy;omega)]
  have e:=F5 (a:=x.frm.toNat) (b:=x.to.toNat) (by omega) (by omega);rw[Dk _ (fun s=>x.frm≤s∧s≤x.to) (fun s=>by omega)] at e;rw[e];simp only[sumS,List.map_cons,List.sum_cons] at ih ⊢;omega
theorem SaysS.cnt {l:List Span} {p:Int→Prop} [DecidablePred p] (h:SaysS l p) (hp:∀ s,p s→0≤s∧s≤16383):sumS l=(cntP p:Nat):=by
 rw[IC h.1 (h.rng hp),Dk _ p h.iff]
theorem normRT:@BY=@BY:=rfl
theorem H3 {l:List Span} (hl:l.length≤10000):Rn (BY big l) fun r=>SaysS r (inS l)∧r.length≤2+2*l.length:=IA hl
theorem J4 {l:List Span} (hl:l.length≤10000):Rn (CZ big l) fun n=>n=(cntP (inS l):Nat):=by
 unfold CZ;refine Rn.bn (H3 hl) fun v hv=>?_;obtain⟨h1,h2⟩:=hv;have hr:=h1.rng Cm;rw[← h1.cnt Cm];refine Rn.bn (P:=fun n=>n=sumS v) (zG _ (fun j y=>y=(sumS (v.take j),(j:Int))∧0≤sumS (v.take j)∧sumS (v.take j)≤16384*j) v.length (by unfold big;omega) ⟨rfl,by simp[sumS],by simp[sumS]⟩ fun j y hj hI=>?_) fun n h=>Rn.some h;obtain⟨rfl,b1,b2⟩:=hI;refine Rn.lt (Rn.lt (zB (fun hd=>?_) fun hd=>?_))
 ·have hjl:j<v.length:=by
   have:=of_decide_eq_true (p:=((j:Int)<(v.length:Int))) hd;omega
  have hx:=hr _ (List.getElem_mem hjl);have es:sumS (v.take (j+1))=sumS (v.take j)+(v[j].to - v[j].frm+1):=by
   unfold sumS;rw[← List.take_append_getElem hjl,List.map_append,List.sum_append];simp
  refine zC (AM hjl) (Rn.lt (Rn.lt (Rn.lt (Rn.lt (Rn.some ⟨hjl,?_,by rw[es];omega,by rw[es];omega⟩)))));simp only[];rw[es,An (a:=sumS (v.take j)) (by omega) (by omega),Aq (a:=sumS (v.take j)+v[j].to) (by omega) (by omega),An (a:=sumS (v.take j)+v[j].to - v[j].frm) (by omega) (by omega),An (show -9223372036854775808≤(j:Int)+1 by omega) (by omega)];refine Prod.ext ?_ rfl;simp only;omega
 ·have hjl:j=v.length:=by
   have:=of_decide_eq_false (p:=((j:Int)<(v.length:Int))) hd;omega
  subst hjl;exact Rn.some (by show sumS _=_;rw[List.take_length])
theorem Lj:∀ {a b:Span},sP a=sP b→a=b:=by
 intro a b h;obtain⟨a1,a2⟩:=a;obtain⟨b1,b2⟩:=b;simp[sP] at h;obtain⟨h1,h2⟩:=h;subst h1 h2;rfl
theorem SaysS.ext {l m:List Span} {p q:Int→Prop} [DecidablePred p] [DecidablePred q] (hl:SaysS l p) (hm:SaysS m q) (h:∀ s,p s↔q s):l=m :=
 GI (f:=sP) Lj (FinP.ext hl hm fun s=>by unfold fS;simp only[h s])
theorem EN (x:Int):∀ l:List Int,x∈compL l↔x∈l
 |[]=>by simp[compL]
 |[a]=>by simp[compL]
 |a::b::t=>by
  have ih:=EN x (b::t);simp only[compL];split
  ·rename_i h
   subst h;rw[ih];simp
  ·rw[List.mem_cons,ih,List.mem_cons (a:=x) (b:=a)]
theorem ES:∀ {l:List Int},l.Pairwise (·≤·)→(compL l).Pairwise (·<·)
 |[],_=>List.Pairwise.nil
 |[a],_=>List.pairwise_singleton _ _
 |a::b::t,h=>by
  have ih:=ES (l:=b::t) (List.pairwise_cons.1 h).2;simp only[compL];split
  ·exact ih
  ·rename_i hne
   refine List.pairwise_cons.2 ⟨fun x hx=>?_,ih⟩;have hab:=(List.pairwise_cons.1 h).1 b (by simp);rcases List.mem_cons.1 ((EN x (b::t)).1 hx) with rfl|hx2
   ·omega
   ·have:=(List.pairwise_cons.1 (List.pairwise_cons.1 h).2).1 x hx2;omega
theorem J5 {l:List Int} (hl:l.length≤sortMost):Rn (B4 big l) fun r=>r.Perm l∧r.Pairwise (·≤·):=by
 unfold B4;refine Rn.lt (Rn.lt ?_);obtain⟨v,ev,v0,v1,-⟩:=Jw (n:=l.length) (by unfold sortMost at hl;omega);refine zC ev (Rn.bn (P:=fun r=>RP 0 l.length l r∧SortedI r 0 l.length) ?_ fun r hr=>Rn.chk (by simp[lenB,hr.1.len]) (Rn.some ⟨hr.1.perm,?_⟩))
 ·exact KQ big (l:=l) (a:=0) (b:=l.length) (lim:=v) (by unfold big;unfold sortMost at hl;omega) (Nat.zero_le _) (Nat.le_refl _) hl (fun h=>by omega) v0 v1
 ·have h2:=hr.2;rw[← hr.1.len] at h2;refine List.pairwise_iff_getElem.2 fun i j hi hj hij=>?_;have:=h2 i j (Nat.zero_le _) hij hj;unfold ksI keyI at this;rw[List.getD_eq_getElem?_getD,List.getD_eq_getElem?_getD,List.getElem?_eq_getElem hi,List.getElem?_eq_getElem hj] at this;exact this
def clmP (f:Int→Option (Int×Int)) (s:Int):Prop:=(f s).isSome=true
instance (f:Int→Option (Int×Int)) (s:Int):Decidable (clmP f s):=by unfold clmP;infer_instance
def ownU (f:Int→Option (Int×Int)) (n:Nat) (s:Int):Prop:=∃ i:Nat,i<n∧ownP f (i:Int) s
instance (f:Int→Option (Int×Int)) (n:Nat) (s:Int):Decidable (ownU f n s) :=
 decidable_of_iff (∃ i∈List.range n,ownP f (i:Int) s) ⟨fun ⟨i,h1,h2⟩=>⟨i,List.mem_range.1 h1,h2⟩,fun ⟨i,h1,h2⟩=>⟨i,List.mem_range.2 h1,h2⟩⟩
end Go.Proofs.Ytenemndpignaoaa
namespace Go.Proofs.Ytenemndpignaoaa
open Go Go.RowKit
def badC (c:Claim):Prop:=c.frm<0∨c.to<c.frm∨16383<c.to∨c.node<0∨8≤c.node∨c.epoch<1∨9007199254740992<c.epoch
instance (c:Claim):Decidable (badC c):=by unfold badC;infer_instance
def bad2 (b c:Claim):Prop:=c.frm≤b.to∨(b.to+1=c.frm∧(b.node,b.epoch)=(c.node,c.epoch))
instance (b c:Claim):Decidable (bad2 b c):=by unfold bad2;infer_instance
def prevBad (l:List Claim) (j:Nat):Prop:=∃ (h0:0<j) (h:j<l.length),bad2 (l[j - 1]'(by omega)) l[j]
noncomputable instance (l:List Claim) (j:Nat):Decidable (prevBad l j):=Classical.propDecidable _
def MayC (l:List Claim):Prop:=(∀ c∈l,¬ badC c)∧∀ (i:Nat) (b c:Claim),l[i]?=some b→l[i+1]?=some c→¬ bad2 b c
theorem MayC.good {l:List Claim} (h:MayC l):GoodC l:=by
 refine⟨?_,fun c hc=>?_⟩
 ·have:∀ l:List Claim,MayC l→canP (l.map cP):=by
   intro l;induction l with
   |nil=>intro _;trivial
   |cons b l ih =>
    intro h;have hb:=h.1 b (by simp);unfold badC at hb;have ih':=ih ⟨fun c hc=>h.1 c (by simp[hc]),fun i x y h1 h2=>h.2 (i+1) x y h1 h2⟩;cases l with
    |nil =>
     show b.frm≤b.to;omega
    |cons c l =>
     have h2:=h.2 0 b c rfl rfl;unfold bad2 at h2;refine⟨?_,?_,?_,ih'⟩
     ·show b.frm≤b.to;omega
     ·show b.to<c.frm;omega
     ·intro hc;exact h2 (.inr hc)
  exact this l h
 ·have:=h.1 c hc;unfold badC at this;omega
theorem I3 {l:List Claim} {nd:Int} (hl:GoodC l) (h200:l.length≤200):Rn (Cz big l nd) fun r=>SaysS r (ownP (fC l) nd):=by
 unfold Cz;refine Rn.bn (P:=fun r=>r.length≤l.length∧∀ t,(∃ x∈r,x.frm≤t∧t≤x.to)↔∃ c∈l,(c.frm≤t∧t≤c.to)∧c.node=nd) (zG _ (fun j y=>∃ r:List Span,y=((j:Int),r)∧r.length≤j∧∀ t,(∃ x∈r,x.frm≤t∧t≤x.to)↔∃ c∈l.take j,(c.frm≤t∧t≤c.to)∧c.node=nd) l.length (by unfold big;omega) ⟨[],rfl,by simp,by simp⟩ fun j y hj hI=>?_) fun r hr=>?_
 ·obtain⟨r,rfl,r2,r4⟩:=hI;refine Rn.lt (Rn.lt (zB (fun hd=>?_) fun hd=>?_))
  ·have hjl:j<l.length:=by
    have:=of_decide_eq_true (p:=((j:Int)<(l.length:Int))) hd;omega
   have hnth:=AM hjl;have htk:l.take (j+1)=l.take j++[l[j]]:=(List.take_append_getElem hjl).symm;generalize l[j]=c at hnth htk;refine Rn.bn (P:=fun r'=>r'.length≤j+1∧∀ t,(∃ x∈r',x.frm≤t∧t≤x.to)↔∃ c∈l.take (j+1),(c.frm≤t∧t≤c.to)∧c.node=nd) ?_ fun r' hr'=>Rn.lt (Rn.some ⟨hjl,r',?_,hr'⟩)
   ·refine zC hnth (Rn.lt (zB (fun hc=>Rn.chk (by simp[room];omega) (Rn.lt (Rn.some ⟨by simp;omega,fun t=>?_⟩))) fun hc=>Rn.some ⟨Nat.le_succ_of_le r2,fun t=>?_⟩))
    ·have hn:c.node=nd:=of_decide_eq_true hc;rw[htk];constructor
     ·rintro⟨x,hx,h⟩;rcases List.mem_append.1 hx with hx|hx
      ·obtain⟨y,hy,h2⟩:=(r4 t).1 ⟨x,hx,h⟩;exact⟨y,by simp[hy],h2⟩
      ·simp at hx;subst hx;exact⟨c,by simp,h,hn⟩
     ·rintro⟨y,hy,h,h2⟩;rcases List.mem_append.1 hy with hy|hy
      ·obtain⟨x,hx,h3⟩:=(r4 t).2 ⟨y,hy,h,h2⟩;exact⟨x,by simp[hx],h3⟩
      ·simp at hy;subst hy;exact⟨⟨y.frm,y.to⟩,by simp,h⟩
    ·have hn:c.node≠nd:=of_decide_eq_false hc;rw[r4 t,htk];constructor
     ·rintro⟨y,hy,h⟩;exact⟨y,by simp[hy],h⟩
     ·rintro⟨y,hy,h,h2⟩;rcases List.mem_append.1 hy with hy|hy
      ·exact⟨y,hy,h,h2⟩
      ·simp at hy;subst hy;exact absurd h2 hn
   ·rw[An (by first|omega|(simp only;omega)) (by first|omega|(simp only;omega))];rfl
  ·have hjl:j=l.length:=by
    have:=of_decide_eq_false (p:=((j:Int)<(l.length:Int))) hd;omega
   subst hjl;rw[List.take_length] at r4;exact Rn.some ⟨r2,r4⟩
 ·obtain⟨r2,r3⟩:=hr;refine Rn.chk (by simp[room];omega) ?_;rw[normRT];refine Rn.bn (H3 (by omega)) fun v hv=>Rn.some ?_;refine SaysS.of hv.1.1 fun t=>?_;rw[hv.1.iff];unfold inS ownP;rw[r3 t];constructor
  ·rintro⟨h1,c,hc,h2,h3⟩;rw[(hl.iff t _).2 ⟨c,hc,h2,rfl⟩,← h3];rfl
  ·intro h;cases hf:fC l t with
   |none=>rw[hf] at h;simp at h
   |some w =>
    rw[hf] at h;obtain⟨c,hc,h2,rfl⟩:=(hl.iff t w).1 hf;have:=(hl.tells t _ hf).1;exact⟨by omega,c,hc,h2,by simpa using h⟩
theorem G6:∀ {l m:List Int},l.Pairwise (·<·)→m.Pairwise (·<·)→(∀ x,x∈l↔x∈m)→l=m
 |[],[],_,_,_=>rfl
 |[],b::m,_,_,h=>absurd ((h b).2 (by simp)) (by simp)
 |a::l,[],_,_,h=>absurd ((h a).1 (by simp)) (by simp)
 |a::l,b::m,hl,hm,h=>by
  rw[List.pairwise_cons] at hl hm;have hab:a=b:=by
   have h1:=(h a).1 (by simp);have h2:=(h b).2 (by simp);rcases List.mem_cons.1 h1 with e|h1
   ·exact e
   ·rcases List.mem_cons.1 h2 with e|h2
    ·exact e.symm
    ·have:=hl.1 b h2;have:=hm.1 a h1;omega
  subst hab;rw[G6 hl.2 hm.2 fun x=>?_];have:=h x;simp only[List.mem_cons] at this;constructor
  ·intro hx;have h3:=hl.1 x hx;rcases this.1 (.inr hx) with e|h2
   ·omega
   ·exact h2
  ·intro hx;have h3:=hm.1 x hx;rcases this.2 (.inr hx) with e|h2
   ·omega
   ·exact h2
end Go.Proofs.Ytenemndpignaoaa
namespace Go.Proofs.Ytenemndpignaoaa
open Go Go.RowKit
def cov (l:List Span) (t:Int):Prop:=∃ x∈l,x.frm≤t∧t≤x.to
theorem SaysS.rises {l:List Span} {p:Int→Prop} [DecidablePred p] (h:SaysS l p):Rises l:=by
 have key:∀ {l:List Span},canP (l.map sP)→Rises l:=by
  intro l;induction l with
  |nil=>intro _;exact List.Pairwise.nil
  |cons a t ih =>
   intro hc;refine List.pairwise_cons.2 ⟨fun b hb=>?_,ih (canP.tail (p:=sP a) hc)⟩;have h1:=canP.lt (p:=sP a) hc (sP b) (List.mem_map_of_mem hb);have h2:=canP.head (p:=sP a) hc;simp only[sP] at h1 h2;omega
 exact key h.1
theorem SaysS.lt {a:Span} {l:List Span} (h:canP ((a::l).map sP)):a.frm≤a.to∧∀ b∈l,a.to<b.frm:=⟨canP.head (p:=sP a) h,fun b hb=>canP.lt (p:=sP a) h (sP b) (List.mem_map_of_mem hb)⟩
theorem Jz {l:List Span} (hl:SortableS l):Rn (Cc big l) fun n=>n=(cntP (inS l):Nat):=by
 unfold Cc;refine Rn.bn (De hl) fun v hv=>Rn.lt ?_;obtain⟨hv,hvl⟩:=hv;have hr:=hv.rng fun s hs=>Cm s hs;have hlen:v.length≤200:=Nat.le_trans hvl hl.1;refine Rn.bn (P:=fun n=>n=sumS v) (zG _ (fun j y=>y=(sumS (v.take j),(j:Int))∧0≤sumS (v.take j)∧sumS (v.take j)≤16384*(j:Int)) v.length (by unfold big;omega) ⟨rfl,by simp[sumS],by simp[sumS]⟩ fun j y hj hI=>?_) fun n hn=>Rn.some ?_
 ·obtain⟨rfl,g1,g2⟩:=hI;refine Rn.lt (zB (fun hd=>?_) fun hd=>?_)
  ·have hjl:j<v.length:=by
    have:=of_decide_eq_true (p:=((j:Int)<(v.length:Int))) hd;omega
   obtain⟨h1,h2,h3⟩:=hr _ (List.getElem_mem hjl);refine zC (AM hjl) (Rn.lt (Rn.lt (Rn.lt (Rn.lt ?_))));have e:sumS (v.take (j+1))=sumS (v.take j)+(v[j].to - v[j].frm+1):=by
    rw[← List.take_append_getElem hjl];unfold sumS;rw[List.map_append,List.sum_append];simp
   simp only;rw[Aq (by omega) (by omega),An (a:=v[j].to - v[j].frm) (by omega) (by omega),An (by omega) (by omega),An (by omega) (by omega)];exact Rn.some ⟨hjl,by rw[e];rfl,by rw[e];omega,by rw[e];omega⟩
  ·have:j=v.length:=by
    have:=of_decide_eq_false (p:=((j:Int)<(v.length:Int))) hd;omega
   subst this;exact Rn.some (by simp)
 ·rw[hn];exact hv.cnt fun s hs=>Cm s hs
theorem J6 {a:List Span} {p:Int→Prop} [DecidablePred p] (ha:SaysS a p) (hp:∀ s,p s→0≤s∧s≤16383) (hl:a.length≤199) {s:Int} (h0:0≤s) (h1:s≤16383) :
  Rn (CA big a [(⟨s,s⟩:Span)]) fun r=>SaysS r (fun t=>p t∨t=s)∧r.length≤a.length+1:=by
 unfold CA;refine Rn.chk (by simp[catB];omega) (Rn.lt ?_);rw[show List.flatten [a,[(⟨s,s⟩:Span)]]=a++[(⟨s,s⟩:Span)] by simp];have hs:SortableS (a++[(⟨s,s⟩:Span)]):=⟨by simp;omega,.inr (by rw[List.dropLast_concat];exact ha.rises)⟩;refine Rn.bn (De hs) fun v hv=>Rn.some ⟨SaysS.of hv.1.1 fun t=>?_,by simpa using hv.2⟩;rw[hv.1.iff];unfold inS;constructor
 ·rintro⟨h2,x,hx,h3⟩;rcases List.mem_append.1 hx with hx|hx
  ·exact .inl ((ha.iff t).1 ⟨x,hx,h3⟩)
  ·simp at hx;subst hx;exact .inr (by simp at h3;omega)
 ·rintro (h|rfl)
  ·obtain⟨x,hx,h3⟩:=(ha.iff t).2 h;exact⟨by have:=hp t h;omega,x,by simp[hx],h3⟩
  ·exact⟨by omega,⟨t,t⟩,by simp,by simp⟩
def gapsS (s:Int):List Span:=(if 0<s then [(⟨0,s - 1⟩:Span)] else [])++(if s<16383 then [(⟨s+1,16383⟩:Span)] else [])
theorem J7 {s:Int} (h0:0≤s) (h1:s≤16383):A3 big [(⟨s,s⟩:Span)]=some [(⟨s,s⟩:Span)]:=by
 obtain⟨v,e,hv,-⟩:=De (l:=[(⟨s,s⟩:Span)]) ⟨by simp,.inl (by simp[sortMost])⟩;have h2:SaysS [(⟨s,s⟩:Span)] (inS [(⟨s,s⟩:Span)]):=SaysS.of (by simp[canP,sP]) fun t=>by
  unfold inS;exact⟨fun h=>⟨by obtain⟨x,hx,h⟩:=h;simp at hx;subst hx;simp at h;omega,h⟩,fun h=>h.2⟩
 rw[e,hv.ext h2 fun _=>Iff.rfl]
theorem KR {s:Int} (h0:0≤s) (h1:s≤16383):Bu big [(⟨s,s⟩:Span)]=some (gapsS s):=by
 refine Rn.eqv ?_;unfold Bu Bz;refine Rn.bn (P:=fun r=>r=gapsS s) (Rn.bn (P:=fun r=>r=gapsS s) (zC (J7 h0 h1) (Rn.lt ?_)) fun y hy=>?_) fun v hv=>Rn.some hv
 ·refine Rn.bn (P:=fun y=>y=(s+1,if 0<s then [(⟨0,s - 1⟩:Span)] else [])) (zG _ (fun j y=>(j=0∧y=(0,0,[]))∨(j=1∧y=(s+1,1,if 0<s then [(⟨0,s - 1⟩:Span)] else []))) 1 (by unfold big;omega) (.inl ⟨rfl,rfl⟩) fun j y hj hI=>?_) fun y hy=>?_
  ·rcases hI with ⟨rfl,rfl⟩|⟨rfl,rfl⟩
   ·refine Rn.lt (zB (fun _=>?_) fun h=>absurd (show ltI 0 1=false from h) (by decide));refine zC (v:=(⟨s,s⟩:Span)) rfl (Rn.lt ?_);refine zB (fun hc=>?_) fun hc=>?_
    ·have hc:0<s:=of_decide_eq_true hc;refine Rn.lt (Rn.chk (by simp[room]) (Rn.lt (Rn.lt (Rn.lt ?_))));simp only;rw[Aq (by omega) (by omega),An (by omega) (by omega),if_pos hc];exact Rn.some ⟨by omega,.inr ⟨by first|trivial|rfl,rfl⟩⟩
    ·have hc:¬ 0<s:=of_decide_eq_false hc;refine Rn.lt (Rn.lt ?_);simp only;rw[An (by omega) (by omega),if_neg hc];exact Rn.some ⟨by omega,.inr ⟨by first|trivial|rfl,rfl⟩⟩
   ·exact Rn.lt (zB (fun h=>absurd (show ltI 1 1=true from h) (by decide)) fun _=>Rn.some rfl)
  ·subst hy;refine Rn.lt ?_;simp only;refine zB (fun hc=>?_) fun hc=>?_
   ·have hc:s+1≤16383:=of_decide_eq_true hc;refine Rn.chk (by simp[room];split <;> simp) (Rn.lt (Rn.some ?_));unfold gapsS;rw[if_pos (show s<16383 by omega)]
   ·have hc:¬ s+1≤16383:=of_decide_eq_false hc;refine Rn.some ?_;unfold gapsS;rw[if_neg (show ¬ s<16383 by omega)];simp
 ·subst hy;refine Rn.chk ?_ (Rn.some rfl);unfold gapsS;simp only[room];split <;> split <;> simp
theorem JA {s:Int} (h0:0≤s) (h1:s≤16383):SaysS (gapsS s) (fun t=>(0≤t∧t≤16383)∧t≠s):=by
 unfold gapsS;refine SaysS.of ?_ fun t=>?_
 ·split <;> split <;> simp[canP,sP] <;> omega
 ·split <;> split <;> simp <;> omega
theorem J8 (s:Int):(gapsS s).length≤2:=by
 unfold gapsS;split <;> split <;> simp
theorem KS {a b:List Span} {p q:Int→Prop} [DecidablePred p] [DecidablePred q] (ha:SaysS a p) (hb:SaysS b q) (hp:∀ s,p s→0≤s∧s≤16383) (hq:∀ s,q s→0≤s∧s≤16383) (hl:a.length+b.length≤200) :
  Rn (CU big a b) fun r=>SaysS r (fun t=>p t∧q t)∧r.length≤a.length+b.length:=by
 have na:∀ {a:List Span} {p:Int→Prop} [DecidablePred p],SaysS a p→(∀ s,p s→0≤s∧s≤16383)→a.length≤200→A3 big a=some a:=by
  intro a p _ ha hp hl;obtain⟨v,e,hv,-⟩:=De (l:=a) ⟨hl,.inr ha.rises.drop⟩;rw[e,hv.ext ha fun t=>ha.inS hp t]
 unfold CU;refine Rn.bn (P:=fun r=>Rises r∧r.length≤a.length+b.length∧∀ t,cov r t↔p t∧q t) ?_ fun y hy=>?_
 ·refine zC (v:=(a,b)) rfl (zC (na ha hp (show a.length≤200 by omega)) (zC (na hb hq (show b.length≤200 by omega)) ?_));refine Rn.bn (P:=fun r=>Rises r∧r.length≤a.length+b.length∧∀ t,cov r t↔p t∧q t) (zG _ (fun j y=>∃ u v out:List Span,y=(u,v,out)∧canP (u.map sP)∧canP (v.map sP)∧u.length+v.length+j=a.length+b.length∧out.length≤j∧Rises out∧(∀ z∈out,z.frm≤z.to∧((∀ h∈u,z.to<h.frm)∨∀ h∈v,z.to<h.frm))∧∀ t,(cov out t∨(cov u t∧cov v t))↔(p t∧q t)) (a.length+b.length) (by unfold big;omega) ⟨a,b,[],rfl,ha.1,hb.1,by omega,by simp,List.Pairwise.nil,by simp,fun t=>?_⟩ fun j y hj hI=>?_) fun y hy=>Rn.some hy
  ·unfold cov;rw[ha.iff,hb.iff];simp
  ·obtain⟨u,v,out,rfl,cu,cv,hn,ho,hr,hz,hc⟩:=hI;have hend:u=[]∨v=[]→∀ t,cov out t↔p t∧q t:=by
    intro h t;rw[← hc t];refine⟨.inl,?_⟩;rintro (h1|⟨⟨x,hx,-⟩,⟨y,hy,-⟩⟩)
    ·exact h1
    ·rcases h with rfl|rfl
     ·simp at hx
     ·simp at hy
   refine Rn.bn (P:=fun c=>c=(!u.isEmpty && !v.isEmpty)) ?_ fun c hcv=>Rn.lt ?_
   ·refine Rn.lt (Rn.lt (zB (fun hd=>?_) fun hd=>?_))
    ·have hd:(0:Int)<(u.length:Int):=of_decide_eq_true hd;cases u with
     |nil=>simp at hd
     |cons x u =>
      refine Rn.lt (Rn.lt (Rn.some ?_));cases v with
      |nil=>rfl
      |cons y v=>exact decide_eq_true (show (0:Int)<((y::v).length:Int) by simp)
    ·have hd:¬ (0:Int)<(u.length:Int):=of_decide_eq_false hd;cases u with
     |nil=>exact Rn.some rfl
     |cons x u=>exact absurd hd (by simp)
   ·subst hcv;cases u with
    |nil=>exact zB (fun h=>by simp at h) fun _=>Rn.some ⟨hr,show out.length≤_ by omega,hend (.inl rfl)⟩
    |cons x u =>
     cases v with
     |nil=>exact zB (fun h=>by simp at h) fun _=>Rn.some ⟨hr,show out.length≤_ by omega,hend (.inr rfl)⟩
     |cons y v =>
      refine zB (fun _=>?_) fun h=>by simp at h
      obtain⟨x1,x2⟩:=SaysS.lt cu;obtain⟨y1,y2⟩:=SaysS.lt cv;have tu:=canP.tail (p:=sP x) cu;have tv:=canP.tail (p:=sP y) cv;refine zC (v:=x) rfl (zC (v:=y) rfl (Rn.lt (Rn.lt (Rn.lt ?_))))
      -- the next piece,and what is left behind it
      have hstep:∀ out':List Span,(∀ t,cov out' t↔cov out t∨((x.frm≤t∧t≤x.to)∧(y.frm≤t∧t≤y.to))) →
        (x.to<y.to→∀ t,(cov out' t∨(cov u t∧cov (y::v) t))↔(p t∧q t))∧(¬ x.to<y.to→∀ t,(cov out' t∨(cov (x::u) t∧cov v t))↔(p t∧q t)):=by
       intro out' ho';refine⟨fun hlt t=>?_,fun hge t=>?_⟩
       ·rw[← hc t,ho' t];unfold cov;constructor
        ·rintro ((h|⟨h1,h2⟩)|⟨⟨z,hz,h1⟩,h2⟩)
         ·exact .inl h
         ·exact .inr ⟨⟨x,by simp,h1⟩,⟨y,by simp,h2⟩⟩
         ·exact .inr ⟨⟨z,by simp[hz],h1⟩,h2⟩
        ·rintro (h|⟨⟨z,hz2,h1⟩,⟨w,hw,h2⟩⟩)
         ·exact .inl (.inl h)
         ·rcases List.mem_cons.1 hz2 with rfl|hz2
          ·rcases List.mem_cons.1 hw with rfl|hw
           ·exact .inl (.inr ⟨h1,h2⟩)
           ·have:=y2 w hw;omega
          ·exact .inr ⟨⟨z,hz2,h1⟩,⟨w,hw,h2⟩⟩
       ·rw[← hc t,ho' t];unfold cov;constructor
        ·rintro ((h|⟨h1,h2⟩)|⟨h1,⟨z,hz,h2⟩⟩)
         ·exact .inl h
         ·exact .inr ⟨⟨x,by simp,h1⟩,⟨y,by simp,h2⟩⟩
         ·exact .inr ⟨h1,⟨z,by simp[hz],h2⟩⟩
        ·rintro (h|⟨⟨z,hz2,h1⟩,⟨w,hw,h2⟩⟩)
         ·exact .inl (.inl h)
         ·rcases List.mem_cons.1 hw with rfl|hw
          ·rcases List.mem_cons.1 hz2 with rfl|hz2
           ·exact .inl (.inr ⟨h1,h2⟩)
           ·have:=x2 z hz2;omega
          ·exact .inr ⟨⟨z,hz2,h1⟩,⟨w,hw,h2⟩⟩
      -- the elder pieces
      have hold:(∀ z∈out,(∀ h∈u,z.to<h.frm)∨∀ h∈y::v,z.to<h.frm)∧∀ z∈out,(∀ h∈x::u,z.to<h.frm)∨∀ h∈v,z.to<h.frm :=
       ⟨fun z hzo=>(hz z hzo).2.imp (fun h k hk=>h k (by simp[hk])) id,fun z hzo=>(hz z hzo).2.imp id fun h k hk=>h k (by simp[hk])⟩
      refine zB (fun hd=>?_) fun hd=>?_
      ·have hd:max x.frm y.frm≤min x.to y.to:=of_decide_eq_true hd;refine Rn.chk (by simp[room];omega) (Rn.lt (Rn.lt ?_));have ho':∀ t,cov (out++[(⟨max x.frm y.frm,min x.to y.to⟩:Span)]) t↔cov out t∨((x.frm≤t∧t≤x.to)∧(y.frm≤t∧t≤y.to)):=by
        intro t;unfold cov;constructor
        ·rintro⟨z,hz,h⟩;rcases List.mem_append.1 hz with hz|hz
         ·exact .inl ⟨z,hz,h⟩
         ·simp at hz;subst hz;exact .inr (by simp only at h;omega)
        ·rintro (⟨z,hz,h⟩|h)
         ·exact⟨z,by simp[hz],h⟩
         ·exact⟨_,List.mem_append_right _ (List.mem_singleton.2 rfl),by simp only;omega⟩
       have hr':Rises (out++[(⟨max x.frm y.frm,min x.to y.to⟩:Span)]):=by
        refine List.pairwise_append.2 ⟨hr,List.pairwise_singleton _ _,fun z hz' w hw=>?_⟩;simp at hw;subst hw;obtain⟨g1,g2|g2⟩:=hz z hz'
        ·have:=g2 x (by simp);simp only;omega
        ·have:=g2 y (by simp);simp only;omega
       refine zB (fun hd2=>?_) fun hd2=>?_
       ·have hd2:x.to<y.to:=of_decide_eq_true hd2;refine zC (v:=u) (by simp[segl];omega) (Rn.some ⟨by simp at hn;omega,u,y::v,_,rfl,tu,cv,by simp at hn ⊢;omega,by simp;omega,hr',fun z hz'=>?_,(hstep _ ho').1 hd2⟩);rcases List.mem_append.1 hz' with hz'|hz'
        ·exact⟨(hz z hz').1,hold.1 z hz'⟩
        ·simp at hz';subst hz';exact⟨hd,.inl fun h hh=>by have:=x2 h hh;simp only[minI];omega⟩
       ·have hd2:¬ x.to<y.to:=of_decide_eq_false hd2;refine zC (v:=v) (by simp[segl];omega) (Rn.some ⟨by simp at hn;omega,x::u,v,_,rfl,cu,tv,by simp at hn ⊢;omega,by simp;omega,hr',fun z hz'=>?_,(hstep _ ho').2 hd2⟩);rcases List.mem_append.1 hz' with hz'|hz'
        ·exact⟨(hz z hz').1,hold.2 z hz'⟩
        ·simp at hz';subst hz';exact⟨hd,.inr fun h hh=>by have:=y2 h hh;simp only[minI];omega⟩
      ·have hd:¬ max x.frm y.frm≤min x.to y.to:=of_decide_eq_false hd;have ho':∀ t,cov out t↔cov out t∨((x.frm≤t∧t≤x.to)∧(y.frm≤t∧t≤y.to)):=fun t=>⟨.inl,fun h=>h.resolve_right fun h=>by omega⟩;refine Rn.lt (zB (fun hd2=>?_) fun hd2=>?_)
       ·have hd2:x.to<y.to:=of_decide_eq_true hd2;exact zC (v:=u) (by simp[segl];omega) (Rn.some ⟨by simp at hn;omega,u,y::v,_,rfl,tu,cv,by simp at hn ⊢;omega,show out.length≤_ by omega,hr,fun z hz'=>⟨(hz z hz').1,hold.1 z hz'⟩,(hstep _ ho').1 hd2⟩)
       ·have hd2:¬ x.to<y.to:=of_decide_eq_false hd2;exact zC (v:=v) (by simp[segl];omega) (Rn.some ⟨by simp at hn;omega,x::u,v,_,rfl,cu,tv,by simp at hn ⊢;omega,show out.length≤_ by omega,hr,fun z hz'=>⟨(hz z hz').1,hold.2 z hz'⟩,(hstep _ ho').2 hd2⟩)
 ·obtain⟨h1,h2,h3⟩:=hy;refine Rn.chk (by simp[room];omega) (Rn.bn (De ⟨by omega,.inr h1.drop⟩) fun v hv=>Rn.some ⟨SaysS.of hv.1.1 fun t=>?_,by omega⟩);rw[hv.1.iff,← h3 t];unfold inS;refine⟨fun h=>h.2,fun h=>⟨?_,h⟩⟩;have:=hp t ((h3 t).1 h).1;omega
theorem JB {a:List Span} {p:Int→Prop} [DecidablePred p] (ha:SaysS a p) (hp:∀ s,p s→0≤s∧s≤16383) (hl:a.length≤198) {s:Int} (h0:0≤s) (h1:s≤16383) :
  Rn (CB big a [(⟨s,s⟩:Span)]) fun r=>SaysS r (fun t=>p t∧t≠s)∧r.length≤a.length+2:=by
 unfold CB;have hg:=J8 s;refine zC (v:=[(⟨s,s⟩:Span)]) rfl (zC (KR h0 h1) (Rn.bn (KS ha (JA h0 h1) hp (fun t ht=>ht.1) (by omega)) fun r hr=>Rn.some ⟨SaysS.of hr.1.1 fun t=>?_,by omega⟩));rw[hr.1.iff];exact⟨fun h=>⟨h.1,h.2.2⟩,fun h=>⟨h.1,hp t h.1,h.2⟩⟩
end Go.Proofs.Ytenemndpignaoaa
namespace Go.Proofs.Ytenemndpignaoaa
open Go Go.RowKit
abbrev Owr:=Int→Option Int
def cntO (o:Owr) (w:Int):Int:=(cntP (fun s=>o s=some w):Nat)
def updO (o:Owr) (s w:Int):Owr:=fun t=>if t=s then some w else o t
def WfO (o:Owr):Prop:=∀ s w,o s=some w→0≤s∧s≤16383
theorem WfO.upd {o:Owr} (h:WfO o) {s w:Int} (h0:0≤s) (h1:s≤16383):WfO (updO o s w):=by
 intro t u ht;unfold updO at ht;split at ht
 ·omega
 ·exact h t u ht
structure FMx (ns:List Int) (j a:Nat):Prop where
 lt:a<j
 ex:∃ v,ns[a]?=some v∧∀ i u,i<j→ns[i]?=some u→u≤v∧(i<a→u<v)
structure FMn (ns:List Int) (j a:Nat):Prop where
 lt:a<j
 ex:∃ v,ns[a]?=some v∧∀ i u,i<j→ns[i]?=some u→v≤u∧(i<a→v<u)
theorem FMx.uniq {ns:List Int} {j a b:Nat} (h:FMx ns j a) (k:FMx ns j b):a=b:=by
 obtain⟨h1,v,h2,h3⟩:=h;obtain⟨k1,w,k2,k3⟩:=k;have g1:=h3 b w k1 k2;have g2:=k3 a v h1 h2;rcases Nat.lt_trichotomy a b with h|h|h
 ·have:=g2.2 h;omega
 ·exact h
 ·have:=g1.2 h;omega
theorem FMn.uniq {ns:List Int} {j a b:Nat} (h:FMn ns j a) (k:FMn ns j b):a=b:=by
 obtain⟨h1,v,h2,h3⟩:=h;obtain⟨k1,w,k2,k3⟩:=k;have g1:=h3 b w k1 k2;have g2:=k3 a v h1 h2;rcases Nat.lt_trichotomy a b with h|h|h
 ·have:=g2.2 h;omega
 ·exact h
 ·have:=g1.2 h;omega
theorem FMx.one {ns:List Int} {v:Int} (h:ns[0]?=some v):FMx ns 1 0:=⟨by omega,v,h,fun i u hi hu=>by
 have:i=0:=by omega
 subst this;rw[h] at hu;cases hu
 exact⟨Int.le_refl _,fun h=>by omega⟩⟩
theorem FMn.one {ns:List Int} {v:Int} (h:ns[0]?=some v):FMn ns 1 0:=⟨by omega,v,h,fun i u hi hu=>by
 have:i=0:=by omega
 subst this;rw[h] at hu;cases hu
 exact⟨Int.le_refl _,fun h=>by omega⟩⟩
theorem FMx.more {ns:List Int} {j a:Nat} {v x:Int} (h:FMx ns j a) (hv:ns[a]?=some v) (hx:ns[j]?=some x):FMx ns (j+1) (if v<x then j else a):=by
 obtain⟨h1,w,h2,h3⟩:=h;rw[hv] at h2;cases h2
 split
 ·refine⟨by omega,x,hx,fun i u hi hu=>?_⟩;rcases Nat.lt_or_ge i j with g|g
  ·have:=(h3 i u g hu).1;omega
  ·have:i=j:=by omega
   subst this;rw[hx] at hu;cases hu
   omega
 ·refine⟨by omega,v,hv,fun i u hi hu=>?_⟩;rcases Nat.lt_or_ge i j with g|g
  ·exact h3 i u g hu
  ·have:i=j:=by omega
   subst this;rw[hx] at hu;cases hu
   omega
theorem FMn.more {ns:List Int} {j a:Nat} {v x:Int} (h:FMn ns j a) (hv:ns[a]?=some v) (hx:ns[j]?=some x):FMn ns (j+1) (if x<v then j else a):=by
 obtain⟨h1,w,h2,h3⟩:=h;rw[hv] at h2;cases h2
 split
 ·refine⟨by omega,x,hx,fun i u hi hu=>?_⟩;rcases Nat.lt_or_ge i j with g|g
  ·have:=(h3 i u g hu).1;omega
  ·have:i=j:=by omega
   subst this;rw[hx] at hu;cases hu
   omega
 ·refine⟨by omega,v,hv,fun i u hi hu=>?_⟩;rcases Nat.lt_or_ge i j with g|g
  ·exact h3 i u g hu
  ·have:i=j:=by omega
   subst this;rw[hx] at hu;cases hu
   omega
def cntsO (who:List Int) (o:Owr):List Int:=who.map (cntO o)
def StepR (who:List Int) (o:Owr) (st:ApiStep):Prop :=
 ∃ a b:Nat,FMx (cntsO who o) who.length a∧FMn (cntsO who o) who.length b∧who[a]?=some st.frm∧who[b]?=some st.to∧cntO o st.to+1<cntO o st.frm∧o st.slot=some st.frm∧∀ s,o s=some st.frm→s≤st.slot
def DoneR (who:List Int) (o:Owr):Prop:=∀ (i j:Nat) (wi wj:Int),who[i]?=some wi→who[j]?=some wj→cntO o wi≤cntO o wj+1
inductive PlanR (who:List Int):Nat→Owr→List ApiStep→Prop
 |stop {n o}:DoneR who o→PlanR who n o []
 |full {o}:PlanR who 0 o []
 |step {n o st l}:StepR who o st→PlanR who n (updO o st.slot st.to) l→PlanR who (n+1) o (st::l)
theorem StepR.uniq {who:List Int} {o:Owr} {s t:ApiStep} (h:StepR who o s) (k:StepR who o t):s=t:=by
 obtain⟨a,b,h1,h2,h3,h4,h5,h6,h7⟩:=h;obtain⟨a',b',k1,k2,k3,k4,k5,k6,k7⟩:=k;have e1:=h1.uniq k1;have e2:=h2.uniq k2;subst e1 e2;have e3:s.frm=t.frm:=Option.some.inj (h3.symm.trans k3);have e4:s.to=t.to:=Option.some.inj (h4.symm.trans k4);have g1:=h7 t.slot (by rw[e3];exact k6);have g2:=k7 s.slot (by rw[← e3];exact h6);exact ApiStep.ext (by omega) e3 e4
theorem StepR.notDone {who:List Int} {o:Owr} {s:ApiStep} (h:StepR who o s):¬ DoneR who o:=by
 obtain⟨a,b,h1,h2,h3,h4,h5,h6,h7⟩:=h;intro hd;have:=hd a b _ _ h3 h4;omega
theorem PlanR.uniq {who:List Int}:∀ {n:Nat} {o:Owr} {l m:List ApiStep},PlanR who n o l→PlanR who n o m→l=m:=by
 intro n o l m h;induction h generalizing m with
 |stop hd =>
  intro k;cases k with
  |stop _=>rfl
  |full=>rfl
  |step hs _=>exact absurd hd hs.notDone
 |full =>
  intro k;cases k with
  |stop _=>rfl
  |full=>rfl
 |step hs _ ih =>
  intro k;cases k with
  |stop hd=>exact absurd hd hs.notDone
  |step ks k2 =>
   have e:=hs.uniq ks;subst e;rw[ih k2]
theorem PlanR.len {who:List Int} {n:Nat} {o:Owr} {l:List ApiStep} (h:PlanR who n o l):l.length≤n:=by
 induction h with
 |stop _=>simp
 |full=>simp
 |step _ _ ih=>simp;omega
theorem E9 {o:Owr} {s a b:Int} (hs:o s=some a) (h0:0≤s) (h1:s≤16383) (hab:a≠b) (w:Int):cntO (updO o s b) w=if w=a then cntO o a - 1 else if w=b then cntO o b+1 else cntO o w:=by
 have one:cntP (fun t:Int=>t=s)=1:=by
  obtain⟨k,rfl⟩:=Int.eq_ofNat_of_zero_le h0;have:=F5 (a:=k) (b:=k) (Nat.le_refl _) (by omega);rw[← Dk (fun s=>(k:Int)≤s∧s≤(k:Int)) (fun t=>t=(k:Int)) fun t=>by omega,this];omega
 unfold cntO;split
 ·rename_i e
  subst e;have e1:cntP (fun t=>o t=some w)=cntP (fun t=>updO o s b t=some w∨t=s):=Dk _ _ fun t=>by
   unfold updO;by_cases h:t=s
   ·subst h;simp[hs]
   ·simp[h]
  rw[H2 _ _ fun t ht e=>by subst e;simp[updO] at ht;exact hab ht.symm,one] at e1;omega
 ·rename_i e
  split
  ·rename_i e2
   subst e2;have e1:cntP (fun t=>updO o s w t=some w)=cntP (fun t=>o t=some w∨t=s):=Dk _ _ fun t=>by
    unfold updO;by_cases h:t=s
    ·subst h;simp
    ·simp[h]
   rw[H2 _ _ fun t ht e3=>by subst e3;rw[hs] at ht;exact hab (Option.some.inj ht),one] at e1;omega
  ·rename_i e2
   have e1:cntP (fun t=>updO o s b t=some w)=cntP (fun t=>o t=some w):=Dk _ _ fun t=>by
    unfold updO;by_cases h:t=s
    ·subst h;simp[hs];omega
    ·simp[h]
   rw[e1]
theorem SaysS.cntO {l:List Span} {o:Owr} {w:Int} (ho:WfO o) (h:SaysS l (fun s=>o s=some w)):((cntP (Go.Proofs.Ytenemndpignaoaa.inS l):Nat):Int)=Go.Proofs.Ytenemndpignaoaa.cntO o w:=by
 unfold Go.Proofs.Ytenemndpignaoaa.cntO;rw[Dk (Go.Proofs.Ytenemndpignaoaa.inS l) (fun s=>o s=some w) fun s=>h.inS (fun s hs=>ho s w hs) s]
theorem SaysS.last {l:List Span} {p:Int→Prop} [DecidablePred p] (h:SaysS l p) (hn:l≠[]):p (l.getLast hn).to∧∀ s,p s→s≤(l.getLast hn).to:=by
 have hr:=CN h.1 (List.mem_map_of_mem (List.getLast_mem hn));refine⟨(h.iff _).1 ⟨_,List.getLast_mem hn,hr.1,Int.le_refl _⟩,fun s hs=>?_⟩;obtain⟨x,hx,h1,h2⟩:=(h.iff s).2 hs;have hrs:=h.rises;have:∀ {l:List Span} (hn:l≠[]),canP (l.map sP)→∀ x∈l,x.to≤(l.getLast hn).to:=by
  intro l;induction l with
  |nil=>intro hn;exact absurd rfl hn
  |cons a t ih =>
   intro hn hc x hx;obtain⟨a1,a2⟩:=SaysS.lt hc;rcases List.mem_cons.1 hx with rfl|hx
   ·cases t with
    |nil=>exact Int.le_refl _
    |cons b t =>
     rw[List.getLast_cons (by simp)];have h3:=ih (by simp) (canP.tail (p:=sP x) hc) b (by simp);have h4:=a2 b (by simp);have h5:=(SaysS.lt (canP.tail (p:=sP x) hc)).1;omega
   ·have ht:t≠[]:=List.ne_nil_of_mem hx;rw[List.getLast_cons ht];exact ih ht (canP.tail (p:=sP a) hc) x hx
 have:=this hn h.1 x hx;omega
theorem J9 {α:Type} {l:List α} (hn:l≠[]) (hl:l.length≤1000000):nth l (subI .i64 (lenI l) 1)=some (l.getLast hn):=by
 have h0:0<l.length:=List.length_pos_iff.2 hn;rw[BB,Aq (by omega) (by omega),show (l.length:Int) - 1=((l.length - 1:Nat):Int) by omega,AM (by omega),List.getLast_eq_getElem]
theorem KT {S:List BalanceShare} (h0:0<S.length) (hl:S.length≤1000):Rn (Ca big S) fun r=>∃ a b:Nat,r=((a:Int),(b:Int))∧FMx (S.map (·.n)) S.length a∧FMn (S.map (·.n)) S.length b:=by
 unfold Ca;refine Rn.lt (Rn.bn (P:=fun r=>∃ a b:Nat,r=((a:Int),(b:Int))∧FMx (S.map (·.n)) S.length a∧FMn (S.map (·.n)) S.length b) (zG _ (fun j y=>∃ a b:Nat,y=((a:Int),(b:Int),(j:Int))∧a<S.length∧b<S.length∧(j=0→a=0∧b=0)∧(0<j→FMx (S.map (·.n)) j a∧FMn (S.map (·.n)) j b)) S.length (by unfold big;omega) ⟨0,0,rfl,h0,h0,fun _=>⟨rfl,rfl⟩,fun h=>by omega⟩ fun j y hj hI=>?_) fun r hr=>Rn.some ?_)
 ·obtain⟨a,b,rfl,ha,hb,hz,hI⟩:=hI;refine Rn.lt (zB (fun hd=>?_) fun hd=>?_)
  ·have hjl:j<S.length:=by
    have:=of_decide_eq_true (p:=((j:Int)<(S.length:Int))) hd;omega
   refine Rn.bn (P:=fun y=>y=(((if S[a].n<S[j].n then j else a:Nat):Int),((if S[j].n<S[b].n then j else b:Nat):Int))) ?_ fun y hy=>?_
   ·refine zC (AM hjl) (Rn.bn (P:=fun y=>y=((if S[a].n<S[j].n then j else a:Nat):Int)) ?_ fun y hy=>?_)
    ·refine zC (AM ha) (Rn.lt (zB (fun hc=>Rn.some ?_) fun hc=>Rn.some ?_))
     ·have hc:S[a].n<S[j].n:=of_decide_eq_true hc;rw[if_pos hc]
     ·have hc:¬ S[a].n<S[j].n:=of_decide_eq_false hc;rw[if_neg hc]
    ·subst hy;refine zC (AM hb) (Rn.lt (zB (fun hc=>Rn.some ?_) fun hc=>Rn.some ?_))
     ·have hc:S[j].n<S[b].n:=of_decide_eq_true hc;rw[if_pos hc]
     ·have hc:¬ S[j].n<S[b].n:=of_decide_eq_false hc;rw[if_neg hc]
   ·subst hy;refine Rn.lt ?_;simp only;rw[An (by omega) (by omega)];have gj:(S.map (·.n))[j]?=some S[j].n:=by rw[List.getElem?_map,List.getElem?_eq_getElem hjl];rfl
    have ga:(S.map (·.n))[a]?=some S[a].n:=by rw[List.getElem?_map,List.getElem?_eq_getElem ha];rfl
    have gb:(S.map (·.n))[b]?=some S[b].n:=by rw[List.getElem?_map,List.getElem?_eq_getElem hb];rfl
    refine Rn.some ⟨hjl,_,_,rfl,by split <;> omega,by split <;> omega,fun h=>by omega,fun _=>?_⟩;rcases Nat.eq_zero_or_pos j with e|e
    ·subst e;obtain⟨e1,e2⟩:=hz rfl;subst e1 e2;simp only[ite_self];exact⟨FMx.one gj,FMn.one gj⟩
    ·exact⟨(hI e).1.more ga gj,(hI e).2.more gb gj⟩
  ·have:j=S.length:=by
    have:=of_decide_eq_false (p:=((j:Int)<(S.length:Int))) hd;omega
   subst this;exact Rn.some ⟨a,b,rfl,hI h0⟩
 ·obtain⟨a,b,rfl,h⟩:=hr;exact⟨a,b,rfl,h⟩
structure ShR (o:Owr) (k:Nat) (w:Int) (sh:BalanceShare):Prop where
 node:sh.node=w
 own:SaysS sh.own (fun s=>o s=some w)
 n:sh.n=cntO o w
 few:sh.own.length≤60+2*k
theorem ShR.keep {o:Owr} {k:Nat} {w s a b:Int} {sh:BalanceShare} (h:ShR o k w sh) (hs:o s=some a) (h0:0≤s) (h1:s≤16383) (hab:a≠b) (ha:w≠a) (hb:w≠b):ShR (updO o s b) (k+1) w sh:=by
 refine⟨h.node,SaysS.of h.own.1 fun t=>?_,?_,by have:=h.few;omega⟩
 ·rw[h.own.iff];unfold updO;by_cases e:t=s
  ·subst e;simp[hs];omega
  ·simp[e]
 ·rw[E9 hs h0 h1 hab,if_neg ha,if_neg hb];exact h.n
def SharesR (who:List Int) (o:Owr) (k:Nat) (S:List BalanceShare):Prop:=S.length=who.length∧∀ (i:Nat) w sh,who[i]?=some w→S[i]?=some sh→ShR o k w sh
theorem SharesR.ns {who:List Int} {o:Owr} {k:Nat} {S:List BalanceShare} (h:SharesR who o k S):S.map (·.n)=cntsO who o:=by
 refine List.ext_getElem? fun i=>?_;unfold cntsO;rw[List.getElem?_map,List.getElem?_map];rcases Nat.lt_or_ge i S.length with g|g
 ·have g':i<who.length:=by rw[← h.1];exact g
  have:=h.2 i _ _ (List.getElem?_eq_getElem g') (List.getElem?_eq_getElem g);rw[List.getElem?_eq_getElem g,List.getElem?_eq_getElem g'];simp[this.n]
 ·rw[List.getElem?_eq_none g,List.getElem?_eq_none (by rw[← h.1];exact g)];rfl
theorem FMx.done {who:List Int} {o:Owr} {a b:Nat} {wa wb:Int} (h1:FMx (cntsO who o) who.length a) (h2:FMn (cntsO who o) who.length b) (ha:who[a]?=some wa) (hb:who[b]?=some wb) (h:cntO o wa≤cntO o wb+1):DoneR who o:=by
 obtain⟨_,v,h3,h4⟩:=h1;obtain⟨_,u,h5,h6⟩:=h2;have e1:cntO o wa=v:=by
  unfold cntsO at h3;rw[List.getElem?_map,ha] at h3;simpa using h3
 have e2:cntO o wb=u:=by
  unfold cntsO at h5;rw[List.getElem?_map,hb] at h5;simpa using h5
 intro i j wi wj hi hj;have g1:=(h4 i (cntO o wi) (List.getElem?_eq_some_iff.1 hi).1 (by unfold cntsO;rw[List.getElem?_map,hi];rfl)).1;have g2:=(h6 j (cntO o wj) (List.getElem?_eq_some_iff.1 hj).1 (by unfold cntsO;rw[List.getElem?_map,hj];rfl)).1;omega
end Go.Proofs.Ytenemndpignaoaa
namespace Go.Proofs.Ytenemndpignaoaa
open Go Go.RowKit
def ownO (l:List Claim):Owr:=fun s=>(fC l s).map (·.1)
theorem FC {l:List Claim} (h:GoodC l):WfO (ownO l):=by
 intro s w hs;unfold ownO at hs;obtain⟨v,hv,-⟩:=Option.map_eq_some_iff.1 hs;exact (h.tells s v hv).1
def WhoR (m who:List Int):Prop:=who.Pairwise (·<·)∧∀ x,x∈who↔(0≤x∧x<8)∧x∈m
theorem WhoR.uniq {m a b:List Int} (h:WhoR m a) (k:WhoR m b):a=b:=G6 h.1 k.1 fun x=>(h.2 x).trans (k.2 x).symm
theorem WhoR.len {m a:List Int} (h:WhoR m a):a.length≤8:=by
 have:=EM a ((List.range 8).map fun i:Nat=>(i:Int)) (h.1.imp fun h=>by omega) fun x hx=>by
  obtain⟨⟨h1,h2⟩,-⟩:=(h.2 x).1 hx;obtain⟨k,rfl⟩:=Int.eq_ofNat_of_zero_le h1;exact List.mem_map.2 ⟨k,List.mem_range.2 (by omega),rfl⟩
 simpa using this
theorem G7 {l:List Int} (h:l.Pairwise (·<·)) {i j:Nat} {x:Int} (hi:l[i]?=some x) (hj:l[j]?=some x):i=j:=by
 obtain⟨g1,e1⟩:=List.getElem?_eq_some_iff.1 hi;obtain⟨g2,e2⟩:=List.getElem?_eq_some_iff.1 hj;have:=List.pairwise_iff_getElem.1 h;rcases Nat.lt_trichotomy i j with g|g|g
 ·have:=this i j g1 g2 g;omega
 ·exact g
 ·have:=this j i g2 g1 g;omega
theorem JC {l:List Claim} {m v5:List Int} (hl:GoodC l) (h60:l.length≤60) (hr:v5.Pairwise (·<·)) (hm:∀ x,x∈v5↔x∈m) (h100:v5.length≤1000) {β:Type} {K:List BalanceShare→Option β} {Q:β→Prop}
  (hK:∀ who S,WhoR m who→SharesR who (ownO l) 0 S→S.length≤8→Rn (K S) Q) :
  Rn (bn (iter big (fun (y7:Int×List BalanceShare)=>lt (ltI y7.1 (lenI v5)) fun v10=>ite' v10 (bn (bn (nth v5 y7.1) fun v12=>bn (lt (geI v12 0) fun v15=>ite' v15 (lt (ltI v12 8) fun v16=>some (v16)) (some (false))) fun (y14:Bool)=>lt (y14) fun v17=>ite' v17 (bn (B6 big l v12) fun v18=>bn (Cc big v18) fun v19=>chk (room (y7.2.length+1) 40) <| lt (y7.2++[(⟨v12,v18,v19⟩:BalanceShare)]) fun v21=>some (v21)) (some (y7.2))) fun (y11:List BalanceShare)=>lt (addI .i64 y7.1 1) fun v22=>some (.inl (v22,y11))) (some (.inr y7.2))) (0,[])) K) Q:=by
 refine Rn.bn (P:=fun S=>∃ who,WhoR m who∧SharesR who (ownO l) 0 S) (zG _ (fun j y=>∃ who S,y=((j:Int),S)∧who=(v5.take j).filter (fun x=>decide (0≤x∧x<8))∧SharesR who (ownO l) 0 S) v5.length (by unfold big;omega) ⟨[],[],rfl,by simp,rfl,by simp⟩ fun j y hj hI=>?_) fun S hS=>?_
 ·obtain⟨who,S,rfl,hw,hS⟩:=hI;have hSl:S.length≤1000:=by
   rw[hS.1,hw];exact Nat.le_trans (List.length_filter_le _ _) (by simp;omega)
  refine Rn.lt (zB (fun hd=>?_) fun hd=>?_)
  ·have hjl:j<v5.length:=by
    have:=of_decide_eq_true (p:=((j:Int)<(v5.length:Int))) hd;omega
   have htk:v5.take (j+1)=v5.take j++[v5[j]]:=(List.take_append_getElem hjl).symm;have hnth:=AM hjl;generalize v5[j]=w at hnth htk;refine Rn.bn (P:=fun S'=>SharesR ((v5.take (j+1)).filter (fun x=>decide (0≤x∧x<8))) (ownO l) 0 S') ?_ fun S' hS'=>?_
   ·refine zC hnth (Rn.bn (P:=fun b=>b=decide (0≤w∧w<8)) ?_ fun b hb=>Rn.lt ?_)
    ·refine Rn.lt (zB (fun hc=>?_) fun hc=>Rn.some ?_)
     ·have hc:0≤w:=of_decide_eq_true hc;exact Rn.lt (Rn.some (by simp[ltI,hc]))
     ·have hc:¬ 0≤w:=of_decide_eq_false hc;simp[hc]
    ·subst hb;refine zB (fun hc=>?_) fun hc=>?_
     ·have hc':=of_decide_eq_true hc;refine Rn.bn (H0 hl (by omega)) fun own ho=>?_;have hown:SaysS own (fun s=>ownO l s=some w):=SaysS.of ho.1.1 fun t=>ho.1.iff t;refine Rn.bn (Jz ⟨by omega,.inr hown.rises.drop⟩) fun n hn=>Rn.chk (by simp[room];omega) (Rn.lt (Rn.some ?_));rw[htk,List.filter_append,← hw];simp only[List.filter_cons,hc,if_true,List.filter_nil];refine⟨by simp[hS.1],fun i u sh hi hsh=>?_⟩;rcases Nat.lt_or_ge i who.length with g|g
      ·rw[List.getElem?_append_left g] at hi;rw[List.getElem?_append_left (by rw[hS.1];exact g)] at hsh;exact hS.2 i u sh hi hsh
      ·rw[List.getElem?_append_right g] at hi;rw[List.getElem?_append_right (by rw[hS.1];exact g),hS.1] at hsh;have e:i - who.length=0:=by
        have:=(List.getElem?_eq_some_iff.1 hi).1;simp at this;omega
       rw[e] at hi hsh;simp at hi hsh;subst hi hsh;exact⟨rfl,hown,by rw[hn];exact hown.cntO (FC hl),by simp only;omega⟩
     ·refine Rn.some ?_;rw[htk,List.filter_append,← hw];simp only[List.filter_cons,hc,List.filter_nil];simpa using hS
   ·refine Rn.lt ?_;simp only;rw[An (by omega) (by omega)];exact Rn.some ⟨hjl,_,S',rfl,rfl,hS'⟩
  ·have:j=v5.length:=by
    have:=of_decide_eq_false (p:=((j:Int)<(v5.length:Int))) hd;omega
   subst this;rw[List.take_length] at hw;subst hw;refine Rn.some ⟨_,⟨hr.filter _,fun x=>?_⟩,hS⟩;rw[List.mem_filter,hm x];simp;exact and_comm
 ·obtain⟨who,h1,h2⟩:=hS;exact hK who S h1 h2 (by rw[h2.1];exact h1.len)
theorem FD (o:Owr) (w:Int):0≤cntO o w∧cntO o w≤16384:=by
 unfold cntO cntP;have:∀ p:Nat→Bool,(List.range 16384).countP p≤16384:=fun p=>by
  have:=List.countP_le_length (p:=p) (l:=List.range 16384);rwa [List.length_range] at this
 exact⟨Int.natCast_nonneg _,Int.ofNat_le.2 (this _)⟩
theorem canP.ne {l:List Span} {o:Owr} {w:Int} (hw:WfO o) (h:SaysS l (fun s=>o s=some w)) (hc:0<cntO o w):l≠[]:=by
 rintro rfl;have:=h.cntO hw;rw[E8 _ fun s=>by simp[inS]] at this;omega
theorem H4 {l:List Claim} {m:List Int} (hl:GoodC l) (h60:l.length≤60) (hm:m.length≤40):Rn (BE big l m) fun r=>∃ who,WhoR m who∧PlanR who 64 (ownO l) r:=by
 unfold BE;refine Rn.chk (by simp[small];omega) (Rn.bn (J5 (by unfold sortMost;omega)) fun v2 hv2=>?_);have hl2:=hv2.1.length_eq;refine Rn.chk (by simp[lenB,hl2]) (Rn.chk (by simp[cmB];omega) (Rn.lt (Rn.lt ?_)));have hcl:(compL v2).length≤1000:=by
  have:=EM (compL v2) v2 ((ES hv2.2).imp fun h=>by omega) fun x hx=>(EN x v2).1 hx;omega
 refine JC hl h60 (ES hv2.2) (fun x=>(EN x v2).trans hv2.1.mem_iff) hcl fun who S hwho hS hS8=>?_;have hlen:=hS.1;refine Rn.bn (P:=fun out=>PlanR who 64 (ownO l) out) ?_ fun out hout=>Rn.chk (by have:=hout.len;simp[room];omega) (Rn.some ⟨who,hwho,hout⟩);refine zC (v:=()) rfl ?_;refine Rn.bn (P:=fun y=>PlanR who 64 (ownO l) (match y with|.inl y=>y.2|.inr (.inl y)=>y.2|.inr (.inr y)=>y.2)) (zG _ (fun k y=>∃ S out o,y=(S,out)∧out.length=k∧k<64∧SharesR who o k S∧WfO o∧∀ rest,PlanR who (64 - k) o rest→PlanR who 64 (ownO l) (out++rest)) 64 (by unfold big;omega) ⟨S,[],ownO l,rfl,rfl,by omega,hS,FC hl,fun rest h=>h⟩ fun k y hk hI=>?_) fun y hy=>?_
 ·obtain⟨S,out,o,rfl,ho,hk64,hS,hw,hplan⟩:=hI;have hSl:S.length≤8:=by rw[hS.1];exact hwho.len
  refine Rn.lt (Rn.lt ?_);simp only;refine zB (fun hd=>?_) fun hd=>?_
  ·have hd:(0:Int)<(S.length:Int):=of_decide_eq_true hd;refine Rn.chk (by simp[room];omega) (Rn.bn (KT (by omega) (by omega)) fun r hr=>?_);obtain⟨a,b,rfl,hA,hB⟩:=hr;have ha:a<S.length:=hA.lt;have hb:b<S.length:=hB.lt;rw[hS.ns,hS.1] at hA hB;have hwa:who[a]?=some (who[a]'(by rw[← hS.1];exact ha)):=List.getElem?_eq_getElem _;have hwb:who[b]?=some (who[b]'(by rw[← hS.1];exact hb)):=List.getElem?_eq_getElem _;have sa:=hS.2 a _ _ hwa (List.getElem?_eq_getElem ha);have sb:=hS.2 b _ _ hwb (List.getElem?_eq_getElem hb);have ea:S[a]?=some S[a]:=List.getElem?_eq_getElem ha;have eb:S[b]?=some S[b]:=List.getElem?_eq_getElem hb;refine zC (AM ha) (zC (AM hb) (Rn.lt (Rn.lt ?_)));generalize who[a]'(by rw[← hS.1];exact ha)=wa at hwa sa;generalize who[b]'(by rw[← hS.1];exact hb)=wb at hwb sb;have hcb:=FD o wb;have hca:=FD o wa;generalize S[a]=sha at sa ea;generalize S[b]=shb at sb eb;obtain⟨a1,a2,a3,a4⟩:=sa;obtain⟨b1,b2,b3,b4⟩:=sb;rw[An (by omega) (by omega)];refine zB (fun hc=>Rn.some ?_) fun hc=>?_
   ·have hc:sha.n≤shb.n+1:=of_decide_eq_true hc;have:=hplan [] (.stop (FMx.done hA hB hwa hwb (by omega)));simpa using this
   ·have hc:¬ sha.n≤shb.n+1:=of_decide_eq_false hc;have hne:sha.own≠[]:=canP.ne hw a2 (by omega);have hlast:=a2.last hne;have hrng:=hw _ _ hlast.1;have hwab:wa≠wb:=fun e=>by rw[e] at a3;omega
    have hab:a≠b:=fun e=>by subst e;rw[hwa] at hwb;exact hwab (Option.some.inj hwb)
    refine Rn.lt (Rn.lt (zC (J9 hne (by omega)) ?_));generalize hsl:(sha.own.getLast hne)=z at hlast hrng;refine Rn.chk (by simp[room]) (Rn.bn (JB a2 (fun s hs=>hw s _ hs) (by omega) hrng.1 hrng.2) fun v45 h45=>?_);refine Rn.bn (J6 b2 (fun s hs=>hw s _ hs) (by omega) hrng.1 hrng.2) fun v47 h47=>?_;simp only[Int.toNat_natCast,Ay];refine zC (v:=shb) (by rw[Ex,List.getElem?_set_ne hab];exact eb) ?_;refine zC (v:=⟨sha.node,v45,sha.n⟩) (by rw[Ex,List.getElem?_set_ne hab.symm,List.getElem?_set_self ha]) ?_;simp only;rw[Aq (by omega) (by omega)];refine zC (v:=⟨shb.node,v47,shb.n⟩) (by rw[Ex,List.getElem?_set_ne hab,List.getElem?_set_self (by simpa using hb)]) ?_;simp only;rw[An (by omega) (by omega)];refine zC (v:=⟨sha.node,v45,sha.n - 1⟩) (by rw[Ex,List.getElem?_set_ne hab.symm,List.getElem?_set_self (by simpa using ha)]) ?_;refine zC (v:=⟨shb.node,v47,shb.n+1⟩) (by rw[Ex,List.getElem?_set_self (by simpa using hb)]) ?_;have hstep:StepR who o ⟨z.to,sha.node,shb.node⟩:=⟨a,b,hA,hB,by rw[a1];exact hwa,by rw[b1];exact hwb,by show cntO o shb.node+1<cntO o sha.node;rw[a1,b1];omega,by rw[a1];exact hlast.1,fun s hs=>hlast.2 s (by rw[a1] at hs;exact hs)⟩;have hplan2:∀ rest,PlanR who (63 - k) (updO o z.to wb) rest→PlanR who 64 (ownO l) ((out++[(⟨z.to,sha.node,shb.node⟩:ApiStep)])++rest):=by
     intro rest h;rw[List.append_assoc];refine hplan _ ?_;rw[show 64 - k=(63 - k)+1 by omega];refine .step hstep ?_;show PlanR who (63 - k) (updO o z.to shb.node) rest;rw[b1];exact h
    have hS':SharesR who (updO o z.to wb) (k+1) ((((((S.set a ⟨sha.node,v45,sha.n⟩).set b ⟨shb.node,v47,shb.n⟩).set a ⟨sha.node,v45,sha.n - 1⟩).set b ⟨shb.node,v47,shb.n+1⟩))):=by
     refine⟨by simp[hS.1],fun i w sh hi hsh=>?_⟩;rcases Decidable.em (i=b) with e|e
     ·subst e;rw[List.getElem?_set_self (by simpa using hb)] at hsh;have e1:=Option.some.inj hsh;have e2:wb=w:=Option.some.inj (hwb.symm.trans hi);subst e1 e2;refine⟨b1,SaysS.of h47.1.1 fun t=>?_,?_,by have:=h47.2;simp only;omega⟩
      ·rw[h47.1.iff];unfold updO;by_cases e:t=z.to <;> simp[e]
      ·rw[E9 hlast.1 hrng.1 hrng.2 hwab,if_neg hwab.symm,if_pos rfl];simp only;omega
     ·rw[List.getElem?_set_ne (Ne.symm e)] at hsh;rcases Decidable.em (i=a) with e'|e'
      ·subst e';rw[List.getElem?_set_self (by simpa using ha)] at hsh;have e1:=Option.some.inj hsh;have e2:wa=w:=Option.some.inj (hwa.symm.trans hi);subst e1 e2;refine⟨a1,SaysS.of h45.1.1 fun t=>?_,?_,by have:=h45.2;simp only;omega⟩
       ·rw[h45.1.iff];unfold updO;by_cases e:t=z.to
        ·simp[e];exact hwab.symm
        ·simp[e]
       ·rw[E9 hlast.1 hrng.1 hrng.2 hwab,if_pos rfl];simp only;omega
      ·rw[List.getElem?_set_ne (Ne.symm e'),List.getElem?_set_ne (Ne.symm e),List.getElem?_set_ne (Ne.symm e')] at hsh;refine (hS.2 i w sh hi hsh).keep hlast.1 hrng.1 hrng.2 hwab (fun e2=>?_) fun e2=>?_
       ·subst e2;exact e' (G7 hwho.1 hi hwa)
       ·subst e2;exact e (G7 hwho.1 hi hwb)
    refine Rn.bn (P:=fun y=>y=if k+1=64 then .inr (out++[(⟨z.to,sha.node,shb.node⟩:ApiStep)]) else .inl (out++[(⟨z.to,sha.node,shb.node⟩:ApiStep)])) ?_ fun y hy=>?_
    ·refine Rn.chk (by simp[room];omega) ?_;have el:lenI (out++[(⟨z.to,sha.node,shb.node⟩:ApiStep)])=((k+1:Nat):Int):=by simp[BB,ho]
     refine Rn.lt (Rn.lt (Rn.lt ?_));rw[el];refine zB (fun h=>Rn.some ?_) fun h=>Rn.some ?_
     ·have h:=of_decide_eq_true (p:=(((k+1:Nat):Int)=64)) h;rw[if_pos (by omega)]
     ·have h:=of_decide_eq_false (p:=(((k+1:Nat):Int)=64)) h;rw[if_neg (by omega)]
    ·subst hy;split
     ·rename_i e
      rw[BZ];refine Rn.some ?_;have:=hplan2 [] (by rw[show 63 - k=0 by omega];exact .full);simpa using this
     ·rename_i e
      rw[Ed];exact Rn.some ⟨by omega,_,_,_,rfl,by simp[ho],by omega,hS',hw.upd hrng.1 hrng.2,fun rest h=>hplan2 rest (by rw[show 63 - k=64 - (k+1) by omega];exact h)⟩
  ·have hd:¬ (0:Int)<(S.length:Int):=of_decide_eq_false hd;refine Rn.some ?_;have h0:who=[]:=List.eq_nil_of_length_eq_zero (by rw[← hS.1];omega);have:=hplan [] (.stop fun i j wi wj hi hj=>by rw[h0] at hi;simp at hi);simpa using this
 ·rcases y with y|y|y <;> exact Rn.some hy
end Go.Proofs.Ytenemndpignaoaa
namespace Go.Proofs.Ytenemndpignaoaa
open Go Go.RowKit
theorem own13 {L:List Claim} (hL:GoodC L) (h200:L.length≤200) (w:Int):∃ own,Cz big L w=some own∧SaysS own (fun s=>ownO L s=some w)∧own.length≤200∧CZ big own=some (cntO (ownO L) w):=by
 obtain⟨v,ev,hv,hvl⟩:=H0 (nd:=w) hL h200;obtain⟨r,er,hr⟩:=I3 (nd:=w) hL h200;have e:r=v:=hr.ext hv fun _=>Iff.rfl;subst e;have h2:SaysS r (fun s=>ownO L s=some w):=SaysS.of hr.1 fun t=>hr.iff t;refine⟨r,er,h2,by omega,?_⟩;refine Rn.eqv ((J4 (by omega)).mono fun n hn=>?_);rw[hn];exact h2.cntO (FC hL)
theorem give13 {L:List Claim} (hL:GoodC L) {s w ep:Int} (h0:0≤s) (h1:s≤16383) (hw:0≤w) (he:1≤ep) :
  Rn (Dy big L [(⟨s,s⟩:Span)] w ep) fun r=>GoodC r∧r.length≤L.length+2∧ownO r=updO (ownO L) s w∧∀ t,fC r t=giveF (fC L) (inS [(⟨s,s⟩:Span)]) (w,ep) t:=by
 refine (Ij hL ⟨by simp,.inl (by simp[sortMost])⟩ hw he).mono fun r hr=>⟨hr.1,by simpa using hr.2.2,funext fun t=>?_,hr.2.1⟩;unfold ownO updO;rw[hr.2.1 t];unfold giveF;by_cases e:t=s
 ·subst e;rw[if_pos rfl,if_pos ⟨by omega,_,List.mem_singleton.2 rfl,by simp⟩];rfl
 ·rw[if_neg e,if_neg];rintro⟨_,x,hx,h⟩;simp at hx;subst hx;simp at h;omega
def maxE (l:List Claim):Int:=(l.map (·.epoch)).foldl max 0
theorem JD (l:List Claim) (c:Claim):maxE (l++[c])=max (maxE l) c.epoch:=by simp[maxE]
theorem G8 {l:List Claim} {j:Nat} (h:j<l.length):maxE (l.take (j+1))=max (maxE (l.take j)) l[j].epoch:=by
 rw[← List.take_append_getElem h,JD]
theorem F6 {l:List Claim} {B:Int} (hB:0≤B) (h:∀ c∈l,c.epoch≤B):0≤maxE l∧maxE l≤B:=by
 have:∀ (l:List Claim) (a:Int),0≤a→a≤B→(∀ c∈l,c.epoch≤B)→0≤(l.map (·.epoch)).foldl max a∧(l.map (·.epoch)).foldl max a≤B:=by
  intro l;induction l with
  |nil=>exact fun a h1 h2 _=>⟨h1,h2⟩
  |cons c t ih=>exact fun a h1 h2 h=>ih (max a c.epoch) (by omega) (by have:=h c (by simp);omega) fun x hx=>h x (by simp[hx])
 exact this l 0 (Int.le_refl _) hB h
inductive AftR (ep:Int):List Claim→List ApiStep→List Claim→Prop
 |nil {l}:AftR ep l [] l
 |cons {l s r t q}:GoodC r→ownO r=updO (ownO l) s.slot s.to→r.length≤l.length+2→(∀ x,fC r x=giveF (fC l) (inS [(⟨s.slot,s.slot⟩:Span)]) (s.to,ep) x)→AftR ep r t q→AftR ep l (s::t) q
theorem AftR.uniq {ep:Int} {l:List Claim} {s:List ApiStep} {a b:List Claim} (h:AftR ep l s a) (k:AftR ep l s b):a=b:=by
 induction h with
 |nil=>cases k;rfl
 |cons h1 h2 h3 h4 _ ih =>
  cases k with
  |cons k1 k2 k3 k4 kt =>
   have e:=h1.ext k1 fun x=>(h4 x).trans (k4 x).symm;subst e;exact ih kt
theorem AftR.snoc {ep:Int} {l a r:List Claim} {s:List ApiStep} {x:ApiStep} (h:AftR ep l s a) (h1:GoodC r) (h2:ownO r=updO (ownO a) x.slot x.to) (h3:r.length≤a.length+2) (h4:∀ t,fC r t=giveF (fC a) (inS [(⟨x.slot,x.slot⟩:Span)]) (x.to,ep) t):AftR ep l (s++[x]) r:=by
 induction h with
 |nil=>exact .cons h1 h2 h3 h4 .nil
 |cons g1 g2 g3 g4 _ ih=>exact .cons g1 g2 g3 g4 (ih h2 h3 h4)
theorem AftR.good {ep:Int} {l a:List Claim} {s:List ApiStep} (h:AftR ep l s a) (hl:GoodC l):GoodC a:=by
 induction h with
 |nil=>exact hl
 |cons g1 _ _ _ _ ih=>exact ih g1
def StepsW (s:List ApiStep):Prop:=∀ x∈s,(0≤x.slot∧x.slot≤16383)∧0≤x.to
theorem giveP {L:List Claim} (hL:GoodC L) {s w ep:Int} (h0:0≤s) (h1:s≤16383) (hw:0≤w) (he:1≤ep) :
  Rn (BT big L [(⟨s,s⟩:Span)] w ep) fun r=>GoodC r∧r.length≤L.length+2∧ownO r=updO (ownO L) s w∧∀ t,fC r t=giveF (fC L) (inS [(⟨s,s⟩:Span)]) (w,ep) t:=by
 obtain⟨q,-,g1,g2,g3,g4⟩:=give13 hL h0 h1 hw he;refine (IZ hL ⟨by simp,.inl (by simp[sortMost])⟩ hw he).mono fun r hr=>?_;have e:=hr.1.ext g1 fun x=>(hr.2 x).trans (g4 x).symm;subst e;exact⟨g1,g2,g3,g4⟩
theorem JE {l:List Claim} {s:List ApiStep} (hl:GoodC l) (h200:l.length≤200) (hs:StepsW s) (hs1:s.length≤1000) (hE:∀ c∈l,c.epoch≤9007199254740992):Rn (BV big l s) fun r=>AftR (maxE l+1) l s r:=by
 unfold BV;refine Rn.chk (by simp[small];omega) (Rn.lt (Rn.bn (P:=fun e=>e=maxE l+1) (zG _ (fun j y=>y=(maxE (l.take j)+1,(j:Int))) l.length (by unfold big;omega) rfl fun j y hj hI=>?_) fun e he=>?_))
 ·subst hI;refine Rn.lt (zB (fun hd=>?_) fun hd=>?_)
  ·have hjl:j<l.length:=by
    have:=of_decide_eq_true (p:=((j:Int)<(l.length:Int))) hd;omega
   have h1:=F6 (l:=l.take j) (B:=9007199254740992) (by omega) fun c hc=>hE c (List.mem_of_mem_take hc);have h2:=hE _ (List.getElem_mem hjl);have h3:=(hl.2 _ (List.getElem_mem hjl)).2.2.2.2;refine zC (AM hjl) (Rn.lt (Rn.lt (Rn.lt ?_)));simp only;rw[An (by omega) (by omega),An (by omega) (by omega)];refine Rn.some ⟨hjl,?_⟩;rw[G8 hjl];refine Prod.ext ?_ rfl;simp only[maxI];omega
  ·have:j=l.length:=by
    have:=of_decide_eq_false (p:=((j:Int)<(l.length:Int))) hd;omega
   subst this;exact Rn.some (by rw[List.take_length])
 ·subst he;have h1:=F6 (l:=l) (B:=9007199254740992) (by omega) hE;refine Rn.lt (Rn.chk (by simp[room];omega) (Rn.bn (P:=fun r=>AftR (maxE l+1) l s r) (zG _ (fun j y=>∃ L,y=(L,(j:Int))∧AftR (maxE l+1) l (s.take j) L) s.length (by unfold big;omega) ⟨l,rfl,.nil⟩ fun j y hj hI=>?_) fun r hr=>Rn.some hr));obtain⟨L,rfl,hL⟩:=hI;refine Rn.lt (zB (fun hd=>?_) fun hd=>?_)
  ·have hjl:j<s.length:=by
    have:=of_decide_eq_true (p:=((j:Int)<(s.length:Int))) hd;omega
   have hw:=hs _ (List.getElem_mem hjl);refine zC (AM hjl) (Rn.bn (giveP (hL.good hl) hw.1.1 hw.1.2 hw.2 (by omega)) fun r hr=>Rn.lt ?_);simp only;rw[An (by omega) (by omega)];refine Rn.some ⟨hjl,r,rfl,?_⟩;rw[← List.take_append_getElem hjl];exact hL.snoc hr.1 hr.2.2.1 hr.2.1 hr.2.2.2
  ·have:j=s.length:=by
    have:=of_decide_eq_false (p:=((j:Int)<(s.length:Int))) hd;omega
   subst this;rw[List.take_length] at hL;exact Rn.some hL
theorem JF {l:List Claim} {s:List ApiStep} (hl:GoodC l) (h200:l.length≤200) (hs:StepsW s) (hs1:s.length≤1000) (hE:∀ c∈l,c.epoch≤9007199254740992):Rn (EE big l s) fun r=>AftR (maxE l+1) l s r:=by
 unfold EE;refine Rn.bn (P:=fun e=>e=maxE l) (zG _ (fun j y=>y=(maxE (l.take j),(j:Int))) l.length (by unfold big;omega) rfl fun j y hj hI=>?_) fun e he=>?_
 ·subst hI;refine Rn.lt (Rn.lt (zB (fun hd=>?_) fun hd=>?_))
  ·have hjl:j<l.length:=by
    have:=of_decide_eq_true (p:=((j:Int)<(l.length:Int))) hd;omega
   refine zC (AM hjl) (Rn.lt (Rn.lt ?_));simp only;rw[An (by omega) (by omega)];refine Rn.some ⟨hjl,?_⟩;rw[G8 hjl];rfl
  ·have:j=l.length:=by
    have:=of_decide_eq_false (p:=((j:Int)<(l.length:Int))) hd;omega
   subst this;exact Rn.some (by rw[List.take_length])
 ·subst he;have h1:=F6 (l:=l) (B:=9007199254740992) (by omega) hE;refine Rn.bn (P:=fun r=>AftR (maxE l+1) l s r) (zG _ (fun j y=>∃ L,y=(L,(j:Int))∧AftR (maxE l+1) l (s.take j) L) s.length (by unfold big;omega) ⟨l,rfl,.nil⟩ fun j y hj hI=>?_) fun r hr=>Rn.some hr;obtain⟨L,rfl,hL⟩:=hI;refine Rn.lt (Rn.lt (zB (fun hd=>?_) fun hd=>?_))
  ·have hjl:j<s.length:=by
    have:=of_decide_eq_true (p:=((j:Int)<(s.length:Int))) hd;omega
   have hw:=hs _ (List.getElem_mem hjl);refine zC (AM hjl) (Rn.lt ?_);rw[An (by omega) (by omega)];refine Rn.bn (give13 (hL.good hl) hw.1.1 hw.1.2 hw.2 (by omega)) fun r hr=>Rn.lt ?_;simp only;rw[An (by omega) (by omega)];refine Rn.some ⟨hjl,r,rfl,?_⟩;rw[← List.take_append_getElem hjl];exact hL.snoc hr.1 hr.2.2.1 hr.2.1 hr.2.2.2
  ·have:j=s.length:=by
    have:=of_decide_eq_false (p:=((j:Int)<(s.length:Int))) hd;omega
   subst this;rw[List.take_length] at hL;exact Rn.some hL
theorem I4 {l:List Claim} {s:List ApiStep} (hl:GoodC l) (h200:l.length≤200) (hs:StepsW s) (hs1:s.length≤1000) (hE:∀ c∈l,c.epoch≤9007199254740992):∃ a,BV big l s=some a∧EE big l s=some a∧AftR (maxE l+1) l s a∧GoodC a:=by
 obtain⟨a,e1,h1⟩:=JE hl h200 hs hs1 hE;obtain⟨b,e2,h2⟩:=JF hl h200 hs hs1 hE;have e:=h1.uniq h2;subst e;exact⟨a,e1,e2,h1,h1.good hl⟩
theorem I5:D0 big=some true:=by kernel_rfl
end Go.Proofs.Ytenemndpignaoaa
namespace Go.Proofs.Ytenemndpignaoaa
open Go Go.RowKit
theorem AftR.len {ep:Int} {l a:List Claim} {s:List ApiStep} (h:AftR ep l s a):a.length≤l.length+2*s.length:=by
 induction h with
 |nil=>simp
 |cons _ _ h3 _ _ ih=>simp;omega
theorem PlanR.steps {m who:List Int} (hw:WhoR m who):∀ {n:Nat} {o:Owr} {l:List ApiStep},PlanR who n o l→WfO o→StepsW l:=by
 intro n o l h;induction h with
 |stop _=>exact fun _ x hx=>by simp at hx
 |full=>exact fun _ x hx=>by simp at hx
 |step hs _ ih =>
  intro ho x hx;obtain⟨a,b,-,-,-,h4,-,h6,-⟩:=hs;have h1:=ho _ _ h6;rcases List.mem_cons.1 hx with rfl|hx
  ·exact⟨h1,((hw.2 _).1 (List.mem_of_getElem? h4)).1.1⟩
  ·exact ih (ho.upd h1.1 h1.2) x hx
theorem Made.ep {l:List Claim} {n:Nat} (h:Made l n):∀ c∈l,c.epoch≤6:=by
 intro c hc;have:=(h.good.iff c.frm (c.node,c.epoch)).2 ⟨c,hc,⟨Int.le_refl _,(h.good.2 c hc).2.1⟩,rfl⟩;exact (h.low _ _ this).2
theorem PlanR.tail {who:List Int} {n:Nat} {o:Owr} {l t:List ApiStep} (h:PlanR who n o l) {st:ApiStep} (hs:l=st::t):StepR who o st∧∃ n',n=n'+1∧PlanR who n' (updO o st.slot st.to) t:=by
 cases h with
 |stop _=>cases hs
 |full=>cases hs
 |step h1 h2=>cases hs;exact⟨h1,_,rfl,h2⟩
end Go.Proofs.Ytenemndpignaoaa
namespace Go.Proofs.Ytenemndpignaoaa
open Go Go.RowKit
end Go.Proofs.Ytenemndpignaoaa
namespace Go.Proofs.Ytenemndpignaoaa
open Go Go.RowKit
def isMx (C:List Int) (a:Nat):Bool:=(List.range C.length).all fun i=>decide (C.getD i 0≤C.getD a 0∧(i<a→C.getD i 0<C.getD a 0))
def isMn (C:List Int) (a:Nat):Bool:=(List.range C.length).all fun i=>decide (C.getD a 0≤C.getD i 0∧(i<a→C.getD a 0<C.getD i 0))
def allIn (C:List Int):Bool:=(List.range C.length).all fun i=>(List.range C.length).all fun j=>decide (C.getD i 0≤C.getD j 0+1)
def toS (m i:Nat):Nat:=1+i % max 1 (m - 1)
def simS (m:Nat):Nat→Nat→List Int→Option (Nat×List Int)
 |0,_,_=>none
 |n+1,i,C=>bif allIn C then some (i,C) else
  bif isMx C 0 && isMn C (toS m i) && decide (toS m i<C.length) && decide (C.getD (toS m i) 0+1<C.getD 0 0) then simS m n (i+1) ((C.set 0 (C.getD 0 0 - 1)).set (toS m i) (C.getD (toS m i) 0+1)) else none
def simOK (c m:Nat):Bool :=
 match simS m 62 0 ((c:Int)::List.replicate (m - 1) 0) with
 |some (i,C)=>decide (i≤60∧i≤c) && C.all fun x=>decide (((c / m:Nat):Int)≤x∧x≤(((c+m - 1) / m:Nat):Int))
 |none=>false
theorem simAll:(List.range 60).all (fun c=>(List.range 5).all fun m=>simOK (c+1) (m+1))=true:=by kernel_rfl
theorem Ka {c m:Nat} (h1:1≤c) (h2:c≤60) (h3:1≤m) (h4:m≤5):simOK c m=true:=by
 have h:=simAll;rw[List.all_eq_true] at h;have h:=h (c - 1) (List.mem_range.2 (by omega));rw[List.all_eq_true] at h;have h:=h (m - 1) (List.mem_range.2 (by omega));rwa [Nat.sub_add_cancel h1,Nat.sub_add_cancel h3] at h
theorem Lk {C:List Int} {a:Nat} (h:isMx C a=true) (ha:a<C.length):FMx C C.length a:=by
 refine⟨ha,C.getD a 0,by rw[List.getD_eq_getElem?_getD,List.getElem?_eq_getElem ha];rfl,fun i u hi hu=>?_⟩;have:=of_decide_eq_true (List.all_eq_true.1 h i (List.mem_range.2 hi));rw[show C.getD i 0=u by rw[List.getD_eq_getElem?_getD,hu];rfl] at this;exact this
theorem Ll {C:List Int} {a:Nat} (h:isMn C a=true) (ha:a<C.length):FMn C C.length a:=by
 refine⟨ha,C.getD a 0,by rw[List.getD_eq_getElem?_getD,List.getElem?_eq_getElem ha];rfl,fun i u hi hu=>?_⟩;have:=of_decide_eq_true (List.all_eq_true.1 h i (List.mem_range.2 hi));rw[show C.getD i 0=u by rw[List.getD_eq_getElem?_getD,hu];rfl] at this;exact this
def Firsts (who:List Int) (m:Nat):Prop:=who.length=m∧∀ (j:Nat) (w:Int),who[j]?=some w→w=(j:Int)
theorem Firsts.get {who:List Int} {m j:Nat} (h:Firsts who m) (hj:j<m):who[j]?=some (j:Int):=by
 have:=List.getElem?_eq_getElem (l:=who) (i:=j) (by rw[h.1];exact hj);rw[this,h.2 j _ this]
def endO (o:Owr) (p:List ApiStep):Owr:=p.foldl (fun o st=>updO o st.slot st.to) o
theorem AftR.endO {ep:Int} {l a:List Claim} {s:List ApiStep} (h:AftR ep l s a):ownO a=Go.Proofs.Ytenemndpignaoaa.endO (ownO l) s:=by
 induction h with
 |nil=>rfl
 |cons _ h2 _ _ _ ih=>rw[ih,h2];rfl
theorem EF {who:List Int} {m:Nat} (h:Firsts who m) (o:Owr) {j:Nat} (hj:j<m):(cntsO who o)[j]?=some (cntO o (j:Int)):=by
 unfold cntsO;rw[List.getElem?_map,h.get hj];rfl
theorem DS {who:List Int} {m:Nat} (h:Firsts who m) (o:Owr) {j:Nat} (hj:j<m):(cntsO who o).getD j 0=cntO o (j:Int):=by
 rw[List.getD_eq_getElem?_getD,EF h o hj];rfl
theorem Kb {who:List Int} {m c:Nat} (hw:Firsts who m) (hm:1≤m):∀ (n i:Nat) (o:Owr) (i':Nat) (C':List Int),simS m n i (cntsO who o)=some (i',C')→(∀ s,o s=some 0↔0≤s∧s<(c:Int) - (i:Int))→(∀ s w,o s=some w→0≤s∧s<(c:Int))→i≤c→c≤60 →
  i'≤60→∃ p,PlanR who (64 - i) o p∧i+p.length=i'∧(∀ (j:Nat) (st:ApiStep),p[j]?=some st→st=⟨(c:Int) - 1 - ((i+j:Nat):Int),0,(toS m (i+j):Int)⟩)∧cntsO who (endO o p)=C'∧DoneR who (endO o p)∧(∀ s w,endO o p s=some w→0≤s∧s<(c:Int)):=by
 intro n;induction n with
 |zero=>intro i o i' C' h;simp[simS] at h
 |succ n ih =>
  intro i o i' C' h h0 hwf hic hc hi60;have hlen:(cntsO who o).length=m:=by unfold cntsO;rw[List.length_map,hw.1]
  rw[simS] at h;cases ha:allIn (cntsO who o) with
  |true =>
   rw[ha] at h;simp only[cond_true,Option.some.injEq,Prod.mk.injEq] at h;obtain⟨rfl,rfl⟩:=h;refine⟨[],.stop ?_,rfl,fun j st hj=>by simp at hj,rfl,?_,hwf⟩;all_goals
    intro a b wa wb h1 h2;have e1:=hw.2 a wa h1;have e2:=hw.2 b wb h2;have g1:a<m:=by rw[← hw.1];exact (List.getElem?_eq_some_iff.1 h1).1
    have g2:b<m:=by rw[← hw.1];exact (List.getElem?_eq_some_iff.1 h2).1
    have:=of_decide_eq_true (List.all_eq_true.1 (List.all_eq_true.1 ha a (List.mem_range.2 (by omega))) b (List.mem_range.2 (by omega)));rw[DS hw o g1,DS hw o g2] at this;subst e1 e2;exact this
  |false =>
   rw[ha] at h;simp only[cond_false] at h;cases hb:isMx (cntsO who o) 0 && isMn (cntsO who o) (toS m i) && decide (toS m i<(cntsO who o).length) && decide ((cntsO who o).getD (toS m i) 0+1<(cntsO who o).getD 0 0) with
   |false=>rw[hb] at h;simp at h
   |true =>
    rw[hb] at h;simp only[cond_true] at h;simp only[Bool.and_eq_true,decide_eq_true_eq] at hb;obtain⟨⟨⟨b1,b2⟩,b3⟩,b4⟩:=hb;have hb3:toS m i<m:=by omega
    have ht1:1≤toS m i:=by unfold toS;omega
    rw[DS hw o hb3,DS hw o (show 0<m by omega)] at b4;have hic':i<c:=by
     rcases Nat.lt_or_ge i c with g|g
     ·exact g
     ·have z:cntO o 0=0:=by
       unfold cntO;rw[E8 _ fun s hs=>by have:=(h0 s).1 hs;omega];rfl
      have:=(FD o (toS m i:Int)).1;have z':cntO o ((0:Nat):Int)=0:=z;omega
    have hs:o ((c:Int) - 1 - (i:Int))=some 0:=(h0 _).2 (by omega);have hstep:StepR who o ⟨(c:Int) - 1 - (i:Int),0,(toS m i:Int)⟩:=by
     refine⟨0,toS m i,?_,?_,hw.get (by omega),hw.get hb3,b4,hs,fun s hs=>?_⟩
     ·have:=Lk b1 (by omega);rwa [show (cntsO who o).length=who.length by rw[hlen,hw.1]] at this
     ·have:=Ll b2 (by omega);rwa [show (cntsO who o).length=who.length by rw[hlen,hw.1]] at this
     ·have:=(h0 s).1 hs;simp only;omega
    have hcn:cntsO who (updO o ((c:Int) - 1 - (i:Int)) (toS m i:Int))=((cntsO who o).set 0 ((cntsO who o).getD 0 0 - 1)).set (toS m i) ((cntsO who o).getD (toS m i) 0+1):=by
     have hu:=E9 (b:=(toS m i:Int)) hs (by omega) (by omega) (by omega);refine List.ext_getElem? fun j=>?_;rcases Nat.lt_or_ge j m with hj|hj
     ·rw[EF hw _ hj,hu];rcases Decidable.em (j=toS m i) with e|e
      ·subst e;rw[List.getElem?_set_self (by simp[hlen];omega),if_neg (by omega),if_pos rfl,DS hw o hb3]
      ·rw[List.getElem?_set_ne (Ne.symm e)];rcases Nat.eq_zero_or_pos j with e2|e2
       ·subst e2;rw[List.getElem?_set_self (by omega),DS hw o (by omega)];rfl
       ·rw[List.getElem?_set_ne (by omega),EF hw o hj,if_neg (by omega),if_neg (by omega)]
     ·rw[List.getElem?_eq_none (by unfold cntsO;simp[hw.1];omega),List.getElem?_eq_none (by simp[hlen];omega)]
    rw[← hcn] at h;have k1:∀ s,updO o ((c:Int) - 1 - (i:Int)) (toS m i:Int) s=some 0↔0≤s∧s<(c:Int) - ((i+1:Nat):Int):=by
     intro s;unfold updO;by_cases e:s=(c:Int) - 1 - (i:Int)
     ·rw[if_pos e];constructor
      ·intro h;have:=Option.some.inj h;omega
      ·intro h;omega
     ·rw[if_neg e,h0 s];omega
    have k2:∀ s w,updO o ((c:Int) - 1 - (i:Int)) (toS m i:Int) s=some w→0≤s∧s<(c:Int):=by
     intro s w hsw;unfold updO at hsw;split at hsw
     ·omega
     ·exact hwf s w hsw
    obtain⟨p,p1,p2,p3,p4,p5,p6⟩:=ih (i+1) _ i' C' h k1 k2 (by omega) hc hi60
    ·refine⟨⟨(c:Int) - 1 - (i:Int),0,(toS m i:Int)⟩::p,?_,by simp;omega,fun j st hj=>?_,p4,p5,p6⟩
     ·rw[show 64 - i=(64 - (i+1))+1 by omega];exact .step hstep p1
     ·cases j with
      |zero=>simp at hj;subst hj;simp
      |succ j =>
       rw[p3 j st (by simpa using hj),show i+1+j=i+(j+1) by omega]
theorem Gq (n k:Int) (h1:0≤n∧n≤255) (h2:0≤k∧k≤255):Cj big n k=some true:=by
 refine Rn.eqv ?_;unfold Cj;refine Rn.lt ?_;rw[Gn (by omega) (by omega)];refine zC (vrem (by omega) (by omega)) (Rn.lt (Rn.lt ?_));rw[Gn (by omega) (by omega)];refine zC (vrem (by omega) (by omega)) (Rn.lt (Rn.lt ?_));obtain⟨c,hc,hc1,hc2⟩:∃ c:Nat,1+n % 60=(c:Int)∧1≤c∧c≤60:=⟨(1+n % 60).toNat,by omega,by omega,by omega⟩;obtain⟨m,hm,hm1,hm5⟩:∃ m:Nat,1+k % 5=(m:Int)∧1≤m∧m≤5:=⟨(1+k % 5).toNat,by omega,by omega,by omega⟩;rw[An (by omega) (by omega),An (by omega) (by omega),hc,hm,Aq (by omega) (by omega)];refine zC (HW (by simp;omega)) (Rn.chk (by simp[room]) ?_);have hwm:Firsts ([0,1,2,3,4].take m:List Int) m∧WhoR ([0,1,2,3,4].take m:List Int) ([0,1,2,3,4].take m:List Int):=by
  have:m=1∨m=2∨m=3∨m=4∨m=5:=by omega
  unfold Firsts WhoR;rcases this with rfl|rfl|rfl|rfl|rfl
  all_goals
   refine⟨⟨rfl,fun j w h=>?_⟩,by simp,fun x=>by simp;try omega⟩;match j,h with
   |0,h=>simp at h;omega
   |1,h=>simp at h;try omega
   |2,h=>simp at h;try omega
   |3,h=>simp at h;try omega
   |4,h=>simp at h;try omega
   |j+5,h=>simp at h
 have hml:([0,1,2,3,4].take m:List Int).length=m:=hwm.1.1;generalize ([0,1,2,3,4].take m:List Int)=who at hwm hml;obtain⟨hF,hW⟩:=hwm;have hG:GoodC [(⟨0,(c:Int) - 1,0,1⟩:Claim)]:=⟨by simp[canP,cP];omega,fun x hx=>by simp at hx;subst hx;simp;omega⟩;have hown:∀ s,ownO [(⟨0,(c:Int) - 1,0,1⟩:Claim)] s=if 0≤s∧s≤(c:Int) - 1 then some 0 else none:=by
  intro s;unfold ownO fC;by_cases h:0≤s∧s≤(c:Int) - 1
  ·rw[if_pos h];simp[fnP,cP,h]
  ·rw[if_neg h];simp only[List.map_cons,List.map_nil,fnP,cP,if_neg h];rfl
 have hc0:cntsO who (ownO [(⟨0,(c:Int) - 1,0,1⟩:Claim)])=(c:Int)::List.replicate (m - 1) 0:=by
  refine List.ext_getElem? fun j=>?_;rcases Nat.lt_or_ge j m with hj|hj
  ·rw[EF hF _ hj];cases j with
   |zero =>
    have e:=F5 (a:=0) (b:=c - 1) (by omega) (by omega);have:cntO (ownO [(⟨0,(c:Int) - 1,0,1⟩:Claim)]) ((0:Nat):Int)=(c:Int):=by
     unfold cntO;rw[Dk _ (fun s=>((0:Nat):Int)≤s∧s≤((c - 1:Nat):Int)) fun s=>?_,e]
     ·omega
     ·rw[hown s];split
      ·simp;omega
      ·simp;omega
    rw[this];rfl
   |succ j =>
    have:cntO (ownO [(⟨0,(c:Int) - 1,0,1⟩:Claim)]) ((j+1:Nat):Int)=0:=by
     unfold cntO;rw[E8 _ fun s hs=>?_]
     ·rfl
     ·rw[hown s] at hs;split at hs
      ·simp at hs;omega
      ·simp at hs
    rw[this,List.getElem?_cons_succ,List.getElem?_replicate,if_pos (by omega)]
  ·rw[List.getElem?_eq_none (by unfold cntsO;simp[hml];omega),List.getElem?_eq_none (by simp;omega)]
 have hsim:=Ka hc1 hc2 hm1 hm5;unfold simOK at hsim;rw[← hc0] at hsim;cases hs:simS m 62 0 (cntsO who (ownO [(⟨0,(c:Int) - 1,0,1⟩:Claim)])) with
 |none=>rw[hs] at hsim;simp at hsim
 |some r =>
  obtain⟨i',C'⟩:=r;rw[hs] at hsim;simp only[Bool.and_eq_true,decide_eq_true_eq] at hsim;obtain⟨⟨s1,s2⟩,s3⟩:=hsim;obtain⟨p,p1,p2,p3,p4,p5,p6⟩:=Kb (c:=c) hF hm1 62 0 _ i' C' hs (fun s=>by rw[hown s];split <;> simp <;> omega) (fun s w h=>by rw[hown s] at h;split at h <;> simp at h;omega) (by omega) hc2 s1;obtain⟨q,e1,who',hw',hq⟩:=H4 (m:=who) hG (by simp) (by omega);have ew:=hw'.uniq hW;subst ew;have ep:=hq.uniq p1;subst ep;refine zC e1 ?_;have hpl:q.length≤60:=by omega
  obtain⟨a,f1,-,f3,f4⟩:=I4 hG (by simp) (hq.steps hW (FC hG)) (by omega) fun x hx=>by simp at hx;subst hx;simp
  have hao:=f3.endO;refine zC f1 ?_;refine Rn.bn (P:=fun y=>y=.inl ()) (zG _ (fun j y=>y=(j:Int)) q.length (by unfold big;omega) rfl fun j y hj hI=>?_) fun y hy=>?_
  ·subst hI;refine Rn.lt (Rn.lt (zB (fun hd=>?_) fun hd=>Rn.some rfl));have hjl:j<q.length:=by
    have:=of_decide_eq_true (p:=((j:Int)<(q.length:Int))) hd;omega
   have hst:=p3 j _ (List.getElem?_eq_getElem hjl);have hnth:=AM hjl;rw[hst] at hnth;refine zC (v:=false) ?_ (Rn.lt (zB (fun h=>by simp at h) fun _=>Rn.lt ?_))
   ·rw[hnth];simp only[Ar,Ay];rw[Aq (by omega) (by omega),Aq (by omega) (by omega)];rw[show neI ((c:Int) - 1 - ((0+j:Nat):Int)) ((c:Int) - 1 - (j:Int))=false by simp[neI],A6,show neI 0 0=false by decide,A6];rw[show maxI 1 ((m:Int) - 1)=((max 1 (m - 1):Nat):Int) by simp only[maxI];omega];rw[vrem (by omega) (by omega)];simp only[Ar,Ay];have hmod:(j:Int) % ((max 1 (m - 1):Nat):Int)=((j % max 1 (m - 1):Nat):Int):=(Int.natCast_emod _ _).symm;have:j % max 1 (m - 1)<max 1 (m - 1):=Nat.mod_lt _ (by omega);rw[hmod,An (by omega) (by omega)];unfold toS;simp[neI]
   ·rw[An (by omega) (by omega)];exact Rn.some ⟨hjl,rfl⟩
  ·subst hy;rw[Ed];have hal:a.length≤60:=by
    have:=E4 (l:=a.map cP) (a:=0) (b:=(c:Int) - 1) f4.1 (fun x hx=>by
     obtain⟨d,hd,rfl⟩:=List.mem_map.1 hx;have hr:=f4.2 d hd;have h3:=(f4.iff d.to (d.node,d.epoch)).2 ⟨d,hd,⟨hr.2.1,Int.le_refl _⟩,rfl⟩;have h4:ownO a d.to=some d.node:=by unfold ownO;rw[h3];rfl
     rw[hao] at h4;have:=p6 _ _ h4;simp only[cP];omega) (by omega)
    rw[List.length_map] at this;omega
   refine Rn.bn (P:=fun y=>y=.inl ()) (zG _ (fun j y=>y=(j:Int)) m (by unfold big;omega) rfl fun j y hj hI=>?_) fun y hy=>?_
   ·subst hI;refine Rn.lt (zB (fun hd=>?_) fun hd=>Rn.some rfl);have hjm:j<m:=by
     have:=of_decide_eq_true (p:=((j:Int)<(m:Int))) hd;omega
    obtain⟨f,g1,-,-,g2⟩:=own13 f4 (by omega) (j:Int);refine zC g1 (zC g2 ?_);have hx:cntO (ownO a) (j:Int)∈C':=by
     rw[hao,← p4];exact List.mem_of_getElem? (EF hF _ hjm)
    have hb:=of_decide_eq_true (List.all_eq_true.1 s3 _ hx);have d1:((c / m:Nat):Int)=(c:Int) / (m:Int):=Int.natCast_ediv _ _;have d2:(((c+m - 1) / m:Nat):Int)=((c:Int)+(m:Int) - 1) / (m:Int):=by rw[Int.natCast_ediv];congr 1;omega
    have hcl:=FD (ownO a) (j:Int);refine zC (v:=false) ?_ (Rn.lt (zB (fun h=>by simp at h) fun _=>Rn.lt ?_))
    ·rw[vquo (by omega) (by omega) (by omega)];simp only[Ar,Ay];rw[lt_f (by omega),A6,An (by omega) (by omega),Aq (by omega) (by omega),vquo (by omega) (by omega) (by omega)];simp only[Ar,Ay];rw[gt_f (by omega)]
    ·rw[An (by omega) (by omega)];exact Rn.some ⟨hjm,rfl⟩
   ·subst hy;rw[Ed];obtain⟨q2,e2,who2,hw2,hq2⟩:=H4 (m:=who') f4 hal (by omega);have ew:=hw2.uniq hW;subst ew;have eq2:=hq2.uniq (.stop (by rw[hao];exact p5));subst eq2;exact Rn.bn (P:=(·=true)) (zC e2 (Rn.lt (Rn.lt (zB (fun _=>zC I5 (Rn.some rfl)) fun h=>absurd h (by decide))))) fun y hy=>Rn.some hy
end Go.Proofs.Ytenemndpignaoaa
namespace Go.Proofs.Ytenemndpignaoaa
open Go Go.RowKit
set_option maxRecDepth 100000
section
variable {P:Program} {n t:Nat} {ts:List T}
theorem WfT.bool (hu:P.underlying t=some .bool) (h:WfT P (n+1) t ts):∃ b,ts=[.v (.bool b)]:=by rw[WfT,hu] at h;exact h
theorem WfT.int {k:IntKind} (hu:P.underlying t=some (.int k)) (h:WfT P (n+1) t ts):∃ i,ts=[.v (.int k i)]∧(Lit.int k i).wf=true:=by rw[WfT,hu] at h;exact h
theorem WfT.slice {e:Nat} (hu:P.underlying t=some (.slice e)) (h:WfT P (n+1) t ts):∃ es,ts=[.sl (P.cellsOf e) es]∧es.length*P.bytesOf e≤reachBytes∧∀ x∈es,WfT P n e x:=by rw[WfT,hu] at h;exact h
theorem WfT.struct {fs:Array Go.Field} (hu:P.underlying t=some (.struct fs)) (h:WfT P (n+1) t ts):∃ ps:List (List T),ts=ps.flatten∧All2 (fun p f=>WfT P n f p) ps (fs.toList.map (·.type)):=by rw[WfT,hu] at h;exact h
end
theorem All2.cons_r {α β:Type} {R:α→β→Prop} {l:List α} {b:β} {bs:List β} (h:All2 R l (b::bs)):∃ x xs,l=x::xs∧R x b∧All2 R xs bs:=by
 cases l with
 |nil=>exact h.elim
 |cons x xs=>exact⟨x,xs,rfl,h⟩
theorem All2.nil_r {α β:Type} {R:α→β→Prop} {l:List α} (h:All2 R l ([]:List β)):l=[]:=by
 cases l with
 |nil=>rfl
 |cons x xs=>exact h.elim
def rngI (i:Int):Prop:=-9223372036854775808≤i∧i≤9223372036854775807
def rngU (i:Int):Prop:=0≤i∧i≤255
theorem ID {i:Int} (h:(Lit.int .u8 i).wf=true):rngU i:=by
 have h':=(Bool.and_eq_true _ _ ▸ h:_∧_);exact⟨of_decide_eq_true h'.1,of_decide_eq_true h'.2⟩
def rngClaim (x:Claim):Prop:=(rngI x.frm)∧(rngI x.to)∧(rngI x.node)∧(rngI x.epoch)
end Go.Proofs.Ytenemndpignaoaa
namespace Go.Proofs.Ytenemndpignaoaa
open Go Go.RowKit
open Go.ChangeShapes Go.WideShapes Go.ChangeAt Go.RowKit
theorem Try.own:ownKnob Try.prog.godebug=none:=by kernel_rfl
theorem Try.laidOut:laidOutB Try.prog=true:=by kernel_rfl
end Go.Proofs.Ytenemndpignaoaa
namespace Go.Proofs.Ytenemndpignaoaa
open Go Go.RowKit
set_option maxRecDepth 100000
def rngH1 (i:Int):Prop:=0≤i∧i≤65535
end Go.Proofs.Ytenemndpignaoaa
