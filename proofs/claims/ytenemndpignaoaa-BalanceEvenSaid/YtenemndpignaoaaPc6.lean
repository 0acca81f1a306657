/- Part 6 of the proof. -/
import Derived.Test.YtenemndpignaoaaPc5
import Derived.Test.YtenemndpignaoaaRows
import Derived.ProofKit
set_option linter.unusedVariables false
set_option linter.unusedSimpArgs false
set_option linter.constructorNameAsVariable false
set_option maxRecDepth 8000
set_option maxHeartbeats 8000000
namespace Go.Proofs.Ytenemndpignaoaa
open Go Go.RowKit
def cov (l:List Span) (t:Int):Prop:=∃ x∈l,x.frm≤t∧t≤x.to
theorem SaysS.rises {l:List Span} {p:Int→Prop} [DecidablePred p] (h:SaysS l p):Rises l:=by
 have key:∀ {l:List Span},canP (l.map sP)→Rises l:=by
  intro l;induction l with
  |nil=>intro _;exact List.Pairwise.nil
  |cons a t ih =>
   intro hc;refine List.pairwise_cons.2 ⟨fun b hb=>?_,ih (canP.tail (p:=sP a) hc)⟩;have h1:=canP.lt (p:=sP a) hc (sP b) (List.mem_map_of_mem hb);have h2:=canP.head (p:=sP a) hc;simp only[sP] at h1 h2;omega
 exact key h.1
theorem SaysS.lt {a:Span} {l:List Span} (h:canP ((a::l).map sP)):a.frm≤a.to∧∀ b∈l,a.to<b.frm:=⟨canP.head (p:=sP a) h,fun b hb=>canP.lt (p:=sP a) h (sP b) (List.mem_map_of_mem hb)⟩
theorem JT {l:List Span} (hl:SortableS l):Rn (Ci big l) fun n=>n=(cntP (inS l):Nat):=by
 unfold Ci;refine Rn.bn (Dp hl) fun v hv=>Rn.lt ?_;obtain⟨hv,hvl⟩:=hv;have hr:=hv.rng fun s hs=>Cr s hs;have hlen:v.length≤200:=Nat.le_trans hvl hl.1;refine Rn.bn (P:=fun n=>n=sumS v) (zF _ (fun j y=>y=(sumS (v.take j),(j:Int))∧0≤sumS (v.take j)∧sumS (v.take j)≤16384*(j:Int)) v.length (by unfold big;omega) ⟨rfl,by simp[sumS],by simp[sumS]⟩ fun j y hj hI=>?_) fun n hn=>Rn.some ?_
 ·obtain⟨rfl,g1,g2⟩:=hI;refine Rn.lt (zB (fun hd=>?_) fun hd=>?_)
  ·have hjl:j<v.length:=by
    have:=of_decide_eq_true (p:=((j:Int)<(v.length:Int))) hd;omega
   obtain⟨h1,h2,h3⟩:=hr _ (List.getElem_mem hjl);refine zC (AF hjl) (Rn.lt (Rn.lt (Rn.lt (Rn.lt ?_))));have e:sumS (v.take (j+1))=sumS (v.take j)+(v[j].to - v[j].frm+1):=by
    rw[← List.take_append_getElem hjl];unfold sumS;rw[List.map_append,List.sum_append];simp
   simp only;rw[Aq (by omega) (by omega),Ao (a:=v[j].to - v[j].frm) (by omega) (by omega),Ao (by omega) (by omega),Ao (by omega) (by omega)];exact Rn.some ⟨hjl,by rw[e];rfl,by rw[e];omega,by rw[e];omega⟩
  ·have:j=v.length:=by
    have:=of_decide_eq_false (p:=((j:Int)<(v.length:Int))) hd;omega
   subst this;exact Rn.some (by simp)
 ·rw[hn];exact hv.cnt fun s hs=>Cr s hs
theorem Ks {a:List Span} {p:Int→Prop} [DecidablePred p] (ha:SaysS a p) (hp:∀ s,p s→0≤s∧s≤16383) (hl:a.length≤199) {s:Int} (h0:0≤s) (h1:s≤16383) :
  Rn (CG big a [(⟨s,s⟩:Span)]) fun r=>SaysS r (fun t=>p t∨t=s)∧r.length≤a.length+1:=by
 unfold CG;refine Rn.chk (by simp[catB];omega) (Rn.lt ?_);rw[show List.flatten [a,[(⟨s,s⟩:Span)]]=a++[(⟨s,s⟩:Span)] by simp];have hs:SortableS (a++[(⟨s,s⟩:Span)]):=⟨by simp;omega,.inr (by rw[List.dropLast_concat];exact ha.rises)⟩;refine Rn.bn (Dp hs) fun v hv=>Rn.some ⟨SaysS.of hv.1.1 fun t=>?_,by simpa using hv.2⟩;rw[hv.1.iff];unfold inS;constructor
 ·rintro⟨h2,x,hx,h3⟩;rcases List.mem_append.1 hx with hx|hx
  ·exact .inl ((ha.iff t).1 ⟨x,hx,h3⟩)
  ·simp at hx;subst hx;exact .inr (by simp at h3;omega)
 ·rintro (h|rfl)
  ·obtain⟨x,hx,h3⟩:=(ha.iff t).2 h;exact⟨by have:=hp t h;omega,x,by simp[hx],h3⟩
  ·exact⟨by omega,⟨t,t⟩,by simp,by simp⟩
def gapsS (s:Int):List Span:=(if 0<s then [(⟨0,s - 1⟩:Span)] else [])++(if s<16383 then [(⟨s+1,16383⟩:Span)] else [])
theorem Kt {s:Int} (h0:0≤s) (h1:s≤16383):A5 big [(⟨s,s⟩:Span)]=some [(⟨s,s⟩:Span)]:=by
 obtain⟨v,e,hv,-⟩:=Dp (l:=[(⟨s,s⟩:Span)]) ⟨by simp,.inl (by simp[sortMost])⟩;have h2:SaysS [(⟨s,s⟩:Span)] (inS [(⟨s,s⟩:Span)]):=SaysS.of (by simp[canP,sP]) fun t=>by
  unfold inS;exact⟨fun h=>⟨by obtain⟨x,hx,h⟩:=h;simp at hx;subst hx;simp at h;omega,h⟩,fun h=>h.2⟩
 rw[e,hv.ext h2 fun _=>Iff.rfl]
theorem Lf {s:Int} (h0:0≤s) (h1:s≤16383):Bx big [(⟨s,s⟩:Span)]=some (gapsS s):=by
 refine Rn.eqv ?_;unfold Bx BE;refine Rn.bn (P:=fun r=>r=gapsS s) (Rn.bn (P:=fun r=>r=gapsS s) (zC (Kt h0 h1) (Rn.lt ?_)) fun y hy=>?_) fun v hv=>Rn.some hv
 ·refine Rn.bn (P:=fun y=>y=(s+1,if 0<s then [(⟨0,s - 1⟩:Span)] else [])) (zF _ (fun j y=>(j=0∧y=(0,0,[]))∨(j=1∧y=(s+1,1,if 0<s then [(⟨0,s - 1⟩:Span)] else []))) 1 (by unfold big;omega) (.inl ⟨rfl,rfl⟩) fun j y hj hI=>?_) fun y hy=>?_
  ·rcases hI with ⟨rfl,rfl⟩|⟨rfl,rfl⟩
   ·refine Rn.lt (zB (fun _=>?_) fun h=>absurd (show ltI 0 1=false from h) (by decide));refine zC (v:=(⟨s,s⟩:Span)) rfl (Rn.lt ?_);refine zB (fun hc=>?_) fun hc=>?_
    ·have hc:0<s:=of_decide_eq_true hc;refine Rn.lt (Rn.chk (by simp[room]) (Rn.lt (Rn.lt (Rn.lt ?_))));simp only;rw[Aq (by omega) (by omega),Ao (by omega) (by omega),if_pos hc];exact Rn.some ⟨by omega,.inr ⟨by first|trivial|rfl,rfl⟩⟩
    ·have hc:¬ 0<s:=of_decide_eq_false hc;refine Rn.lt (Rn.lt ?_);simp only;rw[Ao (by omega) (by omega),if_neg hc];exact Rn.some ⟨by omega,.inr ⟨by first|trivial|rfl,rfl⟩⟩
   ·exact Rn.lt (zB (fun h=>absurd (show ltI 1 1=true from h) (by decide)) fun _=>Rn.some rfl)
  ·subst hy;refine Rn.lt ?_;simp only;refine zB (fun hc=>?_) fun hc=>?_
   ·have hc:s+1≤16383:=of_decide_eq_true hc;refine Rn.chk (by simp[room];split <;> simp) (Rn.lt (Rn.some ?_));unfold gapsS;rw[if_pos (show s<16383 by omega)]
   ·have hc:¬ s+1≤16383:=of_decide_eq_false hc;refine Rn.some ?_;unfold gapsS;rw[if_neg (show ¬ s<16383 by omega)];simp
 ·subst hy;refine Rn.chk ?_ (Rn.some rfl);unfold gapsS;simp only[room];split <;> split <;> simp
theorem JU {s:Int} (h0:0≤s) (h1:s≤16383):SaysS (gapsS s) (fun t=>(0≤t∧t≤16383)∧t≠s):=by
 unfold gapsS;refine SaysS.of ?_ fun t=>?_
 ·split <;> split <;> simp[canP,sP] <;> omega
 ·split <;> split <;> simp <;> omega
theorem Ku (s:Int):(gapsS s).length≤2:=by
 unfold gapsS;split <;> split <;> simp
theorem Lg {a b:List Span} {p q:Int→Prop} [DecidablePred p] [DecidablePred q] (ha:SaysS a p) (hb:SaysS b q) (hp:∀ s,p s→0≤s∧s≤16383) (hq:∀ s,q s→0≤s∧s≤16383) (hl:a.length+b.length≤200) :
  Rn (C2 big a b) fun r=>SaysS r (fun t=>p t∧q t)∧r.length≤a.length+b.length:=by
 have na:∀ {a:List Span} {p:Int→Prop} [DecidablePred p],SaysS a p→(∀ s,p s→0≤s∧s≤16383)→a.length≤200→A5 big a=some a:=by
  intro a p _ ha hp hl;obtain⟨v,e,hv,-⟩:=Dp (l:=a) ⟨hl,.inr ha.rises.drop⟩;rw[e,hv.ext ha fun t=>ha.inS hp t]
 unfold C2;refine Rn.bn (P:=fun r=>Rises r∧r.length≤a.length+b.length∧∀ t,cov r t↔p t∧q t) ?_ fun y hy=>?_
 ·refine zC (v:=(a,b)) rfl (zC (na ha hp (show a.length≤200 by omega)) (zC (na hb hq (show b.length≤200 by omega)) ?_));refine Rn.bn (P:=fun r=>Rises r∧r.length≤a.length+b.length∧∀ t,cov r t↔p t∧q t) (zF _ (fun j y=>∃ u v out:List Span,y=(u,v,out)∧canP (u.map sP)∧canP (v.map sP)∧u.length+v.length+j=a.length+b.length∧out.length≤j∧Rises out∧(∀ z∈out,z.frm≤z.to∧((∀ h∈u,z.to<h.frm)∨∀ h∈v,z.to<h.frm))∧∀ t,(cov out t∨(cov u t∧cov v t))↔(p t∧q t)) (a.length+b.length) (by unfold big;omega) ⟨a,b,[],rfl,ha.1,hb.1,by omega,by simp,List.Pairwise.nil,by simp,fun t=>?_⟩ fun j y hj hI=>?_) fun y hy=>Rn.some hy
  ·unfold cov;rw[ha.iff,hb.iff];simp
  ·obtain⟨u,v,out,rfl,cu,cv,hn,ho,hr,hz,hc⟩:=hI;have hend:u=[]∨v=[]→∀ t,cov out t↔p t∧q t:=by
    intro h t;rw[← hc t];refine⟨.inl,?_⟩;rintro (h1|⟨⟨x,hx,-⟩,⟨y,hy,-⟩⟩)
    ·exact h1
    ·rcases h with rfl|rfl
     ·simp at hx
     ·simp at hy
   refine Rn.bn (P:=fun c=>c=(!u.isEmpty && !v.isEmpty)) ?_ fun c hcv=>Rn.lt ?_
   ·refine Rn.lt (Rn.lt (zB (fun hd=>?_) fun hd=>?_))
    ·have hd:(0:Int)<(u.length:Int):=of_decide_eq_true hd;cases u with
     |nil=>simp at hd
     |cons x u =>
      refine Rn.lt (Rn.lt (Rn.some ?_));cases v with
      |nil=>rfl
      |cons y v=>exact decide_eq_true (show (0:Int)<((y::v).length:Int) by simp)
    ·have hd:¬ (0:Int)<(u.length:Int):=of_decide_eq_false hd;cases u with
     |nil=>exact Rn.some rfl
     |cons x u=>exact absurd hd (by simp)
   ·subst hcv;cases u with
    |nil=>exact zB (fun h=>by simp at h) fun _=>Rn.some ⟨hr,show out.length≤_ by omega,hend (.inl rfl)⟩
    |cons x u =>
     cases v with
     |nil=>exact zB (fun h=>by simp at h) fun _=>Rn.some ⟨hr,show out.length≤_ by omega,hend (.inr rfl)⟩
     |cons y v =>
      refine zB (fun _=>?_) fun h=>by simp at h
      obtain⟨x1,x2⟩:=SaysS.lt cu;obtain⟨y1,y2⟩:=SaysS.lt cv;have tu:=canP.tail (p:=sP x) cu;have tv:=canP.tail (p:=sP y) cv;refine zC (v:=x) rfl (zC (v:=y) rfl (Rn.lt (Rn.lt (Rn.lt ?_))))
      -- the next piece,and what is left behind it
      have hstep:∀ out':List Span,(∀ t,cov out' t↔cov out t∨((x.frm≤t∧t≤x.to)∧(y.frm≤t∧t≤y.to))) →
        (x.to<y.to→∀ t,(cov out' t∨(cov u t∧cov (y::v) t))↔(p t∧q t))∧(¬ x.to<y.to→∀ t,(cov out' t∨(cov (x::u) t∧cov v t))↔(p t∧q t)):=by
       intro out' ho';refine⟨fun hlt t=>?_,fun hge t=>?_⟩
       ·rw[← hc t,ho' t];unfold cov;constructor
        ·rintro ((h|⟨h1,h2⟩)|⟨⟨z,hz,h1⟩,h2⟩)
         ·exact .inl h
         ·exact .inr ⟨⟨x,by simp,h1⟩,⟨y,by simp,h2⟩⟩
         ·exact .inr ⟨⟨z,by simp[hz],h1⟩,h2⟩
        ·rintro (h|⟨⟨z,hz2,h1⟩,⟨w,hw,h2⟩⟩)
         ·exact .inl (.inl h)
         ·rcases List.mem_cons.1 hz2 with rfl|hz2
          ·rcases List.mem_cons.1 hw with rfl|hw
           ·exact .inl (.inr ⟨h1,h2⟩)
           ·have:=y2 w hw;omega
          ·exact .inr ⟨⟨z,hz2,h1⟩,⟨w,hw,h2⟩⟩
       ·rw[← hc t,ho' t];unfold cov;constructor
        ·rintro ((h|⟨h1,h2⟩)|⟨h1,⟨z,hz,h2⟩⟩)
         ·exact .inl h
         ·exact .inr ⟨⟨x,by simp,h1⟩,⟨y,by simp,h2⟩⟩
         ·exact .inr ⟨h1,⟨z,by simp[hz],h2⟩⟩
        ·rintro (h|⟨⟨z,hz2,h1⟩,⟨w,hw,h2⟩⟩)
         ·exact .inl (.inl h)
         ·rcases List.mem_cons.1 hw with rfl|hw
          ·rcases List.mem_cons.1 hz2 with rfl|hz2
           ·exact .inl (.inr ⟨h1,h2⟩)
           ·have:=x2 z hz2;omega
          ·exact .inr ⟨⟨z,hz2,h1⟩,⟨w,hw,h2⟩⟩
      -- the elder pieces
      have hold:(∀ z∈out,(∀ h∈u,z.to<h.frm)∨∀ h∈y::v,z.to<h.frm)∧∀ z∈out,(∀ h∈x::u,z.to<h.frm)∨∀ h∈v,z.to<h.frm :=
       ⟨fun z hzo=>(hz z hzo).2.imp (fun h k hk=>h k (by simp[hk])) id,fun z hzo=>(hz z hzo).2.imp id fun h k hk=>h k (by simp[hk])⟩
      refine zB (fun hd=>?_) fun hd=>?_
      ·have hd:max x.frm y.frm≤min x.to y.to:=of_decide_eq_true hd;refine Rn.chk (by simp[room];omega) (Rn.lt (Rn.lt ?_));have ho':∀ t,cov (out++[(⟨max x.frm y.frm,min x.to y.to⟩:Span)]) t↔cov out t∨((x.frm≤t∧t≤x.to)∧(y.frm≤t∧t≤y.to)):=by
        intro t;unfold cov;constructor
        ·rintro⟨z,hz,h⟩;rcases List.mem_append.1 hz with hz|hz
         ·exact .inl ⟨z,hz,h⟩
         ·simp at hz;subst hz;exact .inr (by simp only at h;omega)
        ·rintro (⟨z,hz,h⟩|h)
         ·exact⟨z,by simp[hz],h⟩
         ·exact⟨_,List.mem_append_right _ (List.mem_singleton.2 rfl),by simp only;omega⟩
       have hr':Rises (out++[(⟨max x.frm y.frm,min x.to y.to⟩:Span)]):=by
        refine List.pairwise_append.2 ⟨hr,List.pairwise_singleton _ _,fun z hz' w hw=>?_⟩;simp at hw;subst hw;obtain⟨g1,g2|g2⟩:=hz z hz'
        ·have:=g2 x (by simp);simp only;omega
        ·have:=g2 y (by simp);simp only;omega
       refine zB (fun hd2=>?_) fun hd2=>?_
       ·have hd2:x.to<y.to:=of_decide_eq_true hd2;refine zC (v:=u) (by simp[segl];omega) (Rn.some ⟨by simp at hn;omega,u,y::v,_,rfl,tu,cv,by simp at hn ⊢;omega,by simp;omega,hr',fun z hz'=>?_,(hstep _ ho').1 hd2⟩);rcases List.mem_append.1 hz' with hz'|hz'
        ·exact⟨(hz z hz').1,hold.1 z hz'⟩
        ·simp at hz';subst hz';exact⟨hd,.inl fun h hh=>by have:=x2 h hh;simp only[minI];omega⟩
       ·have hd2:¬ x.to<y.to:=of_decide_eq_false hd2;refine zC (v:=v) (by simp[segl];omega) (Rn.some ⟨by simp at hn;omega,x::u,v,_,rfl,cu,tv,by simp at hn ⊢;omega,by simp;omega,hr',fun z hz'=>?_,(hstep _ ho').2 hd2⟩);rcases List.mem_append.1 hz' with hz'|hz'
        ·exact⟨(hz z hz').1,hold.2 z hz'⟩
        ·simp at hz';subst hz';exact⟨hd,.inr fun h hh=>by have:=y2 h hh;simp only[minI];omega⟩
      ·have hd:¬ max x.frm y.frm≤min x.to y.to:=of_decide_eq_false hd;have ho':∀ t,cov out t↔cov out t∨((x.frm≤t∧t≤x.to)∧(y.frm≤t∧t≤y.to)):=fun t=>⟨.inl,fun h=>h.resolve_right fun h=>by omega⟩;refine Rn.lt (zB (fun hd2=>?_) fun hd2=>?_)
       ·have hd2:x.to<y.to:=of_decide_eq_true hd2;exact zC (v:=u) (by simp[segl];omega) (Rn.some ⟨by simp at hn;omega,u,y::v,_,rfl,tu,cv,by simp at hn ⊢;omega,show out.length≤_ by omega,hr,fun z hz'=>⟨(hz z hz').1,hold.1 z hz'⟩,(hstep _ ho').1 hd2⟩)
       ·have hd2:¬ x.to<y.to:=of_decide_eq_false hd2;exact zC (v:=v) (by simp[segl];omega) (Rn.some ⟨by simp at hn;omega,x::u,v,_,rfl,cu,tv,by simp at hn ⊢;omega,show out.length≤_ by omega,hr,fun z hz'=>⟨(hz z hz').1,hold.2 z hz'⟩,(hstep _ ho').2 hd2⟩)
 ·obtain⟨h1,h2,h3⟩:=hy;refine Rn.chk (by simp[room];omega) (Rn.bn (Dp ⟨by omega,.inr h1.drop⟩) fun v hv=>Rn.some ⟨SaysS.of hv.1.1 fun t=>?_,by omega⟩);rw[hv.1.iff,← h3 t];unfold inS;refine⟨fun h=>h.2,fun h=>⟨?_,h⟩⟩;have:=hp t ((h3 t).1 h).1;omega
theorem JV {a:List Span} {p:Int→Prop} [DecidablePred p] (ha:SaysS a p) (hp:∀ s,p s→0≤s∧s≤16383) (hl:a.length≤198) {s:Int} (h0:0≤s) (h1:s≤16383) :
  Rn (CH big a [(⟨s,s⟩:Span)]) fun r=>SaysS r (fun t=>p t∧t≠s)∧r.length≤a.length+2:=by
 unfold CH;have hg:=Ku s;refine zC (v:=[(⟨s,s⟩:Span)]) rfl (zC (Lf h0 h1) (Rn.bn (Lg ha (JU h0 h1) hp (fun t ht=>ht.1) (by omega)) fun r hr=>Rn.some ⟨SaysS.of hr.1.1 fun t=>?_,by omega⟩));rw[hr.1.iff];exact⟨fun h=>⟨h.1,h.2.2⟩,fun h=>⟨h.1,hp t h.1,h.2⟩⟩
end Go.Proofs.Ytenemndpignaoaa
namespace Go.Proofs.Ytenemndpignaoaa
open Go Go.RowKit
abbrev Owr:=Int→Option Int
def cntO (o:Owr) (w:Int):Int:=(cntP (fun s=>o s=some w):Nat)
def updO (o:Owr) (s w:Int):Owr:=fun t=>if t=s then some w else o t
def WfO (o:Owr):Prop:=∀ s w,o s=some w→0≤s∧s≤16383
theorem WfO.upd {o:Owr} (h:WfO o) {s w:Int} (h0:0≤s) (h1:s≤16383):WfO (updO o s w):=by
 intro t u ht;unfold updO at ht;split at ht
 ·omega
 ·exact h t u ht
structure FMx (ns:List Int) (j a:Nat):Prop where
 lt:a<j
 ex:∃ v,ns[a]?=some v∧∀ i u,i<j→ns[i]?=some u→u≤v∧(i<a→u<v)
structure FMn (ns:List Int) (j a:Nat):Prop where
 lt:a<j
 ex:∃ v,ns[a]?=some v∧∀ i u,i<j→ns[i]?=some u→v≤u∧(i<a→v<u)
theorem FMx.uniq {ns:List Int} {j a b:Nat} (h:FMx ns j a) (k:FMx ns j b):a=b:=by
 obtain⟨h1,v,h2,h3⟩:=h;obtain⟨k1,w,k2,k3⟩:=k;have g1:=h3 b w k1 k2;have g2:=k3 a v h1 h2;rcases Nat.lt_trichotomy a b with h|h|h
 ·have:=g2.2 h;omega
 ·exact h
 ·have:=g1.2 h;omega
theorem FMn.uniq {ns:List Int} {j a b:Nat} (h:FMn ns j a) (k:FMn ns j b):a=b:=by
 obtain⟨h1,v,h2,h3⟩:=h;obtain⟨k1,w,k2,k3⟩:=k;have g1:=h3 b w k1 k2;have g2:=k3 a v h1 h2;rcases Nat.lt_trichotomy a b with h|h|h
 ·have:=g2.2 h;omega
 ·exact h
 ·have:=g1.2 h;omega
theorem FMx.one {ns:List Int} {v:Int} (h:ns[0]?=some v):FMx ns 1 0:=⟨by omega,v,h,fun i u hi hu=>by
 have:i=0:=by omega
 subst this;rw[h] at hu;cases hu
 exact⟨Int.le_refl _,fun h=>by omega⟩⟩
theorem FMn.one {ns:List Int} {v:Int} (h:ns[0]?=some v):FMn ns 1 0:=⟨by omega,v,h,fun i u hi hu=>by
 have:i=0:=by omega
 subst this;rw[h] at hu;cases hu
 exact⟨Int.le_refl _,fun h=>by omega⟩⟩
theorem FMx.more {ns:List Int} {j a:Nat} {v x:Int} (h:FMx ns j a) (hv:ns[a]?=some v) (hx:ns[j]?=some x):FMx ns (j+1) (if v<x then j else a):=by
 obtain⟨h1,w,h2,h3⟩:=h;rw[hv] at h2;cases h2
 split
 ·refine⟨by omega,x,hx,fun i u hi hu=>?_⟩;rcases Nat.lt_or_ge i j with g|g
  ·have:=(h3 i u g hu).1;omega
  ·have:i=j:=by omega
   subst this;rw[hx] at hu;cases hu
   omega
 ·refine⟨by omega,v,hv,fun i u hi hu=>?_⟩;rcases Nat.lt_or_ge i j with g|g
  ·exact h3 i u g hu
  ·have:i=j:=by omega
   subst this;rw[hx] at hu;cases hu
   omega
theorem FMn.more {ns:List Int} {j a:Nat} {v x:Int} (h:FMn ns j a) (hv:ns[a]?=some v) (hx:ns[j]?=some x):FMn ns (j+1) (if x<v then j else a):=by
 obtain⟨h1,w,h2,h3⟩:=h;rw[hv] at h2;cases h2
 split
 ·refine⟨by omega,x,hx,fun i u hi hu=>?_⟩;rcases Nat.lt_or_ge i j with g|g
  ·have:=(h3 i u g hu).1;omega
  ·have:i=j:=by omega
   subst this;rw[hx] at hu;cases hu
   omega
 ·refine⟨by omega,v,hv,fun i u hi hu=>?_⟩;rcases Nat.lt_or_ge i j with g|g
  ·exact h3 i u g hu
  ·have:i=j:=by omega
   subst this;rw[hx] at hu;cases hu
   omega
def cntsO (who:List Int) (o:Owr):List Int:=who.map (cntO o)
def StepR (who:List Int) (o:Owr) (st:ApiStep):Prop :=
 ∃ a b:Nat,FMx (cntsO who o) who.length a∧FMn (cntsO who o) who.length b∧who[a]?=some st.frm∧who[b]?=some st.to∧cntO o st.to+1<cntO o st.frm∧o st.slot=some st.frm∧∀ s,o s=some st.frm→s≤st.slot
def DoneR (who:List Int) (o:Owr):Prop:=∀ (i j:Nat) (wi wj:Int),who[i]?=some wi→who[j]?=some wj→cntO o wi≤cntO o wj+1
inductive PlanR (who:List Int):Nat→Owr→List ApiStep→Prop
 |stop {n o}:DoneR who o→PlanR who n o []
 |full {o}:PlanR who 0 o []
 |step {n o st l}:StepR who o st→PlanR who n (updO o st.slot st.to) l→PlanR who (n+1) o (st::l)
theorem StepR.uniq {who:List Int} {o:Owr} {s t:ApiStep} (h:StepR who o s) (k:StepR who o t):s=t:=by
 obtain⟨a,b,h1,h2,h3,h4,h5,h6,h7⟩:=h;obtain⟨a',b',k1,k2,k3,k4,k5,k6,k7⟩:=k;have e1:=h1.uniq k1;have e2:=h2.uniq k2;subst e1 e2;have e3:s.frm=t.frm:=Option.some.inj (h3.symm.trans k3);have e4:s.to=t.to:=Option.some.inj (h4.symm.trans k4);have g1:=h7 t.slot (by rw[e3];exact k6);have g2:=k7 s.slot (by rw[← e3];exact h6);exact ApiStep.ext (by omega) e3 e4
theorem StepR.notDone {who:List Int} {o:Owr} {s:ApiStep} (h:StepR who o s):¬ DoneR who o:=by
 obtain⟨a,b,h1,h2,h3,h4,h5,h6,h7⟩:=h;intro hd;have:=hd a b _ _ h3 h4;omega
theorem PlanR.uniq {who:List Int}:∀ {n:Nat} {o:Owr} {l m:List ApiStep},PlanR who n o l→PlanR who n o m→l=m:=by
 intro n o l m h;induction h generalizing m with
 |stop hd =>
  intro k;cases k with
  |stop _=>rfl
  |full=>rfl
  |step hs _=>exact absurd hd hs.notDone
 |full =>
  intro k;cases k with
  |stop _=>rfl
  |full=>rfl
 |step hs _ ih =>
  intro k;cases k with
  |stop hd=>exact absurd hd hs.notDone
  |step ks k2 =>
   have e:=hs.uniq ks;subst e;rw[ih k2]
theorem PlanR.len {who:List Int} {n:Nat} {o:Owr} {l:List ApiStep} (h:PlanR who n o l):l.length≤n:=by
 induction h with
 |stop _=>simp
 |full=>simp
 |step _ _ ih=>simp;omega
theorem Gr {o:Owr} {s a b:Int} (hs:o s=some a) (h0:0≤s) (h1:s≤16383) (hab:a≠b) (w:Int):cntO (updO o s b) w=if w=a then cntO o a - 1 else if w=b then cntO o b+1 else cntO o w:=by
 have one:cntP (fun t:Int=>t=s)=1:=by
  obtain⟨k,rfl⟩:=Int.eq_ofNat_of_zero_le h0;have:=Il (a:=k) (b:=k) (Nat.le_refl _) (by omega);rw[← D3 (fun s=>(k:Int)≤s∧s≤(k:Int)) (fun t=>t=(k:Int)) fun t=>by omega,this];omega
 unfold cntO;split
 ·rename_i e
  subst e;have e1:cntP (fun t=>o t=some w)=cntP (fun t=>updO o s b t=some w∨t=s):=D3 _ _ fun t=>by
   unfold updO;by_cases h:t=s
   ·subst h;simp[hs]
   ·simp[h]
  rw[Ij _ _ fun t ht e=>by subst e;simp[updO] at ht;exact hab ht.symm,one] at e1;omega
 ·rename_i e
  split
  ·rename_i e2
   subst e2;have e1:cntP (fun t=>updO o s w t=some w)=cntP (fun t=>o t=some w∨t=s):=D3 _ _ fun t=>by
    unfold updO;by_cases h:t=s
    ·subst h;simp
    ·simp[h]
   rw[Ij _ _ fun t ht e3=>by subst e3;rw[hs] at ht;exact hab (Option.some.inj ht),one] at e1;omega
  ·rename_i e2
   have e1:cntP (fun t=>updO o s b t=some w)=cntP (fun t=>o t=some w):=D3 _ _ fun t=>by
    unfold updO;by_cases h:t=s
    ·subst h;simp[hs];omega
    ·simp[h]
   rw[e1]
theorem SaysS.cntO {l:List Span} {o:Owr} {w:Int} (ho:WfO o) (h:SaysS l (fun s=>o s=some w)):((cntP (Go.Proofs.Ytenemndpignaoaa.inS l):Nat):Int)=Go.Proofs.Ytenemndpignaoaa.cntO o w:=by
 unfold Go.Proofs.Ytenemndpignaoaa.cntO;rw[D3 (Go.Proofs.Ytenemndpignaoaa.inS l) (fun s=>o s=some w) fun s=>h.inS (fun s hs=>ho s w hs) s]
theorem SaysS.last {l:List Span} {p:Int→Prop} [DecidablePred p] (h:SaysS l p) (hn:l≠[]):p (l.getLast hn).to∧∀ s,p s→s≤(l.getLast hn).to:=by
 have hr:=CU h.1 (List.mem_map_of_mem (List.getLast_mem hn));refine⟨(h.iff _).1 ⟨_,List.getLast_mem hn,hr.1,Int.le_refl _⟩,fun s hs=>?_⟩;obtain⟨x,hx,h1,h2⟩:=(h.iff s).2 hs;have hrs:=h.rises;have:∀ {l:List Span} (hn:l≠[]),canP (l.map sP)→∀ x∈l,x.to≤(l.getLast hn).to:=by
  intro l;induction l with
  |nil=>intro hn;exact absurd rfl hn
  |cons a t ih =>
   intro hn hc x hx;obtain⟨a1,a2⟩:=SaysS.lt hc;rcases List.mem_cons.1 hx with rfl|hx
   ·cases t with
    |nil=>exact Int.le_refl _
    |cons b t =>
     rw[List.getLast_cons (by simp)];have h3:=ih (by simp) (canP.tail (p:=sP x) hc) b (by simp);have h4:=a2 b (by simp);have h5:=(SaysS.lt (canP.tail (p:=sP x) hc)).1;omega
   ·have ht:t≠[]:=List.ne_nil_of_mem hx;rw[List.getLast_cons ht];exact ih ht (canP.tail (p:=sP a) hc) x hx
 have:=this hn h.1 x hx;omega
theorem Kv {α:Type} {l:List α} (hn:l≠[]) (hl:l.length≤1000000):nth l (subI .i64 (lenI l) 1)=some (l.getLast hn):=by
 have h0:0<l.length:=List.length_pos_iff.2 hn;rw[By,Aq (by omega) (by omega),show (l.length:Int) - 1=((l.length - 1:Nat):Int) by omega,AF (by omega),List.getLast_eq_getElem]
theorem Lh {S:List BalanceShare} (h0:0<S.length) (hl:S.length≤1000):Rn (Cd big S) fun r=>∃ a b:Nat,r=((a:Int),(b:Int))∧FMx (S.map (·.n)) S.length a∧FMn (S.map (·.n)) S.length b:=by
 unfold Cd;refine Rn.lt (Rn.bn (P:=fun r=>∃ a b:Nat,r=((a:Int),(b:Int))∧FMx (S.map (·.n)) S.length a∧FMn (S.map (·.n)) S.length b) (zF _ (fun j y=>∃ a b:Nat,y=((a:Int),(b:Int),(j:Int))∧a<S.length∧b<S.length∧(j=0→a=0∧b=0)∧(0<j→FMx (S.map (·.n)) j a∧FMn (S.map (·.n)) j b)) S.length (by unfold big;omega) ⟨0,0,rfl,h0,h0,fun _=>⟨rfl,rfl⟩,fun h=>by omega⟩ fun j y hj hI=>?_) fun r hr=>Rn.some ?_)
 ·obtain⟨a,b,rfl,ha,hb,hz,hI⟩:=hI;refine Rn.lt (zB (fun hd=>?_) fun hd=>?_)
  ·have hjl:j<S.length:=by
    have:=of_decide_eq_true (p:=((j:Int)<(S.length:Int))) hd;omega
   refine Rn.bn (P:=fun y=>y=(((if S[a].n<S[j].n then j else a:Nat):Int),((if S[j].n<S[b].n then j else b:Nat):Int))) ?_ fun y hy=>?_
   ·refine zC (AF hjl) (Rn.bn (P:=fun y=>y=((if S[a].n<S[j].n then j else a:Nat):Int)) ?_ fun y hy=>?_)
    ·refine zC (AF ha) (Rn.lt (zB (fun hc=>Rn.some ?_) fun hc=>Rn.some ?_))
     ·have hc:S[a].n<S[j].n:=of_decide_eq_true hc;rw[if_pos hc]
     ·have hc:¬ S[a].n<S[j].n:=of_decide_eq_false hc;rw[if_neg hc]
    ·subst hy;refine zC (AF hb) (Rn.lt (zB (fun hc=>Rn.some ?_) fun hc=>Rn.some ?_))
     ·have hc:S[j].n<S[b].n:=of_decide_eq_true hc;rw[if_pos hc]
     ·have hc:¬ S[j].n<S[b].n:=of_decide_eq_false hc;rw[if_neg hc]
   ·subst hy;refine Rn.lt ?_;simp only;rw[Ao (by omega) (by omega)];have gj:(S.map (·.n))[j]?=some S[j].n:=by rw[List.getElem?_map,List.getElem?_eq_getElem hjl];rfl
    have ga:(S.map (·.n))[a]?=some S[a].n:=by rw[List.getElem?_map,List.getElem?_eq_getElem ha];rfl
    have gb:(S.map (·.n))[b]?=some S[b].n:=by rw[List.getElem?_map,List.getElem?_eq_getElem hb];rfl
    refine Rn.some ⟨hjl,_,_,rfl,by split <;> omega,by split <;> omega,fun h=>by omega,fun _=>?_⟩;rcases Nat.eq_zero_or_pos j with e|e
    ·subst e;obtain⟨e1,e2⟩:=hz rfl;subst e1 e2;simp only[ite_self];exact⟨FMx.one gj,FMn.one gj⟩
    ·exact⟨(hI e).1.more ga gj,(hI e).2.more gb gj⟩
  ·have:j=S.length:=by
    have:=of_decide_eq_false (p:=((j:Int)<(S.length:Int))) hd;omega
   subst this;exact Rn.some ⟨a,b,rfl,hI h0⟩
 ·obtain⟨a,b,rfl,h⟩:=hr;exact⟨a,b,rfl,h⟩
structure ShR (o:Owr) (k:Nat) (w:Int) (sh:BalanceShare):Prop where
 node:sh.node=w
 own:SaysS sh.own (fun s=>o s=some w)
 n:sh.n=cntO o w
 few:sh.own.length≤60+2*k
theorem ShR.keep {o:Owr} {k:Nat} {w s a b:Int} {sh:BalanceShare} (h:ShR o k w sh) (hs:o s=some a) (h0:0≤s) (h1:s≤16383) (hab:a≠b) (ha:w≠a) (hb:w≠b):ShR (updO o s b) (k+1) w sh:=by
 refine⟨h.node,SaysS.of h.own.1 fun t=>?_,?_,by have:=h.few;omega⟩
 ·rw[h.own.iff];unfold updO;by_cases e:t=s
  ·subst e;simp[hs];omega
  ·simp[e]
 ·rw[Gr hs h0 h1 hab,if_neg ha,if_neg hb];exact h.n
def SharesR (who:List Int) (o:Owr) (k:Nat) (S:List BalanceShare):Prop:=S.length=who.length∧∀ (i:Nat) w sh,who[i]?=some w→S[i]?=some sh→ShR o k w sh
theorem SharesR.ns {who:List Int} {o:Owr} {k:Nat} {S:List BalanceShare} (h:SharesR who o k S):S.map (·.n)=cntsO who o:=by
 refine List.ext_getElem? fun i=>?_;unfold cntsO;rw[List.getElem?_map,List.getElem?_map];rcases Nat.lt_or_ge i S.length with g|g
 ·have g':i<who.length:=by rw[← h.1];exact g
  have:=h.2 i _ _ (List.getElem?_eq_getElem g') (List.getElem?_eq_getElem g);rw[List.getElem?_eq_getElem g,List.getElem?_eq_getElem g'];simp[this.n]
 ·rw[List.getElem?_eq_none g,List.getElem?_eq_none (by rw[← h.1];exact g)];rfl
theorem FMx.done {who:List Int} {o:Owr} {a b:Nat} {wa wb:Int} (h1:FMx (cntsO who o) who.length a) (h2:FMn (cntsO who o) who.length b) (ha:who[a]?=some wa) (hb:who[b]?=some wb) (h:cntO o wa≤cntO o wb+1):DoneR who o:=by
 obtain⟨_,v,h3,h4⟩:=h1;obtain⟨_,u,h5,h6⟩:=h2;have e1:cntO o wa=v:=by
  unfold cntsO at h3;rw[List.getElem?_map,ha] at h3;simpa using h3
 have e2:cntO o wb=u:=by
  unfold cntsO at h5;rw[List.getElem?_map,hb] at h5;simpa using h5
 intro i j wi wj hi hj;have g1:=(h4 i (cntO o wi) (List.getElem?_eq_some_iff.1 hi).1 (by unfold cntsO;rw[List.getElem?_map,hi];rfl)).1;have g2:=(h6 j (cntO o wj) (List.getElem?_eq_some_iff.1 hj).1 (by unfold cntsO;rw[List.getElem?_map,hj];rfl)).1;omega
end Go.Proofs.Ytenemndpignaoaa
namespace Go.Proofs.Ytenemndpignaoaa
open Go Go.RowKit
def ownO (l:List Claim):Owr:=fun s=>(fC l s).map (·.1)
theorem FU {l:List Claim} (h:GoodC l):WfO (ownO l):=by
 intro s w hs;unfold ownO at hs;obtain⟨v,hv,-⟩:=Option.map_eq_some_iff.1 hs;exact (h.tells s v hv).1
def WhoR (m who:List Int):Prop:=who.Pairwise (·<·)∧∀ x,x∈who↔(0≤x∧x<8)∧x∈m
theorem WhoR.uniq {m a b:List Int} (h:WhoR m a) (k:WhoR m b):a=b:=Ho h.1 k.1 fun x=>(h.2 x).trans (k.2 x).symm
theorem WhoR.len {m a:List Int} (h:WhoR m a):a.length≤8:=by
 have:=EZ a ((List.range 8).map fun i:Nat=>(i:Int)) (h.1.imp fun h=>by omega) fun x hx=>by
  obtain⟨⟨h1,h2⟩,-⟩:=(h.2 x).1 hx;obtain⟨k,rfl⟩:=Int.eq_ofNat_of_zero_le h1;exact List.mem_map.2 ⟨k,List.mem_range.2 (by omega),rfl⟩
 simpa using this
theorem Hp {l:List Int} (h:l.Pairwise (·<·)) {i j:Nat} {x:Int} (hi:l[i]?=some x) (hj:l[j]?=some x):i=j:=by
 obtain⟨g1,e1⟩:=List.getElem?_eq_some_iff.1 hi;obtain⟨g2,e2⟩:=List.getElem?_eq_some_iff.1 hj;have:=List.pairwise_iff_getElem.1 h;rcases Nat.lt_trichotomy i j with g|g|g
 ·have:=this i j g1 g2 g;omega
 ·exact g
 ·have:=this j i g2 g1 g;omega
theorem JW {l:List Claim} {m v5:List Int} (hl:GoodC l) (h60:l.length≤60) (hr:v5.Pairwise (·<·)) (hm:∀ x,x∈v5↔x∈m) (h100:v5.length≤1000) {β:Type} {K:List BalanceShare→Option β} {Q:β→Prop}
  (hK:∀ who S,WhoR m who→SharesR who (ownO l) 0 S→S.length≤8→Rn (K S) Q) :
  Rn (bn (iter big (fun (y7:Int×List BalanceShare)=>lt (ltI y7.1 (lenI v5)) fun v10=>ite' v10 (bn (bn (nth v5 y7.1) fun v12=>bn (lt (geI v12 0) fun v15=>ite' v15 (lt (ltI v12 8) fun v16=>some (v16)) (some (false))) fun (y14:Bool)=>lt (y14) fun v17=>ite' v17 (bn (Ca big l v12) fun v18=>bn (Ci big v18) fun v19=>chk (room (y7.2.length+1) 40) <| lt (y7.2++[(⟨v12,v18,v19⟩:BalanceShare)]) fun v21=>some (v21)) (some (y7.2))) fun (y11:List BalanceShare)=>lt (addI .i64 y7.1 1) fun v22=>some (.inl (v22,y11))) (some (.inr y7.2))) (0,[])) K) Q:=by
 refine Rn.bn (P:=fun S=>∃ who,WhoR m who∧SharesR who (ownO l) 0 S) (zF _ (fun j y=>∃ who S,y=((j:Int),S)∧who=(v5.take j).filter (fun x=>decide (0≤x∧x<8))∧SharesR who (ownO l) 0 S) v5.length (by unfold big;omega) ⟨[],[],rfl,by simp,rfl,by simp⟩ fun j y hj hI=>?_) fun S hS=>?_
 ·obtain⟨who,S,rfl,hw,hS⟩:=hI;have hSl:S.length≤1000:=by
   rw[hS.1,hw];exact Nat.le_trans (List.length_filter_le _ _) (by simp;omega)
  refine Rn.lt (zB (fun hd=>?_) fun hd=>?_)
  ·have hjl:j<v5.length:=by
    have:=of_decide_eq_true (p:=((j:Int)<(v5.length:Int))) hd;omega
   have htk:v5.take (j+1)=v5.take j++[v5[j]]:=(List.take_append_getElem hjl).symm;have hnth:=AF hjl;generalize v5[j]=w at hnth htk;refine Rn.bn (P:=fun S'=>SharesR ((v5.take (j+1)).filter (fun x=>decide (0≤x∧x<8))) (ownO l) 0 S') ?_ fun S' hS'=>?_
   ·refine zC hnth (Rn.bn (P:=fun b=>b=decide (0≤w∧w<8)) ?_ fun b hb=>Rn.lt ?_)
    ·refine Rn.lt (zB (fun hc=>?_) fun hc=>Rn.some ?_)
     ·have hc:0≤w:=of_decide_eq_true hc;exact Rn.lt (Rn.some (by simp[ltI,hc]))
     ·have hc:¬ 0≤w:=of_decide_eq_false hc;simp[hc]
    ·subst hb;refine zB (fun hc=>?_) fun hc=>?_
     ·have hc':=of_decide_eq_true hc;refine Rn.bn (Ih hl (by omega)) fun own ho=>?_;have hown:SaysS own (fun s=>ownO l s=some w):=SaysS.of ho.1.1 fun t=>ho.1.iff t;refine Rn.bn (JT ⟨by omega,.inr hown.rises.drop⟩) fun n hn=>Rn.chk (by simp[room];omega) (Rn.lt (Rn.some ?_));rw[htk,List.filter_append,← hw];simp only[List.filter_cons,hc,if_true,List.filter_nil];refine⟨by simp[hS.1],fun i u sh hi hsh=>?_⟩;rcases Nat.lt_or_ge i who.length with g|g
      ·rw[List.getElem?_append_left g] at hi;rw[List.getElem?_append_left (by rw[hS.1];exact g)] at hsh;exact hS.2 i u sh hi hsh
      ·rw[List.getElem?_append_right g] at hi;rw[List.getElem?_append_right (by rw[hS.1];exact g),hS.1] at hsh;have e:i - who.length=0:=by
        have:=(List.getElem?_eq_some_iff.1 hi).1;simp at this;omega
       rw[e] at hi hsh;simp at hi hsh;subst hi hsh;exact⟨rfl,hown,by rw[hn];exact hown.cntO (FU hl),by simp only;omega⟩
     ·refine Rn.some ?_;rw[htk,List.filter_append,← hw];simp only[List.filter_cons,hc,List.filter_nil];simpa using hS
   ·refine Rn.lt ?_;simp only;rw[Ao (by omega) (by omega)];exact Rn.some ⟨hjl,_,S',rfl,rfl,hS'⟩
  ·have:j=v5.length:=by
    have:=of_decide_eq_false (p:=((j:Int)<(v5.length:Int))) hd;omega
   subst this;rw[List.take_length] at hw;subst hw;refine Rn.some ⟨_,⟨hr.filter _,fun x=>?_⟩,hS⟩;rw[List.mem_filter,hm x];simp;exact and_comm
 ·obtain⟨who,h1,h2⟩:=hS;exact hK who S h1 h2 (by rw[h2.1];exact h1.len)
theorem EL (o:Owr) (w:Int):0≤cntO o w∧cntO o w≤16384:=by
 unfold cntO cntP;have:∀ p:Nat→Bool,(List.range 16384).countP p≤16384:=fun p=>by
  have:=List.countP_le_length (p:=p) (l:=List.range 16384);rwa [List.length_range] at this
 exact⟨Int.natCast_nonneg _,Int.ofNat_le.2 (this _)⟩
theorem canP.ne {l:List Span} {o:Owr} {w:Int} (hw:WfO o) (h:SaysS l (fun s=>o s=some w)) (hc:0<cntO o w):l≠[]:=by
 rintro rfl;have:=h.cntO hw;rw[Ik _ fun s=>by simp[inS]] at this;omega
theorem Kw {l:List Claim} {m:List Int} (hl:GoodC l) (h60:l.length≤60) (hm:m.length≤40):Rn (BS big l m) fun r=>∃ who,WhoR m who∧PlanR who 64 (ownO l) r:=by
 unfold BS;refine Rn.chk (by simp[small];omega) (Rn.bn (Kr (by unfold sortMost;omega)) fun v2 hv2=>?_);have hl2:=hv2.1.length_eq;refine Rn.chk (by simp[lenB,hl2]) (Rn.chk (by simp[cmB];omega) (Rn.lt (Rn.lt ?_)));have hcl:(compL v2).length≤1000:=by
  have:=EZ (compL v2) v2 ((E6 hv2.2).imp fun h=>by omega) fun x hx=>(E0 x v2).1 hx;omega
 refine JW hl h60 (E6 hv2.2) (fun x=>(E0 x v2).trans hv2.1.mem_iff) hcl fun who S hwho hS hS8=>?_;have hlen:=hS.1;refine Rn.bn (P:=fun out=>PlanR who 64 (ownO l) out) ?_ fun out hout=>Rn.chk (by have:=hout.len;simp[room];omega) (Rn.some ⟨who,hwho,hout⟩);refine zC (v:=()) rfl ?_;refine Rn.bn (P:=fun y=>PlanR who 64 (ownO l) (match y with|.inl y=>y.2|.inr (.inl y)=>y.2|.inr (.inr y)=>y.2)) (zF _ (fun k y=>∃ S out o,y=(S,out)∧out.length=k∧k<64∧SharesR who o k S∧WfO o∧∀ rest,PlanR who (64 - k) o rest→PlanR who 64 (ownO l) (out++rest)) 64 (by unfold big;omega) ⟨S,[],ownO l,rfl,rfl,by omega,hS,FU hl,fun rest h=>h⟩ fun k y hk hI=>?_) fun y hy=>?_
 ·obtain⟨S,out,o,rfl,ho,hk64,hS,hw,hplan⟩:=hI;have hSl:S.length≤8:=by rw[hS.1];exact hwho.len
  refine Rn.lt (Rn.lt ?_);simp only;refine zB (fun hd=>?_) fun hd=>?_
  ·have hd:(0:Int)<(S.length:Int):=of_decide_eq_true hd;refine Rn.chk (by simp[room];omega) (Rn.bn (Lh (by omega) (by omega)) fun r hr=>?_);obtain⟨a,b,rfl,hA,hB⟩:=hr;have ha:a<S.length:=hA.lt;have hb:b<S.length:=hB.lt;rw[hS.ns,hS.1] at hA hB;have hwa:who[a]?=some (who[a]'(by rw[← hS.1];exact ha)):=List.getElem?_eq_getElem _;have hwb:who[b]?=some (who[b]'(by rw[← hS.1];exact hb)):=List.getElem?_eq_getElem _;have sa:=hS.2 a _ _ hwa (List.getElem?_eq_getElem ha);have sb:=hS.2 b _ _ hwb (List.getElem?_eq_getElem hb);have ea:S[a]?=some S[a]:=List.getElem?_eq_getElem ha;have eb:S[b]?=some S[b]:=List.getElem?_eq_getElem hb;refine zC (AF ha) (zC (AF hb) (Rn.lt (Rn.lt ?_)));generalize who[a]'(by rw[← hS.1];exact ha)=wa at hwa sa;generalize who[b]'(by rw[← hS.1];exact hb)=wb at hwb sb;have hcb:=EL o wb;have hca:=EL o wa;generalize S[a]=sha at sa ea;generalize S[b]=shb at sb eb;obtain⟨a1,a2,a3,a4⟩:=sa;obtain⟨b1,b2,b3,b4⟩:=sb;rw[Ao (by omega) (by omega)];refine zB (fun hc=>Rn.some ?_) fun hc=>?_
   ·have hc:sha.n≤shb.n+1:=of_decide_eq_true hc;have:=hplan [] (.stop (FMx.done hA hB hwa hwb (by omega)));simpa using this
   ·have hc:¬ sha.n≤shb.n+1:=of_decide_eq_false hc;have hne:sha.own≠[]:=canP.ne hw a2 (by omega);have hlast:=a2.last hne;have hrng:=hw _ _ hlast.1;have hwab:wa≠wb:=fun e=>by rw[e] at a3;omega
    have hab:a≠b:=fun e=>by subst e;rw[hwa] at hwb;exact hwab (Option.some.inj hwb)
    refine Rn.lt (Rn.lt (zC (Kv hne (by omega)) ?_));generalize hsl:(sha.own.getLast hne)=z at hlast hrng;refine Rn.chk (by simp[room]) (Rn.bn (JV a2 (fun s hs=>hw s _ hs) (by omega) hrng.1 hrng.2) fun v45 h45=>?_);refine Rn.bn (Ks b2 (fun s hs=>hw s _ hs) (by omega) hrng.1 hrng.2) fun v47 h47=>?_;simp only[Int.toNat_natCast,AA];refine zC (v:=shb) (by rw[EJ,List.getElem?_set_ne hab];exact eb) ?_;refine zC (v:=⟨sha.node,v45,sha.n⟩) (by rw[EJ,List.getElem?_set_ne hab.symm,List.getElem?_set_self ha]) ?_;simp only;rw[Aq (by omega) (by omega)];refine zC (v:=⟨shb.node,v47,shb.n⟩) (by rw[EJ,List.getElem?_set_ne hab,List.getElem?_set_self (by simpa using hb)]) ?_;simp only;rw[Ao (by omega) (by omega)];refine zC (v:=⟨sha.node,v45,sha.n - 1⟩) (by rw[EJ,List.getElem?_set_ne hab.symm,List.getElem?_set_self (by simpa using ha)]) ?_;refine zC (v:=⟨shb.node,v47,shb.n+1⟩) (by rw[EJ,List.getElem?_set_self (by simpa using hb)]) ?_;have hstep:StepR who o ⟨z.to,sha.node,shb.node⟩:=⟨a,b,hA,hB,by rw[a1];exact hwa,by rw[b1];exact hwb,by show cntO o shb.node+1<cntO o sha.node;rw[a1,b1];omega,by rw[a1];exact hlast.1,fun s hs=>hlast.2 s (by rw[a1] at hs;exact hs)⟩;have hplan2:∀ rest,PlanR who (63 - k) (updO o z.to wb) rest→PlanR who 64 (ownO l) ((out++[(⟨z.to,sha.node,shb.node⟩:ApiStep)])++rest):=by
     intro rest h;rw[List.append_assoc];refine hplan _ ?_;rw[show 64 - k=(63 - k)+1 by omega];refine .step hstep ?_;show PlanR who (63 - k) (updO o z.to shb.node) rest;rw[b1];exact h
    have hS':SharesR who (updO o z.to wb) (k+1) ((((((S.set a ⟨sha.node,v45,sha.n⟩).set b ⟨shb.node,v47,shb.n⟩).set a ⟨sha.node,v45,sha.n - 1⟩).set b ⟨shb.node,v47,shb.n+1⟩))):=by
     refine⟨by simp[hS.1],fun i w sh hi hsh=>?_⟩;rcases Decidable.em (i=b) with e|e
     ·subst e;rw[List.getElem?_set_self (by simpa using hb)] at hsh;have e1:=Option.some.inj hsh;have e2:wb=w:=Option.some.inj (hwb.symm.trans hi);subst e1 e2;refine⟨b1,SaysS.of h47.1.1 fun t=>?_,?_,by have:=h47.2;simp only;omega⟩
      ·rw[h47.1.iff];unfold updO;by_cases e:t=z.to <;> simp[e]
      ·rw[Gr hlast.1 hrng.1 hrng.2 hwab,if_neg hwab.symm,if_pos rfl];simp only;omega
     ·rw[List.getElem?_set_ne (Ne.symm e)] at hsh;rcases Decidable.em (i=a) with e'|e'
      ·subst e';rw[List.getElem?_set_self (by simpa using ha)] at hsh;have e1:=Option.some.inj hsh;have e2:wa=w:=Option.some.inj (hwa.symm.trans hi);subst e1 e2;refine⟨a1,SaysS.of h45.1.1 fun t=>?_,?_,by have:=h45.2;simp only;omega⟩
       ·rw[h45.1.iff];unfold updO;by_cases e:t=z.to
        ·simp[e];exact hwab.symm
        ·simp[e]
       ·rw[Gr hlast.1 hrng.1 hrng.2 hwab,if_pos rfl];simp only;omega
      ·rw[List.getElem?_set_ne (Ne.symm e'),List.getElem?_set_ne (Ne.symm e),List.getElem?_set_ne (Ne.symm e')] at hsh;refine (hS.2 i w sh hi hsh).keep hlast.1 hrng.1 hrng.2 hwab (fun e2=>?_) fun e2=>?_
       ·subst e2;exact e' (Hp hwho.1 hi hwa)
       ·subst e2;exact e (Hp hwho.1 hi hwb)
    refine Rn.bn (P:=fun y=>y=if k+1=64 then .inr (out++[(⟨z.to,sha.node,shb.node⟩:ApiStep)]) else .inl (out++[(⟨z.to,sha.node,shb.node⟩:ApiStep)])) ?_ fun y hy=>?_
    ·refine Rn.chk (by simp[room];omega) ?_;have el:lenI (out++[(⟨z.to,sha.node,shb.node⟩:ApiStep)])=((k+1:Nat):Int):=by simp[By,ho]
     refine Rn.lt (Rn.lt (Rn.lt ?_));rw[el];refine zB (fun h=>Rn.some ?_) fun h=>Rn.some ?_
     ·have h:=of_decide_eq_true (p:=(((k+1:Nat):Int)=64)) h;rw[if_pos (by omega)]
     ·have h:=of_decide_eq_false (p:=(((k+1:Nat):Int)=64)) h;rw[if_neg (by omega)]
    ·subst hy;split
     ·rename_i e
      rw[B4];refine Rn.some ?_;have:=hplan2 [] (by rw[show 63 - k=0 by omega];exact .full);simpa using this
     ·rename_i e
      rw[Eo];exact Rn.some ⟨by omega,_,_,_,rfl,by simp[ho],by omega,hS',hw.upd hrng.1 hrng.2,fun rest h=>hplan2 rest (by rw[show 63 - k=64 - (k+1) by omega];exact h)⟩
  ·have hd:¬ (0:Int)<(S.length:Int):=of_decide_eq_false hd;refine Rn.some ?_;have h0:who=[]:=List.eq_nil_of_length_eq_zero (by rw[← hS.1];omega);have:=hplan [] (.stop fun i j wi wj hi hj=>by rw[h0] at hi;simp at hi);simpa using this
 ·rcases y with y|y|y <;> exact Rn.some hy
end Go.Proofs.Ytenemndpignaoaa
namespace Go.Proofs.Ytenemndpignaoaa
open Go Go.RowKit
theorem own13 {L:List Claim} (hL:GoodC L) (h200:L.length≤200) (w:Int):∃ own,Bv big L w=some own∧SaysS own (fun s=>ownO L s=some w)∧own.length≤200∧BQ big own=some (cntO (ownO L) w):=by
 obtain⟨v,ev,hv,hvl⟩:=Ih (nd:=w) hL h200;obtain⟨r,er,hr⟩:=Jn (nd:=w) hL h200;have e:r=v:=hr.ext hv fun _=>Iff.rfl;subst e;have h2:SaysS r (fun s=>ownO L s=some w):=SaysS.of hr.1 fun t=>hr.iff t;refine⟨r,er,h2,by omega,?_⟩;refine Rn.eqv ((Kq (by omega)).mono fun n hn=>?_);rw[hn];exact h2.cntO (FU hL)
theorem give13 {L:List Claim} (hL:GoodC L) {s w ep:Int} (h0:0≤s) (h1:s≤16383) (hw:0≤w) (he:1≤ep) :
  Rn (Cf big L [(⟨s,s⟩:Span)] w ep) fun r=>GoodC r∧r.length≤L.length+2∧ownO r=updO (ownO L) s w∧∀ t,fC r t=giveF (fC L) (inS [(⟨s,s⟩:Span)]) (w,ep) t:=by
 refine (F9 hL ⟨by simp,.inl (by simp[sortMost])⟩ hw he).mono fun r hr=>⟨hr.1,by simpa using hr.2.2,funext fun t=>?_,hr.2.1⟩;unfold ownO updO;rw[hr.2.1 t];unfold giveF;by_cases e:t=s
 ·subst e;rw[if_pos rfl,if_pos ⟨by omega,_,List.mem_singleton.2 rfl,by simp⟩];rfl
 ·rw[if_neg e,if_neg];rintro⟨_,x,hx,h⟩;simp at hx;subst hx;simp at h;omega
def maxE (l:List Claim):Int:=(l.map (·.epoch)).foldl max 0
theorem JX (l:List Claim) (c:Claim):maxE (l++[c])=max (maxE l) c.epoch:=by simp[maxE]
theorem Hq {l:List Claim} {j:Nat} (h:j<l.length):maxE (l.take (j+1))=max (maxE (l.take j)) l[j].epoch:=by
 rw[← List.take_append_getElem h,JX]
theorem Fn {l:List Claim} {B:Int} (hB:0≤B) (h:∀ c∈l,c.epoch≤B):0≤maxE l∧maxE l≤B:=by
 have:∀ (l:List Claim) (a:Int),0≤a→a≤B→(∀ c∈l,c.epoch≤B)→0≤(l.map (·.epoch)).foldl max a∧(l.map (·.epoch)).foldl max a≤B:=by
  intro l;induction l with
  |nil=>exact fun a h1 h2 _=>⟨h1,h2⟩
  |cons c t ih=>exact fun a h1 h2 h=>ih (max a c.epoch) (by omega) (by have:=h c (by simp);omega) fun x hx=>h x (by simp[hx])
 exact this l 0 (Int.le_refl _) hB h
inductive AftR (ep:Int):List Claim→List ApiStep→List Claim→Prop
 |nil {l}:AftR ep l [] l
 |cons {l s r t q}:GoodC r→ownO r=updO (ownO l) s.slot s.to→r.length≤l.length+2→(∀ x,fC r x=giveF (fC l) (inS [(⟨s.slot,s.slot⟩:Span)]) (s.to,ep) x)→AftR ep r t q→AftR ep l (s::t) q
theorem AftR.uniq {ep:Int} {l:List Claim} {s:List ApiStep} {a b:List Claim} (h:AftR ep l s a) (k:AftR ep l s b):a=b:=by
 induction h with
 |nil=>cases k;rfl
 |cons h1 h2 h3 h4 _ ih =>
  cases k with
  |cons k1 k2 k3 k4 kt =>
   have e:=h1.ext k1 fun x=>(h4 x).trans (k4 x).symm;subst e;exact ih kt
theorem AftR.snoc {ep:Int} {l a r:List Claim} {s:List ApiStep} {x:ApiStep} (h:AftR ep l s a) (h1:GoodC r) (h2:ownO r=updO (ownO a) x.slot x.to) (h3:r.length≤a.length+2) (h4:∀ t,fC r t=giveF (fC a) (inS [(⟨x.slot,x.slot⟩:Span)]) (x.to,ep) t):AftR ep l (s++[x]) r:=by
 induction h with
 |nil=>exact .cons h1 h2 h3 h4 .nil
 |cons g1 g2 g3 g4 _ ih=>exact .cons g1 g2 g3 g4 (ih h2 h3 h4)
theorem AftR.good {ep:Int} {l a:List Claim} {s:List ApiStep} (h:AftR ep l s a) (hl:GoodC l):GoodC a:=by
 induction h with
 |nil=>exact hl
 |cons g1 _ _ _ _ ih=>exact ih g1
def StepsW (s:List ApiStep):Prop:=∀ x∈s,(0≤x.slot∧x.slot≤16383)∧0≤x.to
theorem giveP {L:List Claim} (hL:GoodC L) {s w ep:Int} (h0:0≤s) (h1:s≤16383) (hw:0≤w) (he:1≤ep) :
  Rn (BY big L [(⟨s,s⟩:Span)] w ep) fun r=>GoodC r∧r.length≤L.length+2∧ownO r=updO (ownO L) s w∧∀ t,fC r t=giveF (fC L) (inS [(⟨s,s⟩:Span)]) (w,ep) t:=by
 obtain⟨q,-,g1,g2,g3,g4⟩:=give13 hL h0 h1 hw he;refine (Ji hL ⟨by simp,.inl (by simp[sortMost])⟩ hw he).mono fun r hr=>?_;have e:=hr.1.ext g1 fun x=>(hr.2 x).trans (g4 x).symm;subst e;exact⟨g1,g2,g3,g4⟩
theorem JY {l:List Claim} {s:List ApiStep} (hl:GoodC l) (h200:l.length≤200) (hs:StepsW s) (hs1:s.length≤1000) (hE:∀ c∈l,c.epoch≤9007199254740992):Rn (B0 big l s) fun r=>AftR (maxE l+1) l s r:=by
 unfold B0;refine Rn.chk (by simp[small];omega) (Rn.lt (Rn.bn (P:=fun e=>e=maxE l+1) (zF _ (fun j y=>y=(maxE (l.take j)+1,(j:Int))) l.length (by unfold big;omega) rfl fun j y hj hI=>?_) fun e he=>?_))
 ·subst hI;refine Rn.lt (zB (fun hd=>?_) fun hd=>?_)
  ·have hjl:j<l.length:=by
    have:=of_decide_eq_true (p:=((j:Int)<(l.length:Int))) hd;omega
   have h1:=Fn (l:=l.take j) (B:=9007199254740992) (by omega) fun c hc=>hE c (List.mem_of_mem_take hc);have h2:=hE _ (List.getElem_mem hjl);have h3:=(hl.2 _ (List.getElem_mem hjl)).2.2.2.2;refine zC (AF hjl) (Rn.lt (Rn.lt (Rn.lt ?_)));simp only;rw[Ao (by omega) (by omega),Ao (by omega) (by omega)];refine Rn.some ⟨hjl,?_⟩;rw[Hq hjl];refine Prod.ext ?_ rfl;simp only[maxI];omega
  ·have:j=l.length:=by
    have:=of_decide_eq_false (p:=((j:Int)<(l.length:Int))) hd;omega
   subst this;exact Rn.some (by rw[List.take_length])
 ·subst he;have h1:=Fn (l:=l) (B:=9007199254740992) (by omega) hE;refine Rn.lt (Rn.chk (by simp[room];omega) (Rn.bn (P:=fun r=>AftR (maxE l+1) l s r) (zF _ (fun j y=>∃ L,y=(L,(j:Int))∧AftR (maxE l+1) l (s.take j) L) s.length (by unfold big;omega) ⟨l,rfl,.nil⟩ fun j y hj hI=>?_) fun r hr=>Rn.some hr));obtain⟨L,rfl,hL⟩:=hI;refine Rn.lt (zB (fun hd=>?_) fun hd=>?_)
  ·have hjl:j<s.length:=by
    have:=of_decide_eq_true (p:=((j:Int)<(s.length:Int))) hd;omega
   have hw:=hs _ (List.getElem_mem hjl);refine zC (AF hjl) (Rn.bn (giveP (hL.good hl) hw.1.1 hw.1.2 hw.2 (by omega)) fun r hr=>Rn.lt ?_);simp only;rw[Ao (by omega) (by omega)];refine Rn.some ⟨hjl,r,rfl,?_⟩;rw[← List.take_append_getElem hjl];exact hL.snoc hr.1 hr.2.2.1 hr.2.1 hr.2.2.2
  ·have:j=s.length:=by
    have:=of_decide_eq_false (p:=((j:Int)<(s.length:Int))) hd;omega
   subst this;rw[List.take_length] at hL;exact Rn.some hL
theorem JZ {l:List Claim} {s:List ApiStep} (hl:GoodC l) (h200:l.length≤200) (hs:StepsW s) (hs1:s.length≤1000) (hE:∀ c∈l,c.epoch≤9007199254740992):Rn (EQ big l s) fun r=>AftR (maxE l+1) l s r:=by
 unfold EQ;refine Rn.bn (P:=fun e=>e=maxE l) (zF _ (fun j y=>y=(maxE (l.take j),(j:Int))) l.length (by unfold big;omega) rfl fun j y hj hI=>?_) fun e he=>?_
 ·subst hI;refine Rn.lt (Rn.lt (zB (fun hd=>?_) fun hd=>?_))
  ·have hjl:j<l.length:=by
    have:=of_decide_eq_true (p:=((j:Int)<(l.length:Int))) hd;omega
   refine zC (AF hjl) (Rn.lt (Rn.lt ?_));simp only;rw[Ao (by omega) (by omega)];refine Rn.some ⟨hjl,?_⟩;rw[Hq hjl];rfl
  ·have:j=l.length:=by
    have:=of_decide_eq_false (p:=((j:Int)<(l.length:Int))) hd;omega
   subst this;exact Rn.some (by rw[List.take_length])
 ·subst he;have h1:=Fn (l:=l) (B:=9007199254740992) (by omega) hE;refine Rn.bn (P:=fun r=>AftR (maxE l+1) l s r) (zF _ (fun j y=>∃ L,y=(L,(j:Int))∧AftR (maxE l+1) l (s.take j) L) s.length (by unfold big;omega) ⟨l,rfl,.nil⟩ fun j y hj hI=>?_) fun r hr=>Rn.some hr;obtain⟨L,rfl,hL⟩:=hI;refine Rn.lt (Rn.lt (zB (fun hd=>?_) fun hd=>?_))
  ·have hjl:j<s.length:=by
    have:=of_decide_eq_true (p:=((j:Int)<(s.length:Int))) hd;omega
   have hw:=hs _ (List.getElem_mem hjl);refine zC (AF hjl) (Rn.lt ?_);rw[Ao (by omega) (by omega)];refine Rn.bn (give13 (hL.good hl) hw.1.1 hw.1.2 hw.2 (by omega)) fun r hr=>Rn.lt ?_;simp only;rw[Ao (by omega) (by omega)];refine Rn.some ⟨hjl,r,rfl,?_⟩;rw[← List.take_append_getElem hjl];exact hL.snoc hr.1 hr.2.2.1 hr.2.1 hr.2.2.2
  ·have:j=s.length:=by
    have:=of_decide_eq_false (p:=((j:Int)<(s.length:Int))) hd;omega
   subst this;rw[List.take_length] at hL;exact Rn.some hL
theorem Jo {l:List Claim} {s:List ApiStep} (hl:GoodC l) (h200:l.length≤200) (hs:StepsW s) (hs1:s.length≤1000) (hE:∀ c∈l,c.epoch≤9007199254740992):∃ a,B0 big l s=some a∧EQ big l s=some a∧AftR (maxE l+1) l s a∧GoodC a:=by
 obtain⟨a,e1,h1⟩:=JY hl h200 hs hs1 hE;obtain⟨b,e2,h2⟩:=JZ hl h200 hs hs1 hE;have e:=h1.uniq h2;subst e;exact⟨a,e1,e2,h1,h1.good hl⟩
theorem Fo:Cn big=some true:=by kernel_rfl
end Go.Proofs.Ytenemndpignaoaa
namespace Go.Proofs.Ytenemndpignaoaa
open Go Go.RowKit
theorem aw25:Rn (bn (Cn big) fun v=>some v) (·=true):=zC Fo (Rn.some rfl)
theorem AftR.len {ep:Int} {l a:List Claim} {s:List ApiStep} (h:AftR ep l s a):a.length≤l.length+2*s.length:=by
 induction h with
 |nil=>simp
 |cons _ _ h3 _ _ ih=>simp;omega
theorem PlanR.steps {m who:List Int} (hw:WhoR m who):∀ {n:Nat} {o:Owr} {l:List ApiStep},PlanR who n o l→WfO o→StepsW l:=by
 intro n o l h;induction h with
 |stop _=>exact fun _ x hx=>by simp at hx
 |full=>exact fun _ x hx=>by simp at hx
 |step hs _ ih =>
  intro ho x hx;obtain⟨a,b,-,-,-,h4,-,h6,-⟩:=hs;have h1:=ho _ _ h6;rcases List.mem_cons.1 hx with rfl|hx
  ·exact⟨h1,((hw.2 _).1 (List.mem_of_getElem? h4)).1.1⟩
  ·exact ih (ho.upd h1.1 h1.2) x hx
theorem Made.ep {l:List Claim} {n:Nat} (h:Made l n):∀ c∈l,c.epoch≤6:=by
 intro c hc;have:=(h.good.iff c.frm (c.node,c.epoch)).2 ⟨c,hc,⟨Int.le_refl _,(h.good.2 c hc).2.1⟩,rfl⟩;exact (h.low _ _ this).2
theorem Of13 {l:List Claim} (hl:l.length≤1000000) {s w:Int} (h:ownO l s=some w):∃ e,CN big l s=some (w,e):=by
 unfold ownO at h;obtain⟨v,hv,rfl⟩:=Option.map_eq_some_iff.1 h;exact⟨v.2,by rw[KB l s hl,hv];rfl⟩
theorem J0 {who:List Int} {L:List Claim} {st:ApiStep} {k:Nat} (hL:GoodC L) (h200:L.length≤200) (hwho:∀ x,x∈who↔0≤x∧x<(k:Int)) (hs:StepR who (ownO L) st):∃ from_ to_,Bv big L st.frm=some from_∧Bv big L st.to=some to_∧BQ big from_=some (cntO (ownO L) st.frm)∧BQ big to_=some (cntO (ownO L) st.to)∧(∃ e,CN big L st.slot=some (st.frm,e))∧st.frm≠st.to∧cntO (ownO L) st.to+1<cntO (ownO L) st.frm∧(0≤st.to∧st.to<(k:Int))∧(0≤st.frm∧st.frm<(k:Int))∧0≤st.slot∧st.slot≤16383:=by
 obtain⟨a,b,h1,h2,h3,h4,h5,h6,h7⟩:=hs;obtain⟨f,e1,-,-,e2⟩:=own13 hL h200 st.frm;obtain⟨t,e3,-,-,e4⟩:=own13 hL h200 st.to;exact⟨f,t,e1,e3,e2,e4,Of13 (by omega) h6,fun e=>by rw[e] at h5;omega,h5,(hwho _).1 (List.mem_of_getElem? h4),(hwho _).1 (List.mem_of_getElem? h3),FU hL _ _ h6⟩
theorem PlanR.tail {who:List Int} {n:Nat} {o:Owr} {l t:List ApiStep} (h:PlanR who n o l) {st:ApiStep} (hs:l=st::t):StepR who o st∧∃ n',n=n'+1∧PlanR who n' (updO o st.slot st.to) t:=by
 cases h with
 |stop _=>cases hs
 |full=>cases hs
 |step h1 h2=>cases hs;exact⟨h1,_,rfl,h2⟩
end Go.Proofs.Ytenemndpignaoaa
namespace Go.Proofs.Ytenemndpignaoaa
open Go Go.RowKit
theorem Of_ep {l a:List Claim} {s w ep B:Int} (ha:GoodC a) (hl:GoodC l) (hB:∀ c∈l,c.epoch≤B) (he:ep≤B+1) (h:∀ x,fC a x=giveF (fC l) (inS [(⟨s,s⟩:Span)]) (w,ep) x):∀ c∈a,c.epoch≤B+1:=by
 intro c hc;have h1:=(ha.iff c.frm (c.node,c.epoch)).2 ⟨c,hc,⟨Int.le_refl _,(ha.2 c hc).2.1⟩,rfl⟩;rw[h] at h1;unfold giveF at h1;split at h1
 ·have:=(Prod.mk.inj (Option.some.inj h1)).2;omega
 ·obtain⟨d,hd,-,e⟩:=(hl.iff _ _).1 h1;have:=hB d hd;have:=(Prod.mk.inj e).2;omega
theorem G1 (ns:List Int) (k:Int) (h1:rngH ns) (hk:0≤k∧k≤255):Cy big ns k=some true:=by
 refine Rn.eqv ?_;unfold Cy;refine Rn.lt (Rn.lt (zB (fun _=>aw25) fun hf=>?_));have l1:¬ (60:Int)<(ns.length:Int):=of_decide_eq_false hf;refine Rn.bn (Kn h1 (by omega)) fun l hl=>Rn.lt ?_;rw[ET (by omega) (by omega)];refine zC (vrem (by omega) (by omega)) (Rn.lt ?_);obtain⟨K,hK,hK1,hK4⟩:∃ K:Nat,1+k % 4=(K:Int)∧1≤K∧K≤4:=⟨(1+k % 4).toNat,by omega,by omega,by omega⟩;rw[Ao (by omega) (by omega),hK];refine zC (Id (by simp;omega)) ?_;have hml:([0,1,2,3].take K:List Int).length=K:=by simp;omega
 have hmm:∀ x:Int,x∈([0,1,2,3].take K:List Int)↔0≤x∧x<(K:Int):=by
  intro x;have:K=1∨K=2∨K=3∨K=4:=by omega
  rcases this with rfl|rfl|rfl|rfl <;> simp <;> omega
 generalize ([0,1,2,3].take K:List Int)=m at hml hmm;have hl30:=hl.few;obtain⟨p,e1,who,hwho,hp⟩:=Kw (m:=m) hl.good (by omega) (by omega);have hwm:∀ x,x∈who↔0≤x∧x<(K:Int):=fun x=>by
  rw[hwho.2 x,hmm x];omega
 have hpl:=hp.len;refine zC e1 (Rn.lt (Rn.lt (zB (fun h=>?_) fun _=>?_)))
 ·have:(64:Int)<(p.length:Int):=of_decide_eq_true h;omega
 refine Rn.bn (P:=fun y=>∃ now,y=.inl now∧GoodC now∧now.length≤200∧PlanR who (64 - p.length) (ownO now) []∧∀ w,(K:Int)≤w→∀ s,ownO now s=some w↔ownO l s=some w) (zF _ (fun j y=>∃ now,y=(now,(j:Int))∧j≤p.length∧GoodC now∧now.length≤30+2*j∧(∀ c∈now,c.epoch≤6+(j:Int))∧PlanR who (64 - j) (ownO now) (p.drop j)∧∀ w,(K:Int)≤w→∀ s,ownO now s=some w↔ownO l s=some w) p.length (by unfold big;omega) ⟨l,rfl,by omega,hl.good,by omega,fun c hc=>by have:=hl.ep c hc;omega,hp,fun w _ s=>Iff.rfl⟩ fun j y hj hI=>?_) fun y hy=>?_
 ·obtain⟨now,rfl,hjp,hg,hnl,hE,hP,hO⟩:=hI;refine Rn.lt (Rn.lt (zB (fun hd=>?_) fun hd=>?_))
  ·have hjl:j<p.length:=by
    have:=of_decide_eq_true (p:=((j:Int)<(p.length:Int))) hd;omega
   obtain⟨hs,n',hn',hP'⟩:=hP.tail (List.drop_eq_getElem_cons hjl);have hnth:=AF hjl;generalize p[j]=st at hnth hs hP';obtain⟨f,t,g1,g2,g3,g4,⟨e,g5⟩,g6,g7,g8,g9,g10,g11⟩:=J0 hg (by omega) hwm hs;have c1:=EL (ownO now) st.to;refine zC hnth (zC g1 (zC g3 (zC g2 (zC g4 (zC g5 ?_)))));refine zC (v:=false) ?_ (Rn.lt (zB (fun h=>by simp at h) fun _=>?_))
   ·simp only[AA];rw[eq_f g6,A6,show neI st.frm st.frm=false by simp[neI],A6,Ao (by omega) (by omega),le_f (by omega),A6,lt_f (by omega),A6,By,hml,ge_f (by omega),A6,ge_f (by omega)]
   ·refine zC hnth ?_;obtain⟨a,f1,-,f3,f4⟩:=Jo (s:=[st]) hg (by omega) (fun x hx=>by simp at hx;subst hx;exact⟨⟨g10,g11⟩,g8.1⟩) (by simp) fun c hc=>by have:=hE c hc;omega
    refine zC f1 (Rn.lt ?_);simp only;rw[Ao (by omega) (by omega)];cases f3 with
    |cons q1 q2 q3 q4 q5 =>
     cases q5
     have hm:=Fn (l:=now) (B:=6+(j:Int)) (by omega) hE;refine Rn.some ⟨hjl,a,rfl,by omega,f4,by omega,fun c hc=>?_,?_,fun w hw s=>?_⟩
     ·have:=Of_ep f4 hg hE (by omega) q4 c hc;omega
     ·rw[show 64 - (j+1)=n' by omega,q2];exact hP'
     ·rw[q2,← hO w hw s];unfold updO;obtain⟨_,_,-,-,-,-,-,h6,-⟩:=hs;by_cases e:s=st.slot
      ·subst e;rw[if_pos rfl,h6];constructor
       ·intro h;have:=Option.some.inj h;omega
       ·intro h;have:=Option.some.inj h;omega
      ·rw[if_neg e]
  ·have:j=p.length:=by
    have:=of_decide_eq_false (p:=((j:Int)<(p.length:Int))) hd;omega
   subst this;rw[List.drop_length] at hP;exact Rn.some ⟨now,rfl,hg,by omega,hP,hO⟩
 ·obtain⟨now,rfl,hg,hn200,hP,hO⟩:=hy;rw[Eo];have hdone:p.length=64∨DoneR who (ownO now):=by
   rcases Nat.lt_or_ge p.length 64 with h|h
   ·right
    have hP2:∀ {n:Nat} {r:List ApiStep},PlanR who n (ownO now) r→r=[]→0<n→DoneR who (ownO now):=by
     intro n r h;cases h with
     |stop h=>exact fun _ _=>h
     |full=>exact fun _ h=>by omega
     |step _ _=>exact fun h=>by simp at h
    exact hP2 hP rfl (by omega)
   ·left
    omega
  refine Rn.bn (P:=fun y=>(0≤y.2∧y.2≤16384)∧(DoneR who (ownO now)→y.1≤y.2+1)) (zF _ (fun j y=>∃ x z:Int,y=(x,z,(j:Int))∧j≤K∧(x=0∨∃ w∈who,x=cntO (ownO now) w)∧(z=16384∨∃ w∈who,z=cntO (ownO now) w)) K (by unfold big;omega) ⟨0,16384,rfl,by omega,.inl rfl,.inl rfl⟩ fun j y hj hI=>?_) fun y hy=>?_
  ·obtain⟨x,z,rfl,hjK,hx,hz⟩:=hI;refine Rn.lt (Rn.lt (zB (fun hd=>?_) fun hd=>?_))
   ·have hd:(j:Int)<(m.length:Int):=of_decide_eq_true hd;obtain⟨f,g1,-,-,g2⟩:=own13 hg hn200 (j:Int);refine zC g1 (zC g2 (Rn.lt (Rn.lt (Rn.lt ?_))));simp only;rw[Ao (by omega) (by omega)];have hj:(j:Int)∈who:=(hwm _).2 (by omega);refine Rn.some ⟨by omega,_,_,rfl,by omega,?_,?_⟩
    ·simp only[maxI];rcases Int.le_total x (cntO (ownO now) (j:Int)) with h|h
     ·right
      exact⟨_,hj,by omega⟩
     ·rw[Int.max_eq_left h];exact hx
    ·simp only[minI];rcases Int.le_total z (cntO (ownO now) (j:Int)) with h|h
     ·rw[Int.min_eq_left h];exact hz
     ·right
      exact⟨_,hj,by omega⟩
   ·refine Rn.some ⟨?_,fun hD=>?_⟩
    ·simp only;rcases hz with rfl|⟨u,hu,rfl⟩
     ·omega
     ·exact EL (ownO now) u
    simp only;rcases hx with rfl|⟨w,hw,rfl⟩
    ·rcases hz with rfl|⟨u,hu,rfl⟩
     ·omega
     ·have:=EL (ownO now) u;omega
    ·have:=EL (ownO now) w;rcases hz with rfl|⟨u,hu,rfl⟩
     ·omega
     ·obtain⟨i,hi⟩:=List.getElem?_of_mem hw;obtain⟨i2,hi2⟩:=List.getElem?_of_mem hu;exact hD i i2 w u hi hi2
  ·refine Rn.lt (Rn.bn (P:=fun y=>y=.inl ()) (zF _ (fun j y=>∃ i:Nat,y=(i:Int)∧K≤i∧i=K+j∧i≤4) 4 (by unfold big;omega) ⟨K,by rw[By,hml],Nat.le_refl _,rfl,hK4⟩ fun j y hj hI=>?_) fun y2 hy2=>?_)
   ·obtain⟨i,rfl,hi,hij,hi4⟩:=hI;refine Rn.lt (zB (fun hd=>?_) fun hd=>Rn.some rfl);have hd:(i:Int)<4:=of_decide_eq_true hd;obtain⟨f,g1,g2,g3,-⟩:=own13 hg hn200 (i:Int);obtain⟨f',g1',g2',-,-⟩:=own13 hl.good (by omega) (i:Int);have e:=g2.ext g2' fun s=>hO _ (by omega) s;subst e;refine zC g1 (zC g1' (zC (Jm f (by omega)) (Rn.lt (zB (fun h=>by simp[notB] at h) fun _=>Rn.lt ?_))));rw[Ao (by omega) (by omega)];exact Rn.some ⟨by omega,i+1,rfl,by omega,by omega,by omega⟩
   ·subst hy2;rw[Eo];refine Rn.bn (P:=(·=true)) ?_ fun y hy=>Rn.some hy;refine Rn.lt (Rn.lt (zB (fun _=>zC Fo (Rn.some rfl)) fun hc=>Rn.lt ?_));have hc:¬ (p.length:Int)=64:=of_decide_eq_false hc;have hD:=hdone.resolve_left (by omega);have h2:=hy.2 hD;have h3:=hy.1;refine Rn.lt (zB (fun _=>zC Fo (Rn.some rfl)) fun hc2=>?_);have hc2:=of_decide_eq_false (p:=y.1≤addI .i64 y.2 1) hc2;rw[Ao (by omega) (by omega)] at hc2;exact absurd h2 hc2
end Go.Proofs.Ytenemndpignaoaa
namespace Go.Proofs.Ytenemndpignaoaa
open Go Go.RowKit
set_option maxRecDepth 100000
section
variable {P:Program} {n t:Nat} {ts:List T}
theorem WfT.bool (hu:P.underlying t=some .bool) (h:WfT P (n+1) t ts):∃ b,ts=[.v (.bool b)]:=by rw[WfT,hu] at h;exact h
theorem WfT.int {k:IntKind} (hu:P.underlying t=some (.int k)) (h:WfT P (n+1) t ts):∃ i,ts=[.v (.int k i)]∧(Lit.int k i).wf=true:=by rw[WfT,hu] at h;exact h
theorem WfT.slice {e:Nat} (hu:P.underlying t=some (.slice e)) (h:WfT P (n+1) t ts):∃ es,ts=[.sl (P.cellsOf e) es]∧es.length*P.bytesOf e≤reachBytes∧∀ x∈es,WfT P n e x:=by rw[WfT,hu] at h;exact h
theorem WfT.struct {fs:Array Go.Field} (hu:P.underlying t=some (.struct fs)) (h:WfT P (n+1) t ts):∃ ps:List (List T),ts=ps.flatten∧All2 (fun p f=>WfT P n f p) ps (fs.toList.map (·.type)):=by rw[WfT,hu] at h;exact h
end
theorem All2.cons_r {α β:Type} {R:α→β→Prop} {l:List α} {b:β} {bs:List β} (h:All2 R l (b::bs)):∃ x xs,l=x::xs∧R x b∧All2 R xs bs:=by
 cases l with
 |nil=>exact h.elim
 |cons x xs=>exact⟨x,xs,rfl,h⟩
theorem All2.nil_r {α β:Type} {R:α→β→Prop} {l:List α} (h:All2 R l ([]:List β)):l=[]:=by
 cases l with
 |nil=>rfl
 |cons x xs=>exact h.elim
def rngI (i:Int):Prop:=-9223372036854775808≤i∧i≤9223372036854775807
theorem IU {α:Type} {enc:List α→List (List T)} {R:List T→Prop} {rng:α→Prop} (hn:enc []=[]) (hc:∀ x l,enc (x::l)=enc [x]++enc l) (h1:∀ e,R e→∃ x,enc [x]=[e]∧rng x) :
  ∀ es,(∀ x∈es,R x)→∃ l,es=enc l∧∀ x∈l,rng x
 |[],_=>⟨[],hn.symm,fun x h=>by cases h⟩
 |e::es,h=>by
  obtain⟨x,hx,rx⟩:=h1 e (h e (by simp));obtain⟨l,rfl,rl⟩:=IU hn hc h1 es fun y hy=>h y (by simp[hy]);refine⟨x::l,by rw[hc,hx];rfl,?_⟩;intro y hy;rcases List.mem_cons.1 hy with rfl|hy
  ·exact rx
  ·exact rl y hy
def rngU (i:Int):Prop:=0≤i∧i≤255
theorem Li {i:Int} (h:(Lit.int .u8 i).wf=true):rngU i:=by
 have h':=(Bool.and_eq_true _ _ ▸ h:_∧_);exact⟨of_decide_eq_true h'.1,of_decide_eq_true h'.2⟩
def rngClaim (x:Claim):Prop:=(rngI x.frm)∧(rngI x.to)∧(rngI x.node)∧(rngI x.epoch)
end Go.Proofs.Ytenemndpignaoaa
namespace Go.Proofs.Ytenemndpignaoaa
open Go Go.RowKit
open Go.ChangeShapes Go.WideShapes Go.ChangeAt Go.RowKit
theorem Try.own:ownKnob Try.prog.godebug=none:=by kernel_rfl
theorem Try.laidOut:laidOutB Try.prog=true:=by kernel_rfl
end Go.Proofs.Ytenemndpignaoaa
namespace Go.Proofs.Ytenemndpignaoaa
open Go Go.RowKit
set_option maxRecDepth 100000
def rngH1 (i:Int):Prop:=0≤i∧i≤65535
theorem wf_H (n:Nat) (e:List T) (h:WfT Try.prog (n+1) 63 e):∃ x:Int,BV [x]=[e]∧rngH1 x:=by
 obtain⟨f,rfl,h2⟩:=WfT.int (t:=63) Try.underlying63 h;have h':=(Bool.and_eq_true _ _ ▸ h2:_∧_);have h1:=of_decide_eq_true h'.1;have h2:=of_decide_eq_true h'.2;exact⟨f,rfl,h1,h2⟩
theorem wf_Hs {n:Nat} {es:List (List T)} (h:∀ x∈es,WfT Try.prog (n+1) 63 x):∃ l:List Int,es=BV l∧∀ x∈l,rngH1 x :=
 IU (enc:=BV) (R:=fun e=>WfT Try.prog (n+1) 63 e) (rng:=rngH1) rfl (fun _ _=>rfl) (@wf_H n) es h
end Go.Proofs.Ytenemndpignaoaa
