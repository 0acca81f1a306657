/- Part 6 of the proof. -/
import Derived.Test.YtlbdhlbbkibgpaaGreatPg5
import Derived.Test.YtlbdhlbbkibgpaaGreatRows
import Derived.ProofKit
set_option linter.unusedVariables false
set_option linter.unusedSimpArgs false
set_option linter.constructorNameAsVariable false
set_option maxRecDepth 8000
set_option maxHeartbeats 8000000
namespace Go.Proofs.YtlbdhlbbkibgpaaGreat
open Go Go.RowKit
def nd (id:Int) (db:List Pair):Node:=⟨4,id,-1,1,0,[⟨0,16383,id,1⟩],db,[],0,[],⟨⟨id,0⟩,0,[],⟨0,0⟩,0⟩,⟨[0,0,0,0],[[],[],[],[]]⟩,0,[],0⟩
def newB (id:Int):Bool:=(Fr big 4 id 4).any fun v=>decide ({ v with claims:=(nd id []).claims,db:=[] }=nd id [])
theorem Sn:(newB 0 && newB 1 && newB 2 && newB 3)=true:=by kernel_rfl
theorem Oh (id:Int) (hid:0≤id∧id≤3) (ns:List Int) (db:List Pair) (hdb:Cd big ns=some db):Dc big id ns=some (nd id db):=by
 have h4:newB id=true∧cvI .i64 id=id∧remI .i64 id 4=some id:=by
  have h:=Sn;simp only[Bool.and_eq_true] at h;have h5:id=0∨id=1∨id=2∨id=3:=by omega
  rcases h5 with rfl|rfl|rfl|rfl
  ·exact⟨h.1.1.1,rfl,rfl⟩
  ·exact⟨h.1.1.2,rfl,rfl⟩
  ·exact⟨h.1.2,rfl,rfl⟩
  ·exact⟨h.2,rfl,rfl⟩
 obtain⟨h1,h2,h3⟩:=h4;unfold newB at h1;cases hv:Fr big 4 id 4 with
 |none=>rw[hv] at h1;cases h1
 |some v =>
  rw[hv] at h1;have e:{ v with claims:=(nd id []).claims,db:=[] }=nd id []:=of_decide_eq_true h1;unfold Dc;rw[h2,Ag,h3,Ac,hv,Ac,hdb,Ac,AL (by omega) (by omega)];exact congrArg (fun n:Node=>some (⟨n.count,n.id,n.master,n.epoch,n.voted,[⟨0,16383,n.id,1⟩],db,n.moves,n.last,n.seen,n.feed,n.watch,n.asked,n.votes,n.wait⟩:Node)) e
theorem LU {id:Int} {db:List Pair} (h:okDB db):OkN (nd id db) where
 srt:=h.1
 okd:=h.2.1
 dl:=Nat.le_trans h.2.2.1 (by omega)
 key:=h.2.2.2
 bk:=⟨Nat.zero_le _,fun e he=>absurd he List.not_mem_nil⟩
 bl:=Nat.zero_le _
 cl:=by show 1≤1000;omega
 mv:=Nat.zero_le _
 sn:=Nat.zero_le _
 vt:=Nat.zero_le _
 hd:=by show 4≤1000;omega
 sy:=by show 4≤1000;omega
 sz:=fun x hx=>by
  have:x∈([[],[],[],[]]:List (List Int)):=hx;simp at this;subst this;exact Nat.zero_le _
def slotKB:Bool:=(List.range 20).all fun j=>decide (0≤slotOf (keyT j)) && decide (slotOf (keyT j)<16384)
theorem Qj:slotKB=true:=by kernel_rfl
theorem So {k:ByteArray} (h:keyed k):0≤slotOf k∧slotOf k<16384:=by
 obtain⟨j,hj,rfl⟩:=h;have:=List.all_eq_true.1 Qj j (List.mem_range.2 hj);simp only[Bool.and_eq_true,decide_eq_true_eq] at this;exact this
theorem Tg (n e slot:Int) (h1:0≤slot) (h2:slot<16384):Dj big [⟨0,16383,n,e⟩] slot=some (n,e,true):=by
 unfold Dj;simp only[Ag,Ac,Ah,Aj,Ak,Al,Ai,Option.some.injEq];refine A7 (.inr (n,e,true)) (fun i=>(i:Int)) 0 (by unfold big;omega) rfl (fun i hi=>by omega) ?_ rfl;rw[show ltI ((0:Nat):Int) (([⟨0,16383,n,e⟩]:List Claim).length:Int)=true from rfl,Ah,show nth ([⟨0,16383,n,e⟩]:List Claim) ((0:Nat):Int)=some ⟨0,16383,n,e⟩ from rfl,Ac];rw[show leI 0 slot=true from decide_eq_true h1,Ah,Ac,show leI slot 16383=true from decide_eq_true (by omega),Ah]
theorem Oi {α:Type} (A C:List α) (x:α):insL (A++[]++C) A.length x=A++[x]++C:=by
 unfold insL;rw[List.append_nil,List.take_left',List.drop_left'] <;> simp
theorem Rc (n:Node) (h:OkN n) (hm:n.master=-1) (hc:n.count=4) (slot tt e:Int) (h1:0≤slot) (h2:slot<16384) (h3:0≤tt) (h4:tt<4) (h5:tt≠n.id)
  (hOf:Dj big n.claims slot=some (n.id,e,true)) (A B C:List Move) (hmv:n.moves=A++B++C) (hA:∀ a∈A,a.slot<slot) (hC:∀ x∈C,slot<x.slot) (hB:B=[]∨∃ x,B=[x]∧x.slot=slot) :
  Cq big n slot tt=some (if B=[] then ({ n with moves:=A++[⟨slot,tt,0,⟨#[]⟩⟩]++C },0) else (n,3)):=by
 have hmvl:=h.mv;have hsnl:=h.sn;have f1:ltI slot 0=false:=AQ (by omega);have f2:geI slot 16384=false:=geF (by omega);have f3:ltI tt 0=false:=AQ (by omega);have f4:geI tt n.count=false:=geF (by omega);have f5:eqI tt n.id=false:=eqF' h5;have f6:neI n.master (-1)=false:=by rw[hm];rfl
 unfold Cq;rw[show (⟨n.count,n.id,n.master,n.epoch,n.voted,n.claims,n.db,n.moves,n.last,n.seen,n.feed,n.watch,n.asked,n.votes,n.wait⟩:Node)=n from rfl,Hw n h,Ac];simp only[Ag,Ac,Ah,Aj,Ak,Al,Ai,Option.some.injEq,f1,f2,f3,f4,f5,f6,hOf,Bc,Ba,A3 (show n.moves.length≤1000000000 by omega),A3 (show n.seen.length≤1000000000 by omega)];have hf:=JD A B C slot hA hC hB (by rw[← hmv];exact hmvl);rw[← hmv] at hf;simp only[hf,Ag,Ac,Ah,Aj,Ak,Al,Ai,Option.some.injEq];rcases hB with rfl|⟨x,rfl,hx⟩
 ·rw[if_pos rfl];have hl:n.moves.length=A.length+C.length:=by rw[hmv];simp
  rw[show (!([]:List Move).isEmpty)=false from rfl,Aj,HI (show insB n.moves (A.length:Int)=true from decide_eq_true (by omega)),show ((A.length:Int)).toNat=A.length from rfl];rw[show insL n.moves A.length (⟨slot,tt,0,⟨#[]⟩⟩:Move)=A++[⟨slot,tt,0,⟨#[]⟩⟩]++C by rw[hmv];exact Oi A C _];rw[A3 (by simp;omega)]
 ·rw[if_neg (by simp)];rfl
def giveP (cl:List Claim) (s tt ep:Int):List Claim:=(Bs big cl [⟨s,s⟩] tt ep).getD []
def msgP (n:Node) (m:Move):Msg:=⟨2,n.id,m.to,0,[],[],0,m.slot,m.num,⟨0,0⟩,⟨0,0⟩,0,[⟨m.key,false,(rawP n.db m.key).getD noI⟩]⟩
def relT (n:Node) (m:Move):Node:={ n with epoch:=n.epoch+1,claims:=giveP n.claims m.slot m.to (n.epoch+1) }
def lockT (n:Node):Node:={ n with last:=n.last+1 }
def lockM (n:Node) (m:Move):Move:=⟨m.slot,m.to,n.last+1,(inP n.db m.slot).headD ⟨#[]⟩⟩
def stepT (a:Node×List Move×List Msg) (m:Move):Node×List Move×List Msg :=
 if m.num=0 then
  if inP a.1.db m.slot=[] then (relT a.1 m,a.2.1,a.2.2)
  else (lockT a.1,a.2.1++[lockM a.1 m],a.2.2++[msgP (lockT a.1) (lockM a.1 m)])
 else (a.1,a.2.1++[m],a.2.2++[msgP a.1 m])
def TickP (n:Node):Node×List Msg:=({ (n.moves.foldl stepT (n,[],[])).1 with moves:=(n.moves.foldl stepT (n,[],[])).2.1 },(n.moves.foldl stepT (n,[],[])).2.2)
structure InT (G:Nat→List Claim→Prop) (n:Node) (i:Nat) (a:Node×List Move×List Msg):Prop where
 db:a.1.db=n.db
 l0:n.last≤a.1.last
 l1:a.1.last≤n.last+i
 e0:n.epoch≤a.1.epoch
 e1:a.1.epoch≤n.epoch+i
 g:G i a.1.claims
 m1:a.2.1.length≤i
 m2:a.2.2.length≤i
 same:a.1={ n with last:=a.1.last,epoch:=a.1.epoch,claims:=a.1.claims }
def GiveOk (G:Nat→List Claim→Prop) (l:List Move):Prop:=(∀ i cl,G i cl→G (i+1) cl)∧∀ i cl ep (hi:i<l.length),G i cl→1≤ep→ep≤2000000→Bs big cl [⟨l[i].slot,l[i].slot⟩] l[i].to ep=some (giveP cl l[i].slot l[i].to ep)∧G (i+1) (giveP cl l[i].slot l[i].to ep)
theorem Re {G:Nat→List Claim→Prop} {n:Node} {i:Nat} {a:Node×List Move×List Msg} (h:InT G n i a) (m:Move) (he:0≤n.epoch∧n.epoch+i≤1500000) (hG0:G (i+1) a.1.claims) (hG:∀ ep,1≤ep→ep≤2000000→G (i+1) (giveP a.1.claims m.slot m.to ep)):InT G n (i+1) (stepT a m):=by
 obtain⟨h1,h2,h3,h4,h5,h6,h7,h8,h9⟩:=h;unfold stepT;split
 ·split
  ·refine⟨h1,h2,by show a.1.last≤_;omega,by show n.epoch≤a.1.epoch+1;omega,by show a.1.epoch+1≤_;omega,hG _ (by omega) (by omega),by show a.2.1.length≤_;omega,by show a.2.2.length≤_;omega,?_⟩;conv=>lhs;unfold relT;rw[h9]
   rfl
  ·refine⟨h1,by show n.last≤a.1.last+1;omega,by show a.1.last+1≤_;omega,h4,by show a.1.epoch≤_;omega,hG0,by simp;omega,by simp;omega,?_⟩;conv=>lhs;unfold lockT;rw[h9]
   rfl
 ·exact⟨h1,h2,by show a.1.last≤_;omega,h4,by show a.1.epoch≤_;omega,hG0,by simp;omega,by simp;omega,h9⟩
theorem E2 {G:Nat→List Claim→Prop} {n:Node} (he:0≤n.epoch∧n.epoch≤1000000) (hl:n.moves.length≤1000) (g0:G 0 n.claims) (hG:GiveOk G n.moves):∀ i,i≤n.moves.length→InT G n i ((n.moves.take i).foldl stepT (n,[],[]))
 |0,_=>⟨rfl,Int.le_refl _,by show n.last≤_;omega,Int.le_refl _,by show n.epoch≤_;omega,g0,Nat.le_refl _,Nat.le_refl _,rfl⟩
 |i+1,hi=>by
  have ih:=E2 he hl g0 hG i (by omega);rw[← List.take_append_getElem (show i<n.moves.length by omega),List.foldl_append];exact Re ih _ (by omega) (hG.1 _ _ ih.g) fun ep h1 h2=>(hG.2 _ _ ep (by omega) ih.g h1 h2).2
theorem Qk (n:Node) (m:Move) (h1:SrtP n.db) (h2:okP n.db) (h3:n.db.length≤1000):EH big n m=some (msgP n m):=by
 unfold EH;rw[MV _ _ h1 h2 (by omega),Ac,AL (by omega) (by omega)];rfl
theorem Sp (G:Nat→List Claim→Prop) (n:Node) (h:OkN n) (hm:n.master=-1) (hl:0≤n.last∧n.last≤1000000) (he:0≤n.epoch∧n.epoch≤1000000) (g0:G 0 n.claims) (hG:GiveOk G n.moves):CJ big n=some (TickP n):=by
 have hmv:=h.mv;have hdl:=h.dl;have hsn:=h.sn;unfold CJ;rw[Hw n h,Ac,Ag,show neI n.master (-1)=false by rw[hm];rfl,Aj];rw[show ET big n.moves=some n.moves from rfl];have hfin:=E2 he hmv g0 hG n.moves.length (Nat.le_refl _);rw[List.take_length] at hfin;simp only[Ag,Ac,Ah,Aj,Ak,Al,Ai,Option.some.injEq];rw[A3 (l:=n.moves) (by omega),A3 (l:=n.seen) (by omega)];refine congrArg (fun x=>bn x _) (?_:_=some (n.moves.foldl stepT (n,[],[]))) |>.trans ?_
 ·refine Gq n.moves stepT (fun i a=>((i:Int),a.1,a.2.1,a.2.2)) (n,[],[]) (n.moves.foldl stepT (n,[],[])) (by omega) rfl (fun i hi a ha=>?_) ?_ rfl
  ·have hI:=E2 he hmv g0 hG i (by omega);rw[← ha] at hI;obtain⟨h1,h2,h3,h4,h5,h6,h7,h8,h9⟩:=hI;have hL0:0≤a.1.last:=by omega
   simp only[Ag,Ac,Ah,Aj,Ak,Al,Ai,Option.some.injEq];rw[AT (by omega),Ah,Au hi,Ac,As (show -9223372036854775808≤(i:Int)+1 by omega) (by omega),show (i:Int)+1=((i+1:Nat):Int) by omega];have hsrt:SrtP a.1.db:=by rw[h1];exact h.srt
   have hok:okP a.1.db:=by rw[h1];exact h.okd
   have hdb:a.1.db.length≤1000:=by rw[h1];exact hdl
   have hky:∀ p∈a.1.db,p.key.size≤1000000000000:=fun p hp=>by
    rw[h1] at hp;have:=FA (h.key p hp);omega
   have hr1:∀ {γ:Type} {k:Option γ},chk (room (a.2.1.length+1) 40) k=k:=AL (by omega) (by omega);have hr2:∀ {γ:Type} {k:Option γ},chk (room (a.2.2.length+1) 168) k=k:=AL (by omega) (by omega);by_cases hz:(n.moves[i]).num=0
   ·rw[show eqI (n.moves[i]).num 0=true by rw[hz];rfl,Ah,NI _ _ (by omega) hky,Ac,show eqI ((inP a.1.db (n.moves[i]).slot).length:Int) 0=decide (inP a.1.db (n.moves[i]).slot=[]) from len0 _];by_cases hin:inP a.1.db (n.moves[i]).slot=[]
    ·rw[decide_eq_true hin,Ah];have hg:=hG.2 i a.1.claims (a.1.epoch+1) hi h6 (by omega) (by omega);rw[show CI big a.1 n.moves[i]=some (relT a.1 n.moves[i]) from ?_]
     ·simp only[Ag,Ac,Ah,Aj,Ak,Al,Ai,Option.some.injEq,Al];rw[stepT,if_pos hz,if_pos hin]
     ·unfold CI;rw[As (by omega) (by omega),Ag,AL (by omega) (by omega),hg.1];rfl
    ·rw[decide_eq_false hin,Aj,As (by omega) (by omega)];obtain⟨k,ks,hks⟩:=List.exists_cons_of_ne_nil hin;rw[hks,show nth (k::ks) 0=some k from rfl];simp only[Ag,Ac,Ah,Aj,Ak,Al,Ai,Option.some.injEq,Ak,hr1,hr2];have hmsg:=Qk (lockT a.1) ⟨(n.moves[i]).slot,(n.moves[i]).to,a.1.last+1,k⟩ hsrt hok hdb;unfold lockT at hmsg;rw[hmsg];rw[stepT,if_pos hz,if_neg hin];simp only[Ag,Ac,Ah,Aj,Ak,Al,Ai,Option.some.injEq,hr2];unfold lockM;rw[hks];rfl
   ·rw[eqF' hz,Aj];simp only[Ag,Ac,Ah,Aj,Ak,Al,Ai,Option.some.injEq,Ak,hr1,hr2];rw[Qk _ _ hsrt hok hdb];rw[stepT,if_neg hz];simp only[Ag,Ac,Ah,Aj,Ak,Al,Ai,Option.some.injEq,hr2]
  ·simp only[Ag,Ac,Ah,Aj,Ak,Al,Ai,Option.some.injEq];rw[AQ (by omega),Aj]
 ·have m1:=hfin.m1;have m2:=hfin.m2;rw[Ac,A3 (by omega),A3 (by omega)];rfl
def goneE (k:ByteArray):Effect:=⟨k,true,noI⟩
theorem Rf (k:ByteArray):okI (goneE k).item:=MW
theorem Kh (n:Node) (h:OkN n) (e:Effect) (he:okI e.item) (f:Node→List Effect→Option Node) (hf:f=C3 big∨f=BJ big):f n [e]=some { n with db:=applyP n.db e,feed:=addF n.feed [e] }:=by
 have h1:=h.dl;have h2:=h.bl;have ha:=KJ n.db [e] h.srt h.okd (fun x hx=>by simp at hx;subst hx;exact he) (by simp;omega);have hb:=Q2 n.feed [e] h.bk ⟨by simp,fun x hx=>by simp at hx;subst hx;exact he⟩ (by simp;omega);rcases hf with rfl|rfl
 ·unfold C3;rw[ha,Ac,hb,Ac];rfl
 ·unfold BJ;rw[ha,Ac,hb,Ac];rfl
def AckedP (n:Node) (A:List Move) (x:Move) (C:List Move):Node:={ n with db:=applyP n.db (goneE x.key),feed:=addF n.feed [goneE x.key],moves:=A++[⟨x.slot,x.to,0,⟨#[]⟩⟩]++C }
theorem Hy {α:Type} (A C:List α) (x y:α):(A++[x]++C).set A.length y=A++[y]++C:=by
 rw[List.append_assoc,List.append_assoc,List.set_append_right _ _ (Nat.le_refl _),Nat.sub_self];rfl
theorem Fg {α:Type} (A C:List α) (x:α):nth (A++[x]++C) (A.length:Int)=some x:=by
 rw[Gn,List.append_assoc,List.getElem?_append_right (Nat.le_refl _),Nat.sub_self];rfl
theorem Rg (n:Node) (h:OkN n) (m:Msg) (A B C:List Move) (hmv:n.moves=A++B++C) (hA:∀ a∈A,a.slot<m.slot) (hC:∀ x∈C,m.slot<x.slot) (hB:B=[]∨∃ x,B=[x]∧x.slot=m.slot∧(x.num<1∨x.num≠m.num∨x.to≠m.frm)) :
  BW big n m=some n:=by
 have hl:=h.mv;have hf:=JD A B C m.slot hA hC (hB.imp id fun ⟨x,h1,h2,_⟩=>⟨x,h1,h2⟩) (by rw[← hmv];exact hl);unfold BW;rw[Hw n h,Ac,A3 (by omega),hmv,hf,← hmv,Ac];rcases hB with rfl|⟨x,rfl,hx,hx2⟩
 ·simp only[Ag,Ac,Ah,Aj,Ak,Al,Ai,Option.some.injEq];rw[show notB (!([]:List Move).isEmpty)=true from rfl];simp only[Ag,Ac,Ah,Aj,Ak,Al,Ai,Option.some.injEq];have hsn:=h.sn;rw[A3 (by omega),A3 (by omega)]
 ·rw[show notB (!([x]:List Move).isEmpty)=false from rfl];simp only[Ag,Ac,Ah,Aj,Ak,Al,Ai,Option.some.injEq];rw[show nth n.moves (A.length:Int)=some x by rw[hmv];exact Fg A C x];simp only[Ag,Ac,Ah,Aj,Ak,Al,Ai,Option.some.injEq];refine Rn.eq (Rn.bn (P:=fun b=>b=true) ?_ fun b hb=>?_)
  ·refine zB (fun _=>Rn.some rfl) fun h1=>zB (fun _=>Rn.some rfl) fun h2=>Rn.some ?_;have h1:=Ev h1;have h2:x.num=m.num:=by
    apply Classical.byContradiction;intro hne;rw[neT hne] at h2;cases h2
   rcases hx2 with h3|h3|h3
   ·omega
   ·exact absurd h2 h3
   ·exact neT h3
  ·subst hb;have hsn:=h.sn;rw[Ah,A3 (by omega),A3 (by omega)];exact Rn.some rfl
theorem Ql (n:Node) (h:OkN n) (m:Msg) (A C:List Move) (x:Move) (hmv:n.moves=A++[x]++C) (hA:∀ a∈A,a.slot<m.slot) (hC:∀ y∈C,m.slot<y.slot) (h1:x.slot=m.slot) (h2:1≤x.num) (h3:x.num=m.num) (h4:x.to=m.frm) :
  BW big n m=some (AckedP n A x C):=by
 have hl:=h.mv;have hf:=JD A [x] C m.slot hA hC (.inr ⟨x,rfl,h1⟩) (by rw[← hmv];exact hl);have hl2:(A++[x]++C).length≤1000:=by rw[← hmv];exact hl
 unfold BW;rw[Hw n h,Ac,A3 (by omega),hmv,hf,Ac];rw[show notB (!([x]:List Move).isEmpty)=false from rfl];simp only[Ag,Ac,Ah,Aj,Ak,Al,Ai,Option.some.injEq];rw[Fg A C x];simp only[Ag,Ac,Ah,Aj,Ak,Al,Ai,Option.some.injEq];rw[AQ (by omega),Aj,h3,Ba,Aj,h4,Ba];simp only[Ag,Ac,Ah,Aj,Ak,Al,Ai,Option.some.injEq];have hsn:=h.sn;rw[A3 (l:=n.seen) (by omega)];rw[show (⟨x.key,true,(⟨0,⟨#[]⟩,[],[],0⟩:Item)⟩:Effect)=goneE x.key from rfl,Kh n h _ (Rf _) _ (.inl rfl)];simp only[Ag,Ac,Ah,Aj,Ak,Al,Ai,Option.some.injEq];rw[hmv,Fg A C x];simp only[Ag,Ac,Ah,Aj,Ak,Al,Ai,Option.some.injEq];rw[show ((A.length:Int)).toNat=A.length from rfl,Hy,Fg];simp only[Ag,Ac,Ah,Aj,Ak,Al,Ai,Option.some.injEq];rw[Hy,A3 (by simp at hl2 ⊢;omega)];rfl
end Go.Proofs.YtlbdhlbbkibgpaaGreat
namespace Go.Proofs.YtlbdhlbbkibgpaaGreat
open Go Go.RowKit
section
variable {β:Type}
def fnP:List (Int×Int×β)→Int→Option β
 |[],_=>none
 |p::l,s=>if p.1≤s∧s≤p.2.1 then some p.2.2 else fnP l s
def canP:List (Int×Int×β)→Prop
 |[]=>True
 |[p]=>p.1≤p.2.1
 |p::q::l=>p.1≤p.2.1∧p.2.1<q.1∧¬ (p.2.1+1=q.1∧p.2.2=q.2.2)∧canP (q::l)
theorem canP.head {p:Int×Int×β} {l:List (Int×Int×β)} (h:canP (p::l)):p.1≤p.2.1:=by
 cases l with
 |nil=>exact h
 |cons q l=>exact h.1
theorem canP.tail {p:Int×Int×β} {l:List (Int×Int×β)} (h:canP (p::l)):canP l:=by
 cases l with
 |nil=>trivial
 |cons q l=>exact h.2.2.2
theorem canP.lt {p:Int×Int×β}:∀ {l:List (Int×Int×β)},canP (p::l)→∀ q∈l,p.2.1<q.1
 |[],_,q,hq=>by simp at hq
 |r::l,h,q,hq=>by
  rcases List.mem_cons.1 hq with rfl|hq
  ·exact h.2.1
  ·have h1:=canP.lt h.2.2.2 q hq;have h2:=canP.head h.2.2.2;have h3:=h.2.1;omega
theorem Ej {l:List (Int×Int×β)} {s:Int} (h:∀ p∈l,¬ (p.1≤s∧s≤p.2.1)):fnP l s=none:=by
 induction l with
 |nil=>rfl
 |cons p l ih =>
  simp only[fnP];rw[if_neg (h p (by simp)),ih fun q hq=>h q (by simp[hq])]
theorem Dy {p:Int×Int×β} {l:List (Int×Int×β)} (h:canP (p::l)) {s:Int} (hs:s≤p.2.1):fnP l s=none :=
 Ej fun q hq hc=>by have:=h.lt q hq;omega
theorem Bx {p:Int×Int×β} {l:List (Int×Int×β)} {s:Int} (h1:p.1≤s) (h2:s≤p.2.1):fnP (p::l) s=some p.2.2:=by
 simp only[fnP];rw[if_pos ⟨h1,h2⟩]
theorem BT {p:Int×Int×β} {l:List (Int×Int×β)} {s:Int} (h:¬ (p.1≤s∧s≤p.2.1)):fnP (p::l) s=fnP l s:=by
 simp only[fnP];rw[if_neg h]
theorem HO:∀ {l m:List (Int×Int×β)},canP l→canP m→(∀ s,fnP l s=fnP m s)→l=m
 |[],[],_,_,_=>rfl
 |[],q::m,_,hm,h=>by
  have:=h q.1;rw[Bx (Int.le_refl _) hm.head] at this;simp[fnP] at this
 |p::l,[],hl,_,h=>by
  have:=h p.1;rw[Bx (Int.le_refl _) hl.head] at this;simp[fnP] at this
 |p::l,q::m,hl,hm,h=>by
  have hp:=hl.head;have hq:=hm.head;have e1:p.1=q.1:=by
   rcases Int.lt_trichotomy p.1 q.1 with hlt|he|hgt
   ·exfalso
    have:=h p.1;rw[Bx (Int.le_refl _) hp,BT (by omega),Dy hm (by omega)] at this;simp at this
   ·exact he
   ·exfalso
    have:=h q.1;rw[Bx (p:=q) (Int.le_refl _) hq,BT (by omega),Dy hl (by omega)] at this;simp at this
  have e2:p.2.2=q.2.2:=by
   have:=h p.1;rw[Bx (Int.le_refl _) hp,Bx (by omega) (by omega)] at this;exact Option.some.inj this
  have key:∀ {p q:Int×Int×β} {l m:List (Int×Int×β)},canP (p::l)→canP (q::m)→(∀ s,fnP (p::l) s=fnP (q::m) s)→p.1=q.1→p.2.2=q.2.2→¬ p.2.1<q.2.1:=by
   intro p q l m hl hm h e1 e2 hlt;have hp:=hl.head;have:=h (p.2.1+1);rw[BT (by omega),Bx (p:=q) (by omega) (by omega)] at this;cases l with
   |nil=>simp[fnP] at this
   |cons r l =>
    have hr:=hl.2.1;have hr2:=canP.head hl.2.2.2;rcases Decidable.em (p.2.1+1=r.1) with e|e
    ·rw[Bx (by omega) (by omega)] at this;have:=Option.some.inj this;exact hl.2.2.1 ⟨e,by rw[e2,this]⟩
    ·rw[BT (by omega),Dy hl.2.2.2 (by omega)] at this;simp at this
  have e3:p.2.1=q.2.1:=by
   have a:=key hl hm h e1 e2;have b:=key hm hl (fun s=>(h s).symm) e1.symm e2.symm;omega
  have e4:p=q:=Prod.ext e1 (Prod.ext e3 e2);subst e4;rw[HO hl.tail hm.tail fun s=>?_];rcases Decidable.em (s≤p.2.1) with hs|hs
  ·rw[Dy hl hs,Dy hm hs]
  ·have:=h s;rwa [BT (by omega),BT (by omega)] at this
theorem HP (l m:List (Int×Int×β)) (s:Int):fnP (l++m) s=match fnP l s with|some v=>some v|none=>fnP m s:=by
 induction l with
 |nil=>rfl
 |cons p l ih =>
  simp only[List.cons_append,fnP];split
  ·rfl
  ·exact ih
theorem IG:∀ {l:List (Int×Int×β)} {p:Int×Int×β},canP l→p.1≤p.2.1→(∀ q,l.getLast?=some q→q.2.1<p.1∧¬ (q.2.1+1=p.1∧q.2.2=p.2.2))→canP (l++[p])
 |[],p,_,hp,_=>hp
 |[q],p,hq,hp,h=>by
  obtain⟨h1,h2⟩:=h q rfl;exact⟨hq,h1,h2,hp⟩
 |q::r::l,p,hl,hp,h=>by
  refine⟨hl.1,hl.2.1,hl.2.2.1,?_⟩;exact IG (l:=r::l) hl.2.2.2 hp fun x hx=>h x (by rw[List.getLast?_cons_cons];exact hx)
theorem Lk:∀ {l:List (Int×Int×β)} {p:Int×Int×β},canP (l++[p])→canP l∧p.1≤p.2.1∧(∀ q,l.getLast?=some q→q.2.1<p.1∧¬ (q.2.1+1=p.1∧q.2.2=p.2.2))
 |[],p,h=>⟨trivial,h,fun q hq=>by simp at hq⟩
 |[q],p,h=>by
  refine⟨h.1,h.2.2.2,fun x hx=>?_⟩;simp at hx;subst hx;exact⟨h.2.1,h.2.2.1⟩
 |q::r::l,p,h=>by
  have h':canP ((r::l)++[p]):=h.2.2.2;obtain⟨a,b,c⟩:=Lk h';exact⟨⟨h.1,h.2.1,h.2.2.1,a⟩,b,fun x hx=>c x (by rw[List.getLast?_cons_cons] at hx;exact hx)⟩
structure BdP (at_:Int) (out:List (Int×Int×β)) (f:Int→Option β):Prop where
 can:canP out
 pos:∀ p∈out,p.2.1<at_
 fn:∀ s,s<at_→fnP out s=f s
def putP [DecidableEq β] (l:List (Int×Int×β)) (p:Int×Int×β):List (Int×Int×β) :=
 match l.getLast? with
 |some q=>if q.2.1+1=p.1∧q.2.2=p.2.2 then l.dropLast++[(q.1,p.2.1,q.2.2)] else l++[p]
 |none=>[p]
theorem BdP.skip {a b:Int} {out:List (Int×Int×β)} {f:Int→Option β} (h:BdP a out f) (hab:a≤b) (hf:∀ s,a≤s→s<b→f s=none):BdP b out f:=by
 refine⟨h.can,fun p hp=>by have:=h.pos p hp;omega,fun s hs=>?_⟩;rcases Decidable.em (s<a) with h1|h1
 ·exact h.fn s h1
 ·rw[hf s (by omega) hs];exact Ej fun p hp hc=>by have:=h.pos p hp;omega
theorem BdP.put [DecidableEq β] {a b:Int} {v:β} {out:List (Int×Int×β)} {f:Int→Option β} (h:BdP a out f) (hab:a≤b) (hf:∀ s,a≤s→s≤b→f s=some v):BdP (b+1) (putP out (a,b,v)) f:=by
 have hcan:=h.can;unfold putP;split
 ·rename_i q hq
  obtain⟨l,hl⟩:=List.getLast?_eq_some_iff.1 hq;subst hl;have hqp:=h.pos q (by simp);obtain⟨c1,c2,c3⟩:=Lk hcan;split
  ·rename_i hc
   obtain⟨g1,g2⟩:=hc;rw[List.dropLast_concat];refine⟨IG c1 (by simp only at g1 ⊢;omega) (fun x hx=>?_),?_,?_⟩
   ·exact c3 x hx
   ·intro p hp;rcases List.mem_append.1 hp with hp|hp
    ·have:=h.pos p (by simp[hp]);omega
    ·simp at hp;subst hp;simp only;omega
   ·intro s hs;rw[HP];rcases Decidable.em (s<a) with h1|h1
    ·have:=h.fn s h1;rw[← this,HP];cases fnP l s with
     |some w=>rfl
     |none =>
      simp only[fnP];simp only at g1;rcases Decidable.em (q.1≤s∧s≤q.2.1) with h2|h2
      ·rw[if_pos h2,if_pos ⟨h2.1,by omega⟩]
      ·rw[if_neg h2,if_neg (by omega)]
    ·rw[hf s (by omega) (by omega)];have:fnP l s=none:=Ej fun p hp hc=>by have:=h.pos p (by simp[hp]);omega
     rw[this];simp only[fnP];simp only at g1 g2;rw[if_pos ⟨by omega,by omega⟩,g2]
  ·rename_i hc
   refine⟨IG hcan hab fun x hx=>?_,?_,?_⟩
   ·rw[hq] at hx;have:=Option.some.inj hx;subst this;exact⟨hqp,hc⟩
   ·intro p hp;rcases List.mem_append.1 hp with hp|hp
    ·have:=h.pos p hp;omega
    ·simp at hp;subst hp;simp only;omega
   ·intro s hs;rw[HP];rcases Decidable.em (s<a) with h1|h1
    ·rw[h.fn s h1];cases f s with
     |some w=>rfl
     |none =>
      simp only[fnP];rw[if_neg (by omega)]
    ·rw[hf s (by omega) (by omega)];have:fnP (l++[q]) s=none:=Ej fun p hp hc=>by have:=h.pos p hp;omega
     rw[this];simp only[fnP];rw[if_pos ⟨by omega,by omega⟩]
 ·rename_i hn
  have:out=[]:=List.getLast?_eq_none_iff.1 hn;subst this;refine⟨hab,?_,?_⟩
  ·intro p hp;simp at hp;subst hp;simp only;omega
  ·intro s hs;simp only[fnP];rcases Decidable.em (s<a) with h1|h1
   ·have:=h.fn s h1;rw[if_neg (by omega),← this];rfl
   ·rw[if_pos ⟨by omega,by omega⟩,hf s (by omega) (by omega)]
theorem BdP.nil {a:Int} {f:Int→Option β} (hf:∀ s,s<a→f s=none):BdP a [] f:=⟨trivial,fun p hp=>by simp at hp,fun s hs=>by rw[hf s hs];rfl⟩
theorem BdP.ext {a b:Int} {l m:List (Int×Int×β)} {f:Int→Option β} (hl:BdP a l f) (hm:BdP b m f) (hf:∀ s,a≤s∨b≤s→f s=none):l=m:=by
 refine HO hl.can hm.can fun s=>?_;have h1:fnP l s=f s:=by
  rcases Decidable.em (s<a) with h|h
  ·exact hl.fn s h
  ·rw[hf s (.inl (by omega))];exact Ej fun p hp hc=>by have:=hl.pos p hp;omega
 have h2:fnP m s=f s:=by
  rcases Decidable.em (s<b) with h|h
  ·exact hm.fn s h
  ·rw[hf s (.inr (by omega))];exact Ej fun p hp hc=>by have:=hm.pos p hp;omega
 rw[h1,h2]
theorem JE {s:Int}:∀ {l:List (Int×Int×β)},(∀ p∈l,s+1≠p.1∧s+1≠p.2.1+1)→fnP l (s+1)=fnP l s
 |[],_=>rfl
 |p::l,h=>by
  have h1:=h p (by simp);have ih:=JE (l:=l) fun q hq=>h q (by simp[hq]);simp only[fnP];rcases Decidable.em (p.1≤s∧s≤p.2.1) with h2|h2
  ·rw[if_pos h2,if_pos (by omega)]
  ·rw[if_neg h2,ih];rcases Decidable.em (p.1≤s+1∧s+1≤p.2.1) with h3|h3
   ·omega
   ·rw[if_neg h3]
end
end Go.Proofs.YtlbdhlbbkibgpaaGreat
namespace Go.Proofs.YtlbdhlbbkibgpaaGreat
open Go Go.RowKit
theorem Rn.eqv {α:Type} {m:Option α} {v:α} (h:Rn m (·=v)):m=Option.some v:=by
 obtain⟨w,h1,rfl⟩:=h;exact h1
theorem lt_t {a b:Int} (h:a<b):ltI a b=true:=decide_eq_true h
theorem lt_f {a b:Int} (h:b≤a):ltI a b=false:=decide_eq_false (by omega)
theorem le_t {a b:Int} (h:a≤b):leI a b=true:=decide_eq_true h
theorem le_f {a b:Int} (h:b<a):leI a b=false:=decide_eq_false (by omega)
theorem gt_t {a b:Int} (h:b<a):gtI a b=true:=decide_eq_true h
theorem ge_t {a b:Int} (h:b≤a):geI a b=true:=decide_eq_true h
theorem ge_f {a b:Int} (h:a<b):geI a b=false:=decide_eq_false (by omega)
theorem eq_t {a b:Int} (h:a=b):eqI a b=true:=decide_eq_true h
theorem eq_f {a b:Int} (h:a≠b):eqI a b=false:=decide_eq_false h
def SM (m:List Int):Prop:=m.Pairwise (·<·)∧∀ x∈m,0≤x∧x≤16384
theorem SM.nil:SM []:=⟨List.Pairwise.nil,fun x hx=>by simp at hx⟩
theorem Gr {m:List Int} {x:Int} (hm:SM m) (hl:m.length≤1000000):Rn (Ce big m x) fun m'=>SM m'∧(∀ y,y∈m'↔y∈m∨(y=x∧0≤x∧x≤16384))∧m'.length≤m.length+1:=by
 unfold Ce;refine Rn.lt ?_;refine Rn.bn (P:=fun a=>∃ k:Nat,a=(k:Int)∧k≤m.length∧(∀ y∈m.take k,y<x)∧(∀ y∈m.drop k,x≤y)) (zI _ (fun j a=>∃ k:Nat,a=(k:Int)∧k+j=m.length∧∀ y∈m.drop k,x≤y) m.length (by unfold big;omega) ⟨m.length,rfl,rfl,by simp⟩ fun j a hj hI=>?_) fun a ha=>?_
 ·obtain⟨k,rfl,hk,hd⟩:=hI;cases k with
  |zero=>exact zA (v:=false) rfl (Rn.lt (zB (fun h=>absurd h (by decide)) fun _=>Rn.some ⟨0,rfl,by omega,by simp,by simpa using hd⟩))
  |succ k =>
   have hkl:k<m.length:=by omega
   have e1:subI .i64 ((k+1:Nat):Int) 1=(k:Int):=by rw[Bu (by omega) (by omega)];omega
   refine zA (v:=geI m[k] x) ?_ (Rn.lt (zB (fun h=>?_) fun h=>?_))
   ·rw[gt_t (show (0:Int)<((k+1:Nat):Int) by omega)];simp only[Ag,Ah];rw[e1,Au hkl];rfl
   ·refine Rn.lt (Rn.some ⟨by omega,k,e1,by omega,fun y hy=>?_⟩);rw[List.drop_eq_getElem_cons hkl] at hy;rcases List.mem_cons.1 hy with rfl|hy
    ·exact of_decide_eq_true h
    ·exact hd y hy
   ·refine Rn.some ⟨k+1,rfl,by omega,fun y hy=>?_,hd⟩;have h1:m[k]<x:=by
     have:=of_decide_eq_false (p:=x≤m[k]) h;omega
    obtain⟨i,hi,rfl⟩:=List.mem_take_iff_getElem.1 hy;rcases Decidable.em (i=k) with rfl|hne
    ·exact h1
    ·have:=List.pairwise_iff_getElem.1 hm.1 i k (by omega) hkl (by omega);omega
 obtain⟨k,rfl,hk,ht,hd⟩:=ha;have hsame:∀ (h:x<0∨16384<x∨x∈m),SM m∧(∀ y,y∈m↔y∈m∨(y=x∧0≤x∧x≤16384))∧m.length≤m.length+1:=by
  intro h;refine⟨hm,fun y=>⟨.inl,fun h2=>?_⟩,by omega⟩;rcases h2 with h2|⟨rfl,h2,h3⟩
  ·exact h2
  ·rcases h with h|h|h
   ·omega
   ·omega
   ·exact h
 refine Rn.bn (P:=fun b=>(b=true→x<0∨16384<x∨x∈m)∧(b=false→(0≤x∧x≤16384)∧x ∉ m)) ?_ fun b hb=>Rn.lt (zB (fun h=>Rn.some (hsame (hb.1 h))) fun h=>?_)
 ·refine Rn.lt (zB (fun h=>Rn.some ⟨fun _=>.inl (of_decide_eq_true h),by simp⟩) fun h=>Rn.lt (zB (fun h2=>Rn.some ⟨fun _=>.inr (.inl (of_decide_eq_true h2)),by simp⟩) fun h2=>Rn.lt (Rn.lt ?_)));have x1:0≤x:=by
   have:=of_decide_eq_false (p:=x<0) h;omega
  have x2:x≤16384:=by
   have:=of_decide_eq_false (p:=16384<x) h2;omega
  rcases Decidable.em (k<m.length) with hkl|hkl
  ·rw[Ai,lt_t (by omega)];refine zB (fun _=>zA (Au hkl) (Rn.lt (Rn.some ⟨fun h3=>.inr (.inr ?_),fun h3=>⟨⟨x1,x2⟩,fun hmem=>?_⟩⟩))) (fun h=>by simp at h)
   ·have:m[k]=x:=of_decide_eq_true h3;rw[← this];exact List.getElem_mem hkl
   ·have hne:m[k]≠x:=of_decide_eq_false h3;rw[← List.take_append_drop k m] at hmem;rcases List.mem_append.1 hmem with h4|h4
    ·have:=ht x h4;omega
    ·rw[List.drop_eq_getElem_cons hkl] at h4;rcases List.mem_cons.1 h4 with h5|h5
     ·exact hne h5.symm
     ·have h6:=hd m[k] (by rw[List.drop_eq_getElem_cons hkl];exact List.mem_cons_self);have h7:(m.drop k).Pairwise (·<·):=hm.1.sublist (List.drop_sublist _ _);rw[List.drop_eq_getElem_cons hkl] at h7;have h8:=List.rel_of_pairwise_cons h7 h5;have h9:x≤m[k]:=h6;have h10:m[k]<x:=h8;omega
  ·rw[Ai,lt_f (by omega)];refine zB (fun h=>by simp at h) fun _=>Rn.some ⟨by simp,fun _=>⟨⟨x1,x2⟩,fun hmem=>?_⟩⟩;rw[List.take_of_length_le (by omega)] at ht;have:=ht x hmem;omega
 ·obtain⟨⟨x1,x2⟩,hn⟩:=hb.2 h;rw[FK hk];refine zA rfl ?_;have lt1:(m.take k).length≤1000000:=by rw[List.length_take];omega
  refine Rn.chk (by simp[room];omega) (Rn.chk (by simp[room];omega) (Rn.lt ?_));rw[DF hk];refine zA rfl (Rn.chk (by simp[room];omega) (Rn.lt (Rn.chk (by simp[room];omega) (Rn.some ⟨⟨?_,?_⟩,?_,?_⟩))))
  ·rw[List.append_assoc,List.pairwise_append];refine⟨hm.1.sublist (List.take_sublist _ _),?_,?_⟩
   ·rw[List.singleton_append,List.pairwise_cons];refine⟨fun y hy=>?_,hm.1.sublist (List.drop_sublist _ _)⟩;have h1:=hd y hy;have h2:y≠x:=fun e=>hn (e ▸ List.mem_of_mem_drop hy);omega
   ·intro a ha b hb;have h1:=ht a ha;rcases List.mem_append.1 hb with hb|hb
    ·simp at hb;omega
    ·have:=hd b hb;omega
  ·intro y hy;rcases List.mem_append.1 hy with hy|hy
   ·rcases List.mem_append.1 hy with hy|hy
    ·exact hm.2 y (List.mem_of_mem_take hy)
    ·simp at hy;omega
   ·exact hm.2 y (List.mem_of_mem_drop hy)
  ·intro y;rw[List.append_assoc,List.mem_append,List.mem_append,List.mem_singleton];constructor
   ·rintro (hy|hy|hy)
    ·exact .inl (List.mem_of_mem_take hy)
    ·exact .inr ⟨hy,x1,x2⟩
    ·exact .inl (List.mem_of_mem_drop hy)
   ·rintro (hy|⟨hy,_⟩)
    ·rw[← List.take_append_drop k m] at hy;rcases List.mem_append.1 hy with hy|hy
     ·exact .inl hy
     ·exact .inr (.inr hy)
    ·exact .inr (.inl hy)
  ·simp;omega
def cP (c:Claim):Int×Int×(Int×Int):=(c.frm,c.to,(c.node,c.epoch))
def fC (l:List Claim) (s:Int):Option (Int×Int):=fnP (l.map cP) s
def inB (x:Int):Prop:=-1000000≤x∧x≤1000000
theorem Rh {m:List Int} {l:List Claim} (hm:SM m) (hl:m.length+2*l.length≤1000000) (hb:∀ c∈l,inB c.frm∧inB c.to) :
  Rn (Ef big m l) fun m'=>SM m'∧(∀ y,y∈m'↔y∈m∨((∃ c∈l,y=c.frm∨y=c.to+1)∧0≤y∧y≤16384))∧m'.length≤m.length+2*l.length:=by
 unfold Ef;refine Rn.bn (P:=fun m'=>SM m'∧(∀ y,y∈m'↔y∈m∨((∃ c∈l,y=c.frm∨y=c.to+1)∧0≤y∧y≤16384))∧m'.length≤m.length+2*l.length) (zI _ (fun j a=>∃ m',a=(m',(j:Int))∧SM m'∧(∀ y,y∈m'↔y∈m∨((∃ c∈l.take j,y=c.frm∨y=c.to+1)∧0≤y∧y≤16384))∧m'.length≤m.length+2*j) l.length (by unfold big;omega) ⟨m,rfl,hm,by simp,by omega⟩ fun j a hj hI=>?_) fun m' h=>Rn.some h;obtain⟨m1,rfl,s1,s2,s3⟩:=hI;refine Rn.lt (Rn.lt (zB (fun hd=>?_) fun hd=>?_))
 ·have hjl:j<l.length:=by
   have:=of_decide_eq_true (p:=((j:Int)<(l.length:Int))) hd;omega
  refine zA (Au hjl) ?_;obtain⟨b1,b2⟩:=hb _ (List.getElem_mem hjl);unfold inB at b1 b2;refine Rn.bn (Gr s1 (by simp only;omega)) fun m2 h2=>?_;obtain⟨t1,t2,t3⟩:=h2;refine Rn.lt ?_;rw[As (by omega) (by omega)];refine Rn.bn (Gr t1 (by simp only at t3;omega)) fun m3 h3=>?_;obtain⟨u1,u2,u3⟩:=h3;refine Rn.lt (Rn.some ⟨hjl,m3,?_,u1,fun y=>?_,?_⟩)
  ·simp only[];rw[As (by omega) (by omega)];rfl
  ·rw[u2,t2,s2,← List.take_append_getElem hjl];simp only[List.mem_append,List.mem_singleton];constructor
   ·rintro ((( h|⟨⟨c,hc,h⟩,h'⟩)|⟨rfl,h,h'⟩)|⟨rfl,h,h'⟩)
    ·exact .inl h
    ·exact .inr ⟨⟨c,.inl hc,h⟩,h'⟩
    ·exact .inr ⟨⟨_,.inr rfl,.inl rfl⟩,h,h'⟩
    ·exact .inr ⟨⟨_,.inr rfl,.inr rfl⟩,h,h'⟩
   ·rintro (h|⟨⟨c,hc|rfl,h⟩,h'⟩)
    ·exact .inl (.inl (.inl h))
    ·exact .inl (.inl (.inr ⟨⟨c,hc,h⟩,h'⟩))
    ·rcases h with rfl|rfl
     ·exact .inl (.inr ⟨rfl,h'⟩)
     ·exact .inr ⟨rfl,h'⟩
  ·simp only at t3 u3;omega
 ·have hjl:j=l.length:=by
   have:=of_decide_eq_false (p:=((j:Int)<(l.length:Int))) hd;omega
  subst hjl;rw[List.take_length] at s2;exact Rn.some ⟨s1,s2,s3⟩
theorem RI (l:List Claim) (s:Int) (hl:l.length≤1000000):Dw big l s=some ((fC l s).getD (-1,0)):=by
 refine Rn.eqv ?_;unfold Dw;refine Rn.bn (P:=fun y=>y=match fC l s with|some v=>.inr v|none=>.inl ()) (zI _ (fun j a=>a=(j:Int)∧fC l s=fC (l.drop j) s) l.length (by unfold big;omega) ⟨rfl,by simp⟩ fun j a hj hI=>?_) fun y hy=>?_
 ·obtain⟨rfl,hI⟩:=hI;refine Rn.lt (Rn.lt (zB (fun hd=>?_) fun hd=>?_))
  ·have hjl:j<l.length:=by
    have:=of_decide_eq_true (p:=((j:Int)<(l.length:Int))) hd;omega
   have hnth:=Au hjl;rw[List.drop_eq_getElem_cons hjl] at hI;generalize l[j]=c at hI hnth;rcases Decidable.em (c.frm≤s∧s≤c.to) with hc|hc
   ·refine zA (v:=true) ?_ (Rn.lt (zB (fun _=>zA hnth (Rn.some ?_)) (fun h=>by simp at h)))
    ·rw[hnth];simp only[Ac,Ag];rw[le_t hc.1,Ah,le_t hc.2]
    ·rw[hI,show fC (c::List.drop (j+1) l) s=some (c.node,c.epoch) from Bx (p:=cP c) hc.1 hc.2]
   ·refine zA (v:=false) ?_ (Rn.lt (zB (fun h=>by simp at h) fun _=>Rn.lt (Rn.some ⟨hjl,?_,?_⟩)))
    ·rw[hnth];simp only[Ac,Ag];rcases Decidable.em (c.frm≤s) with h1|h1
     ·rw[le_t h1,Ah,le_f (by omega)]
     ·rw[le_f (by omega),Aj]
    ·rw[As (by omega) (by omega)];rfl
    ·rw[hI];exact BT (p:=cP c) hc
  ·have hjl:j=l.length:=by
    have:=of_decide_eq_false (p:=((j:Int)<(l.length:Int))) hd;omega
   subst hjl;rw[List.drop_length] at hI;refine Rn.some ?_;rw[hI];rfl
 ·subst hy;cases fC l s with
  |some v=>exact Rn.some rfl
  |none=>exact Rn.some rfl
theorem Sq {l:List Claim} {c:Claim} (hl:l.length≤1000000) (hb:∀ x∈l,inB x.to) (hc:inB c.frm):Rn (CB big l c) fun m=>m.map cP=putP (l.map cP) (cP c)∧m.length≤l.length+1:=by
 unfold CB;refine Rn.lt (Rn.lt ?_);rw[Ai,Bu (by omega) (by omega)];unfold inB at hc;rcases Decidable.em (l=[]) with rfl|hne
 ·refine zA (v:=false) rfl (Rn.lt (zB (fun h=>by simp at h) fun _=>Rn.chk rfl (Rn.lt (Rn.some ⟨rfl,by simp⟩))))
 ·obtain⟨k,x,rfl⟩:∃ k x,l=k++[x]:=⟨l.dropLast,l.getLast hne,(List.dropLast_concat_getLast hne).symm⟩;have hx:=hb x (by simp);unfold inB at hx;have e1:(((k++[x]).length:Nat):Int) - 1=((k.length:Nat):Int):=by simp
  have hk:k.length<(k++[x]).length:=by simp
  have hn:nth (k++[x]) ((k.length:Nat):Int)=some x:=by rw[Au hk];simp
  rw[e1];have hm:putP ((k++[x]).map cP) (cP c)=if x.to+1=c.frm∧(x.node,x.epoch)=(c.node,c.epoch) then k.map cP++[(x.frm,c.to,(x.node,x.epoch))] else (k++[x]).map cP++[cP c]:=by
   unfold putP;rw[List.map_append,show [x].map cP=[cP x] from rfl,List.getLast?_concat];simp only[List.dropLast_concat];rfl
  rw[hm];rcases Decidable.em (x.to+1=c.frm∧(x.node,x.epoch)=(c.node,c.epoch)) with hq|hq
  ·rw[if_pos hq];obtain⟨q1,q2⟩:=hq;have q3:x.node=c.node:=congrArg Prod.fst q2;have q4:x.epoch=c.epoch:=congrArg Prod.snd q2;refine zA (v:=true) ?_ (Rn.lt (zB (fun _=>zA hn (Rn.lt (Rn.some ⟨?_,?_⟩))) (fun h=>by simp at h)))
   ·rw[ge_t (by omega)];simp only[Ag,Ah];rw[hn];simp only[Ac];rw[Bu (by omega) (by omega),eq_t (by omega),Ah,eq_t q3,Ah,eq_t q4]
   ·rw[Int.toNat_natCast,List.set_append_right _ _ (by omega),Nat.sub_self];simp[cP]
   ·simp
  ·rw[if_neg hq];refine zA (v:=false) ?_ (Rn.lt (zB (fun h=>by simp at h) fun _=>Rn.chk (by simp[room];simp at hl;omega) (Rn.lt (Rn.some ⟨by simp,by simp⟩))));rw[ge_t (by omega)];simp only[Ag,Ah];rw[hn];simp only[Ac];rw[Bu (by omega) (by omega)];rcases Decidable.em (x.to=c.frm - 1) with h1|h1
   ·rw[eq_t h1,Ah];rcases Decidable.em (x.node=c.node) with h2|h2
    ·rw[eq_t h2,Ah];have h3:x.epoch≠c.epoch:=fun e=>hq ⟨by omega,by rw[h2,e]⟩;rw[eq_f h3]
    ·rw[eq_f h2,Aj]
   ·rw[eq_f h1,Aj]
end Go.Proofs.YtlbdhlbbkibgpaaGreat
namespace Go.Proofs.YtlbdhlbbkibgpaaGreat
open Go Go.RowKit
section
variable {β:Type}
def FinP (out:List (Int×Int×β)) (f:Int→Option β):Prop:=canP out∧∀ s,fnP out s=f s
theorem FinP.ext {l m:List (Int×Int×β)} {f g:Int→Option β} (hl:FinP l f) (hm:FinP m g) (h:∀ s,f s=g s):l=m:=HO hl.1 hm.1 fun s=>by rw[hl.2,hm.2,h]
def Stp (m:List Int) (f:Int→Option β):Prop:=(∀ s,s+1 ∉ m→f (s+1)=f s)∧∀ s,s<0∨16384≤s→f s=none
theorem Stp.const {m:List Int} {f:Int→Option β} (h:Stp m f) {a s:Int} (h1:a≤s) (h2:∀ x∈m,¬ (a<x∧x≤s)):f s=f a:=by
 obtain⟨n,hn⟩:=Int.eq_ofNat_of_zero_le (show 0≤s - a by omega);have key:∀ k:Nat,k≤n→f (a+k)=f a:=by
  intro k;induction k with
  |zero=>intro _;simp
  |succ k ih =>
   intro hk;have e:a+((k+1:Nat):Int)=(a+k)+1:=by omega
   rw[e,h.1 (a+k) (fun hmem=>h2 _ hmem (by omega)),ih (by omega)]
 have:=key n (Nat.le_refl _);rwa [← hn,show a+(s - a)=s by omega] at this
theorem Stp.first {m:List Int} {f:Int→Option β} (h:Stp m f) (hm:SM m) (hl:0<m.length):BdP m[0] [] f:=by
 refine BdP.nil fun s hs=>?_;rcases Decidable.em (s<0) with h0|h0
 ·exact h.2 s (.inl h0)
 ·rw[h.const (a:=-1) (by omega) fun x hx hc=>?_]
  ·exact h.2 _ (.inl (by omega))
  ·obtain⟨i,hi,rfl⟩:=List.mem_iff_getElem.1 hx;rcases Nat.eq_zero_or_pos i with rfl|hp
   ·omega
   ·have:=List.pairwise_iff_getElem.1 hm.1 0 i hl hi hp;omega
theorem Stp.next [DecidableEq β] {m:List Int} {f:Int→Option β} (h:Stp m f) (hm:SM m) {j:Nat} (hj:j+1<m.length) {out:List (Int×Int×β)} (hb:BdP m[j] out f) :
  (f m[j]=none→BdP m[j+1] out f)∧∀ v,f m[j]=some v→BdP m[j+1] (putP out (m[j],m[j+1] - 1,v)) f:=by
 have hlt:=List.pairwise_iff_getElem.1 hm.1 j (j+1) (by omega) hj (by omega);have hc:∀ s,m[j]≤s→s<m[j+1]→f s=f m[j]:=by
  intro s h1 h2;refine h.const h1 fun x hx hc=>?_;obtain⟨i,hi,rfl⟩:=List.mem_iff_getElem.1 hx;rcases Nat.lt_trichotomy i j with h3|rfl|h3
  ·have:=List.pairwise_iff_getElem.1 hm.1 i j hi (by omega) h3;omega
  ·omega
  ·rcases Nat.eq_or_lt_of_le h3 with h4|h4
   ·subst h4;have h5:m[j.succ]=m[j+1]:=rfl;omega
   ·have:=List.pairwise_iff_getElem.1 hm.1 (j+1) i hj hi h4;omega
 refine⟨fun hn=>hb.skip (by omega) fun s h1 h2=>by rw[hc s h1 h2,hn],fun v hv=>?_⟩;have:=hb.put (b:=m[j+1] - 1) (v:=v) (by omega) fun s h1 h2=>by rw[hc s h1 (by omega),hv]
 rwa [show m[j+1] - 1+1=m[j+1] by omega] at this
theorem Stp.last {m:List Int} {f:Int→Option β} (h:Stp m f) (hm:SM m) {j:Nat} (hj:j<m.length) (hl:m.length≤j+1) {out:List (Int×Int×β)} (hb:BdP m[j] out f):FinP out f:=by
 refine⟨hb.can,fun s=>?_⟩;rcases Decidable.em (s<m[j]) with h1|h1
 ·exact hb.fn s h1
 ·have e:f s=none:=by
   rcases Decidable.em (16384≤s) with h2|h2
   ·exact h.2 s (.inr h2)
   ·have:=h.const (a:=s) (s:=16384) (by omega) fun x hx hc=>by
     obtain⟨i,hi,rfl⟩:=List.mem_iff_getElem.1 hx;rcases Nat.eq_or_lt_of_le (show i≤j by omega) with h3|h3
     ·subst h3;omega
     ·have:=List.pairwise_iff_getElem.1 hm.1 i j hi hj h3;omega
    rw[← this];exact h.2 _ (.inr (Int.le_refl _))
  rw[e];exact Ej fun p hp hc=>by have:=hb.pos p hp;omega
theorem Stp.none {f:Int→Option β} (h:Stp [] f):FinP ([]:List (Int×Int×β)) f:=by
 refine⟨trivial,fun s=>?_⟩;rcases Decidable.em (s<0) with h0|h0
 ·rw[h.2 s (.inl h0)];rfl
 ·rw[h.const (a:=-1) (by omega) (fun x hx=>by simp at hx),h.2 _ (.inl (by omega))];rfl
end
def sP (x:Span):Int×Int×Unit:=(x.frm,x.to,())
def inS (l:List Span) (s:Int):Prop:=(0≤s∧s<16384)∧∃ x∈l,x.frm≤s∧s≤x.to
instance (l:List Span) (s:Int):Decidable (inS l s):=by unfold inS;infer_instance
def fS (p:Int→Prop) [DecidablePred p] (s:Int):Option Unit:=if p s then some () else none
theorem M1 (l:List Span) (s:Int) (hl:l.length≤1000000):F3 big l s=some (decide (inS l s)):=by
 refine Rn.eqv ?_;unfold F3;refine Rn.bn (P:=fun y=>y=if inS l s then .inr true else .inl ()) (zI _ (fun j a=>a=(j:Int)∧(inS l s↔inS (l.drop j) s)) l.length (by unfold big;omega) ⟨rfl,by simp⟩ fun j a hj hI=>?_) fun y hy=>?_
 ·obtain⟨rfl,hI⟩:=hI;refine Rn.lt (Rn.lt (zB (fun hd=>?_) fun hd=>?_))
  ·have hjl:j<l.length:=by
    have:=of_decide_eq_true (p:=((j:Int)<(l.length:Int))) hd;omega
   have hnth:=Au hjl;rw[List.drop_eq_getElem_cons hjl] at hI;generalize l[j]=c at hI hnth;rcases Decidable.em ((0≤s∧s<16384)∧c.frm≤s∧s≤c.to) with hc|hc
   ·obtain⟨⟨h1,h2⟩,h3,h4⟩:=hc;refine zA (v:=true) ?_ (Rn.lt (zB (fun _=>Rn.some ?_) (fun h=>by simp at h)))
    ·rw[ge_t h1];simp only[Ag,Ah];rw[lt_t h2,Ah,hnth];simp only[Ac];rw[le_t h3,Ah,le_t h4]
    ·rw[if_pos (hI.2 ⟨⟨h1,h2⟩,c,by simp,h3,h4⟩)]
   ·refine zA (v:=false) ?_ (Rn.lt (zB (fun h=>by simp at h) fun _=>Rn.lt (Rn.some ⟨hjl,?_,?_⟩)))
    ·rcases Decidable.em (0≤s) with h1|h1
     ·rw[ge_t h1];simp only[Ag,Ah];rcases Decidable.em (s<16384) with h2|h2
      ·rw[lt_t h2,Ah,hnth];simp only[Ac];rcases Decidable.em (c.frm≤s) with h3|h3
       ·rw[le_t h3,Ah,le_f (by omega)]
       ·rw[le_f (by omega),Aj]
      ·rw[lt_f (by omega),Aj]
     ·rw[ge_f (by omega)];simp only[Ag,Aj]
    ·rw[As (by omega) (by omega)];rfl
    ·rw[hI];unfold inS;constructor
     ·rintro⟨h1,x,hx,h2⟩;rcases List.mem_cons.1 hx with rfl|hx
      ·exact absurd ⟨h1,h2⟩ hc
      ·exact⟨h1,x,hx,h2⟩
     ·rintro⟨h1,x,hx,h2⟩;exact⟨h1,x,by simp[hx],h2⟩
  ·have hjl:j=l.length:=by
    have:=of_decide_eq_false (p:=((j:Int)<(l.length:Int))) hd;omega
   subst hjl;rw[List.drop_length] at hI;refine Rn.some ?_;rw[if_neg (by rw[hI];unfold inS;simp)]
 ·subst hy;split
  ·rename_i h
   exact Rn.some (by simp[h])
  ·rename_i h
   exact Rn.some (by simp[h])
theorem Stp.inS {m:List Int} {l:List Span} (h0:(0:Int)∈m) (h1:(16384:Int)∈m) (h:∀ x∈l,x.frm≤x.to→(0≤x.frm∧x.frm≤16384→x.frm∈m)∧(x.to<16384→0≤x.to+1→x.to+1∈m)):∀ s,s+1 ∉ m→(Go.Proofs.YtlbdhlbbkibgpaaGreat.inS l (s+1)↔Go.Proofs.YtlbdhlbbkibgpaaGreat.inS l s):=by
 intro s hs;have n0:s+1≠0:=fun e=>hs (e ▸ h0);have n1:s+1≠16384:=fun e=>hs (e ▸ h1);unfold Go.Proofs.YtlbdhlbbkibgpaaGreat.inS;constructor
 ·rintro⟨a,x,hx,b,c⟩;refine⟨by omega,x,hx,?_,by omega⟩;rcases Decidable.em (x.frm≤s) with h2|h2
  ·exact h2
  ·exfalso
   have e:x.frm=s+1:=by omega
   have:=(h x hx (by omega)).1 (by omega);rw[e] at this;exact hs this
 ·rintro⟨a,x,hx,b,c⟩;refine⟨by omega,x,hx,by omega,?_⟩;rcases Decidable.em (s+1≤x.to) with h2|h2
  ·exact h2
  ·exfalso
   have e:x.to=s:=by omega
   have:=(h x hx (by omega)).2 (by omega) (by omega);rw[e] at this;exact hs this
end Go.Proofs.YtlbdhlbbkibgpaaGreat
namespace Go.Proofs.YtlbdhlbbkibgpaaGreat
open Go Go.RowKit
theorem Qm {a b:List Span} (hl:a.length+b.length≤100000):Rn (EO big a b) fun m=>SM m∧(0:Int)∈m∧(16384:Int)∈m ∧
  (∀ x∈a++b,x.frm≤x.to→(0≤x.frm∧x.frm≤16384→x.frm∈m)∧(x.to<16384→0≤x.to+1→x.to+1∈m))∧m.length≤2+2*(a.length+b.length):=by
 unfold EO;refine Rn.chk rfl (Rn.bn (P:=fun m=>SM m∧(0:Int)∈m∧(16384:Int)∈m ∧
  (∀ x∈a++b,x.frm≤x.to→(0≤x.frm∧x.frm≤16384→x.frm∈m)∧(x.to<16384→0≤x.to+1→x.to+1∈m))∧m.length≤2+2*(a.length+b.length))
  (zI _ (fun j y=>∃ m,y=(m,(j:Int))∧SM m∧(0:Int)∈m∧(16384:Int)∈m ∧
  (∀ x∈(a++b).take j,x.frm≤x.to→(0≤x.frm∧x.frm≤16384→x.frm∈m)∧(x.to<16384→0≤x.to+1→x.to+1∈m))∧m.length≤2+2*j) (a.length+b.length) (by unfold big;omega)
  ⟨[0,16384],rfl,⟨by simp,by simp⟩,by simp,by simp,by simp,by simp⟩ fun j y hj hI=>?_) fun m h=>Rn.some h)
 obtain⟨m,rfl,s1,s2,s3,s4,s5⟩:=hI;refine Rn.lt (Rn.lt (Rn.lt ?_));rw[Ai,Ai,As (by omega) (by omega)];refine Rn.lt (zB (fun hd=>?_) fun hd=>?_)
 ·have hjl:j<(a++b).length:=by
   have:=of_decide_eq_true (p:=((j:Int)<(a.length:Int)+(b.length:Int))) hd;simp;omega
  have hjl':j<a.length+b.length:=by simpa using hjl
  refine Rn.bn (P:=fun m2=>SM m2∧(∀ y∈m,y∈m2)∧((a++b)[j].frm≤(a++b)[j].to→(0≤(a++b)[j].frm∧(a++b)[j].frm≤16384→(a++b)[j].frm∈m2)∧((a++b)[j].to<16384→0≤(a++b)[j].to+1→(a++b)[j].to+1∈m2))∧m2.length≤m.length+2) ?_ fun m2 h2=>?_
  ·refine zA (v:=(a++b)[j]) ?_ ?_
   ·simp only[Ag];rcases Decidable.em (j<a.length) with h1|h1
    ·rw[lt_t (by omega),Ah,Au h1];simp only[Ac];rw[List.getElem_append_left h1]
    ·rw[lt_f (by omega),Aj,Bu (by omega) (by omega),show (j:Int) - (a.length:Int)=((j - a.length:Nat):Int) by omega,Au (show j - a.length<b.length by omega)];simp only[Ac];rw[List.getElem_append_right (by omega)]
   ·generalize (a++b)[j]=x;rcases Decidable.em (x.frm≤x.to) with hx|hx
    ·refine Rn.bn (P:=fun m'=>SM m'∧(∀ y,y∈m'↔y∈m∨(y=x.frm∧0≤x.frm∧x.frm≤16384))∧m'.length≤m.length+1) ?_ fun m1 h1=>?_
     ·simp only[Ag];rw[le_t hx,Ah];refine Rn.bn (Gr s1 (by omega)) fun v hv=>Rn.some hv
     ·obtain⟨t1,t2,t3⟩:=h1;rcases Decidable.em (x.to<16384) with hz|hz
      ·refine zA (v:=true) ?_ (Rn.lt (zB (fun _=>Rn.lt ?_) fun h=>by simp at h))
       ·simp only[Ag];rw[le_t hx,Ah,lt_t hz]
       ·refine Rn.bn (P:=fun m'=>SM m'∧(∀ y,y∈m'↔y∈m1∨(y=addI .i64 x.to 1∧0≤addI .i64 x.to 1∧addI .i64 x.to 1≤16384))∧m'.length≤m1.length+1) (Gr t1 (by omega)) fun m3 h3=>Rn.some ?_;obtain⟨u1,u2,u3⟩:=h3;refine⟨u1,fun y hy=>(u2 y).2 (.inl ((t2 y).2 (.inl hy))),fun _=>⟨fun hr=>(u2 _).2 (.inl ((t2 _).2 (.inr ⟨rfl,hr⟩))),fun _ h0=>?_⟩,by omega⟩;have e:addI .i64 x.to 1=x.to+1:=As (by omega) (by omega);rw[e] at u2;exact (u2 _).2 (.inr ⟨rfl,h0,by omega⟩)
      ·refine zA (v:=false) ?_ (Rn.lt (zB (fun h=>by simp at h) fun _=>Rn.some ?_))
       ·simp only[Ag];rw[le_t hx,Ah,lt_f (by omega)]
       ·exact⟨t1,fun y hy=>(t2 y).2 (.inl hy),fun _=>⟨fun hr=>(t2 _).2 (.inr ⟨rfl,hr⟩),fun h=>absurd h hz⟩,by omega⟩
    ·refine zA (v:=m) ?_ (zA (v:=false) ?_ (Rn.lt (zB (fun h=>by simp at h) fun _=>Rn.some ⟨s1,fun y hy=>hy,fun h=>absurd h hx,by omega⟩)))
     ·simp only[Ag];rw[le_f (by omega),Aj]
     ·simp only[Ag];rw[le_f (by omega),Aj]
  ·obtain⟨t1,t2,t3,t4⟩:=h2;refine Rn.lt (Rn.some ⟨hjl',m2,?_,t1,t2 _ s2,t2 _ s3,?_,?_⟩)
   ·rw[As (by first|omega|(simp only;omega)) (by first|omega|(simp only;omega))];rfl
   ·intro x hx hle;rw[← List.take_append_getElem hjl] at hx;rcases List.mem_append.1 hx with hx|hx
    ·obtain⟨p,q⟩:=s4 x hx hle;exact⟨fun h=>t2 _ (p h),fun h h'=>t2 _ (q h h')⟩
    ·simp at hx;subst hx;exact t3 hle
   ·omega
 ·have hjl:j=a.length+b.length:=by
   have:=of_decide_eq_false (p:=((j:Int)<(a.length:Int)+(b.length:Int))) hd;omega
  subst hjl;rw[List.take_of_length_le (by simp)] at s4;exact Rn.some ⟨s1,s2,s3,s4,s5⟩
theorem IS {p:Int→Prop} [DecidablePred p] {s:Int} (h:¬ p s):fS p s=none:=if_neg h
theorem KQ {p:Int→Prop} [DecidablePred p] {s:Int} (h:p s):fS p s=some ():=if_pos h
theorem Qn {l:List Span} {k:List Span} {x:Span} {a b:Int} (hl:l=k++[x]):putP (l.map sP) (a,b,())=if x.to+1=a then (k++[(⟨x.frm,b⟩:Span)]).map sP else (l++[(⟨a,b⟩:Span)]).map sP:=by
 subst hl;unfold putP;rw[List.map_append,show [x].map sP=[sP x] from rfl,List.getLast?_concat];simp only[List.dropLast_concat,and_true,sP];split <;> simp[sP]
theorem Sr {l:List Span} (hl:l.length≤10000):Rn (Fv big l) fun r=>FinP (r.map sP) (fS (inS l))∧r.length≤2+2*l.length:=by
 unfold Fv GX;refine Rn.bn (P:=fun r=>FinP (r.map sP) (fS (inS l))∧r.length≤2+2*l.length) (Rn.bn (Qm (b:=[]) (by simp;omega)) fun m hm=>?_) fun r h=>Rn.some h;obtain⟨s1,s2,s3,s4,s5⟩:=hm;simp only[List.append_nil,List.length_nil,Nat.add_zero] at s4 s5;have hst:Stp m (fS (inS l)):=by
  refine⟨fun s hs=>?_,fun s hs=>IS fun h=>?_⟩
  ·have:=Stp.inS s2 s3 s4 s hs;unfold fS;simp only[this]
  ·obtain⟨h1,_⟩:=h;omega
 have hpos:0<m.length:=List.length_pos_of_mem s2;refine Rn.bn (P:=fun r=>FinP (r.map sP) (fS (inS l))∧r.length≤2+2*l.length) (zI _ (fun j y=>∃ out:List Span,y=((j:Int),out)∧out.length≤j∧(∀ x∈out,inB x.to)∧∃ h:j<m.length,BdP m[j] (out.map sP) (fS (inS l))) m.length (by unfold big;omega) ⟨[],rfl,by simp,by simp,hpos,hst.first s1 hpos⟩ fun j y hj hI=>?_) fun r h=>Rn.chk (by simp[room];omega) (Rn.some h);obtain⟨out,rfl,t1,t2,hjm,t3⟩:=hI;refine Rn.lt (Rn.lt (Rn.lt ?_));rw[As (by omega) (by omega),Ai];refine zB (fun hd=>?_) fun hd=>?_
 ·have hj1:j+1<m.length:=by
   have:=of_decide_eq_true (p:=((j:Int)+1<(m.length:Int))) hd;omega
  have hn0:nth m (j:Int)=some m[j]:=Au hjm;have hn1:nth m ((j:Int)+1)=some m[j+1]:=Au (i:=j+1) hj1;have hm0:=s1.2 _ (List.getElem_mem hjm);have hm1:=s1.2 _ (List.getElem_mem hj1);obtain⟨g1,g2⟩:=hst.next s1 hj1 t3;refine Rn.bn (P:=fun o=>o.length≤j+1∧(∀ x∈o,inB x.to)∧BdP m[j+1] (o.map sP) (fS (inS l))) ?_ fun o ho=>Rn.lt (Rn.some ⟨by omega,o,?_,ho.1,ho.2.1,hj1,ho.2.2⟩)
  ·refine zA hn0 (zA (M1 l _ (by omega)) (zA (M1 [] _ (by simp)) ?_));rw[show decide (inS [] m[j])=false from decide_eq_false (by unfold inS;simp)];rcases Decidable.em (inS l m[j]) with hin|hin
   ·rw[decide_eq_true hin];refine zA (v:=(true,true)) rfl (zA (v:=true) rfl (Rn.lt (zB (fun h=>by simp[notB] at h) fun _=>?_)));have g3:=g2 () (KQ hin);rcases Decidable.em (out=[]) with he|he
    ·subst he;refine zA (v:=false) rfl (Rn.lt (zB (fun h=>by simp at h) fun _=>zA hn0 (Rn.lt ?_)));refine zA hn1 (Rn.lt (Rn.chk rfl (Rn.lt (Rn.some ⟨by simp,?_,?_⟩))))
     ·intro x hx;simp at hx;subst hx;simp only[inB];rw[Bu (by omega) (by omega)];omega
     ·rw[Bu (by omega) (by omega)];exact g3
    ·obtain⟨k,x,rfl⟩:∃ k x,out=k++[x]:=⟨out.dropLast,out.getLast he,(List.dropLast_concat_getLast he).symm⟩;have hxt:=t2 x (by simp);unfold inB at hxt;have el:subI .i64 (lenI (k++[x])) 1=((k.length:Nat):Int):=by
      rw[Ai,Bu (by omega) (by omega)];simp
     have hk:k.length<(k++[x]).length:=by simp
     have hn:nth (k++[x]) ((k.length:Nat):Int)=some x:=by rw[Au hk];simp
     rw[Qn rfl] at g3;refine zA (v:=eqI x.to (m[j] - 1)) ?_ (Rn.lt (zB (fun h=>?_) fun h=>?_))
     ·simp only[Ag];rw[gt_t (by rw[Ai];simp),Ah,el,hn];simp only[Ac];rw[hn0];simp only[Ac];rw[Bu (by omega) (by omega)]
     ·have hx:x.to=m[j] - 1:=of_decide_eq_true h;rw[if_pos (by omega)] at g3;refine Rn.lt (Rn.lt (Rn.lt ?_));rw[el];refine zA hn1 (Rn.lt (zA hn (Rn.lt (Rn.some ?_))));rw[Bu (by omega) (by omega),Int.toNat_natCast,List.set_append_right _ _ (by omega),Nat.sub_self];refine⟨by simp at t1 ⊢;omega,?_,g3⟩;intro z hz;rcases List.mem_append.1 hz with hz|hz
      ·exact t2 z (by simp[hz])
      ·simp at hz;subst hz;simp only[inB];omega
     ·have hx:x.to≠m[j] - 1:=of_decide_eq_false h;rw[if_neg (by omega)] at g3;refine zA hn0 (Rn.lt ?_);refine zA hn1 (Rn.lt (Rn.chk (by simp[room];simp at t1;omega) (Rn.lt (Rn.some ?_))));rw[Bu (by omega) (by omega)];refine⟨by simp at t1 ⊢;omega,?_,g3⟩;intro z hz;rcases List.mem_append.1 hz with hz|hz
      ·exact t2 z hz
      ·simp at hz;subst hz;simp only[inB];omega
   ·rw[decide_eq_false hin];refine zA (v:=(false,false)) rfl (zA (v:=false) rfl (Rn.lt (zB (fun _=>Rn.some ⟨Nat.le_succ_of_le t1,t2,g1 (IS hin)⟩) fun h=>by simp[notB] at h)))
  ·rfl
 ·have hj1:m.length≤j+1:=by
   have:=of_decide_eq_false (p:=((j:Int)+1<(m.length:Int))) hd;omega
  exact Rn.some ⟨hst.last s1 hjm hj1 t3,show out.length≤2+2*l.length by omega⟩
end Go.Proofs.YtlbdhlbbkibgpaaGreat
namespace Go.Proofs.YtlbdhlbbkibgpaaGreat
open Go Go.RowKit
section
variable {β:Type}
theorem E3:∀ {l:List (Int×Int×β)} {p:Int×Int×β},canP l→p∈l→(p.1≤p.2.1∧∀ s,p.1≤s→s≤p.2.1→fnP l s=some p.2.2)
 |[],p,_,hp=>by simp at hp
 |q::l,p,h,hp=>by
  rcases List.mem_cons.1 hp with rfl|hp
  ·exact⟨h.head,fun s h1 h2=>Bx h1 h2⟩
  ·obtain⟨h1,h2⟩:=E3 h.tail hp;have h3:=h.lt p hp;exact⟨h1,fun s g1 g2=>by rw[BT (by omega),h2 s g1 g2]⟩
theorem JF:∀ {l:List (Int×Int×β)} {a b:Int},canP l→(∀ p∈l,a≤p.1∧p.2.1≤b)→a≤b+1→(l.length:Int)≤b+1 - a
 |[],a,b,_,_,h=>by simp;omega
 |p::l,a,b,hc,hp,h=>by
  have h1:=hp p (by simp);have h2:=hc.head;have:=JF (a:=p.2.1+1) (b:=b) hc.tail (fun q hq=>⟨by have:=hc.lt q hq;omega,(hp q (by simp[hq])).2⟩) (by omega);simp;omega
end
def RngC (l:List Claim):Prop:=∀ c∈l,0≤c.frm∧c.frm≤c.to∧c.to≤16383∧0≤c.node∧1≤c.epoch
def GoodC (l:List Claim):Prop:=canP (l.map cP)∧RngC l
def Tells (f:Int→Option (Int×Int)):Prop:=∀ s v,f s=some v→(0≤s∧s≤16383)∧0≤v.1∧1≤v.2
theorem Th:∀ {a b:Claim},cP a=cP b→a=b:=by
 intro a b h;obtain⟨a1,a2,a3,a4⟩:=a;obtain⟨b1,b2,b3,b4⟩:=b;simp[cP] at h;obtain⟨h1,h2,h3,h4⟩:=h;subst h1 h2 h3 h4;rfl
theorem Oj {α γ:Type} {f:α→γ} (hf:∀ {a b},f a=f b→a=b):∀ {l m:List α},l.map f=m.map f→l=m
 |[],[],_=>rfl
 |[],b::m,h=>by simp at h
 |a::l,[],h=>by simp at h
 |a::l,b::m,h=>by
  rw[List.map_cons,List.map_cons,List.cons.injEq] at h;have e1:a=b:=hf h.1;have e2:l=m:=Oj (f:=f) hf h.2;rw[e1,e2]
theorem FinP.good {l:List Claim} {f:Int→Option (Int×Int)} (h:FinP (l.map cP) f) (ht:Tells f):GoodC l:=by
 refine⟨h.1,fun c hc=>?_⟩;obtain⟨h1,h2⟩:=E3 h.1 (List.mem_map_of_mem hc);have a:=ht c.frm _ ((h.2 _).symm.trans (h2 c.frm (Int.le_refl _) h1));have b:=ht c.to _ ((h.2 _).symm.trans (h2 c.to h1 (Int.le_refl _)));have h1':c.frm≤c.to:=h1;have e1:(cP c).2.2.1=c.node:=rfl;have e2:(cP c).2.2.2=c.epoch:=rfl;rw[e1,e2] at a;exact⟨a.1.1,h1',b.1.2,a.2.1,a.2.2⟩
theorem GoodC.tells {l:List Claim} (h:GoodC l):Tells (fC l):=by
 intro s v hv;have key:∀ l:List Claim,RngC l→fC l s=some v→(0≤s∧s≤16383)∧0≤v.1∧1≤v.2:=by
  intro l;induction l with
  |nil=>intro _ h;simp[fC,fnP] at h
  |cons c l ih =>
   intro hr hf;have hc:=hr c (by simp);rcases Decidable.em (c.frm≤s∧s≤c.to) with h1|h1
   ·have:fC (c::l) s=some (c.node,c.epoch):=Bx (p:=cP c) h1.1 h1.2;rw[this] at hf;have:=Option.some.inj hf;subst this;exact⟨by omega,hc.2.2.2.1,hc.2.2.2.2⟩
   ·have:fC (c::l) s=fC l s:=BT (p:=cP c) h1;rw[this] at hf;exact ih (fun x hx=>hr x (by simp[hx])) hf
 exact key l h.2 hv
theorem GoodC.len {l:List Claim} (h:GoodC l):l.length≤16384:=by
 have:=JF (a:=0) (b:=16383) h.1 (fun p hp=>by
  obtain⟨c,hc,rfl⟩:=List.mem_map.1 hp;have:=h.2 c hc;exact⟨this.1,this.2.2.1⟩) (by omega)
 simp at this;omega
theorem GoodC.fin {l:List Claim} (h:GoodC l):FinP (l.map cP) (fC l):=⟨h.1,fun _=>rfl⟩
theorem GoodC.step {l:List Claim} (h:GoodC l) {m:List Int} (hm:∀ c∈l,c.frm∈m∧c.to+1∈m):∀ s,s+1 ∉ m→fC l (s+1)=fC l s:=by
 intro s hs;refine JE fun p hp=>?_;obtain⟨c,hc,rfl⟩:=List.mem_map.1 hp;obtain⟨h1,h2⟩:=hm c hc;exact⟨fun e=>hs (by rw[e];exact h1),fun e=>hs (by rw[e];exact h2)⟩
def giveF (f:Int→Option (Int×Int)) (p:Int→Prop) [DecidablePred p] (v:Int×Int) (s:Int):Option (Int×Int):=if p s then some v else f s
theorem RJ {l:List Span} {s:Int}:fnP (l.map sP) s=fS (fun s=>∃ x∈l,x.frm≤s∧s≤x.to) s:=by
 induction l with
 |nil=>rw[IS (by simp)];rfl
 |cons x l ih =>
  rcases Decidable.em (x.frm≤s∧s≤x.to) with h|h
  ·rw[KQ ⟨x,by simp,h⟩];exact Bx (p:=sP x) h.1 h.2
  ·have:fnP ((x::l).map sP) s=fnP (l.map sP) s:=BT (p:=sP x) h;rw[this,ih];unfold fS;have:(∃ y∈x::l,y.frm≤s∧s≤y.to)↔(∃ y∈l,y.frm≤s∧s≤y.to):=by
    constructor
    ·rintro⟨y,hy,h2⟩;rcases List.mem_cons.1 hy with rfl|hy
     ·exact absurd h2 h
     ·exact⟨y,hy,h2⟩
    ·rintro⟨y,hy,h2⟩;exact⟨y,by simp[hy],h2⟩
   simp only[this]
def SaysS (l:List Span) (p:Int→Prop) [DecidablePred p]:Prop:=FinP (l.map sP) (fS p)
theorem SaysS.iff {l:List Span} {p:Int→Prop} [DecidablePred p] (h:SaysS l p) (s:Int):(∃ x∈l,x.frm≤s∧s≤x.to)↔p s:=by
 have:=h.2 s;rw[RJ] at this;unfold fS at this;constructor
 ·intro h1;rw[if_pos h1] at this;rcases Decidable.em (p s) with h2|h2
  ·exact h2
  ·rw[if_neg h2] at this;simp at this
 ·intro h1;rw[if_pos h1] at this;rcases Decidable.em (∃ x∈l,x.frm≤s∧s≤x.to) with h2|h2
  ·exact h2
  ·rw[if_neg h2] at this;simp at this
theorem SaysS.rng {l:List Span} {p:Int→Prop} [DecidablePred p] (h:SaysS l p) (hp:∀ s,p s→0≤s∧s≤16383):∀ x∈l,0≤x.frm∧x.frm≤x.to∧x.to≤16383:=by
 intro x hx;obtain⟨h1,-⟩:=E3 h.1 (List.mem_map_of_mem hx);have h1':x.frm≤x.to:=h1;have a:=hp x.frm ((h.iff _).1 ⟨x,hx,Int.le_refl _,h1'⟩);have b:=hp x.to ((h.iff _).1 ⟨x,hx,h1',Int.le_refl _⟩);omega
theorem SaysS.len {l:List Span} {p:Int→Prop} [DecidablePred p] (h:SaysS l p) (hp:∀ s,p s→0≤s∧s≤16383):l.length≤16384:=by
 have:=JF (a:=0) (b:=16383) h.1 (fun q hq=>by
  obtain⟨c,hc,rfl⟩:=List.mem_map.1 hq;have:=h.rng hp c hc;exact⟨this.1,this.2.2⟩) (by omega)
 simp at this;omega
theorem Fh {l:List Span}:∀ s,inS l s→0≤s∧s≤16383:=fun s h=>by have:=h.1;omega
theorem SaysS.inS {l:List Span} {p:Int→Prop} [DecidablePred p] (h:SaysS l p) (hp:∀ s,p s→0≤s∧s≤16383) (s:Int):Go.Proofs.YtlbdhlbbkibgpaaGreat.inS l s↔p s:=by
 unfold Go.Proofs.YtlbdhlbbkibgpaaGreat.inS;rw[h.iff];constructor
 ·exact fun h=>h.2
 ·intro h1;have:=hp s h1;exact⟨by omega,h1⟩
theorem SaysS.step {l:List Span} {p:Int→Prop} [DecidablePred p] (h:SaysS l p) {m:List Int} (hm:∀ x∈l,x.frm∈m∧x.to+1∈m):∀ s,s+1 ∉ m→(p (s+1)↔p s):=by
 intro s hs;have:fnP (l.map sP) (s+1)=fnP (l.map sP) s:=JE fun q hq=>by
  obtain⟨c,hc,rfl⟩:=List.mem_map.1 hq;obtain⟨h1,h2⟩:=hm c hc;exact⟨fun e=>hs (by rw[e];exact h1),fun e=>hs (by rw[e];exact h2)⟩
 rw[h.2,h.2] at this;unfold fS at this;constructor
 ·intro h1;rw[if_pos h1] at this;rcases Decidable.em (p s) with h2|h2
  ·exact h2
  ·rw[if_neg h2] at this;simp at this
 ·intro h1;rw[if_pos h1] at this;rcases Decidable.em (p (s+1)) with h2|h2
  ·exact h2
  ·rw[if_neg h2] at this;simp at this
theorem Qo {a:List Claim} {l:List Span} {nd ep:Int} (ha:GoodC a) (hl:l.length≤1000) (h1:0≤nd) (h2:1≤ep) :
  Rn (Dd big a l nd ep) fun r=>FinP (r.map cP) (giveF (fC a) (inS l) (nd,ep)):=by
 unfold Dd;have hal:=ha.len;refine Rn.bn (Sr (by omega)) fun v hv=>?_;obtain⟨v1,v2⟩:=hv;have hv1:SaysS v (inS l):=v1;have hvr:=hv1.rng Fh;refine Rn.bn (Rh SM.nil (by simp;omega) fun c hc=>by have:=ha.2 c hc;unfold inB;omega) fun m0 hm0=>?_;obtain⟨s1,s2,s3⟩:=hm0;refine Rn.bn (P:=fun m=>SM m∧(∀ y,y∈m↔y∈m0∨((∃ c∈v,y=c.frm∨y=c.to+1)∧0≤y∧y≤16384))∧m.length≤m0.length+2*v.length) (zI _ (fun j y=>∃ m,y=(m,(j:Int))∧SM m∧(∀ y,y∈m↔y∈m0∨((∃ c∈v.take j,y=c.frm∨y=c.to+1)∧0≤y∧y≤16384))∧m.length≤m0.length+2*j) v.length (by unfold big;omega) ⟨m0,rfl,s1,by simp,by omega⟩ fun j y hj hI=>?_) fun m hm=>?_
 ·obtain⟨m1,rfl,t1,t2,t3⟩:=hI;simp only[List.length_nil,Nat.zero_add] at s3;refine Rn.lt (Rn.lt (zB (fun hd=>?_) fun hd=>?_))
  ·have hjl:j<v.length:=by
    have:=of_decide_eq_true (p:=((j:Int)<(v.length:Int))) hd;omega
   refine zA (Au hjl) ?_;have hb:=hvr _ (List.getElem_mem hjl);refine Rn.bn (Gr (m:=m1) t1 (by omega)) fun m2 h2=>?_;obtain⟨u1,u2,u3⟩:=h2;refine Rn.lt ?_;rw[As (by omega) (by omega)];refine Rn.bn (Gr u1 (by omega)) fun m3 h3=>?_;obtain⟨w1,w2,w3⟩:=h3;refine Rn.lt (Rn.some ⟨hjl,m3,?_,w1,fun y=>?_,by omega⟩)
   ·simp only[];rw[As (by omega) (by omega)];rfl
   ·rw[w2,u2,t2,← List.take_append_getElem hjl];simp only[List.mem_append,List.mem_singleton];constructor
    ·rintro ((( h|⟨⟨c,hc,h⟩,h'⟩)|⟨rfl,h,h'⟩)|⟨rfl,h,h'⟩)
     ·exact .inl h
     ·exact .inr ⟨⟨c,.inl hc,h⟩,h'⟩
     ·exact .inr ⟨⟨_,.inr rfl,.inl rfl⟩,h,h'⟩
     ·exact .inr ⟨⟨_,.inr rfl,.inr rfl⟩,h,h'⟩
    ·rintro (h|⟨⟨c,hc|rfl,h⟩,h'⟩)
     ·exact .inl (.inl (.inl h))
     ·exact .inl (.inl (.inr ⟨⟨c,hc,h⟩,h'⟩))
     ·rcases h with rfl|rfl
      ·exact .inl (.inr ⟨rfl,h'⟩)
      ·exact .inr ⟨rfl,h'⟩
  ·have hjl:j=v.length:=by
    have:=of_decide_eq_false (p:=((j:Int)<(v.length:Int))) hd;omega
   subst hjl;rw[List.take_length] at t2;exact Rn.some ⟨t1,t2,t3⟩
 obtain⟨t1,t2,t3⟩:=hm;simp only[List.length_nil,Nat.zero_add] at s3;have hma:∀ c∈a,c.frm∈m∧c.to+1∈m:=by
  intro c hc;have hr:=ha.2 c hc;exact⟨(t2 _).2 (.inl ((s2 _).2 (.inr ⟨⟨c,hc,.inl rfl⟩,by omega⟩))),(t2 _).2 (.inl ((s2 _).2 (.inr ⟨⟨c,hc,.inr rfl⟩,by omega⟩)))⟩
 have hmv:∀ x∈v,x.frm∈m∧x.to+1∈m:=by
  intro x hx;have hr:=hvr x hx;exact⟨(t2 _).2 (.inr ⟨⟨x,hx,.inl rfl⟩,by omega⟩),(t2 _).2 (.inr ⟨⟨x,hx,.inr rfl⟩,by omega⟩)⟩
 have hst:Stp m (giveF (fC a) (inS l) (nd,ep)):=by
  refine⟨fun s hs=>?_,fun s hs=>?_⟩
  ·unfold giveF;rw[ha.step hma s hs];simp only[hv1.step hmv s hs]
  ·unfold giveF;rw[if_neg fun h=>by have:=Fh s h;omega];cases hf:fC a s with
   |none=>rfl
   |some w=>exact absurd (ha.tells s w hf).1 (by omega)
 rcases Nat.eq_zero_or_pos m.length with hm0|hpos
 ·have hm0':m=[]:=List.length_eq_zero_iff.1 hm0;subst hm0';refine Rn.bn (P:=fun r=>r=[]) (zI _ (fun j y=>y=((0:Int),([]:List Claim))∧j=0) 0 (by unfold big;omega) ⟨rfl,rfl⟩ fun j y hj hI=>?_) fun r h=>?_
  ·obtain⟨rfl,rfl⟩:=hI;exact Rn.lt (Rn.lt (Rn.lt (zB (fun h=>absurd h (by decide)) fun _=>Rn.some rfl)))
  ·subst h;exact Rn.chk rfl (Rn.some hst.none)
 refine Rn.bn (P:=fun r=>FinP (r.map cP) (giveF (fC a) (inS l) (nd,ep))∧r.length≤m.length) (zI _ (fun j y=>∃ out:List Claim,y=((j:Int),out)∧out.length≤j∧(∀ x∈out,inB x.to)∧∃ h:j<m.length,BdP m[j] (out.map cP) (giveF (fC a) (inS l) (nd,ep))) m.length (by unfold big;omega) ⟨[],rfl,by simp,by simp,hpos,hst.first t1 hpos⟩ fun j y hj hI=>?_) fun r h=>Rn.chk (by have:=h.2;simp[room];omega) (Rn.some h.1);obtain⟨out,rfl,o1,o2,hjm,o3⟩:=hI;refine Rn.lt (Rn.lt (Rn.lt ?_));rw[As (by omega) (by omega),Ai];refine zB (fun hd=>?_) fun hd=>?_
 ·have hj1:j+1<m.length:=by
   have:=of_decide_eq_true (p:=((j:Int)+1<(m.length:Int))) hd;omega
  have hn0:nth m (j:Int)=some m[j]:=Au hjm;have hn1:nth m ((j:Int)+1)=some m[j+1]:=Au (i:=j+1) hj1;have hm0:=t1.2 _ (List.getElem_mem hjm);have hm1:=t1.2 _ (List.getElem_mem hj1);obtain⟨g1,g2⟩:=hst.next t1 hj1 o3;refine Rn.bn (P:=fun o=>o.length≤j+1∧(∀ x∈o,inB x.to)∧BdP m[j+1] (o.map cP) (giveF (fC a) (inS l) (nd,ep))) ?_ fun o ho=>Rn.lt (Rn.some ⟨by omega,o,?_,ho.1,ho.2.1,hj1,ho.2.2⟩)
  ·refine zA hn0 (zA (RI a _ (by omega)) ?_);have hH:Ee big v m[j]=some (decide (inS v m[j])):=M1 v m[j] (by have:=hv1.len Fh;omega);rw[show decide (inS v m[j])=decide (inS l m[j]) from decide_eq_decide.2 (hv1.inS Fh _)] at hH;have step:∀ w:Int×Int,giveF (fC a) (inS l) (nd,ep) m[j]=some w→0≤w.1→Rn (lt (geI w.1 0) fun v24 =>
     ite' v24 (bn (nth m (j:Int)) fun v25 =>
     lt ((j:Int)+1) fun v26 =>
     bn (nth m v26) fun v27 =>
     lt (subI .i64 v27 1) fun v28 =>
     bn (CB big out (⟨v25,v28,w.1,w.2⟩:Claim)) fun v29 =>
     some (v29)) (some out)) fun o=>o.length≤j+1∧(∀ x∈o,inB x.to)∧BdP m[j+1] (o.map cP) (giveF (fC a) (inS l) (nd,ep)):=by
    intro w hw hw0;have g3:=g2 w hw;refine Rn.lt ?_;rw[ge_t hw0];refine zB (fun _=>zA hn0 (Rn.lt (zA hn1 (Rn.lt ?_)))) fun h=>by simp at h
    rw[Bu (by omega) (by omega)];refine Rn.bn (Sq (by omega) o2 (by unfold inB;show _∧_;simp only;omega)) fun o ho=>Rn.some ?_;obtain⟨p1,p2⟩:=ho;have p3:BdP m[j+1] (o.map cP) (giveF (fC a) (inS l) (nd,ep)):=by rw[p1];exact g3
    refine⟨by omega,fun x hx=>?_,p3⟩;have a1:=p3.pos _ (List.mem_map_of_mem hx);obtain⟨a2,a3⟩:=E3 p3.can (List.mem_map_of_mem hx);have a4:x.to<m[j+1]:=a1;have a5:x.frm≤x.to:=a2;have a6:=p3.fn x.frm (by omega);rw[a3 x.frm (Int.le_refl _) a5] at a6;have a7:0≤x.frm:=by
     rcases Decidable.em (x.frm<0) with h|h
     ·rw[hst.2 x.frm (.inl h)] at a6;simp at a6
     ·omega
    unfold inB;omega
   rcases Decidable.em (inS l m[j]) with hin|hin
   ·have hg:giveF (fC a) (inS l) (nd,ep) m[j]=some (nd,ep):=if_pos hin;refine zA (v:=(nd,ep)) ?_ (step _ hg h1);rw[hH,decide_eq_true hin];rfl
   ·have hg:giveF (fC a) (inS l) (nd,ep) m[j]=fC a m[j]:=if_neg hin;refine zA (v:=(fC a m[j]).getD (-1,0)) ?_ ?_
    ·rw[hH,decide_eq_false hin];rfl
    ·cases hf:fC a m[j] with
     |none =>
      refine Rn.lt (zB (fun h=>absurd h (by decide)) fun _=>Rn.some ⟨Nat.le_succ_of_le o1,o2,g1 (by rw[hg,hf])⟩)
     |some w=>exact step w (by rw[hg,hf]) (ha.tells _ _ hf).2.1
  ·rfl
 ·have hj1:m.length≤j+1:=by
   have:=of_decide_eq_false (p:=((j:Int)+1<(m.length:Int))) hd;omega
  exact Rn.some ⟨hst.last t1 hjm hj1 o3,show out.length≤m.length by omega⟩
end Go.Proofs.YtlbdhlbbkibgpaaGreat
namespace Go.Proofs.YtlbdhlbbkibgpaaGreat
open Go Go.RowKit
theorem BdP.fin {β:Type} {a:Int} {out:List (Int×Int×β)} {f:Int→Option β} (h:BdP a out f) (hf:∀ s,a≤s→f s=none):FinP out f:=by
 refine⟨h.can,fun s=>?_⟩;rcases Decidable.em (s<a) with h1|h1
 ·exact h.fn s h1
 ·rw[hf s (by omega)];exact Ej fun p hp hc=>by have:=h.pos p hp;omega
theorem BdP.rng {a:Int} {out:List Claim} {f:Int→Option (Int×Int)} (h:BdP a (out.map cP) f) (hf:∀ s,s<0→f s=none):∀ x∈out,0≤x.frm∧x.frm≤x.to∧x.to<a:=by
 intro x hx;have a1:x.to<a:=h.pos _ (List.mem_map_of_mem hx);obtain⟨a2,a3⟩:=E3 h.can (List.mem_map_of_mem hx);have a5:x.frm≤x.to:=a2;have a6:=h.fn x.frm (by omega);rw[a3 x.frm (Int.le_refl _) a5] at a6;refine⟨?_,a5,a1⟩;rcases Decidable.em (x.frm<0) with h1|h1
 ·rw[hf x.frm h1] at a6;simp at a6
 ·omega
def valC (c:Claim):Option (Int×Int):=if c.epoch=0 then none else some (c.node,c.epoch)
theorem GoodC.tail {c:Claim} {l:List Claim} (h:GoodC (c::l)):GoodC l:=⟨canP.tail (p:=cP c) h.1,fun x hx=>h.2 x (by simp[hx])⟩
structure NextC (l:List Claim) (at_:Int) (c:Claim) (r:List Claim):Prop where
 frm:c.frm=at_
 le:at_≤c.to
 last:c.to≤16383
 val:∀ s,at_≤s→s≤c.to→fC l s=valC c
 good:GoodC r
 rest:∀ s,at_≤s→fC r s=fC l s
 num:0≤c.node∧0≤c.epoch∧(c.epoch=0→c.node=0)
theorem Ok {l:List Claim} {at_:Int} (hl:GoodC l) (h0:0≤at_∧at_≤16383):Rn (CA big l at_) fun r=>NextC l at_ r.1 r.2:=by
 unfold CA;have hlen:=hl.len;refine Rn.bn (P:=fun r=>GoodC r∧(∀ s,at_≤s→fC r s=fC l s)∧∀ c t,r=c::t→at_≤c.to) (zI _ (fun j r=>r=l.drop j∧GoodC r∧∀ s,at_≤s→fC r s=fC l s) l.length (by unfold big;omega) ⟨by simp,hl,fun s _=>rfl⟩ fun j r hj hI=>?_) fun r hr=>?_
 ·obtain⟨hd,hg,hf⟩:=hI;cases r with
  |nil=>exact zA (v:=false) rfl (Rn.lt (zB (fun h=>by simp at h) fun _=>Rn.some ⟨hg,hf,fun c t h=>by simp at h⟩))
  |cons c t =>
   have hjl:j<l.length:=by
    rcases Nat.lt_or_ge j l.length with h|h
    ·exact h
    ·rw[List.drop_eq_nil_of_le h] at hd;simp at hd
   have ht:t=l.drop (j+1):=by
    rw[List.drop_eq_getElem_cons hjl] at hd;exact (List.cons.inj hd).2
   refine zA (v:=ltI c.to at_) ?_ (Rn.lt (zB (fun h=>?_) fun h=>?_))
   ·simp only[Ag];rw[gt_t (by rw[Ai];simp),Ah];rfl
   ·have h1:c.to<at_:=of_decide_eq_true h
    refine zA (v:=t) ?_ (Rn.some ⟨hjl,ht,hg.tail,fun s hs=>?_⟩)
    ·have:=DF (l:=c::t) (i:=1) (by simp);exact this
    ·rw[← hf s hs];exact (BT (p:=cP c) fun hc=>by have h2:s≤c.to:=hc.2;omega).symm
   ·have h1:=of_decide_eq_false (p:=c.to<at_) h;refine Rn.some ⟨hg,hf,fun c' t' he=>?_⟩;rw[← (List.cons.inj he).1];omega
 ·obtain⟨hg,hf,hh⟩:=hr;cases r with
  |nil =>
   refine zA (v:=⟨at_,16383,0,0⟩) rfl (Rn.some ⟨rfl,h0.2,Int.le_refl _,fun s h1 h2=>?_,hg,hf,by simp⟩);rw[← hf s h1];rfl
  |cons c t =>
   have hc:=hg.2 c (by simp);have ht:=hh c t rfl;have hn:nth (c::t) 0=some c:=rfl;rcases Decidable.em (c.frm≤at_) with h1|h1
   ·refine zA (v:=⟨at_,c.to,c.node,c.epoch⟩) ?_ (Rn.some ⟨rfl,ht,hc.2.2.1,fun s g1 g2=>?_,hg,hf,?_⟩)
    ·refine Rn.eqv (zA (v:=true) ?_ (Rn.lt (zB (fun _=>zA hn (Rn.some rfl)) fun h=>by simp at h)));simp only[Ag];rw[gt_t (by rw[Ai];simp),Ah,hn];simp only[Ac];rw[le_t h1]
    ·rw[← hf s g1];have g2':s≤c.to:=g2;have:fC (c::t) s=some (c.node,c.epoch):=Bx (p:=cP c) (show c.frm≤s by omega) g2';rw[this];unfold valC;rw[if_neg (show ¬ c.epoch=0 by omega)]
    ·exact⟨hc.2.2.2.1,by have:=hc.2.2.2.2;show (0:Int)≤c.epoch;omega,fun h=>by have:=hc.2.2.2.2;have h':c.epoch=0:=h;omega⟩
   ·refine zA (v:=⟨at_,c.frm - 1,0,0⟩) ?_ (Rn.some ⟨rfl,by show at_≤c.frm - 1;omega,by show c.frm - 1≤16383;omega,fun s g1 g2=>?_,hg,hf,by simp⟩)
    ·refine Rn.eqv (zA (v:=false) ?_ (Rn.lt (zB (fun h=>by simp at h) fun _=>Rn.lt (Rn.lt (zB (fun _=>zA hn (Rn.lt (Rn.some ?_))) fun h=>?_)))))
     ·simp only[Ag];rw[gt_t (by rw[Ai];simp),Ah,hn];simp only[Ac];rw[le_f (by omega)]
     ·rw[Bu (by omega) (by omega)]
     ·have:gtI (lenI (c::t)) 0=true:=gt_t (by rw[Ai];simp);rw[this] at h;simp at h
    ·rw[← hf s g1];have g2':s≤c.frm - 1:=g2;have e1:fC (c::t) s=fC t s:=BT (p:=cP c) fun hc2=>by have h2:c.frm≤s:=hc2.1;omega
     rw[e1];exact Dy (p:=cP c) hg.1 (show s≤c.to by omega)
theorem Ti {l:List Claim} {c:Claim} (hl:l.length≤1000000) (hb:∀ x∈l,inB x.to) (hc:inB c.frm):Rn (B6 big l c) fun m=>m.map cP=(if c.epoch=0 then l.map cP else putP (l.map cP) (cP c))∧m.length≤l.length+1:=by
 unfold B6;refine Rn.bn (P:=fun m=>m.map cP=(if c.epoch=0 then l.map cP else putP (l.map cP) (cP c))∧m.length≤l.length+1) (Rn.lt (Rn.lt (zB (fun h=>?_) fun h=>?_))) fun m hm=>Rn.some hm
 ·have he:c.epoch=0:=of_decide_eq_true h;exact Rn.some ⟨by rw[if_pos he],by omega⟩
 ·have he:c.epoch≠0:=of_decide_eq_false h;rw[if_neg he];rcases Decidable.em (l=[]) with rfl|hne
  ·refine zA (v:=false) rfl (Rn.lt (zB (fun h=>by simp at h) fun _=>Rn.chk rfl (Rn.lt (Rn.some ⟨rfl,by simp⟩))))
  ·obtain⟨k,x,rfl⟩:∃ k x,l=k++[x]:=⟨l.dropLast,l.getLast hne,(List.dropLast_concat_getLast hne).symm⟩;have hx:=hb x (by simp);unfold inB at hx hc;have e1:subI .i64 (lenI (k++[x])) 1=((k.length:Nat):Int):=by
    rw[Ai,Bu (by omega) (by omega)];simp
   have hk:k.length<(k++[x]).length:=by simp
   have hn:nth (k++[x]) ((k.length:Nat):Int)=some x:=by rw[Au hk];simp
   have hm:putP ((k++[x]).map cP) (cP c)=if x.to+1=c.frm∧(x.node,x.epoch)=(c.node,c.epoch) then k.map cP++[(x.frm,c.to,(x.node,x.epoch))] else (k++[x]).map cP++[cP c]:=by
    unfold putP;rw[List.map_append,show [x].map cP=[cP x] from rfl,List.getLast?_concat];simp only[List.dropLast_concat];rfl
   rw[hm];have ht:C2 big x c=some (decide (x.to+1=c.frm∧(x.node,x.epoch)=(c.node,c.epoch))):=by
    unfold C2;simp only[Ag];rw[As (by omega) (by omega)];rcases Decidable.em (x.to+1=c.frm) with h1|h1
    ·rw[eq_t h1,Ah];rcases Decidable.em (x.node=c.node) with h2|h2
     ·rw[eq_t h2,Ah];simp[eqI,h1,h2,Ac]
     ·rw[eq_f h2,Aj];simp[h2,Ac]
    ·rw[eq_f h1,Aj];simp[h1,Ac]
   refine zA (v:=decide (x.to+1=c.frm∧(x.node,x.epoch)=(c.node,c.epoch))) ?_ (Rn.lt (zB (fun h=>?_) fun h=>?_))
   ·simp only[Ag];rw[gt_t (by rw[Ai];simp),Ah,e1,hn];simp only[Ac];rw[ht];rfl
   ·have hq:=of_decide_eq_true h;rw[if_pos hq];refine Rn.lt ?_;rw[e1];refine zA hn (Rn.lt (Rn.some ⟨?_,by simp⟩));rw[Int.toNat_natCast,List.set_append_right _ _ (by omega),Nat.sub_self];simp[cP]
   ·have hq:=of_decide_eq_false h;rw[if_neg hq];exact Rn.chk (by simp[room];simp at hl;omega) (Rn.lt (Rn.some ⟨by simp,by simp⟩))
def epo:Option (Int×Int)→Int
 |some v=>v.2
 |none=>0
def nod:Option (Int×Int)→Int
 |some v=>v.1
 |none=>0
def joinV (x y:Option (Int×Int)):Option (Int×Int):=if epo y<epo x∨(epo x=epo y∧nod y<nod x) then x else y
def joinF (f g:Int→Option (Int×Int)) (s:Int):Option (Int×Int):=joinV (f s) (g s)
theorem Tells.none {f:Int→Option (Int×Int)} (h:Tells f) {s:Int} (hs:s<0∨16384≤s):f s=Option.none:=by
 cases hf:f s with
 |none=>rfl
 |some v=>exact absurd (h s v hf).1 (by omega)
theorem Ri {out:List Claim} {f:Int→Option (Int×Int)} {a b:Int} {c:Claim} (h:BdP a (out.map cP) f) (ht:Tells f) (ho:out.length≤1000000) (ha:0≤a∧a≤16384) (h1:c.frm=a) (h2:c.to=b) (h3:a≤b)
  (hv:∀ s,a≤s→s≤b→f s=valC c):Rn (B6 big out c) fun m=>BdP (b+1) (m.map cP) f∧m.length≤out.length+1:=by
 have hr:=h.rng fun s hs=>ht.none (.inl hs);refine (Ti ho (fun x hx=>by have:=hr x hx;unfold inB;omega) (by unfold inB;omega)).mono fun m hm=>⟨?_,hm.2⟩;rw[hm.1];split
 ·rename_i he
  exact h.skip (by omega) fun s g1 g2=>by rw[hv s g1 (by omega),valC,if_pos he]
 ·rename_i he
  have:=h.put (b:=b) (v:=(c.node,c.epoch)) h3 fun s g1 g2=>by rw[hv s g1 g2,valC,if_neg he]
  rwa [show cP c=(a,b,(c.node,c.epoch)) by rw[← h1,← h2];rfl]
end Go.Proofs.YtlbdhlbbkibgpaaGreat
namespace Go.Proofs.YtlbdhlbbkibgpaaGreat
open Go Go.RowKit
def SortableS (l:List Span):Prop:=∃ s:Int,l=[⟨s,s⟩]∧0≤s∧s≤16383
theorem SaysS.of {l:List Span} {p:Int→Prop} [DecidablePred p] (h:canP (l.map sP)) (hp:∀ t,(∃ x∈l,x.frm≤t∧t≤x.to)↔p t):SaysS l p:=by
 refine⟨h,fun s=>?_⟩;rw[RJ];unfold fS;simp only[hp s]
theorem Rj (x:Span):Bg big [x]=some [x]:=by
 unfold Bg;rw[Ag,Ag,show FO big (cvI .u64 (lenI [x]))=some 1 by
  rw[show lenI [x]=1 from rfl];kernel_rfl,Ac]
 rfl
theorem Rk (s:Int) (h1:0≤s) (h2:s≤16383):DM big [⟨s,s⟩]=some [⟨s,s⟩]:=by
 unfold DM;rw[Ag];refine A7 [⟨s,s⟩] (fun i=>((i:Int),([⟨s,s⟩]:List Span).take i)) 1 (by unfold big;omega) rfl (fun i hi=>?_) ?_ ?_
 ·obtain rfl:i=0:=by omega
  simp only[Ag,Ac,Ah,Aj,Ak,Al,Ai,Option.some.injEq];rw[show ltI ((0:Nat):Int) (([⟨s,s⟩]:List Span).length:Int)=true from rfl,Ah,show nth ([⟨s,s⟩]:List Span) ((0:Nat):Int)=some ⟨s,s⟩ from rfl,Ac];rw[show maxI s 0=s by show max s 0=s;omega,show minI s 16383=s by show min s 16383=s;omega,show leI s s=true from decide_eq_true (Int.le_refl _),Ah];rfl
 ·rfl
 ·rw[Rj,Ac];rfl
theorem Rl (s:Int) (h1:0≤s) (h2:s≤16383):CS big [⟨s,s⟩]=some [⟨s,s⟩]:=by
 unfold CS;rw[Rk s h1 h2,Ac,Ag];refine A7 [⟨s,s⟩] (fun i=>((i:Int),([⟨s,s⟩]:List Span).take i)) 1 (by unfold big;omega) rfl (fun i hi=>?_) rfl rfl;obtain rfl:i=0:=by omega
 rfl
theorem M2 {l:List Span} (hl:SortableS l):Rn (CS big l) fun r=>SaysS r (inS l)∧r.length≤l.length:=by
 obtain⟨s,rfl,h1,h2⟩:=hl;refine⟨_,Rl s h1 h2,SaysS.of (Int.le_refl s) (fun t=>?_),Nat.le_refl _⟩;unfold inS;constructor
 ·rintro⟨x,hx,h3,h4⟩;simp at hx;subst hx;simp only at h3 h4;exact⟨⟨by omega,by omega⟩,_,List.mem_singleton.2 rfl,h3,h4⟩
 ·exact fun h=>h.2
theorem G8 {f:Int→Option (Int×Int)} {p:Int→Prop} [DecidablePred p] {v:Int×Int} (hf:Tells f) (hp:∀ s,p s→0≤s∧s≤16383) (h1:0≤v.1) (h2:1≤v.2):Tells (giveF f p v):=by
 intro s w h;unfold giveF at h;split at h
 ·rename_i hps
  have:=Option.some.inj h;subst this;exact⟨hp s hps,h1,h2⟩
 ·exact hf s w h
theorem Rm {l:List Span} {v:Int×Int} (s:Int):fnP (l.map fun x=>(x.frm,x.to,v)) s=(fnP (l.map sP) s).map fun _=>v:=by
 induction l with
 |nil=>rfl
 |cons x l ih =>
  simp only[List.map_cons,fnP,sP];split
  ·rfl
  ·exact ih
theorem Ll {v:Int×Int}:∀ {l:List Span},canP (l.map sP)→canP (l.map fun x=>(x.frm,x.to,v))
 |[],_=>trivial
 |[x],h=>h
 |x::y::l,h=>⟨h.1,h.2.1,fun hc=>h.2.2.1 ⟨hc.1,rfl⟩,Ll (l:=y::l) h.2.2.2⟩
theorem Qp {l:List Span} {nd ep:Int}:(l.map fun x=>(⟨x.frm,x.to,nd,ep⟩:Claim)).map cP=l.map fun x=>(x.frm,x.to,(nd,ep)):=by
 rw[List.map_map];rfl
theorem Pe {l:List Span} {p:Int→Prop} [DecidablePred p] (h:SaysS l p) (hp:∀ s,p s→0≤s∧s≤16383) {nd ep:Int} (h1:0≤nd) (h2:1≤ep) :
  GoodC (l.map fun x=>(⟨x.frm,x.to,nd,ep⟩:Claim))∧∀ s,fC (l.map fun x=>(⟨x.frm,x.to,nd,ep⟩:Claim)) s=if p s then some (nd,ep) else none:=by
 have hr:=h.rng hp;refine⟨⟨by rw[Qp];exact Ll h.1,fun c hc=>?_⟩,fun s=>?_⟩
 ·obtain⟨x,hx,rfl⟩:=List.mem_map.1 hc;have:=hr x hx;exact⟨this.1,this.2.1,this.2.2,h1,h2⟩
 ·unfold fC;rw[Qp,Rm,h.2 s];unfold fS;split <;> rfl
theorem Ro {a:List Claim} {l:List Span} {nd ep:Int} (ha:GoodC a) (hl:SortableS l) (h1:0≤nd) (h2:1≤ep) :
  Rn (Bs big a l nd ep) fun r=>FinP (r.map cP) (giveF (fC a) (inS l) (nd,ep)):=by
 have hl12:l.length≤1000000:=by obtain⟨s,rfl,_⟩:=hl;simp
 have ht:Tells (giveF (fC a) (inS l) (nd,ep)):=G8 ha.tells Fh h1 h2;unfold Bs;refine Rn.bn (M2 hl) fun v hv=>Rn.lt ?_;obtain⟨v1,v2⟩:=hv;refine Rn.bn (P:=fun g=>g=v.map fun x=>(⟨x.frm,x.to,nd,ep⟩:Claim)) (zI _ (fun j y=>y=((j:Int),(v.take j).map fun x=>(⟨x.frm,x.to,nd,ep⟩:Claim))) v.length (by unfold big;omega) rfl fun j y hj hI=>?_) fun g hg=>?_
 ·subst hI;refine Rn.lt (zB (fun hd=>?_) fun hd=>?_)
  ·have hjl:j<v.length:=by
    have:=of_decide_eq_true (p:=((j:Int)<(v.length:Int))) hd;omega
   refine zA (Au hjl) (Rn.chk (by simp[room];omega) (Rn.lt (Rn.lt (Rn.some ⟨hjl,?_⟩))));rw[As (by first|omega|(simp only;omega)) (by first|omega|(simp only;omega)),← List.take_append_getElem hjl,List.map_append];rfl
  ·have hjl:j=v.length:=by
    have:=of_decide_eq_false (p:=((j:Int)<(v.length:Int))) hd;omega
   subst hjl;exact Rn.some (by show _=_;rw[List.take_length])
 subst hg;obtain⟨hgg,hgf⟩:=Pe v1 Fh h1 h2;have hglen:(v.map fun x=>(⟨x.frm,x.to,nd,ep⟩:Claim)).length≤16384:=hgg.len;generalize (v.map fun x=>(⟨x.frm,x.to,nd,ep⟩:Claim))=b at hgg hgf hglen;have hFb:∀ s,giveF (fC a) (inS l) (nd,ep) s=match fC b s with|some w=>some w|none=>fC a s:=by
  intro s;rw[hgf s];unfold giveF;split <;> rfl
 refine Rn.bn (P:=fun r=>FinP (r.map cP) (giveF (fC a) (inS l) (nd,ep))∧r.length≤16384) (Rn.chk (by simp[room];omega) (zA (v:=(a,b)) rfl (Rn.bn (P:=fun y=>FinP (y.2.2.map cP) (giveF (fC a) (inS l) (nd,ep))∧y.2.2.length≤16384) (zI _ (fun j y=>∃ at_ a' b' p out,y=(at_,a',b',p,out)∧(j:Int)≤at_∧at_≤16384∧GoodC a'∧GoodC b'∧(∀ s,at_≤s→fC a' s=fC a s)∧(∀ s,at_≤s→fC b' s=fC b s)∧BdP at_ (out.map cP) (giveF (fC a) (inS l) (nd,ep))∧out.length≤j) 16384 (by unfold big;omega)
  ⟨0,a,b,_,[],rfl,Int.le_refl _,by omega,ha,hgg,fun s _=>rfl,fun s _=>rfl,BdP.nil fun s hs=>ht.none (.inl hs),by simp⟩ fun j y hj hI=>?_) fun y hy=>Rn.some hy))) fun r hr=>Rn.chk (by have:=hr.2;simp[room];omega) (Rn.some hr.1)
 obtain⟨at_,a',b',p,out,rfl,i1,i2,i3,i4,i5,i6,i7,i8⟩:=hI;refine Rn.lt (zB (fun hd=>?_) fun hd=>?_)
 ·have hat:at_≤16383:=of_decide_eq_true hd
  refine Rn.bn (Ok i3 ⟨by omega,hat⟩) fun x hx=>Rn.bn (Ok i4 ⟨by omega,hat⟩) fun z hz=>Rn.lt ?_;obtain⟨x1,x2⟩:=x;obtain⟨z1,z2⟩:=z;have hmin:minI x1.to z1.to=min x1.to z1.to:=rfl;have hto:at_≤minI x1.to z1.to∧minI x1.to z1.to≤16383∧minI x1.to z1.to≤x1.to∧minI x1.to z1.to≤z1.to:=by
   have q1:=hx.le;have q2:=hz.le;have q3:=hx.last;have q4:=hz.last;simp only at q1 q2 q3 q4;rw[hmin];omega
  simp only;generalize minI x1.to z1.to=to_ at hto;obtain⟨p1,p2,p3,p4⟩:=hto;have hz6:=hz.num;simp only at hz6;have hF:∀ s,at_≤s→s≤to_→giveF (fC a) (inS l) (nd,ep) s=match valC z1 with|some w=>some w|none=>valC x1:=by
   intro s g1 g2;rw[hFb s,← i5 s g1,← i6 s g1,hx.val s g1 (by simp only;omega),hz.val s g1 (by simp only;omega)]
  have hzf:=hz.frm;have hxf:=hx.frm;simp only at hzf hxf;refine Rn.bn (P:=fun c=>(valC c.a=match valC z1 with|some w=>some w|none=>valC x1)∧c.a.frm=at_∧c.a.to=to_) ?_ fun c hc=>?_
  ·refine Rn.lt (zB (fun h=>Rn.some ⟨?_,hzf,rfl⟩) fun h=>Rn.some ⟨?_,hxf,rfl⟩)
   ·have he:0<z1.epoch:=of_decide_eq_true h;unfold valC;simp only;rw[if_neg (by omega)]
   ·have he:¬ 0<z1.epoch:=of_decide_eq_false h;have he0:z1.epoch=0:=by omega
    have:valC z1=none:=if_pos he0;rw[this];rfl
  ·refine Rn.bn (Ri i7 ht (by omega) ⟨by omega,i2⟩ hc.2.1 hc.2.2 p1 fun s g1 g2=>by rw[hF s g1 g2,hc.1]) fun m hm=>Rn.lt (Rn.some ⟨by omega,to_+1,x2,z2,⟨⟨x1.frm,to_,x1.node,x1.epoch⟩,⟨z1.frm,to_,z1.node,z1.epoch⟩⟩,m,?_,by omega,by omega,hx.good,hz.good,fun s hs=>?_,fun s hs=>?_,hm.1,by omega⟩)
   ·rw[As (by omega) (by omega)]
   ·rw[hx.rest s (by omega),i5 s (by omega)]
   ·rw[hz.rest s (by omega),i6 s (by omega)]
 ·have hat:at_=16384:=by
   have:=of_decide_eq_false (p:=at_≤16383) hd;omega
  subst hat;exact Rn.some ⟨i7.fin fun s hs=>ht.none (.inr hs),show out.length≤16384 by omega⟩
theorem Pf {a:List Claim} {l:List Span} {nd ep:Int} (ha:GoodC a) (hl:SortableS l) (h1:0≤nd) (h2:1≤ep) :
  Rn (Bs big a l nd ep) fun r=>GoodC r∧∀ s,fC r s=giveF (fC a) (inS l) (nd,ep) s :=
 (Ro ha hl h1 h2).mono fun r hr=>⟨hr.good (G8 ha.tells Fh h1 h2),fun s=>hr.2 s⟩
end Go.Proofs.YtlbdhlbbkibgpaaGreat
namespace Go.Proofs.YtlbdhlbbkibgpaaGreat
open Go Go.RowKit
end Go.Proofs.YtlbdhlbbkibgpaaGreat
namespace Go.Proofs.YtlbdhlbbkibgpaaGreat
open Go Go.RowKit
theorem give1 {cl:List Claim} (h:GoodC cl) (s tt ep:Int) (hs:0≤s∧s≤16383) (h1:0≤tt) (h2:1≤ep):Bs big cl [⟨s,s⟩] tt ep=some (giveP cl s tt ep)∧GoodC (giveP cl s tt ep)∧∀ x,fC (giveP cl s tt ep) x=giveF (fC cl) (inS [⟨s,s⟩]) (tt,ep) x:=by
 obtain⟨r,hr,h3,h4⟩:=Pf h (l:=[⟨s,s⟩]) ⟨s,rfl,hs.1,hs.2⟩ h1 h2;have e:giveP cl s tt ep=r:=by unfold giveP;rw[hr];rfl
 rw[e];exact⟨hr,h3,h4⟩
theorem Rp (id:Int) (h:0≤id):GoodC [⟨0,16383,id,1⟩]:=⟨by show (0:Int)≤16383;omega,fun c hc=>by
 simp at hc;subst hc;exact⟨by simp,by simp,by simp,h,by simp⟩⟩
theorem OkN.app {n:Node} (h:OkN n) {e:Effect} (hk:keyed e.key) (he:okI e.item) (hl:(applyP n.db e).length≤1000) {mv:List Move} {sn:List Seen} (hm:mv.length≤1000) (hs:sn.length≤1000):OkN { n with db:=applyP n.db e,feed:=addF n.feed [e],moves:=mv,seen:=sn } where
 srt:=Ka h.srt e
 okd:=Lf h.okd he
 dl:=hl
 key:=fun p hp=>by
  have hp:p∈applyP n.db e:=hp;unfold applyP newP at hp;simp only[List.mem_append,List.mem_filter] at hp;rcases hp with (h1|h1)|h1
  ·exact h.key p h1.1
  ·split at h1
   ·cases h1
   ·simp at h1;subst h1;exact hk
  ·exact h.key p h1.1
 bk:=by
  refine okE.drop ?_ _;exact okE.app h.bk ⟨by simp,fun x hx=>by simp at hx;subst hx;exact he⟩ (by have:=h.bl;simp;omega)
 bl:=by
  show (lastN _).length≤64;unfold lastN;simp;omega
 cl:=h.cl
 mv:=hm
 sn:=hs
 vt:=h.vt
 hd:=h.hd
 sy:=h.sy
 sz:=h.sz
theorem OkN.mvs {n:Node} (h:OkN n) {mv:List Move} (hm:mv.length≤1000) (l:Int):OkN { n with moves:=mv,last:=l }:=⟨h.srt,h.okd,h.dl,h.key,h.bk,h.bl,h.cl,hm,h.sn,h.vt,h.hd,h.sy,h.sz⟩
theorem M3:Ec big=some true:=by kernel_rfl
end Go.Proofs.YtlbdhlbbkibgpaaGreat
namespace Go.Proofs.YtlbdhlbbkibgpaaGreat
open Go Go.RowKit
def cmpS (x:Seen) (m:Msg):Int:=if cmpI x.node m.frm=0 then cmpI x.slot m.slot else cmpI x.node m.frm
def sLt (x:Seen) (f s:Int):Prop:=x.node<f∨(x.node=f∧x.slot<s)
def sGt (x:Seen) (f s:Int):Prop:=f<x.node∨(f=x.node∧s<x.slot)
theorem Ss {x:Seen} {m:Msg} (h:sLt x m.frm m.slot):cmpS x m<0:=by
 unfold cmpS;rcases h with h|⟨h,h2⟩
 ·have:=KO.2 h;rw[if_neg (by omega)];exact this
 ·rw[if_pos (Hx.2 h)];exact KO.2 h2
theorem Su {x:Seen} {m:Msg} (h:sGt x m.frm m.slot):0<cmpS x m:=by
 unfold cmpS;rcases h with h|⟨h,h2⟩
 ·have:=KP.2 h;rw[if_neg (by omega)];exact this
 ·rw[if_pos (Hx.2 h.symm)];exact KP.2 h2
theorem Sv {x:Seen} {m:Msg} (h:x.node=m.frm∧x.slot=m.slot):cmpS x m=0:=by
 unfold cmpS;rw[if_pos (Hx.2 h.1)];exact Hx.2 h.2
theorem Or_ok (a b:Int):DN big [a,b]=some (if a=0 then b else a):=by
 refine Rn.eq ?_;unfold DN;have h2:(lenI [a,b])=2:=rfl;refine Rn.lt ?_;rw[h2];by_cases ha:a=0
 ·rw[if_pos ha];by_cases hb:b=0
  ·refine zA (v:=.inl ()) (GI (fun i=>(i:Int)) 2 (by unfold big;omega) rfl (fun i hi=>?_) rfl) (by rw[Ak];exact Rn.some hb.symm);have:i=0∨i=1:=by omega
   rcases this with rfl|rfl
   ·rw[Ag,show ltI ((0:Nat):Int) 2=true from rfl,Ah,show nth [a,b] ((0:Nat):Int)=some a from rfl,Ac,Ag,ha];rfl
   ·rw[Ag,show ltI ((1:Nat):Int) 2=true from rfl,Ah,show nth [a,b] ((1:Nat):Int)=some b from rfl,Ac,Ag,hb];rfl
  ·refine zA (v:=.inr b) (GI (fun i=>(i:Int)) 1 (by unfold big;omega) rfl (fun i hi=>?_) ?_) (by rw[Al];exact Rn.some rfl)
   ·obtain rfl:i=0:=by omega
    rw[Ag,show ltI ((0:Nat):Int) 2=true from rfl,Ah,show nth [a,b] ((0:Nat):Int)=some a from rfl,Ac,Ag,ha];rfl
   ·rw[Ag,show ltI ((1:Nat):Int) 2=true from rfl,Ah,show nth [a,b] ((1:Nat):Int)=some b from rfl,Ac,Ag,neT hb];rfl
 ·rw[if_neg ha];refine zA (v:=.inr a) (GI (fun i=>(i:Int)) 0 (by unfold big;omega) rfl (fun i hi=>by omega) ?_) (by rw[Al];exact Rn.some rfl);rw[Ag,show ltI ((0:Nat):Int) 2=true from rfl,Ah,show nth [a,b] ((0:Nat):Int)=some a from rfl,Ac,Ag,neT ha];rfl
theorem Rq (x:Seen) (m:Msg):BI big x m=some (cmpS x m):=by
 unfold BI;rw[HN,Ac,HN,Ac,AL (by omega) (by omega),Or_ok,Ac];rfl
theorem Rr (A B C:List Seen) (m:Msg) (hA:∀ a∈A,sLt a m.frm m.slot) (hC:∀ x∈C,sGt x m.frm m.slot) (hB:B=[]∨∃ x,B=[x]∧x.node=m.frm∧x.slot=m.slot) (hl:(A++B++C).length≤1000) :
  A4 big (A++B++C) m=some ((A.length:Int),!B.isEmpty):=by
 have h:=Qi (fun x:Seen=>BI big x m) (fun x=>cmpS x m) (fun x=>Rq x m) A B C (fun a ha=>Ss (hA a ha)) (fun a ha=>Su (hC a ha)) (hB.imp id fun ⟨x,h1,h2⟩=>⟨x,h1,Sv h2⟩) (by omega);rw[show A4 big (A++B++C) m=bsG (fun x:Seen=>BI big x m) (A++B++C) from rfl,h]
structure MayM (m:Msg) (e:Effect):Prop where
 eff:m.effects=[e]
 num:1≤m.num
 gone:e.gone=false
 key:keyed e.key
 item:mayI e.item
 ok:okI e.item
 slot:slotOf e.key=m.slot
theorem Tj {m:Msg} {e:Effect} (h:MayM m e):EL big m=some true:=by
 refine Rn.eq ?_;unfold EL;refine zA (v:=false) ?_ (Rn.lt (zB (fun h=>by cases h) fun _=>?_))
 ·rw[h.eff,Ag,Ag,show neI (lenI [e]) 1=false from rfl,Aj,Ag,AQ (by have:=h.num;omega)]
 ·have hk:=FA h.key;refine zA (v:=e) (by rw[h.eff];rfl) (Rn.bn (P:=fun b=>b=true) ?_ fun b hb=>Rn.some hb);refine Rn.lt (Rn.lt (zB (fun _=>Rn.lt (zB (fun _=>?_) fun h2=>?_)) fun h2=>?_))
  ·obtain⟨b,hb,hb2⟩:=MZ e.item h.ok;rw[hb2.2 h.item] at hb;refine zA hb (zB (fun _=>?_) fun h=>by cases h);refine zA (Hv _ (by omega)).2 (Rn.lt (Rn.some ?_));rw[h.slot];exact decide_eq_true rfl
  ·rw[h.gone] at h2;cases h2
  ·have:=of_decide_eq_false (p:=(lenS e.key≤40)) h2;exfalso
   apply this;show ((e.key.size:Nat):Int)≤40;omega
def ackP (n:Node) (m:Msg):Msg:=⟨3,n.id,m.frm,0,[],[],0,m.slot,m.num,⟨0,0⟩,⟨0,0⟩,0,[]⟩
def takeN (n:Node) (m:Msg) (e:Effect) (A C:List Seen):Node:={ n with db:=applyP n.db e,feed:=addF n.feed [e],seen:=A++[⟨m.frm,m.slot,m.num⟩]++C }
theorem Sw (n:Node) (h:OkN n) (hm:n.master=-1) (m:Msg) (e:Effect) (hM:MayM m e) (A B C:List Seen) (hs:n.seen=A++B++C) (hA:∀ a∈A,sLt a m.frm m.slot) (hC:∀ x∈C,sGt x m.frm m.slot) (hB:B=[]∨∃ x,B=[x]∧x.node=m.frm∧x.slot=m.slot) :
  Do big n m=some (if ∀ x∈B,x.num<m.num then takeN n m e A C else n,[ackP n m]):=by
 have hsl:=h.sn;have hml:=h.mv;have hf:=Rr A B C m hA hC hB (by rw[← hs];exact hsl);rw[← hs] at hf;have hlen:n.seen.length=A.length+B.length+C.length:=by rw[hs];simp[Nat.add_assoc]
 unfold Do;rw[Hw n h,Ac,hm];simp only[Ag,Ac,Ah,Aj,Ak,Al,Ai,Option.some.injEq,Ba,Tj hM,Bc,A3 (show n.seen.length≤1000000000 by omega),A3 (show n.moves.length≤1000000000 by omega),hf];have hap:=Kh n h e hM.ok (BJ big) (.inr rfl);rw[hM.eff];rcases hB with rfl|⟨x,rfl,hx1,hx2⟩
 ·rw[if_pos (by simp)];simp only[List.isEmpty_nil,Bool.not_true,Gw,Ag,Ac,Ah,Aj,Ak,Al,Ai,Option.some.injEq,hap];rw[HI (show insB n.seen (A.length:Int)=true from decide_eq_true (by simp at hlen;omega))];simp only[Ag,Ac,Ah,Aj,Ak,Al,Ai,Option.some.injEq];rw[show ((A.length:Int)).toNat=A.length from rfl,hs,Oi,Fg];simp only[Ag,Ac,Ah,Aj,Ak,Al,Ai,Option.some.injEq];rw[Hy,A3 (by simp at hlen ⊢;omega)];unfold takeN ackP;rw[hm]
 ·simp only[List.isEmpty_cons,Bool.not_false,Bc,Ag,Ac,Ah,Aj,Ak,Al,Ai,Option.some.injEq];rw[hs,Fg];simp only[Ag,Ac,Ah,Aj,Ak,Al,Ai,Option.some.injEq];by_cases hlt:x.num<m.num
  ·rw[if_pos (by simpa using hlt),AT hlt];simp only[Ag,Ac,Ah,Aj,Ak,Al,Ai,Option.some.injEq,hap];rw[hs,Fg];simp only[Ag,Ac,Ah,Aj,Ak,Al,Ai,Option.some.injEq];rw[show ((A.length:Int)).toNat=A.length from rfl,Hy,A3 (by simp at hlen ⊢;omega)];unfold takeN ackP;rw[hm,hx1,hx2]
  ·rw[if_neg (by simpa using hlt),AQ hlt];simp only[Ag,Ac,Ah,Aj,Ak,Al,Ai,Option.some.injEq];rw[← hs,A3 (by omega)];unfold ackP;rw[← hm]
theorem OkN.take {n:Node} (h:OkN n) {m:Msg} {e:Effect} (hM:MayM m e) {A C:List Seen} (hl:(applyP n.db e).length≤1000) (hs:(A++[(⟨m.frm,m.slot,m.num⟩:Seen)]++C).length≤1000):OkN (takeN n m e A C):=OkN.app h hM.key hM.ok hl h.mv hs
theorem NM {l:List Pair} (h:SrtP l) (k:ByteArray):applyP l (goneE k)=l.filter fun p=>decide (p.key≠k):=by
 obtain⟨A,B,C,rfl,hA,hC,hB⟩:=shapeG (key:=Pair.key) k l h;rw[Ei (e:=goneE k) hA hC hB];have hA2:A.filter (fun p=>decide (p.key≠k))=A:=Ff fun a ha=>decide_eq_true (Cg (hA a ha));have hC2:C.filter (fun p=>decide (p.key≠k))=C:=Ff fun a ha=>decide_eq_true fun e=>Cg (hC a ha) e.symm;have hB2:B.filter (fun p=>decide (p.key≠k))=[]:=DG fun b hb=>by
  rcases hB with rfl|⟨x,rfl,hx⟩
  ·simp at hb
  ·simp at hb;subst hb;simp[hx]
 rw[List.filter_append,List.filter_append,hA2,hB2,hC2];rfl
theorem Rs:Cd big []=some []:=by kernel_rfl
theorem Rt:okDB []:=⟨List.Pairwise.nil,fun p hp=>by simp at hp,Nat.zero_le _,fun p hp=>by simp at hp⟩
end Go.Proofs.YtlbdhlbbkibgpaaGreat
namespace Go.Proofs.YtlbdhlbbkibgpaaGreat
open Go Go.RowKit
theorem Lm {β:Type} {l:List (Int×Int×β)} (h:canP l) {s:Int} {w:β} (h1:fnP l s=some w) (h2:fnP l (s - 1)≠some w):∃ p∈l,p.1=s:=by
 induction l with
 |nil=>simp[fnP] at h1
 |cons p l ih =>
  rcases Decidable.em (p.1≤s∧s≤p.2.1) with hc|hc
  ·rw[Bx hc.1 hc.2] at h1;rcases Decidable.em (p.1=s) with e|e
   ·exact⟨p,by simp,e⟩
   ·exact absurd (by rw[Bx (by omega) (by omega)];exact h1) h2
  ·rw[BT hc] at h1;rcases Decidable.em (p.1≤s - 1∧s - 1≤p.2.1) with hd|hd
   ·-- s is just behind p: it begins a piece of the rest
    have h3:fnP l (s - 1)≠some w:=by
     rw[Dy h hd.2];simp
    obtain⟨q,hq,e⟩:=ih h.tail h1 h3;exact⟨q,by simp[hq],e⟩
   ·rw[BT hd] at h2;obtain⟨q,hq,e⟩:=ih h.tail h1 h2;exact⟨q,by simp[hq],e⟩
theorem NN {β:Type} {l:List (Int×Int×β)} (h:canP l) {p:Int×Int×β} (hp:p∈l):fnP l p.1=some p.2.2∧fnP l (p.1 - 1)≠some p.2.2:=by
 refine⟨(E3 h hp).2 _ (Int.le_refl _) (E3 h hp).1,?_⟩;induction l with
 |nil=>simp at hp
 |cons q l ih =>
  rcases List.mem_cons.1 hp with rfl|hp'
  ·have:=h.head;rw[BT (by omega),Dy h (by omega)];simp
  ·rcases Decidable.em (q.1≤p.1 - 1∧p.1 - 1≤q.2.1) with hc|hc
   ·rw[Bx hc.1 hc.2];intro e;have e:=Option.some.inj e;cases l with
    |nil=>simp at hp'
    |cons r l =>
     have hqr:=h.2.1;rcases List.mem_cons.1 hp' with rfl|hp2
     ·exact h.2.2.1 ⟨by omega,e⟩
     ·have h3:=(canP.tail h).lt p hp2;have h4:=(canP.tail h).head;omega
   ·rw[BT hc];exact ih h.tail hp'
theorem Ln:∀ (l m:List Int),l.Pairwise (·≠·)→(∀ x∈l,x∈m)→l.length≤m.length
 |[],m,_,_=>Nat.zero_le _
 |x::l,m,hn,hs=>by
  rw[List.pairwise_cons] at hn;have hx:=hs x (by simp);have:=Ln l (m.erase x) hn.2 fun y hy=>(List.mem_erase_of_ne (fun e=>hn.1 y hy e.symm)).2 (hs y (by simp[hy]));rw[List.length_erase_of_mem hx] at this;have h0:0<m.length:=List.length_pos_of_mem hx;simp;omega
theorem Jg {β:Type}:∀ {l:List (Int×Int×β)},canP l→(l.map fun p=>p.1).Pairwise (·≠·)
 |[],_=>List.Pairwise.nil
 |p::l,h=>by
  rw[List.map_cons,List.pairwise_cons];refine⟨fun x hx=>?_,Jg h.tail⟩;obtain⟨q,hq,rfl⟩:=List.mem_map.1 hx;have h1:=h.lt q hq;have h2:=h.head;omega
theorem Ru {a r:List Claim} {v:List Span} {p:Int→Prop} [DecidablePred p] {w:Int×Int} (ha:GoodC a) (hr:GoodC r) (hv:SaysS v p) (hf:∀ s,fC r s=giveF (fC a) p w s):r.length≤a.length+2*v.length:=by
 have h1:=Ln ((r.map cP).map fun q=>q.1) (a.map (·.frm)++(v.map (·.frm)++v.map fun x=>x.to+1)) (Jg hr.1) fun s hs=>?_
 ·simpa [Nat.two_mul] using h1
 ·obtain⟨q,hq,rfl⟩:=List.mem_map.1 hs;obtain⟨e1,e2⟩:=NN hr.1 hq;have e1:fC r q.1=some q.2.2:=e1;have e2:fC r (q.1 - 1)≠some q.2.2:=e2;rw[hf] at e1 e2;unfold giveF at e1 e2;generalize q.1=s at e1 e2;generalize q.2.2=u at e1 e2;rw[List.mem_append,List.mem_append,List.mem_map,List.mem_map,List.mem_map];by_cases h3:p s
  ·rw[if_pos h3] at e1;by_cases h4:p (s - 1)
   ·rw[if_pos h4] at e2;exact absurd e1 e2
   ·refine .inr (.inl ?_);have g1:fnP (v.map sP) s=some ():=by rw[hv.2];exact KQ h3
    have g2:fnP (v.map sP) (s - 1)≠some ():=by rw[hv.2,IS h4];simp
    obtain⟨x,hx,e⟩:=Lm hv.1 g1 g2;obtain⟨y,hy,rfl⟩:=List.mem_map.1 hx;exact⟨y,hy,e⟩
  ·rw[if_neg h3] at e1;by_cases h4:p (s - 1)
   ·-- a span ends just ahead
    refine .inr (.inr ?_);obtain⟨x,hx,g1,g2⟩:=(hv.iff (s - 1)).2 h4;have g3:¬ (x.frm≤s∧s≤x.to):=fun h=>h3 ((hv.iff s).1 ⟨x,hx,h⟩);exact⟨x,hx,by omega⟩
   ·rw[if_neg h4] at e2;refine .inl ?_;obtain⟨x,hx,e⟩:=Lm ha.1 e1 e2;obtain⟨y,hy,rfl⟩:=List.mem_map.1 hx;exact⟨y,hy,e⟩
theorem GoodC.ext {a b:List Claim} (ha:GoodC a) (hb:GoodC b) (h:∀ s,fC a s=fC b s):a=b:=Oj (f:=cP) Th (HO ha.1 hb.1 h)
theorem give13 {cl:List Claim} (h:GoodC cl) (s tt ep:Int) (hs:0≤s∧s≤16383) (h1:0≤tt) (h2:1≤ep):Dd big cl [⟨s,s⟩] tt ep=some (giveP cl s tt ep)∧(giveP cl s tt ep).length≤cl.length+2:=by
 obtain⟨-,g1,g2⟩:=give1 h s tt ep hs h1 h2;obtain⟨r,hr,h3⟩:=Qo h (l:=[⟨s,s⟩]) (by simp) h1 h2;have hg:=h3.good (G8 h.tells Fh h1 h2);have e:r=giveP cl s tt ep:=GoodC.ext hg g1 fun x=>by rw[g2 x];exact h3.2 x
 obtain⟨v,-,h5,h6⟩:=M2 (l:=[⟨s,s⟩]) ⟨s,rfl,hs.1,hs.2⟩;have hl:=Ru h g1 h5 fun x=>g2 x;simp at h6;exact⟨by rw[hr,e],by omega⟩
theorem seek {β γ:Type} (k:Nat) (hk:k≤1000000000) (f:Int→Option (Int ⊕ β)) (b:β) (K:β→Option γ) (r:Option γ) (h:∀ i,i<k→f (i:Int)=some (.inl ((i:Int)+1))) (he:f (k:Int)=some (.inr b)) (hK:K b=r):bn (iter big f 0) K=r :=
 A7 b (fun i=>(i:Int)) k (by unfold big;omega) rfl (fun i hi=>by rw[h i hi];exact congrArg (fun z=>some (Sum.inl z)) (by omega)) he hK
theorem KR {α:Type} {L A R:List α} (hL:L=A++R) {i:Nat} (hi:i<A.length):∃ x∈A,nth L (i:Int)=some x∧i<L.length:=by
 refine⟨A[i],List.getElem_mem hi,?_,by rw[hL];simp;omega⟩;rw[Gn,hL,List.getElem?_append_left hi,List.getElem?_eq_getElem hi]
theorem IH {α:Type} {L A:List α} {x:α} {C:List α} (hL:L=A++[x]++C):nth L (A.length:Int)=some x∧A.length<L.length:=⟨by rw[hL];exact Fg A C x,by rw[hL];simp⟩
theorem HQ {α:Type} {L A C:List α} (hL:L=A++[]++C) (h:A.length<L.length):∃ x∈C,nth L (A.length:Int)=some x:=by
 rw[List.append_nil] at hL;have hC:C≠[]:=fun e=>by rw[hL,e] at h;simp at h
 obtain⟨x,C',rfl⟩:=List.exists_cons_of_ne_nil hC;exact⟨x,List.mem_cons_self,by rw[Gn,hL,List.getElem?_append_right (Nat.le_refl _),Nat.sub_self];rfl⟩
theorem M4 (l:List Move) (h:l.length≤1000):Dp big l=some l:=by
 unfold Dp;rw[AL (by omega) (by omega)]
theorem Qq (n:Node) (h:OkN n) (hm:n.master=-1) (hc:n.count=4) (slot tt e:Int) (h1:0≤slot) (h2:slot<16384) (h3:0≤tt) (h4:tt<4) (h5:tt≠n.id)
  (hOf:Dw big n.claims slot=some (n.id,e)) (A B C:List Move) (hmv:n.moves=A++B++C) (hA:∀ a∈A,a.slot<slot) (hC:∀ x∈C,slot<x.slot) (hB:B=[]∨∃ x,B=[x]∧x.slot=slot) :
  Dq big n slot tt=some (if B=[] then ⟨{ n with moves:=A++[⟨slot,tt,0,⟨#[]⟩⟩]++C },[],0⟩ else ⟨n,[],3⟩):=by
 have hmvl:=h.mv;have hAl:A.length≤n.moves.length:=by rw[hmv];simp
 have f1:ltI slot 0=false:=AQ (by omega);have f2:geI slot 16384=false:=geF (by omega);have f3:ltI tt 0=false:=AQ (by omega);have f4:geI tt n.count=false:=geF (by omega);have f5:eqI tt n.id=false:=eqF' h5;have f6:neI n.master (-1)=false:=by rw[hm];rfl
 unfold Dq;simp only[Ag,Ac,Ah,Aj,Ak,Al,Ai,Option.some.injEq,f1,f2,f3,f4,f5,f6,hOf,Ba];refine seek A.length (by omega) _ (A.length:Int) _ _ (fun i hi=>?_) ?_ ?_
 ·obtain⟨x,hx,hn,hl⟩:=KR (hmv.trans (List.append_assoc A B C)) hi;try simp only[Ag,Ac,Ah,Aj,Ak,Al,Ai,Option.some.injEq]
  rw[AT (by omega),Ah,hn,Ac,AT (hA x hx),Ac,Ah,As (by omega) (by omega)]
 ·try simp only[Ag,Ac,Ah,Aj,Ak,Al,Ai,Option.some.injEq]
  by_cases hl:A.length<n.moves.length
  ·rw[AT (by omega),Ah];rcases hB with rfl|⟨x,rfl,hx⟩
   ·obtain⟨x,hx,hn⟩:=HQ hmv hl;have:=hC x hx;rw[hn,Ac,AQ (by omega),Ac,Aj]
   ·rw[(IH hmv).1,Ac,AQ (by omega),Ac,Aj]
  ·rw[AQ (by omega),Aj,Ac,Aj]
 ·rcases hB with rfl|⟨x,rfl,hx⟩
  ·rw[if_pos rfl];have hd:(bn (lt (ltI (A.length:Int) (n.moves.length:Int)) fun v25=>ite' v25 (bn (nth n.moves (A.length:Int)) fun v26=>lt (eqI v26.slot slot) fun v27=>some v27) (some false)) fun y23=>lt y23 fun v28=>some v28)=some false:=by
    by_cases hl:A.length<n.moves.length
    ·obtain⟨x,hx,hn⟩:=HQ hmv hl;have:=hC x hx;rw[Ag,AT (by omega),Ah,hn,Ac,Ag,eqF' (by omega)];rfl
    ·rw[Ag,AQ (by omega),Aj];rfl
   simp only[Ag,Ac,Ah,Aj,Ak,Al,Ai,Option.some.injEq] at hd ⊢;refine Rn.eq (Rn.bn (P:=fun b=>b=false) ?_ fun b hb=>?_)
   ·cases hx:(ite' (ltI (A.length:Int) (n.moves.length:Int)) (bn (nth n.moves (A.length:Int)) fun v26=>some (eqI v26.slot slot)) (some false)) with
    |none=>rw[hx] at hd;cases hd
    |some b=>rw[hx] at hd;exact Rn.some (Option.some.inj hd)
   ·subst hb;rw[Aj,FK hAl,Ac,M4 _ (by simp;omega),Ac,AL (by simp;omega) (by simp;omega),DF hAl,Ac,AL (by simp;omega) (by simp;omega),A3 (by simp;omega)];refine Rn.some ?_;rw[show n.moves.take A.length=A by rw[hmv,List.append_nil];simp,show n.moves.drop A.length=C by rw[hmv,List.append_nil];simp]
  ·rw[if_neg (by simp)];obtain⟨g1,g2⟩:=IH hmv;try simp only[Ag,Ac,Ah,Aj,Ak,Al,Ai,Option.some.injEq]
   rw[AT (by omega),Ah,g1,Ac,hx,B9,Ac,Ah]
def GiveOk2 (G:Nat→List Claim→Prop) (l:List Move):Prop:=∀ i cl ep (hi:i<l.length),G i cl→1≤ep→ep≤2000000→Dd big cl [⟨l[i].slot,l[i].slot⟩] l[i].to ep=some (giveP cl l[i].slot l[i].to ep)
theorem Rv (G:Nat→List Claim→Prop) (n:Node) (h:OkN n) (hm:n.master=-1) (hl:0≤n.last∧n.last≤1000000) (he:0≤n.epoch∧n.epoch≤1000000) (g0:G 0 n.claims) (hG:GiveOk G n.moves) (hG2:GiveOk2 G n.moves):DV big n=some ⟨(TickP n).1,(TickP n).2,0⟩:=by
 have hmv:=h.mv;have hdl:=h.dl;unfold DV;rw[Ag,show neI n.master (-1)=false by rw[hm];rfl,Aj];have hfin:=E2 he hmv g0 hG n.moves.length (Nat.le_refl _);rw[List.take_length] at hfin;have hky:∀ p∈n.db,p.key.size≤1000000000000:=fun p hp=>by
  have:=FA (h.key p hp);omega
 have hF:n.moves.foldl stepT (n,[],[])=n.moves.foldl stepT (n,[],[]):=rfl;refine Gq n.moves stepT (fun i a=>((i:Int),a.1.epoch,a.1.claims,a.1.last,a.2.2,a.2.1)) (n,[],[]) ((n.moves.foldl stepT (n,[],[])).1.epoch,(n.moves.foldl stepT (n,[],[])).1.claims,(n.moves.foldl stepT (n,[],[])).1.last,(n.moves.foldl stepT (n,[],[])).2.2,(n.moves.foldl stepT (n,[],[])).2.1) (by omega) rfl (fun i hi a ha=>?_) ?_ ?_
 ·have hI:=E2 he hmv g0 hG i (by omega);rw[← ha] at hI;obtain⟨h1,h2,h3,h4,h5,h6,h7,h8,h9⟩:=hI;have hL0:0≤a.1.last:=by omega
  have hid:a.1.id=n.id:=by rw[h9]
  simp only[Ag,Ac,Ah,Aj,Ak,Al,Ai,Option.some.injEq];rw[AT (by omega),Ah,Au hi,Ac,Si _ _ (by omega) hky,Ac,As (show -9223372036854775808≤(i:Int)+1 by omega) (by omega),show (i:Int)+1=((i+1:Nat):Int) by omega];have hr1:∀ {γ:Type} {k:Option γ},chk (room (a.2.1.length+1) 40) k=k:=AL (by omega) (by omega);have hr2:∀ {γ:Type} {k:Option γ},chk (room (a.2.2.length+1) 168) k=k:=AL (by omega) (by omega);by_cases hz:(n.moves[i]).num=0
  ·rw[show eqI (n.moves[i]).num 0=true by rw[hz];rfl,Ah,show eqI ((inP n.db (n.moves[i]).slot).length:Int) 0=decide (inP n.db (n.moves[i]).slot=[]) from len0 _];by_cases hin:inP n.db (n.moves[i]).slot=[]
   ·rw[decide_eq_true hin,Ac,Ah,As (by omega) (by omega),AL (by omega) (by omega),hG2 i a.1.claims (a.1.epoch+1) hi h6 (by omega) (by omega),Ac,Ac];rw[stepT,if_pos hz,if_pos (by rw[h1];exact hin)];rfl
   ·rw[decide_eq_false hin,Ac,Aj,As (by omega) (by omega)];obtain⟨k,ks,hks⟩:=List.exists_cons_of_ne_nil hin;rw[hks,show nth (k::ks) 0=some k from rfl];simp only[Ag,Ac,Ah,Aj,Ak,Al,Ai,Option.some.injEq,hr1,hr2];rw[HK _ _ (by omega)];simp only[Ag,Ac,Ah,Aj,Ak,Al,Ai,Option.some.injEq,hr2];rw[stepT,if_pos hz,if_neg (by rw[h1];exact hin)];unfold lockM lockT msgP;simp only;rw[h1,hks,hid];rfl
  ·rw[eqF' hz,Aj,Ac,Aj];simp only[Ag,Ac,Ah,Aj,Ak,Al,Ai,Option.some.injEq,hr1,hr2];rw[HK _ _ (by omega)];simp only[Ag,Ac,Ah,Aj,Ak,Al,Ai,Option.some.injEq,hr2];rw[stepT,if_neg hz];unfold msgP;rw[h1,hid]
 ·simp only[Ag,Ac,Ah,Aj,Ak,Al,Ai,Option.some.injEq];rw[AQ (by omega),Aj]
 ·have m1:=hfin.m1;have m2:=hfin.m2;have h9:=hfin.same;rw[A3 (by simp only;omega),A3 (by simp only;omega)];unfold TickP;generalize n.moves.foldl stepT (n,[],[])=a at h9 ⊢;refine congrArg (fun z:Node=>some (⟨z,a.2.2,0⟩:R13Moved)) ?_;conv=>rhs;rw[h9]
theorem Qr (n:Node) (h:OkN n) (m:Msg) (hno:∀ x∈n.moves,¬ (x.slot=m.slot∧x.num=m.num∧1≤x.num∧x.to=m.frm)):Ck big n m=some n:=by
 have hl:=h.mv;unfold Ck;refine seek n.moves.length (by omega) _ (.inl ()) _ _ (fun i hi=>?_) ?_ rfl
 ·simp only[Ag,Ac,Ah,Aj,Ak,Al,Ai,Option.some.injEq];rw[AT (by omega),Ah,Au hi,Ac];have hx:=hno _ (List.getElem_mem hi);generalize n.moves[i]=x at hx;refine Rn.eq (Rn.bn (P:=fun b=>b=true) ?_ fun b hb=>?_)
  ·refine zB (fun _=>Rn.some rfl) fun h1=>zB (fun _=>Rn.some rfl) fun h2=>zB (fun _=>Rn.some rfl) fun h3=>Rn.some ?_;apply neT;intro h4;have h1:x.slot=m.slot:=Classical.byContradiction fun hne=>by rw[neT hne] at h1;cases h1
   have h2:x.num=m.num:=Classical.byContradiction fun hne=>by rw[neT hne] at h2;cases h2
   have h3:=Ev h3;exact hx ⟨h1,h2,h3,h4⟩
  ·subst hb;rw[Ah,As (by omega) (by omega)];exact Rn.some rfl
 ·simp only[Ag,Ac,Ah,Aj,Ak,Al,Ai,Option.some.injEq];rw[AQ (by omega),Aj]
theorem Pg (n:Node) (h:OkN n) (m:Msg) (A C:List Move) (x:Move) (hmv:n.moves=A++[x]++C) (hA:∀ a∈A,a.slot<m.slot) (h1:x.slot=m.slot) (h2:1≤x.num) (h3:x.num=m.num) (h4:x.to=m.frm) :
  Ck big n m=some (AckedP n A x C):=by
 have hl:=h.mv;have h5:=h.dl;have h6:=h.bl;have hAl:A.length≤n.moves.length:=by rw[hmv];simp
 have hap:=Gm n.db [goneE x.key] h.srt h.okd (fun e he=>by simp at he;subst he;exact MW) (by simp;omega);have had:=MU n.feed [goneE x.key] (by simp;omega);obtain⟨g1,g2⟩:=IH hmv;unfold Ck;refine seek A.length (by omega) _ (.inr (AckedP n A x C)) _ _ (fun i hi=>?_) ?_ rfl
 ·obtain⟨y,hy,hn,hl⟩:=KR (hmv.trans (List.append_assoc A [x] C)) hi;have:=hA y hy;simp only[Ag,Ac,Ah,Aj,Ak,Al,Ai,Option.some.injEq];rw[AT (by omega),Ah,hn,Ac,neT (by omega),Ah,Ac,Ah,As (by omega) (by omega)]
 ·simp only[Ag,Ac,Ah,Aj,Ak,Al,Ai,Option.some.injEq];rw[AT (by omega),Ah,g1,Ac,h1,Ba,Aj,h3,Ba,Aj,AQ (by omega),Aj,h4,Ba,Ac,Aj,AL (by omega) (by omega)];rw[show (⟨x.key,true,(⟨0,⟨#[]⟩,[],[],0⟩:Item)⟩:Effect)=goneE x.key from rfl,hap,Ac,had,Ac,M4 _ hl,Ac,g1,Ac,show ((A.length:Int)).toNat=A.length from rfl];rw[show n.moves.set A.length (⟨m.slot,m.frm,0,⟨#[]⟩⟩:Move)=A++[⟨m.slot,m.frm,0,⟨#[]⟩⟩]++C by rw[hmv];exact Hy A C x _];have hl2:(A++[x]++C).length≤1000:=by rw[← hmv];exact hl
  rw[A3 (by simp at hl2 ⊢;omega)];unfold AckedP;rw[h1,h4];rfl
theorem Tk (l:List Seen) (hl:l.length≤1000) (f s:Int) (A B C:List Seen) (hs:l=A++B++C) (hA:∀ a∈A,sLt a f s) (hC:∀ x∈C,sGt x f s) (hB:B=[]∨∃ x,B=[x]∧x.node=f∧x.slot=s) :
  Fx big l f s=some ((B.head?.map fun x=>x.num).getD 0,(A.length:Int),!B.isEmpty):=by
 have hAl:A.length≤l.length:=by rw[hs];simp
 unfold Fx;refine seek A.length (by omega) _ (A.length:Int) _ _ (fun i hi=>?_) ?_ ?_
 ·obtain⟨x,hx,hn,hl⟩:=KR (hs.trans (List.append_assoc A B C)) hi;simp only[Ag,Ac,Ah,Aj,Ak,Al,Ai,Option.some.injEq];rw[AT (by omega),Ah,hn,Ac];rcases hA x hx with h1|⟨h1,h2⟩
  ·rw[AT h1,Ah,Ac,Ah,As (by omega) (by omega)]
  ·rw[AQ (by omega),Aj,h1,B9,Ah,AT h2,Ac,Ah,As (by omega) (by omega)]
 ·simp only[Ag,Ac,Ah,Aj,Ak,Al,Ai,Option.some.injEq];by_cases hl:A.length<l.length
  ·rw[AT (by omega),Ah];rcases hB with rfl|⟨x,rfl,hx1,hx2⟩
   ·obtain⟨x,hx,hn⟩:=HQ hs hl;rw[hn,Ac];rcases hC x hx with h1|⟨h1,h2⟩
    ·rw[AQ (by omega),Aj,eqF' (by omega),Aj,Ac,Aj]
    ·rw[AQ (by omega),Aj,← h1,B9,Ah,AQ (by omega),Ac,Aj]
   ·rw[(IH hs).1,Ac,AQ (by omega),Aj,hx1,B9,Ah,AQ (by omega),Ac,Aj]
  ·rw[AQ (by omega),Aj,Ac,Aj]
 ·rcases hB with rfl|⟨x,rfl,hx1,hx2⟩
  ·refine Rn.eq (Rn.bn (P:=fun b=>b=false) ?_ fun b hb=>?_)
   ·simp only[Ag,Ac,Ah,Aj,Ak,Al,Ai,Option.some.injEq];by_cases hl:A.length<l.length
    ·obtain⟨x,hx,hn⟩:=HQ hs hl;rw[AT (by omega),Ah,hn,Ac];rcases hC x hx with h1|⟨h1,h2⟩
     ·rw[eqF' (by omega),Aj];exact Rn.some rfl
     ·rw[← h1,B9,Ah,eqF' (by omega)];exact Rn.some rfl
    ·rw[AQ (by omega),Aj];exact Rn.some rfl
   ·subst hb;exact Rn.lt (zB (fun h=>by cases h) fun _=>Rn.some rfl)
  ·obtain⟨g1,g2⟩:=IH hs;simp only[Ag,Ac,Ah,Aj,Ak,Al,Ai,Option.some.injEq];rw[AT (by omega),Ah,g1,Ac,hx1,B9,Ah,hx2,B9,Ac,Ah,Ac];rfl
theorem Rw (n:Node) (h:OkN n) (hm:n.master=-1) (m:Msg) (e:Effect) (hM:MayM m e) (A B C:List Seen) (hs:n.seen=A++B++C) (hA:∀ a∈A,sLt a m.frm m.slot) (hC:∀ x∈C,sGt x m.frm m.slot) (hB:B=[]∨∃ x,B=[x]∧x.node=m.frm∧x.slot=m.slot) :
  DW big n m=some ⟨if ∀ x∈B,x.num<m.num then takeN n m e A C else n,[ackP n m],0⟩:=by
 have hsl:=h.sn;have hdl:=h.dl;have hbl:=h.bl;have hlen:n.seen.length=A.length+B.length+C.length:=by rw[hs];simp[Nat.add_assoc]
 have hk:=FA hM.key;have hap:=Gm n.db [e] h.srt h.okd (fun x hx=>by simp at hx;subst hx;exact hM.ok) (by simp;omega);have had:=MU n.feed [e] (by simp;omega);refine Rn.eq ?_;unfold DW;refine zA (v:=false) ?_ (Rn.lt (zB (fun h=>by cases h) fun _=>?_))
 ·rw[hm,hM.eff];obtain⟨b,hb,hb2⟩:=NJ e.item;rw[hb2.2 hM.item] at hb;have hme:C7 big e=some true:=by
   unfold C7;rw[Ag,Ag,show leI (lenS e.key) 40=true from decide_eq_true (by show ((e.key.size:Nat):Int)≤40;omega),Ah,Ag,hM.gone,Aj,hb];rfl
  rw[Ba,Ag,Aj,Ag,Ag,show neI (lenI [e]) 1=false from rfl,Aj,Ag,AQ (by have:=hM.num;omega),Aj,show nth [e] 0=some e from rfl,Ac,Ag,hM.gone,Aj,hme,Ac,Ag,Bc,Aj,(Hv _ (by omega)).1,Ac,Ag,hM.slot,Ba]
 ·refine zA (Tk n.seen hsl m.frm m.slot A B C hs hA hC hB) ?_;refine Rn.bn (P:=fun z=>z=if ∀ x∈B,x.num<m.num then takeN n m e A C else n) ?_ fun z hz=>Rn.chk (by decide) (Rn.some ?_)
  ·rw[hM.eff];have hn1:=hM.num;have hAl:A.length≤n.seen.length:=by omega
   have hT:n.seen.take A.length=A:=by rw[hs,List.append_assoc];simp
   rcases hB with rfl|⟨x,rfl,hx1,hx2⟩
   ·rw[if_pos (by simp)];refine Rn.lt (zB (fun _=>?_) fun h=>?_)
    ·have hD:n.seen.drop A.length=C:=by rw[hs,List.append_nil];simp
     refine zA hap (zA had (zA (FK hAl) ?_));rw[hT];refine Rn.room (by simp at hlen;omega) (by simp at hlen;omega) (Rn.room (by simp at hlen;omega) (by simp at hlen;omega) (Rn.lt (zA (v:=(A.length:Int)) rfl (zA (DF hAl) ?_))));rw[hD];refine Rn.room (by simp at hlen ⊢;omega) (by simp at hlen ⊢;omega) (Rn.lt (Rn.chk ?_ (Rn.some rfl)));simp only[room,decide_eq_true_eq];simp at hlen ⊢;omega
    ·exfalso
     have:=IP h;simp only[List.head?_nil,Option.map_none,Option.getD_none] at this;omega
   ·by_cases hlt:x.num<m.num
    ·rw[if_pos (by simpa using hlt)];refine Rn.lt (zB (fun _=>?_) fun h=>?_)
     ·have hD:n.seen.drop (A.length+1)=C:=by rw[hs,List.append_assoc,List.drop_append];simp
      refine zA hap (zA had (zA (FK hAl) ?_));rw[hT];refine Rn.room (by simp at hlen;omega) (by simp at hlen;omega) (Rn.room (by simp at hlen;omega) (by simp at hlen;omega) (Rn.lt (zA (v:=((A.length+1:Nat):Int)) ?_ (zA (DF (by simp at hlen;omega)) ?_))))
      ·show lt true _=_;rw[Ag,Ah,Ag,As (by simp only;omega) (by simp only;omega)];rfl
      rw[hD];refine Rn.room (by simp at hlen ⊢;omega) (by simp at hlen ⊢;omega) (Rn.lt (Rn.chk ?_ (Rn.some rfl)));simp only[room,decide_eq_true_eq];simp at hlen ⊢;omega
     ·exfalso
      have:=IP h;simp only[List.head?_cons,Option.map_some,Option.getD_some] at this;omega
    ·rw[if_neg (by simpa using hlt)];refine Rn.lt (zB (fun h=>?_) fun h=>Rn.some rfl);exfalso
     have:=gtI_d h;simp only[List.head?_cons,Option.map_some,Option.getD_some] at this;omega
  ·rw[hz];refine congrArg (fun z=>R13Moved.mk _ z 0) ?_;unfold ackP;split <;> rfl
theorem H1 (l:List Msg) (hl:l.length≤1000000000) (h:∀ m∈l,okE m.effects∧m.claims.length≤1000000000∧m.nodes.length≤1000000000):Co big l l=some true:=by
 unfold Co;simp only[Ag,Ac,Ah,Aj,Ak,Al,Ai,Option.some.injEq,Ba];refine A7 (.inl ()) (fun i=>(i:Int)) l.length (by unfold big;omega) rfl (fun i hi=>?_) ?_ rfl
 ·obtain⟨h1,h2,h3⟩:=h _ (List.getElem_mem hi);rw[AT (by omega)];simp only[Ag,Ac,Ah,Aj,Ak,Al,Ai,Option.some.injEq,Au hi,KL _ h1 h2 h3,Bc];rw[As (by omega) (by omega)];rfl
 ·rw[AQ (by omega)];rfl
end Go.Proofs.YtlbdhlbbkibgpaaGreat
namespace Go.Proofs.YtlbdhlbbkibgpaaGreat
open Go Go.RowKit
inductive RQ
 |tm
 |op (j:Nat)
 |ef (k:Nat)
structure DQ where
 ef:Bool
 ks:List (Nat×Nat×List (Nat×RQ))
def rdQ (V E:List AV) (tm0:Tm) (r:Nat×RQ):AV :=
 match r.2 with
 |.tm=>lk tm0 r.1
 |.op j=>V.getD j (.l .u)
 |.ef k=>E.getD k (.l .u)
def OblQ (P:Program) (ops:Array Oper) (V E:List AV) (M:List (List (Option Ob))) (tm0:Tm) (nt:Nat) (gh:List Tm) (ls:Option Code):List Oper→List DQ→List AV→Prop
 |o::os,d::ds,v::vs=>(AllL (fun y:Nat×Nat×List (Nat×RQ)=>∀ tm,AllL (fun r=>lk tm r.1=rdQ V E tm0 r) y.2.2→xg P ops o ⟨tm,M.getD y.1 [],nt,gh,ls⟩ (KD o.dst (bif d.ef then E.getD y.2.1 (.l .u) else v) tm (M.getD y.2.1 []) nt gh ls)) d.ks)∧OblQ P ops V E M tm0 nt gh ls os ds vs
 |_,_,[]=>True
 |_,_,_=>False
def efQ (S:List DQ) (i:Nat):Bool:=(S[i]?).any (·.ef)
def rdOk (ops:Array Oper) (D:List DI) (S:List DQ) (G:List (List Nat)) (n1 i:Nat) (q:List Nat) (r:Nat×RQ):Bool :=
 match r.2 with
 |.tm=>(List.range n1).all fun j=>!(dsOf ops j == some r.1) || i == j || inAn D j i
 |.op j=>inAn D i j && decide (j<n1) && !efQ S j && dsOf ops j == some r.1
 |.ef kk=>decide (kk<G.length) && (List.range q.length).any fun m=>G.getD kk [] == q.take (m+1) && dsOf ops (q.getD m 0) == some r.1
def chkQ (ops:Array Oper) (D:List DI) (S:List DQ) (G:List (List Nat)) (n1:Nat) (FS:List Nat):Bool :=
 S.length == n1 && decide (0<G.length) && G.getD 0 [0] == [] &&
 ((List.range G.length).all fun a=>(List.range G.length).all fun b=>a == b || !(G.getD a [] == G.getD b [])) &&
 ((List.range n1).all fun i=>(List.range G.length).all fun k =>
  (G.getD k []).contains i || (List.range n1).any (fun e=>efQ S e && inAn D i e && !(G.getD k []).contains e) || (G.getD k []).any (fun e=>inAn D e i) ||
  ((S[i]?).any fun d=>d.ks.any fun x=>x.1 == k && (if d.ef then decide (x.2.1<G.length) && G.getD x.2.1 [] == G.getD k []++[i] else x.2.1 == k) && x.2.2.all (rdOk ops D S G n1 i (G.getD k [])))) &&
 (List.range G.length).all fun k=>(List.range n1).any (fun e=>efQ S e && !(G.getD k []).contains e) || FS.contains k
def eIdx (G:List (List Nat)) (q:List Nat) (j:Nat):Nat:=((List.range G.length).find? fun kk=>G.getD kk [] == q.takeWhile (· != j)++[j]).getD 0
def Wof (S:List DQ) (G:List (List Nat)) (n1:Nat) (V E:List AV) (k:Nat):List AV:=(List.range n1).map fun j=>bif efQ S j then E.getD (eIdx G (G.getD k []) j) (.l .u) else V.getD j (.l .u)
section
variable {P:Program} {cx:Cx} {st:St} {ops:Array Oper} {D:List DI} {S:List DQ} {G:List (List Nat)} {n1:Nat} {FS:List Nat} {V E:List AV} {M:List (List (Option Ob))} {Q:Post} {R:Option Nat} {listed:Array Bool} {tm0:Tm} {nt:Nat} {gh:List Tm} {ls:Option Code}
theorem OblQ.get:∀ {os:List Oper} {ds:List DQ} {vs:List AV} (i:Nat),OblQ P ops V E M tm0 nt gh ls os ds vs→i<vs.length→∃ o d v,os[i]?=some o∧ds[i]?=some d∧vs[i]?=some v ∧
  AllL (fun y:Nat×Nat×List (Nat×RQ)=>∀ tm,AllL (fun r=>lk tm r.1=rdQ V E tm0 r) y.2.2→xg P ops o ⟨tm,M.getD y.1 [],nt,gh,ls⟩ (KD o.dst (bif d.ef then E.getD y.2.1 (.l .u) else v) tm (M.getD y.2.1 []) nt gh ls)) d.ks
 |o::os,d::ds,v::vs,0,h,_=>⟨o,d,v,rfl,rfl,rfl,h.1⟩
 |o::os,d::ds,v::vs,i+1,h,hi=>by
  obtain⟨o',d',v',h1,h2,h3,h4⟩:=OblQ.get i h.2 (by simpa using hi);exact⟨o',d',v',by simpa using h1,by simpa using h2,by simpa using h3,h4⟩
 |[],_,_::_,_,h,_=>by simp[OblQ] at h
 |_::_,[],_::_,_,h,_=>by simp[OblQ] at h
 |_,_,[],i,_,hi=>by simp at hi
structure RightQ (ops:Array Oper) (D:List DI) (S:List DQ) (G:List (List Nat)) (n1:Nat) (FS:List Nat):Prop where
 len:S.length=n1
 pos:0<G.length
 zero:G.getD 0 [0]=[]
 nd:∀ a b,a<G.length→b<G.length→G.getD a []=G.getD b []→a=b
 go:∀ i k,i<n1→k<G.length→i ∉ G.getD k []→(∀ e,e<n1→efQ S e=true→inAn D i e=true→e∈G.getD k [])→(∀ e∈G.getD k [],inAn D e i=false) →
  ∃ d,S[i]?=some d∧∃ x∈d.ks,x.1=k∧(d.ef=true→x.2.1<G.length∧G.getD x.2.1 []=G.getD k []++[i])∧(d.ef=false→x.2.1=k)∧∀ r∈x.2.2,rdOk ops D S G n1 i (G.getD k []) r=true
 fin:∀ k,k<G.length→(∀ e,e<n1→efQ S e=true→e∈G.getD k [])→k∈FS
theorem Ph (h:chkQ ops D S G n1 FS=true):RightQ ops D S G n1 FS:=by
 unfold chkQ at h;simp only[Bool.and_eq_true,List.all_eq_true,List.mem_range,beq_iff_eq,decide_eq_true_eq] at h;obtain⟨⟨⟨⟨⟨h1,h2⟩,h3⟩,h4⟩,h5⟩,h6⟩:=h;refine⟨h1,h2,h3,fun a b ha hb e=>?_,fun i k hi hk hn ha hb=>?_,fun k hk ha=>?_⟩
 ·have:=h4 a ha b hb;simp only[Bool.or_eq_true,beq_iff_eq,Bool.not_eq_true',beq_eq_false_iff_ne] at this;rcases this with h|h
  ·exact h
  ·exact absurd e h
 ·have:=h5 i hi k hk;simp only[Bool.or_eq_true,List.any_eq_true,List.mem_range,Bool.and_eq_true,Bool.not_eq_true',List.contains_iff_mem] at this;rcases this with ((h7|h7)|h7)|h7
  ·exact absurd h7 hn
  ·obtain⟨e,he,⟨h8,h9⟩,h10⟩:=h7;have:=ha e he h8 h9;rw[List.contains_iff_mem.2 this] at h10;cases h10
  ·obtain⟨e,he,h8⟩:=h7;rw[hb e he] at h8;cases h8
  ·cases hd:S[i]? with
   |none=>rw[hd] at h7;simp at h7
   |some d =>
    rw[hd] at h7;simp only[Option.any_some,List.any_eq_true,Bool.and_eq_true,beq_iff_eq,List.all_eq_true] at h7;obtain⟨x,hx,⟨h8,h9⟩,h10⟩:=h7;refine⟨d,rfl,x,hx,h8,fun he=>?_,fun he=>?_,h10⟩
    ·rw[if_pos he] at h9;simpa using h9
    ·rw[he] at h9;simpa using h9
 ·have:=h6 k hk;simp only[Bool.or_eq_true,List.any_eq_true,List.mem_range,Bool.and_eq_true,Bool.not_eq_true',List.contains_iff_mem] at this;rcases this with h7|h7
  ·obtain⟨e,he,h8,h9⟩:=h7;have:=ha e he h8;rw[List.contains_iff_mem.2 this] at h9;cases h9
  ·exact h7
structure InQ (ops:Array Oper) (D:List DI) (S:List DQ) (G:List (List Nat)) (n1:Nat) (V E:List AV) (M:List (List (Option Ob))) (st:St) (k:Nat) (listed:Array Bool) (s:St):Prop where
 nt:s.nt=st.nt
 gh:s.gh=st.gh
 ls:s.ls=st.ls
 hk:k<G.length
 ob:s.ob=M.getD k []
 eff:∀ e,e∈G.getD k []↔e<n1∧efQ S e=true∧Ls listed e=true
 nd:(G.getD k []).Nodup
 pc:∀ p e r,G.getD k []=p++e::r→∃ kk,kk<G.length∧G.getD kk []=p++[e]
 wr:∀ (t j:Nat),j<n1→efQ S j=false→Ls listed j=true→dsOf ops j=some t→lk s.tm t=V.getD j (.l .u)
 we:∀ p e r t kk,G.getD k []=p++e::r→kk<G.length→G.getD kk []=p++[e]→dsOf ops e=some t→lk s.tm t=E.getD kk (.l .u)
 un:∀ t,(∀ j,j<n1→Ls listed j=true→dsOf ops j≠some t)→lk s.tm t=lk st.tm t
theorem Ki {p r:List Nat} {j:Nat} (h:j ∉ p):(p++j::r).takeWhile (· != j)=p:=by
 induction p with
 |nil=>simp
 |cons a p ih =>
  have h1:a≠j:=fun e=>h (by simp[e]);have h2:j ∉ p:=fun e=>h (by simp[e]);rw[List.cons_append,List.takeWhile_cons,if_pos (by simpa using h1),ih h2]
theorem Sx (hR:RightQ ops D S G n1 FS) {k kk j:Nat} {p r:List Nat} (hnd:(G.getD k []).Nodup) (h:G.getD k []=p++j::r) (hkk:kk<G.length) (h2:G.getD kk []=p++[j]):eIdx G (G.getD k []) j=kk:=by
 have hj:j ∉ p:=by
  rw[h] at hnd;have:=(List.nodup_append.1 hnd).2.2;exact fun hm=>this j hm j (by simp) rfl
 unfold eIdx;rw[h,Ki hj];cases hf:(List.range G.length).find? fun a=>G.getD a [] == p++[j] with
 |none =>
  have:=List.find?_eq_none.1 hf kk (List.mem_range.2 hkk);rw[h2] at this;simp at this
 |some a =>
  have h3:=List.find?_some hf;have h4:=List.mem_range.1 (List.mem_of_find?_eq_some hf);exact hR.nd a kk h4 hkk (by rw[h2];simpa using h3)
theorem drawnQ1 (hc:chkD ops D n1=true) (hq:RightQ ops D S G n1 FS) (hV:V.length=n1) (hn:n1≤ops.size) (hO:OblQ P ops V E M st.tm st.nt st.gh st.ls ops.toList S V)
  (hx:∀ k∈FS,xopsY P R cx ops (ops.toList.drop n1) n1 ⟨tmD ops.toList (Wof S G n1 V E k) st.tm,M.getD k [],st.nt,st.gh,st.ls⟩ (fun s=>Q .normal s)) :
  ∀ (fuel:Nat) (listed:Array Bool) (k:Nat) (s:St) (σ:Nat→Hd) (a:Act) (w:World),listed.size=ops.size→Clo ops D listed→((List.range n1).filter fun i=>!Ls listed i).length+(ops.size - n1)≤fuel →
   (∀ j,n1≤j→j<ops.size→Ls listed j=false)→InQ ops D S G n1 V E M st k listed s→RelS cx σ s a w→wpAnyIn (fR R) 0 P .any ops (post cx Q) fuel listed a w:=by
 intro fuel;have whole:∀ (fuel:Nat) (listed:Array Bool) (k:Nat) (s:St) (σ:Nat→Hd) (a:Act) (w:World),listed.size=ops.size→ops.size - n1≤fuel →
   (∀ j,n1≤j→j<ops.size→Ls listed j=false)→(∀ j,j<n1→Ls listed j=true)→InQ ops D S G n1 V E M st k listed s→RelS cx σ s a w→wpAnyIn (fR R) 0 P .any ops (post cx Q) fuel listed a w:=by
  intro fuel listed k s σ a w hs hf hlate hall hI hr;have hkF:k∈FS:=hq.fin k hI.hk fun e he hee=>(hI.eff e).2 ⟨he,hee,hall e he⟩;refine drawn2 hc fuel listed n1 ⟨tmD ops.toList (Wof S G n1 V E k) st.tm,M.getD k [],st.nt,st.gh,st.ls⟩ σ a w hs (by omega) (Nat.le_refl _) (fun j hj=>?_) (hx k hkF) ?_
  ·constructor
   ·intro h;apply Nat.lt_of_not_le;intro h';rw[hlate j h' hj] at h;simp at h
   ·exact hall j
  ·have hWl:(Wof S G n1 V E k).length=n1:=by unfold Wof;simp
   have hW:∀ j,j<n1→(Wof S G n1 V E k)[j]?=some (bif efQ S j then E.getD (eIdx G (G.getD k []) j) (.l .u) else V.getD j (.l .u)):=fun j hj=>by
    unfold Wof;rw[List.getElem?_map,List.getElem?_range hj];rfl
   have hlk:∀ t,lk (tmD ops.toList (Wof S G n1 V E k) st.tm) t=lk s.tm t:=by
    intro t;by_cases h:∃ j,j<n1∧dsOf ops j=some t
    ·obtain⟨j,hj,hjt⟩:=h;have hjW:lk s.tm t=(bif efQ S j then E.getD (eIdx G (G.getD k []) j) (.l .u) else V.getD j (.l .u)):=by
      cases hef:efQ S j
      ·exact hI.wr t j hj hef (hall j hj) hjt
      ·have hm:=(hI.eff j).2 ⟨hj,hef,hall j hj⟩;obtain⟨p,r,hpr⟩:=List.append_of_mem hm;obtain⟨kk,hkk,hkk2⟩:=hI.pc p j r hpr;rw[Sx hq hI.nd hpr hkk hkk2];exact hI.we p j r t kk hpr hkk hkk2 hjt
     rw[hjW];refine (Ic ops.toList (Wof S G n1 V E k) st.tm t).1 j _ (hW j hj) (by rw[← E6];exact hjt) fun i v' hi hit=>?_;rw[← E6] at hit;apply Classical.byContradiction;intro hne;have hi':i<n1:=by have:=(List.getElem?_eq_some_iff.1 hi).1;omega
     have hil:i<ops.size:=by omega
     have ho:ops[i]?=some (ops[i]'hil):=Array.getElem?_eq_getElem hil;obtain⟨d,hd,hR⟩:=Du hc ho;refine hR.dst hi' j hj hne (by rw[hjt];simp) ?_;rw[hjt,← hit,dsOf,ho];rfl
    ·rw[hI.un t fun j hj _ e=>h ⟨j,hj,e⟩];refine (Ic ops.toList (Wof S G n1 V E k) st.tm t).2 fun j v hv e=>h ⟨j,by have:=(List.getElem?_eq_some_iff.1 hv).1;omega,by rw[E6];exact e⟩
   have e1:=hI.ob;refine⟨?_,fun t=>?_,?_,?_,hr.dm⟩
   ·have:=hr.h;rw[e1,hI.ls] at this;exact this
   ·have:=hr.tm t;rw[e1] at this;rw[hlk];exact this
   ·rw[hr.nt,hI.nt]
   ·have:=hr.gh;rw[e1,hI.gh] at this;exact this
 induction fuel with
 |zero =>
  intro listed k s σ a w hs hcl hf hlate hI hr;have h0:((List.range n1).filter fun i=>!Ls listed i).length=0:=by omega
  refine whole 0 listed k s σ a w hs (by omega) hlate (fun j hj=>?_) hI hr;have:=List.filter_eq_nil_iff.1 (List.eq_nil_of_length_eq_zero h0) j (List.mem_range.2 hj);simpa using this
 |succ fuel ih =>
  intro listed k s σ a w hs hcl hf hlate hI hr;by_cases hall:∀ j,j<n1→Ls listed j=true
  ·exact whole (fuel+1) listed k s σ a w hs (by omega) hlate hall hI hr
  ·refine⟨fun hnil=>?_,fun i hi=>?_⟩
   ·exact absurd (fun j hj=>Ib hc hs hnil j (by omega)) hall
   ·obtain⟨o,ho,hfl,hp⟩:=GN hs hi;have hin:i<ops.size:=(Array.getElem?_eq_some_iff.1 ho).1;obtain⟨d,hd,hR⟩:=Du hc ho;have han:=hcl.an hc ho hR hp;have hi1:i<n1:=by
     apply Classical.byContradiction;intro h;exact hall fun j hj=>han j ((hR.late h).2 j (by omega))
    have hanI:∀ j,inAn D i j=true→Ls listed j=true:=fun j hj=>by
     rw[inAn,hd] at hj;exact han j (by simpa using hj)
    obtain⟨o',d',v,h1,h2,h3,h4⟩:=hO.get i (by omega);have:o'=o:=by
     have:ops.toList[i]?=some o:=by simpa using ho
     rw[h1] at this;simpa using this
    subst this;have hv:=Kl h3;obtain⟨d2,hd2,x,hx1,hx2,hx3,hx4,hx5⟩:=hq.go i k hi1 hI.hk (fun hm=>by have:=((hI.eff i).1 hm).2.2;rw[hfl] at this;simp at this) (fun e he hee hae=>(hI.eff e).2 ⟨he,hee,hanI e hae⟩) (fun e he=>by
     cases h5:inAn D e i
     ·rfl
     ·have h6:=(hI.eff e).1 he;have:=hcl e (by omega) h6.2.2 i h5;rw[hfl] at this;simp at this)
    rw[h2] at hd2;cases hd2
    have hefS:efQ S i=d'.ef:=by unfold efQ;rw[h2];rfl
    have hrd:AllL (fun r=>lk s.tm r.1=rdQ V E st.tm r) x.2.2:=AllL.of fun r hr'=>by
     have h5:=hx5 r hr';obtain⟨t,y⟩:=r;cases y with
     |tm =>
      simp only[rdOk,List.all_eq_true,List.mem_range,Bool.or_eq_true,Bool.not_eq_true',beq_iff_eq,beq_eq_false_iff_ne] at h5;refine hI.un t fun j hj hlj hjt=>?_;rcases h5 j hj with (h6|h6)|h6
      ·exact h6 hjt
      ·subst h6;rw[hfl] at hlj;simp at hlj
      ·have:=hcl j (by omega) hlj i h6;rw[hfl] at this;simp at this
     |op j =>
      simp only[rdOk,Bool.and_eq_true,decide_eq_true_eq,Bool.not_eq_true',beq_iff_eq] at h5;exact hI.wr t j h5.1.1.2 h5.1.2 (hanI j h5.1.1.1) h5.2
     |ef kk =>
      simp only[rdOk,Bool.and_eq_true,decide_eq_true_eq,List.any_eq_true,List.mem_range,beq_iff_eq] at h5;obtain⟨h6,m,hm,h7,h8⟩:=h5;have h9:(G.getD k []).getD m 0=(G.getD k [])[m]:=by rw[List.getD_eq_getElem?_getD,List.getElem?_eq_getElem hm];rfl
      rw[h9] at h8;have h10:(G.getD k []).take (m+1)=(G.getD k []).take m++[(G.getD k [])[m]]:=(List.take_append_getElem hm).symm;refine hI.we ((G.getD k []).take m) (G.getD k [])[m] ((G.getD k []).drop (m+1)) t kk ?_ h6 (by rw[h7,h10]) h8;rw[← List.drop_eq_getElem_cons hm,List.take_append_drop]
    have hxg:=AllL.mem h4 x hx1 s.tm hrd;have hsE:s=⟨s.tm,M.getD x.1 [],st.nt,st.gh,st.ls⟩:=by
     rw[hx2,← hI.ob,← hI.nt,← hI.gh,← hI.ls]
    rw[← hsE] at hxg;refine JQ ho hxg (fun σ' s' a' w' hk' hr'=>?_) hr;obtain⟨v',hlk,hvv,hob,hnt,hgh,hls⟩:=hk';have hsz:i<listed.size:=by omega
    refine ih _ x.2.1 s' σ' a' w' (by simpa using hs) (hcl.set (by omega) hd han) ?_ (fun j hj hjs=>?_) ?_ hr'
    ·have:=Gj (i:=i) (p:=fun j=>!Ls (listed.setIfInBounds i true) j) (q:=fun j=>!Ls listed j) (List.nodup_range (n:=n1)) (List.mem_range.2 hi1) (by simp[BG hsz]) (by simp[hfl]) (fun e he=>by simp[BG hsz,he]);omega
    ·rw[BG (by omega),if_neg (by omega)];exact hlate j hj hjs
    ·have hun:∀ t,(∀ j,j<n1→Ls (listed.setIfInBounds i true) j=true→dsOf ops j≠some t)→lk s'.tm t=lk st.tm t:=fun t hun=>by
      rw[hlk];have hne:o'.dst≠some t:=fun h=>hun i hi1 (by rw[BG hsz,if_pos rfl]) (by rw[dsOf,ho];exact h);rw[CO,if_neg hne];refine hI.un t fun j hj hlj=>hun j hj ?_;rw[BG hsz];split
      ·rfl
      ·exact hlj
     have hdne:∀ (t j:Nat),j<n1→j≠i→dsOf ops j=some t→o'.dst≠some t:=fun t j hj e hjt h=>hR.dst hi1 j hj (Ne.symm e) (by rw[hjt];simp) (by rw[hjt,h]);cases hef:d'.ef
     ·have hxk:=hx4 hef;rw[hef] at hvv hefS;rw[hxk] at hob ⊢;refine⟨hnt,hgh,hls,hI.hk,hob,fun e=>?_,hI.nd,hI.pc,fun t j hj hej hlj hjt=>?_,fun p e r t kk hp hkk hkk2 het=>?_,hun⟩
      ·rw[hI.eff e,BG hsz];by_cases he:e=i
       ·subst he;rw[hefS];simp
       ·rw[if_neg he]
      ·rw[hlk,CO];by_cases e:j=i
       ·subst e;have:o'.dst=some t:=by rw[dsOf,ho] at hjt;exact hjt
        rw[if_pos this,hvv,hv];rfl
       ·rw[if_neg (hdne t j hj e hjt)];rw[BG hsz,if_neg e] at hlj;exact hI.wr t j hj hej hlj hjt
      ·have hm:e∈G.getD k []:=by rw[hp];simp
       have hm2:=(hI.eff e).1 hm;have hei:e≠i:=fun h=>by subst h;rw[hefS] at hm2;simp at hm2
       rw[hlk,CO,if_neg (hdne t e hm2.1 hei het)];exact hI.we p e r t kk hp hkk hkk2 het
     ·obtain⟨hx6,hx7⟩:=hx3 hef;rw[hef] at hvv hefS;have hni:i ∉ G.getD k []:=fun hm=>by have:=((hI.eff i).1 hm).2.2;rw[hfl] at this;simp at this
      refine⟨hnt,hgh,hls,hx6,hob,fun e=>?_,?_,fun p e r hp=>?_,fun t j hj hej hlj hjt=>?_,fun p e r t kk hp hkk hkk2 het=>?_,hun⟩
      ·rw[hx7,List.mem_append,hI.eff e,BG hsz,List.mem_singleton];by_cases he:e=i
       ·subst he;rw[hefS];simp[hi1]
       ·rw[if_neg he];simp[he]
      ·rw[hx7,List.nodup_append];exact⟨hI.nd,by simp,fun a ha b hb e=>hni (by simp at hb;rw[← hb,← e];exact ha)⟩
      ·rw[hx7] at hp;rcases List.eq_nil_or_concat r with hr0|⟨r',b,hr0⟩
       ·subst hr0;exact⟨x.2.1,hx6,by rw[hx7,hp]⟩
       ·subst hr0;have h8:G.getD k []++[i]=(p++e::r')++[b]:=by rw[hp];simp
        have h9:=(List.append_inj' h8 rfl).1;exact hI.pc p e r' h9
      ·have hji:j≠i:=fun h=>by subst h;rw[hefS] at hej;cases hej
       rw[hlk,CO,if_neg (hdne t j hj hji hjt)];rw[BG hsz,if_neg hji] at hlj;exact hI.wr t j hj hej hlj hjt
      ·rw[hx7] at hp;rcases List.eq_nil_or_concat r with hr0|⟨r',b,hr0⟩
       ·subst hr0;have h9:=List.append_inj' hp rfl;have hei:i=e:=by simpa using h9.2
        subst hei;have hkx:kk=x.2.1:=hq.nd kk x.2.1 hkk hx6 (by rw[hkk2,hx7,h9.1]);have:o'.dst=some t:=by rw[dsOf,ho] at het;exact het
        rw[hlk,CO,if_pos this,hvv,hkx];rfl
       ·subst hr0;have h8:G.getD k []++[i]=(p++e::r')++[b]:=by rw[hp];simp
        have h9:=(List.append_inj' h8 rfl).1;have hm:e∈G.getD k []:=by rw[h9];simp
        have hm2:=(hI.eff e).1 hm;have hei:e≠i:=fun h=>hni (h ▸ hm);rw[hlk,CO,if_neg (hdne t e hm2.1 hei het)];exact hI.we p e r' t kk h9 hkk hkk2 het
theorem AW.drawnQ (hm:P.follows .mixedOrders=true) {id:Nat} {c:Code} {tm:Tm} {ob:List (Option Ob)} {st':St} (D:List DI) (n1:Nat) (S:List DQ) (G:List (List Nat)) (FS:List Nat) (V E:List AV) (M:List (List (Option Ob))) (hc:chkD ops D n1=true) (hq:chkQ ops D S G n1 FS=true) (hV:V.length=n1) (hM:M.getD 0 []=ob)
  (hO:OblQ P ops V E M tm nt gh ls ops.toList S V)
  (hx:AllL (fun k=>xops P ops (ops.toList.drop n1) ⟨tmD ops.toList (Wof S G n1 V E k) tm,M.getD k [],nt,gh,ls⟩ (fun s=>Weak cx s st')) FS) (k:AW P R cx c Q st'):AW P R cx (.seq (.region id ops true) c) Q ⟨tm,ob,nt,gh,ls⟩:=by
 have hn:n1≤ops.size:=by
  simp only[chkD,Bool.and_eq_true,decide_eq_true_eq] at hc;exact hc.1.2
 have hR:=Ph hq;have hG0:G.getD 0 []=[]:=by
  have:=hR.zero;rw[List.getD_eq_getElem?_getD,List.getElem?_eq_getElem hR.pos] at this ⊢;exact this
 have h1:AW P R cx (.region id ops true) (fun e s=>e=.normal∧Weak cx s st') ⟨tm,ob,nt,gh,ls⟩:=by
  intro σ a w hr;refine wpIn_region_any hm ?_;have hLf:∀ j,Ls (Array.replicate ops.size false) j=false:=fun j=>by
   simp only[Ls,Array.getD_eq_getD_getElem?,Array.getElem?_replicate];split <;> rfl
  have hr':RelS cx σ ⟨tm,ob,nt,gh,ls⟩ a { w with drawn:=w.drawn+1 }:=hr.drewN 1;refine drawnQ1 (st:=⟨tm,ob,nt,gh,ls⟩) hc hR hV hn hO (fun k hk=>?_) ops.size _ 0 ⟨tm,ob,nt,gh,ls⟩ σ a _ (by simp) (fun i hi h=>by rw[hLf] at h;simp at h) ?_ (fun j _ _=>hLf j) ⟨rfl,rfl,rfl,hR.pos,hM.symm,fun e=>?_,?_,fun p e r h=>?_,fun t j _ _ h=>by rw[hLf] at h;simp at h,fun p e r t kk h=>?_,fun t _=>rfl⟩ hr'
  ·refine BL _ _ _ rfl ?_;have h5:=AllL.mem hx k hk;have e5:(fun s=>(fun e s=>e=Exit.normal∧Weak cx s st') Exit.normal s)=fun s=>Weak cx s st':=by
    funext s
    simp
   rw[e5];exact h5
  ·have:((List.range n1).filter fun i=>!Ls (Array.replicate ops.size false) i).length≤n1:=by
    have:=List.length_filter_le (fun i=>!Ls (Array.replicate ops.size false) i) (List.range n1);simpa using this
   omega
  ·rw[hG0,hLf];simp
  ·rw[hG0];exact List.nodup_nil
  ·rw[hG0] at h;simp at h
  ·rw[hG0] at h;simp at h
 refine AW.seq (AW.mono h1 ?_);rintro e s ⟨rfl,hs⟩;exact AW.weak hs k
def wof:List (Option Nat)→List AV→List AV→List AV
 |none::ws,v::vs,E=>v::wof ws vs E
 |some kk::ws,_::vs,E=>E.getD kk (.l .u)::wof ws vs E
 |_,_,_=>[]
def chkW (S:List DQ) (G:List (List Nat)) (n1 k:Nat) (ws:List (Option Nat)):Bool:=ws == (List.range n1).map fun j=>if efQ S j then some (eIdx G (G.getD k []) j) else none
theorem KS:∀ (ws:List (Option Nat)) (V E:List AV) (j:Nat),ws.length=V.length→(wof ws V E)[j]?=(ws[j]?).map fun x=>match x with|none=>V.getD j (.l .u)|some kk=>E.getD kk (.l .u)
 |[],[],E,j,_=>by simp[wof]
 |[],v::V,E,j,h=>by simp at h
 |w::ws,[],E,j,h=>by simp at h
 |none::ws,v::V,E,0,_=>by simp[wof]
 |some k::ws,v::V,E,0,_=>by simp[wof]
 |none::ws,v::V,E,j+1,h=>by
  have:=KS ws V E j (by simpa using h);simpa [wof] using this
 |some k::ws,v::V,E,j+1,h=>by
  have:=KS ws V E j (by simpa using h);simpa [wof] using this
theorem Qs {k:Nat} {ws:List (Option Nat)} (h:chkW S G n1 k ws=true) (hV:V.length=n1):wof ws V E=Wof S G n1 V E k:=by
 unfold chkW at h;have h:=beq_iff_eq.1 h;have hl:ws.length=V.length:=by rw[h,hV];simp
 refine List.ext_getElem? fun j=>?_;rw[KS ws V E j hl,h];unfold Wof;rw[List.getElem?_map,List.getElem?_map];cases hj:(List.range n1)[j]? with
 |none=>rfl
 |some x =>
  have hx:x=j:=by
   have:=List.getElem?_eq_some_iff.1 hj;obtain⟨h1,h2⟩:=this;rw[List.getElem_range] at h2;exact h2.symm
  subst hx;simp only[Option.map_some];cases efQ S x <;> rfl
theorem AW.drawnQ2 (hm:P.follows .mixedOrders=true) {id:Nat} {c:Code} {tm tm1 tm2:Tm} {ob:List (Option Ob)} {st':St} (D:List DI) (n1:Nat) (S:List DQ) (G:List (List Nat)) (k1 k2:Nat) (V E:List AV) (M:List (List (Option Ob))) (w1 w2:List (Option Nat)) (hc:chkD ops D n1=true) (hq:(chkQ ops D S G n1 [k1,k2] && chkW S G n1 k1 w1 && chkW S G n1 k2 w2)=true)
  (hM:M.getD 0 []=ob) (hO:OblQ P ops V E M tm nt gh ls ops.toList S V) (hV:V.length=n1) (h1:tmD ops.toList (wof w1 V E) tm=tm1) (x1:xops P ops (ops.toList.drop n1) ⟨tm1,M.getD k1 [],nt,gh,ls⟩ (fun s=>Weak cx s st'))
  (h2:tmD ops.toList (wof w2 V E) tm=tm2) (x2:xops P ops (ops.toList.drop n1) ⟨tm2,M.getD k2 [],nt,gh,ls⟩ (fun s=>Weak cx s st')) (k:AW P R cx c Q st'):AW P R cx (.seq (.region id ops true) c) Q ⟨tm,ob,nt,gh,ls⟩:=by
 simp only[Bool.and_eq_true] at hq;rw[Qs hq.1.2 hV] at h1;rw[Qs hq.2 hV] at h2;subst h1;subst h2;exact AW.drawnQ hm D n1 S G [k1,k2] V E M hc hq.1.1 hV hM hO ⟨x1,x2⟩ k
end
end Go.Proofs.YtlbdhlbbkibgpaaGreat
namespace Go.Proofs.YtlbdhlbbkibgpaaGreat
open Go Go.RowKit
def CC (n:Nat) (a0:Node) (a1:Node) (a2:List Pair):Option Bool :=
bn (iter n (fun (y1:Int×Int) =>
lt (lenI a2) fun v4 =>
lt (ltI y1.2 v4) fun v5 =>
ite' v5 (bn (bn (nth a2 y1.2) fun v7 =>
bn (D7 n a0.db v7.key) fun v8 =>
bn (D7 n a1.db v7.key) fun v9 =>
bn (lt (notB v8.ok) fun v11 =>
ite' v11 (lt (notB v9.ok) fun v12 =>
ite' v12 (some ((true,v8,v9))) (lt (v8.ok) fun v13 =>
ite' v13 (none) (lt (v9.ok) fun v14 =>
ite' v14 (bn (Bt n v9.i v7.item) fun v15 =>
lt (notB v15) fun v16 =>
some ((v16,(⟨v8.i,false⟩:R5Got),(⟨v9.i,true⟩:R5Got)))) (none)))) (lt (v8.ok) fun v17 =>
ite' v17 (bn (Bt n v8.i v7.item) fun v18 =>
lt (notB v18) fun v19 =>
ite' v19 (some ((true,(⟨v8.i,true⟩:R5Got),v9))) (lt (v9.ok) fun v20 =>
ite' v20 (bn (Bt n v9.i v7.item) fun v21 =>
lt (notB v21) fun v22 =>
some ((v22,(⟨v8.i,true⟩:R5Got),(⟨v9.i,true⟩:R5Got)))) (some ((false,(⟨v8.i,true⟩:R5Got),(⟨v9.i,false⟩:R5Got)))))) (none))) fun (y10:Bool×R5Got×R5Got) =>
lt (y10.1) fun v23 =>
ite' v23 (some (.inr false)) (bn (lt (y10.2.1.ok) fun v25 =>
ite' v25 (some (y10.2.2.ok)) (some (false))) fun (y24:Bool) =>
lt (y24) fun v26 =>
ite' v26 (bn (iter n (fun (y27:Bool×Int) =>
lt (lenI a0.moves) fun v30 =>
lt (ltI y27.2 v30) fun v31 =>
ite' v31 (lt (y27.1) fun v32 =>
ite' v32 (lt (addI .i64 y27.2 1) fun v33 =>
some (.inl (true,v33))) (bn (nth a0.moves y27.2) fun v34 =>
lt (gtI v34.num 0) fun v35 =>
ite' v35 (bn (nth a2 y1.2) fun v36 =>
lt (eqS v34.key v36.key) fun v37 =>
lt (addI .i64 y27.2 1) fun v38 =>
some (.inl (v37,v38))) (lt (addI .i64 y27.2 1) fun v39 =>
some (.inl (false,v39))))) (some (.inr y27.1))) (false,0)) fun (y28:Bool) =>
lt (notB y28) fun v40 =>
ite' v40 (some (.inr false)) (lt (addI .i64 y1.1 1) fun v41 =>
some (.inl v41))) (some (.inl y1.1)))) fun (y6:Int ⊕ Bool) =>
sm y6 (fun y42=>lt (addI .i64 y1.2 1) fun v44 =>
some (.inl (y42,v44))) (fun y43=>some (.inr (.inr y43)))) (some (.inr (.inl y1.1)))) (0,0)) fun (y2:Int ⊕ Bool) =>
sm y2 (fun y45=>lt (lenI a0.db) fun v47 =>
lt (lenI a1.db) fun v48 =>
lt (addI .i64 v47 v48) fun v49 =>
lt (lenI a2) fun v50 =>
lt (addI .i64 v50 y45) fun v51 =>
lt (eqI v49 v51) fun v52 =>
some v52) (fun y46=>some y46)
def DY9t1:List DI:=[⟨[0],[],[(9,none)],false⟩,⟨[0],[0],[(35,some 0)],false⟩,⟨[0],[0,1],[(36,some 1)],false⟩,⟨[0],[0,1,2],[(37,some 2)],false⟩,⟨[0],[0,1,2,3],[(10,none),(38,some 3)],false⟩,⟨[0],[0,1,2,3,4],[(38,some 3),(39,some 4)],false⟩,⟨[0],[0,1,2,3,4,5],[(38,some 3),(40,some 5)],false⟩,⟨[0],[0,1,2,3,4,5,6],[(38,some 3),(41,some 6)],false⟩,⟨[0],[0,1,2,3,4,5,6,7],[(42,some 7)],false⟩,⟨[0],[0,1,2,3,4,5,6,7,8],[(9,none),(43,some 8)],false⟩,⟨[0],[0,1,2,3,4,5,6,7,8,9],[(43,some 8),(44,some 9)],false⟩,⟨[0],[0,1,2,3,4,5,6,7,8,9,10],[(43,some 8),(45,some 10)],false⟩,⟨[0],[0,1,2,3,4,5,6,7,8,9,10,11],[(9,none),(46,some 11)],false⟩,⟨[0],[0,1,2,3,4,5,6,7,8,9,10,11,12],[(46,some 11),(47,some 12)],false⟩,⟨[0],[0,1,2,3,4,5,6,7,8,9,10,11],[(2,none),(46,some 11)],false⟩,⟨[0],[0,1,2,3,4,5,6,7,8,9,10,11],[(8,none),(46,some 11)],false⟩,⟨[0],[0,1,2,3,4,5,6,7,8,9,10,11,14,15],[(46,some 11),(49,some 14),(50,some 15)],false⟩,⟨[0],[0,1,2,3,4,5,6,7,8,9,10,11,14,15,16],[(46,some 11),(51,some 16)],false⟩,⟨[0],[0,1,2,3,4,5,6,7,8,9,10,11,14,15,16,17],[(46,some 11),(52,some 17)],false⟩,⟨[0],[0,1,2,3,4,5,6,7,8,9,10,11,12,13,14,15,16,17,18],[(46,some 11),(48,some 13),(53,some 18)],false⟩,⟨[0],[0,1,2,3,4,5,6,7,8,9,10,11,12,13,14,15,16,17,18,19],[(46,some 11),(54,some 19)],false⟩,⟨[0],[0,1,2,3,4,5,6,7,8,9,10,11,12,13,14,15,16,17,18,19,20],[(43,some 8),(46,some 11),(55,some 20)],false⟩,⟨[0],[0,1,2,3,4,5,6,7,8,9,10,11,12,13,14,15,16,17,18,19,20,21],[(43,some 8),(56,some 21)],false⟩,⟨[0],[0,1,2,3,4,5,6,7,8,9,10,11,12,13,14,15,16,17,18,19,20,21,22],[(57,some 22)],false⟩,⟨[0],[0,1,2,3,4,5,6,7,8,9,10,11,12,13,14,15,16,17,18,19,20,21,22,23],[(10,none),(58,some 23)],false⟩,⟨[0],[0,1,2,3,4,5,6,7,8,9,10,11,12,13,14,15,16,17,18,19,20,21,22,23,24],[(58,some 23),(59,some 24)],false⟩,⟨[0],[0,1,2,3,4,5,6,7,8,9,10,11,12,13,14,15,16,17,18,19,20,21,22,23,24,25],[(58,some 23),(60,some 25)],false⟩,⟨[0],[0,1,2,3,4,5,6,7,8,9,10,11,12,13,14,15,16,17,18,19,20,21,22,23,24,25,26],[(10,none),(61,some 26)],false⟩,⟨[0],[0,1,2,3,4,5,6,7,8,9,10,11,12,13,14,15,16,17,18,19,20,21,22,23,24,25,26,27],[(61,some 26),(62,some 27)],false⟩,⟨[0],[0,1,2,3,4,5,6,7,8,9,10,11,12,13,14,15,16,17,18,19,20,21,22,23,24,25,26],[(2,none),(61,some 26)],false⟩,⟨[0],[0,1,2,3,4,5,6,7,8,9,10,11,12,13,14,15,16,17,18,19,20,21,22,23,24,25,26],[(8,none),(61,some 26)],false⟩,⟨[0],[0,1,2,3,4,5,6,7,8,9,10,11,12,13,14,15,16,17,18,19,20,21,22,23,24,25,26,29,30],[(61,some 26),(64,some 29),(65,some 30)],false⟩,⟨[0],[0,1,2,3,4,5,6,7,8,9,10,11,12,13,14,15,16,17,18,19,20,21,22,23,24,25,26,29,30,31],[(61,some 26),(66,some 31)],false⟩,⟨[0],[0,1,2,3,4,5,6,7,8,9,10,11,12,13,14,15,16,17,18,19,20,21,22,23,24,25,26,29,30,31,32],[(61,some 26),(67,some 32)],false⟩,⟨[],[0,1,2,3,4,5,6,7,8,9,10,11,12,13,14,15,16,17,18,19,20,21,22,23,24,25,26,27,28,29,30,31,32,33],[],false⟩,⟨[],[0,1,2,3,4,5,6,7,8,9,10,11,12,13,14,15,16,17,18,19,20,21,22,23,24,25,26,27,28,29,30,31,32,33,34],[],false⟩,⟨[],[0,1,2,3,4,5,6,7,8,9,10,11,12,13,14,15,16,17,18,19,20,21,22,23,24,25,26,27,28,29,30,31,32,33,34,35],[],false⟩,⟨[],[0,1,2,3,4,5,6,7,8,9,10,11,12,13,14,15,16,17,18,19,20,21,22,23,24,25,26,27,28,29,30,31,32,33,34,35,36],[],false⟩]
def DY9t2:List DI:=[⟨[0],[],[(11,none)],false⟩,⟨[0],[0],[(86,some 0)],false⟩,⟨[0],[0,1],[(3,none),(87,some 1)],false⟩,⟨[0],[0,1,2],[(87,some 1),(88,some 2)],false⟩,⟨[0],[0,1],[(12,none),(87,some 1)],false⟩,⟨[0],[0,1,2,3,4],[(87,some 1),(89,some 3),(90,some 4)],false⟩,⟨[0],[0,1,2,3,4,5],[(87,some 1),(91,some 5)],false⟩,⟨[0],[0,1,2,3,4,5,6],[(87,some 1),(92,some 6)],false⟩,⟨[0],[0,1,2,3,4,5,6,7],[(87,some 1),(93,some 7)],false⟩,⟨[0],[0,1,2,3,4,5,6,7,8],[(87,some 1),(94,some 8)],false⟩,⟨[0],[0,1,2,3,4,5,6,7,8,9],[(3,none),(95,some 9)],false⟩,⟨[0],[0,1,2,3,4,5,6,7,8,9,10],[(95,some 9),(96,some 10)],false⟩,⟨[0],[0,1,2,3,4,5,6,7,8,9],[(12,none),(95,some 9)],false⟩,⟨[0],[0,1,2,3,4,5,6,7,8,9,10,11,12],[(95,some 9),(97,some 11),(98,some 12)],false⟩,⟨[0],[0,1,2,3,4,5,6,7,8,9,10,11,12,13],[(95,some 9),(99,some 13)],false⟩,⟨[0],[0,1,2,3,4,5,6,7,8,9,10,11,12,13,14],[(95,some 9),(100,some 14)],false⟩,⟨[0],[0,1,2,3,4,5,6,7,8,9],[(2,none),(95,some 9)],false⟩,⟨[0],[0,1,2,3,4,5,6,7,8,9],[(8,none),(95,some 9)],false⟩,⟨[0],[0,1,2,3,4,5,6,7,8,9,16,17],[(95,some 9),(102,some 16),(103,some 17)],false⟩,⟨[0],[0,1,2,3,4,5,6,7,8,9,16,17,18],[(95,some 9),(104,some 18)],false⟩,⟨[0],[0,1,2,3,4,5,6,7,8,9,16,17,18,19],[(95,some 9),(105,some 19)],false⟩,⟨[],[0,1,2,3,4,5,6,7,8,9,10,11,12,13,14,15,16,17,18,19,20],[],false⟩,⟨[],[0,1,2,3,4,5,6,7,8,9,10,11,12,13,14,15,16,17,18,19,20,21],[],false⟩,⟨[],[0,1,2,3,4,5,6,7,8,9,10,11,12,13,14,15,16,17,18,19,20,21,22],[],false⟩,⟨[],[0,1,2,3,4,5,6,7,8,9,10,11,12,13,14,15,16,17,18,19,20,21,22,23],[],false⟩]
theorem LS {n:Nat} {a0:Node} {a1:Node} {a2:List Pair} {r:Bool} (h:CC n a0 a1 a2=some r):Sound Tryz.prog 25 [.g (cA0 a0),.g (cA0 a1),.l (dA a2)] [] (.l (bA r)) []:=by
 unfold CC at h;refine SO 126 Tryz.func25 fun cx hG (hz:cx.nb=0)=>?_;simp only[it];refine ST ?_;refine ST ?_;apply AW.seq;refine ST ?_;apply AW.block;obtain⟨y2,g2,h⟩:=bnE h;refine zD g2 (mk:=fun gh ls q=>(⟨[(2,.l (dA a2)),(3,.l (.p 0 0)),(4,.l (.p 1 0)),(7,.l (iA q.1)),(8,.l (iA q.2))],[some ⟨38,22,false,none,(cA0 a0)⟩,some ⟨38,22,false,none,(cA0 a1)⟩],126,gh,ls⟩:St)) (N:=fun gh ls=>(sp (xP 0 (cx:=cx) (fun q=>(⟨[(2,.l (dA a2)),(3,.l (.p 0 0)),(4,.l (.p 1 0)),(7,.l (iA q))],[some ⟨38,22,false,none,(cA0 a0)⟩,some ⟨38,22,false,none,(cA0 a1)⟩],126,gh,ls⟩:St))) (rP (cx:=cx) (P:=Tryz.prog) Tryz.f25 (fun q=>.l (bA q)) (fun q=>[])))) ?_ (noS noX noR) ?_ ?_
 ·exact WM [0,1] hz
 ·clear h;intro y1 y3 h
  apply AW.seq;obtain⟨v4,e4,v5,e5,h⟩:=oll h;refine AW.step (by simp[Ad e4,← e5];intros;rfl) ?_;cases v5 with
  |true=>
   replace h:=iT h;refine CT ?_;apply AW.skip;try simp only[nm]
   obtain⟨y6,g6,h⟩:=bnE h;refine zC (p:=fun gh ls=>(sp (nP (cx:=cx) (fun q=>(⟨[(2,.l (dA a2)),(3,.l (.p 0 0)),(4,.l (.p 1 0)),(7,.l (iA q)),(8,.l (iA y1.2))],[some ⟨38,22,false,none,(cA0 a0)⟩,some ⟨38,22,false,none,(cA0 a1)⟩],126,gh,ls⟩:St))) (rP (cx:=cx) (P:=Tryz.prog) Tryz.f25 (fun q=>.l (bA q)) (fun q=>[]))) y6) ?_ ?_
   ·replace h:=g6;clear g6
    apply AW.block;obtain⟨v7,e7,h⟩:=bnE h;obtain⟨v8,e8,h⟩:=bnE h;obtain⟨v9,e9,h⟩:=bnE h;apply AW.drawnQ2 (st':=(⟨[(2,.l (dA a2)),(3,.l (.p 0 0)),(4,.l (.p 1 0)),(7,.l (iA y1.1)),(8,.l (iA y1.2)),(9,.l (.p 2 0)),(10,.l (.p 3 0))],[some ⟨38,22,false,none,(cA0 a0)⟩,some ⟨38,22,false,none,(cA0 a1)⟩,some ⟨62,6,false,none,(cR0 v8)⟩,some ⟨62,6,false,none,(cR0 v9)⟩],126,[],none⟩:St)) (V:=[_,_,_,_,_,_,_,_,_,_,_,_,_,_,_,_,.l .u,.l .u]) (E:=[.l .u,.l (.p 2 0),.l (.p 2 0),.l (.p 3 0),.l (.p 3 0)]) (M:=[[some ⟨38,22,false,none,(cA0 a0)⟩,some ⟨38,22,false,none,(cA0 a1)⟩],[some ⟨38,22,false,none,(cA0 a0)⟩,some ⟨38,22,false,none,(cA0 a1)⟩,some ⟨62,6,false,none,cQ0⟩],[some ⟨38,22,false,none,(cA0 a0)⟩,some ⟨38,22,false,none,(cA0 a1)⟩,some ⟨62,6,false,none,cQ0⟩],[some ⟨38,22,false,none,(cA0 a0)⟩,some ⟨38,22,false,none,(cA0 a1)⟩,some ⟨62,6,false,none,cQ0⟩,some ⟨62,6,false,none,cQ0⟩],[some ⟨38,22,false,none,(cA0 a0)⟩,some ⟨38,22,false,none,(cA0 a1)⟩,some ⟨62,6,false,none,cQ0⟩,some ⟨62,6,false,none,cQ0⟩]]) mixed [⟨[0],[],[],false⟩,⟨[0],[0],[],false⟩,⟨[0],[],[],false⟩,⟨[0],[],[],false⟩,⟨[0],[2,3],[],false⟩,⟨[0],[2,3,4],[],false⟩,⟨[0],[2,3,4,5],[],false⟩,⟨[0],[0,1,2,3,4,5,6],[],false⟩,⟨[0],[],[],false⟩,⟨[0],[8],[],false⟩,⟨[0],[],[],false⟩,⟨[0],[],[],false⟩,⟨[0],[10,11],[],false⟩,⟨[0],[10,11,12],[],false⟩,⟨[0],[10,11,12,13],[],false⟩,⟨[0],[0,1,2,3,4,5,6,7,8,9,10,11,12,13,14],[],false⟩,⟨[0],[],[],false⟩,⟨[0],[],[],false⟩,⟨[],[0,1,2,3,4,5,6,7,8,9,10,11,12,13,14,15,16,17],[],false⟩,⟨[],[0,1,2,3,4,5,6,7,8,9,10,11,12,13,14,15,16,17,18],[],false⟩] 18 [⟨false,[(0,0,[(3,.tm)]),(1,1,[(3,.tm)]),(2,2,[(3,.tm)]),(3,3,[(3,.tm)]),(4,4,[(3,.tm)])]⟩,⟨false,[(0,0,[(19,.op 0)]),(1,1,[(19,.op 0)]),(2,2,[(19,.op 0)]),(3,3,[(19,.op 0)]),(4,4,[(19,.op 0)])]⟩,⟨false,[(0,0,[(2,.tm)]),(1,1,[(2,.tm)]),(2,2,[(2,.tm)]),(3,3,[(2,.tm)]),(4,4,[(2,.tm)])]⟩,⟨false,[(0,0,[(8,.tm)]),(1,1,[(8,.tm)]),(2,2,[(8,.tm)]),(3,3,[(8,.tm)]),(4,4,[(8,.tm)])]⟩,⟨false,[(0,0,[(21,.op 2),(22,.op 3)]),(1,1,[(21,.op 2),(22,.op 3)]),(2,2,[(21,.op 2),(22,.op 3)]),(3,3,[(21,.op 2),(22,.op 3)]),(4,4,[(21,.op 2),(22,.op 3)])]⟩,⟨false,[(0,0,[(23,.op 4)]),(1,1,[(23,.op 4)]),(2,2,[(23,.op 4)]),(3,3,[(23,.op 4)]),(4,4,[(23,.op 4)])]⟩,⟨false,[(0,0,[(24,.op 5)]),(1,1,[(24,.op 5)]),(2,2,[(24,.op 5)]),(3,3,[(24,.op 5)]),(4,4,[(24,.op 5)])]⟩,⟨false,[(0,0,[(20,.op 1),(25,.op 6)]),(1,1,[(20,.op 1),(25,.op 6)]),(2,2,[(20,.op 1),(25,.op 6)]),(3,3,[(20,.op 1),(25,.op 6)]),(4,4,[(20,.op 1),(25,.op 6)])]⟩,⟨false,[(0,0,[(4,.tm)]),(1,1,[(4,.tm)]),(2,2,[(4,.tm)]),(3,3,[(4,.tm)]),(4,4,[(4,.tm)])]⟩,⟨false,[(0,0,[(27,.op 8)]),(1,1,[(27,.op 8)]),(2,2,[(27,.op 8)]),(3,3,[(27,.op 8)]),(4,4,[(27,.op 8)])]⟩,⟨false,[(0,0,[(2,.tm)]),(1,1,[(2,.tm)]),(2,2,[(2,.tm)]),(3,3,[(2,.tm)]),(4,4,[(2,.tm)])]⟩,⟨false,[(0,0,[(8,.tm)]),(1,1,[(8,.tm)]),(2,2,[(8,.tm)]),(3,3,[(8,.tm)]),(4,4,[(8,.tm)])]⟩,⟨false,[(0,0,[(29,.op 10),(30,.op 11)]),(1,1,[(29,.op 10),(30,.op 11)]),(2,2,[(29,.op 10),(30,.op 11)]),(3,3,[(29,.op 10),(30,.op 11)]),(4,4,[(29,.op 10),(30,.op 11)])]⟩,⟨false,[(0,0,[(31,.op 12)]),(1,1,[(31,.op 12)]),(2,2,[(31,.op 12)]),(3,3,[(31,.op 12)]),(4,4,[(31,.op 12)])]⟩,⟨false,[(0,0,[(32,.op 13)]),(1,1,[(32,.op 13)]),(2,2,[(32,.op 13)]),(3,3,[(32,.op 13)]),(4,4,[(32,.op 13)])]⟩,⟨false,[(0,0,[(28,.op 9),(33,.op 14)]),(1,1,[(28,.op 9),(33,.op 14)]),(2,2,[(28,.op 9),(33,.op 14)]),(3,3,[(28,.op 9),(33,.op 14)]),(4,4,[(28,.op 9),(33,.op 14)])]⟩,⟨true,[(0,1,[]),(2,4,[])]⟩,⟨true,[(0,2,[]),(1,3,[])]⟩] [[],[16],[17],[16,17],[17,16]] 3 4 (w1:=[none,none,none,none,none,none,none,none,none,none,none,none,none,none,none,none,some 1,some 3]) (w2:=[none,none,none,none,none,none,none,none,none,none,none,none,none,none,none,none,some 4,some 2]) (by kernel_rfl) (by kernel_rfl)
    ·rfl
    ·refine⟨⟨?_,?_,?_,?_,?_⟩,⟨?_,?_,?_,?_,?_⟩,⟨?_,?_,?_,?_,?_⟩,⟨?_,?_,?_,?_,?_⟩,⟨?_,?_,?_,?_,?_⟩,⟨?_,?_,?_,?_,?_⟩,⟨?_,?_,?_,?_,?_⟩,⟨?_,?_,?_,?_,?_⟩,⟨?_,?_,?_,?_,?_⟩,⟨?_,?_,?_,?_,?_⟩,⟨?_,?_,?_,?_,?_⟩,⟨?_,?_,?_,?_,?_⟩,⟨?_,?_,?_,?_,?_⟩,⟨?_,?_,?_,?_,?_⟩,⟨?_,?_,?_,?_,?_⟩,⟨?_,?_,?_,?_,?_⟩,⟨?_,?_⟩,⟨?_,?_⟩,trivial⟩;iterate 35 (· intro tm hr;simp[AllL,rdQ] at hr;simp[hr,Aa e7];intros;exact KA)
     ·intro tm hr;simp[AllL,rdQ] at hr;simp[hr,Aa e7];intros;refine Ab Ch (CH e8) rfl ⟨.same rfl,.same rfl,trivial⟩ ?_;try simp[Aa e7]
      intros;exact KA
     ·intro tm hr;simp[AllL,rdQ] at hr;simp[hr,Aa e7];intros;refine Ab Ch (CH e8) rfl ⟨.same rfl,.same rfl,trivial⟩ ?_;try simp[Aa e7]
      intros;exact KA
     ·intro tm hr;simp[AllL,rdQ] at hr;simp[hr,Aa e7];intros;refine Ab Ch (CH e8) rfl ⟨.same rfl,.same rfl,trivial⟩ ?_;try simp[Aa e7]
      intros;exact KA
     ·intro tm hr;simp[AllL,rdQ] at hr;simp[hr,Aa e7];intros;refine Ab Ch (CH e8) rfl ⟨.same rfl,.same rfl,trivial⟩ ?_;try simp[Aa e7]
      intros;exact KA
     ·intro tm hr;simp[AllL,rdQ] at hr;simp[hr,Aa e7];intros;refine Ab Ch (CH e8) rfl ⟨.same rfl,.same rfl,trivial⟩ ?_;try simp[Aa e7]
      intros;exact KA
     iterate 35 (· intro tm hr;simp[AllL,rdQ] at hr;simp[hr,Aa e7];intros;exact KA)
     ·intro tm hr;simp[AllL,rdQ] at hr;simp[hr,Aa e7];intros;refine Ab Ch (CH e9) rfl ⟨.same rfl,.same rfl,trivial⟩ ?_;try simp[Aa e7]
      intros;exact KA
     ·intro tm hr;simp[AllL,rdQ] at hr;simp[hr,Aa e7];intros;refine Ab Ch (CH e9) rfl ⟨.same rfl,.same rfl,trivial⟩ ?_;try simp[Aa e7]
      intros;exact KA
     ·intro tm hr;simp[AllL,rdQ] at hr;simp[hr,Aa e7];intros;refine Ab Ch (CH e9) rfl ⟨.same rfl,.same rfl,trivial⟩ ?_;try simp[Aa e7]
      intros;exact KA
     ·intro tm hr;simp[AllL,rdQ] at hr;simp[hr,Aa e7];intros;refine Ab Ch (CH e9) rfl ⟨.same rfl,.same rfl,trivial⟩ ?_;try simp[Aa e7]
      intros;exact KA
     ·intro tm hr;simp[AllL,rdQ] at hr;simp[hr,Aa e7];intros;refine Ab Ch (CH e9) rfl ⟨.same rfl,.same rfl,trivial⟩ ?_;try simp[Aa e7]
      intros;exact KA
     iterate 4 (· intro tm hr;simp[AllL,rdQ] at hr;simp[hr,Aa e7];intros;exact KA)
    ·rfl
    ·simp[tmD,putD,wof,Aa e7];rfl
    ·simp[Aa e7];intros;exact WM [0,1,2,3] hz
    ·simp[tmD,putD,wof,Aa e7];rfl
    ·simp[Aa e7];intros;exact WM [0,1,3,2] hz
    apply AW.seq;obtain⟨y10,g10,h⟩:=bnE h;refine zC (p:=fun gh ls=>(nP (cx:=cx) (fun q=>(⟨[(2,.l (dA a2)),(3,.l (.p 0 0)),(4,.l (.p 1 0)),(7,.l (iA y1.1)),(8,.l (iA y1.2)),(9,.l (.p 2 0)),(10,.l (.p 3 0)),(72,.l (bA q.1))],[some ⟨38,22,false,none,(cA0 a0)⟩,some ⟨38,22,false,none,(cA0 a1)⟩,some ⟨62,6,false,none,(cR0 q.2.1)⟩,some ⟨62,6,false,none,(cR0 q.2.2)⟩],126,gh,ls⟩:St))) y10) ?_ ?_
    ·replace h:=g10;clear g10
     obtain⟨v11,e11,h⟩:=ltE h;cases v11 with
     |true=>
      replace h:=iT h;obtain⟨v12,e12,h⟩:=ltE h;cases v12 with
      |true=>
       replace h:=iT h;apply zF (V:=[_,_,_,_,_,_,_,_,_,_,_,_,_,_,_,_,_,_,_,_,_,_,_,_,_,_,_,_,_,_,_,_,_,_]) mixed DY9t1 34 (by kernel_rfl) (by kernel_rfl)
       ·refine⟨?_,?_,?_,?_,?_,?_,?_,?_,?_,?_,?_,?_,?_,?_,?_,?_,?_,?_,?_,?_,?_,?_,?_,?_,?_,?_,?_,?_,?_,?_,?_,?_,?_,?_,trivial⟩;iterate 34 (· intro tm hr;simp[AllL,rdV] at hr;simp[hr,← e11,← e12];intros;exact KA)
       ·rfl
       ·simp[tmD,putD,← e11,← e12];rfl
       ·simp[← e11,← e12];intros;rfl
       obtain rfl:=oi h;exact nP_i (WM [0,1,2,3] hz)
      |false=>
       replace h:=iF h;obtain⟨v13,e13,h⟩:=ltE h;cases v13 with
       |true=>
        replace h:=iT h;try simp only[← e13] at e11
        cases h
       |false=>
        replace h:=iF h;try simp only[← e13] at e11
        obtain⟨v14,e14,h⟩:=ltE h;cases v14 with
        |true=>
         replace h:=iT h;try simp only[← e14] at e12
         obtain⟨v15,e15,v16,e16,h⟩:=obl h;apply zF (V:=[_,_,_,_,_,_,_,_,_,_,_,_,_,_,_,_,_,_,_,_,_,_,_,_,_,_,_,_,_,_,_,_,_,_]) mixed DY9t1 34 (by kernel_rfl) (by kernel_rfl)
         ·refine⟨?_,?_,?_,?_,?_,?_,?_,?_,?_,?_,?_,?_,?_,?_,?_,?_,?_,?_,?_,?_,?_,?_,?_,?_,?_,?_,?_,?_,?_,?_,?_,?_,?_,?_,trivial⟩;iterate 34 (· intro tm hr;simp[AllL,rdV] at hr;simp[hr,← e11,← e12,← e13,← e14,Aa e7,← e16];intros;exact KA)
         ·rfl
         ·simp[tmD,putD,← e11,← e12,← e13,← e14,Aa e7,← e16];rfl
         ·simp[← e11,← e12,← e13,← e14,Aa e7,← e16];intros;refine Ab B7 (Cr e15) rfl ⟨.same rfl,.same rfl,trivial⟩ ?_;try simp[← e11,← e12,← e13,← e14,Aa e7,← e16]
          intros;rfl
         obtain rfl:=oi h;exact nP_i (WM [0,1,2,3] hz)
        |false=>
         replace h:=iF h;try simp only[← e14] at e12
         cases h
     |false=>
      replace h:=iF h;obtain⟨v17,e17,h⟩:=ltE h;cases v17 with
      |true=>
       replace h:=iT h;try simp only[← e17] at e11
       obtain⟨v18,e18,v19,e19,h⟩:=obl h;cases v19 with
       |true=>
        replace h:=iT h;apply zF (V:=[_,_,_,_,_,_,_,_,_,_,_,_,_,_,_,_,_,_,_,_,_,_,_,_,_,_,_,_,_,_,_,_,_,_]) mixed DY9t1 34 (by kernel_rfl) (by kernel_rfl)
        ·refine⟨?_,?_,?_,?_,?_,?_,?_,?_,?_,?_,?_,?_,?_,?_,?_,?_,?_,?_,?_,?_,?_,?_,?_,?_,?_,?_,?_,?_,?_,?_,?_,?_,?_,?_,trivial⟩;iterate 19 (· intro tm hr;simp[AllL,rdV] at hr;simp[hr,← e11,← e17,Aa e7,← e19];intros;exact KA)
         ·intro tm hr;simp[AllL,rdV] at hr;simp[hr,← e11,← e17,Aa e7,← e19];intros;refine Ab B7 (Cr e18) rfl ⟨.same rfl,.same rfl,trivial⟩ ?_;try simp[← e11,← e17,Aa e7,← e19]
          intros;exact KA
         iterate 14 (· intro tm hr;simp[AllL,rdV] at hr;simp[hr,← e11,← e17,Aa e7,← e19];intros;exact KA)
        ·rfl
        ·simp[tmD,putD,← e11,← e17,Aa e7,← e19];rfl
        ·simp[← e11,← e17,Aa e7,← e19];intros;rfl
        obtain rfl:=oi h;exact nP_i (WM [0,1,2,3] hz)
       |false=>
        replace h:=iF h;obtain⟨v20,e20,h⟩:=ltE h;cases v20 with
        |true=>
         replace h:=iT h;obtain⟨v21,e21,v22,e22,h⟩:=obl h;apply zF (V:=[_,_,_,_,_,_,_,_,_,_,_,_,_,_,_,_,_,_,_,_,_,_,_,_,_,_,_,_,_,_,_,_,_,_]) mixed DY9t1 34 (by kernel_rfl) (by kernel_rfl)
         ·refine⟨?_,?_,?_,?_,?_,?_,?_,?_,?_,?_,?_,?_,?_,?_,?_,?_,?_,?_,?_,?_,?_,?_,?_,?_,?_,?_,?_,?_,?_,?_,?_,?_,?_,?_,trivial⟩;iterate 19 (· intro tm hr;simp[AllL,rdV] at hr;simp[hr,← e11,← e17,Aa e7,← e19,← e20,← e22];intros;exact KA)
          ·intro tm hr;simp[AllL,rdV] at hr;simp[hr,← e11,← e17,Aa e7,← e19,← e20,← e22];intros;refine Ab B7 (Cr e18) rfl ⟨.same rfl,.same rfl,trivial⟩ ?_;try simp[← e11,← e17,Aa e7,← e19,← e20,← e22]
           intros;exact KA
          iterate 14 (· intro tm hr;simp[AllL,rdV] at hr;simp[hr,← e11,← e17,Aa e7,← e19,← e20,← e22];intros;exact KA)
         ·rfl
         ·simp[tmD,putD,← e11,← e17,Aa e7,← e19,← e20,← e22];rfl
         ·simp[← e11,← e17,Aa e7,← e19,← e20,← e22];intros;refine Ab B7 (Cr e21) rfl ⟨.same rfl,.same rfl,trivial⟩ ?_;try simp[← e11,← e17,Aa e7,← e19,← e20,← e22]
          intros;rfl
         obtain rfl:=oi h;exact nP_i (WM [0,1,2,3] hz)
        |false=>
         replace h:=iF h;apply zF (V:=[_,_,_,_,_,_,_,_,_,_,_,_,_,_,_,_,_,_,_,_,_,_,_,_,_,_,_,_,_,_,_,_,_,_]) mixed DY9t1 34 (by kernel_rfl) (by kernel_rfl)
         ·refine⟨?_,?_,?_,?_,?_,?_,?_,?_,?_,?_,?_,?_,?_,?_,?_,?_,?_,?_,?_,?_,?_,?_,?_,?_,?_,?_,?_,?_,?_,?_,?_,?_,?_,?_,trivial⟩;iterate 19 (· intro tm hr;simp[AllL,rdV] at hr;simp[hr,← e11,← e17,Aa e7,← e19,← e20];intros;exact KA)
          ·intro tm hr;simp[AllL,rdV] at hr;simp[hr,← e11,← e17,Aa e7,← e19,← e20];intros;refine Ab B7 (Cr e18) rfl ⟨.same rfl,.same rfl,trivial⟩ ?_;try simp[← e11,← e17,Aa e7,← e19,← e20]
           intros;exact KA
          iterate 14 (· intro tm hr;simp[AllL,rdV] at hr;simp[hr,← e11,← e17,Aa e7,← e19,← e20];intros;exact KA)
         ·rfl
         ·simp[tmD,putD,← e11,← e17,Aa e7,← e19,← e20];rfl
         ·simp[← e11,← e17,Aa e7,← e19,← e20];intros;rfl
         obtain rfl:=oi h;exact nP_i (WM [0,1,2,3] hz)
      |false=>
       replace h:=iF h;try simp only[← e17] at e11
       cases h
    ·rintro e s⟨rfl,hw⟩;refine⟨_,hw,?_⟩;try simp only[nm]
     obtain⟨v23,e23,h⟩:=ltE h;rw[← e23];cases v23 with
     |true=>
      replace h:=iT h;refine CT ?_;refine ST ?_;obtain rfl:=oi h;apply AW.ret;try simp only[nm]
      refine rP_i ?_;exact LP hz
     |false=>
      replace h:=iF h;refine CF ?_;apply AW.skip;try simp only[nm]
      obtain⟨y24,g24,h⟩:=bnE h;refine zC (p:=fun gh ls=>(nP (cx:=cx) (fun q=>(⟨[(2,.l (dA a2)),(3,.l (.p 0 0)),(4,.l (.p 1 0)),(7,.l (iA y1.1)),(8,.l (iA y1.2)),(78,.l (bA q))],[some ⟨38,22,false,none,(cA0 a0)⟩,some ⟨38,22,false,none,(cA0 a1)⟩],126,gh,ls⟩:St))) y24) ?_ ?_
      ·replace h:=g24;clear g24
       obtain⟨v25,e25,h⟩:=ltE h;cases v25 with
       |true=>
        replace h:=iT h;refine AW.last (by simp[← e25];intros;rfl) ?_;obtain rfl:=oi h;exact nP_i (WM [0,1] hz)
       |false=>
        replace h:=iF h;refine AW.last (by simp[← e25];intros;rfl) ?_;obtain rfl:=oi h;exact nP_i (WM [0,1] hz)
      ·rintro e s⟨rfl,hw⟩;refine⟨_,hw,?_⟩;try simp only[nm]
       obtain⟨v26,e26,h⟩:=ltE h;rw[← e26];cases v26 with
       |true=>
        replace h:=iT h;refine CT ?_;refine ST ?_;apply AW.seq;refine ST ?_;apply AW.block;obtain⟨y28,g28,h⟩:=bnE h;refine zD g28 (mk:=fun gh ls q=>(⟨[(2,.l (dA a2)),(3,.l (.p 0 0)),(4,.l (.p 1 0)),(7,.l (iA y1.1)),(8,.l (iA y1.2)),(11,.l (bA q.1)),(12,.l (iA q.2))],[some ⟨38,22,false,none,(cA0 a0)⟩,some ⟨38,22,false,none,(cA0 a1)⟩],126,gh,ls⟩:St)) (N:=fun gh ls=>(xP 2 (cx:=cx) (fun q=>(⟨[(2,.l (dA a2)),(3,.l (.p 0 0)),(4,.l (.p 1 0)),(7,.l (iA y1.1)),(8,.l (iA y1.2)),(11,.l (bA q))],[some ⟨38,22,false,none,(cA0 a0)⟩,some ⟨38,22,false,none,(cA0 a1)⟩],126,gh,ls⟩:St)))) ?_ noX ?_ ?_
        ·exact WM [0,1] hz
        ·clear h;intro y27 y29 h
         apply AW.seq;obtain⟨v30,e30,v31,e31,h⟩:=oll h;refine AW.step (by simp[Ad e30,← e31];intros;rfl) ?_;cases v31 with
         |true=>
          replace h:=iT h;refine CT ?_;apply AW.skip;try simp only[nm]
          apply AW.seq;apply AW.block;obtain⟨v32,e32,h⟩:=ltE h;cases v32 with
          |true=>
           replace h:=iT h;apply zF (V:=[_,_,_,_,_,_,_,_,_,_,_,_,_,_,_,_,_,_,_,_,_]) mixed DY9t2 21 (by kernel_rfl) (by kernel_rfl)
           ·refine⟨?_,?_,?_,?_,?_,?_,?_,?_,?_,?_,?_,?_,?_,?_,?_,?_,?_,?_,?_,?_,?_,trivial⟩;iterate 21 (· intro tm hr;simp[AllL,rdV] at hr;simp[hr,← e32];intros;exact KA)
           ·rfl
           ·simp[tmD,putD,← e32];rfl
           ·simp[← e32];intros;rfl
           try simp only[nm]
           obtain⟨v33,e33,h⟩:=ltE h;refine AW.last (by simp[← e33];intros;rfl) ?_;obtain rfl:=oi h;exact nP_i (WM [0,1] hz)
          |false=>
           replace h:=iF h;obtain⟨v34,e34,v35,e35,h⟩:=obl h;cases v35 with
           |true=>
            replace h:=iT h;obtain⟨v36,e36,v37,e37,h⟩:=obl h;apply zF (V:=[_,_,_,_,_,_,_,_,_,_,_,_,_,_,_,_,_,_,_,_,_]) mixed DY9t2 21 (by kernel_rfl) (by kernel_rfl)
            ·refine⟨?_,?_,?_,?_,?_,?_,?_,?_,?_,?_,?_,?_,?_,?_,?_,?_,?_,?_,?_,?_,?_,trivial⟩;iterate 21 (· intro tm hr;simp[AllL,rdV] at hr;simp[hr,← e32,Aa e34,← e35,Aa e36,← e37];intros;exact KA)
            ·rfl
            ·simp[tmD,putD,← e32,Aa e34,← e35,Aa e36,← e37];rfl
            ·simp[← e32,Aa e34,← e35,Aa e36,← e37];intros;rfl
            try simp only[nm]
            obtain⟨v38,e38,h⟩:=ltE h;refine AW.last (by simp[← e38];intros;rfl) ?_;obtain rfl:=oi h;exact nP_i (WM [0,1] hz)
           |false=>
            replace h:=iF h;apply zF (V:=[_,_,_,_,_,_,_,_,_,_,_,_,_,_,_,_,_,_,_,_,_]) mixed DY9t2 21 (by kernel_rfl) (by kernel_rfl)
            ·refine⟨?_,?_,?_,?_,?_,?_,?_,?_,?_,?_,?_,?_,?_,?_,?_,?_,?_,?_,?_,?_,?_,trivial⟩;iterate 21 (· intro tm hr;simp[AllL,rdV] at hr;simp[hr,← e32,Aa e34,← e35];intros;exact KA)
            ·rfl
            ·simp[tmD,putD,← e32,Aa e34,← e35];rfl
            ·simp[← e32,Aa e34,← e35];intros;rfl
            try simp only[nm]
            obtain⟨v39,e39,h⟩:=ltE h;refine AW.last (by simp[← e39];intros;rfl) ?_;obtain rfl:=oi h;exact nP_i (WM [0,1] hz)
         |false=>
          replace h:=iF h;refine CF ?_;apply AW.exit;try simp only[nm]
          obtain rfl:=oi h;refine xP_i ?_;exact WM [0,1] hz
        ·rintro e s⟨rfl,hw⟩;refine⟨_,hw,?_⟩;try simp only[nm]
         apply AW.seq;obtain⟨v40,e40,h⟩:=ltE h;refine AW.step (by simp[← e40];intros;rfl) ?_;cases v40 with
         |true=>
          replace h:=iT h;refine CT ?_;refine ST ?_;obtain rfl:=oi h;apply AW.ret;try simp only[nm]
          refine rP_i ?_;exact LP hz
         |false=>
          replace h:=iF h;refine CF ?_;apply AW.skip;try simp only[nm]
          obtain⟨v41,e41,h⟩:=ltE h;refine AW.last (by simp[← e41];intros;rfl) ?_;obtain rfl:=oi h;try simp only[sp_l,sp_r]
          exact nP_i (WM [0,1] hz)
       |false=>
        replace h:=iF h;refine CF ?_;apply AW.skip;try simp only[nm]
        obtain rfl:=oi h;try simp only[sp_l,sp_r]
        exact nP_i (WM [0,1] hz)
   ·rintro e s hp;rcases y6 with y42|y43
    ·replace h:=smL h;obtain⟨rfl,hw⟩:=hp;refine⟨_,hw,?_⟩;try simp only[nm]
     obtain⟨v44,e44,h⟩:=ltE h;refine AW.last (by simp[← e44];intros;rfl) ?_;obtain rfl:=oi h;exact nP_i (WM [0,1] hz)
    ·replace h:=smR h;obtain⟨rfl,hl⟩:=hp;refine⟨_,Weak.refl _,?_⟩;obtain rfl:=oi h;first|exact rP_i hl|(simp only[sp_l,sp_r];exact rP_i hl)|(simp only[sp_l,sp_r,Post.seq,Post.block,Nat.reduceEqDiff,reduceIte,Nat.zero_ne_one,Nat.one_ne_zero];exact rP_i hl)
  |false=>
   replace h:=iF h;refine CF ?_;apply AW.exit;try simp only[nm]
   obtain rfl:=oi h;try simp only[sp_l,sp_r]
   refine xP_i ?_;exact WM [0,1] hz
 ·rintro e s hp;rcases y2 with y45|y46
  ·replace h:=smL h;obtain⟨rfl,hw⟩:=hp;refine⟨_,hw,?_⟩;try simp only[nm]
   obtain⟨v47,e47,v48,e48,v49,e49,h⟩:=olll h;obtain⟨v50,e50,v51,e51,v52,e52,h⟩:=olll h;refine AW.step (by simp[Ad e47,Ad e48,← e49,Ad e50,← e51,← e52];intros;rfl) ?_;obtain rfl:=oi h;apply AW.ret;exact LP hz
  ·replace h:=smR h;obtain⟨rfl,hl⟩:=hp;refine⟨_,Weak.refl _,?_⟩;obtain rfl:=oi h;exact hl
theorem KT:Enters Tryz.prog 25:=enters Tryz.func25 (by kernel_rfl) rfl
def D1 (n:Nat) (a0:List Int) (a1:List Int) (a2:List Int):Option Bool :=
bn (lt (lenI a0) fun v2 =>
lt (gtI v2 100) fun v3 =>
ite' v3 (some (true)) (lt (lenI a1) fun v4 =>
lt (gtI v4 6) fun v5 =>
ite' v5 (some (true)) (lt (lenI a2) fun v6 =>
lt (gtI v6 80) fun v7 =>
some (v7)))) fun (y1:Bool) =>
lt (y1) fun v8 =>
ite' v8 (bn (Ec n) fun v9 =>
some v9) (bn (Dc n 0 a0) fun v10 =>
bn (Dc n 1 []) fun v11 =>
bn (iter n (fun (y12:Int×Node) =>
lt (lenI a1) fun v15 =>
lt (ltI y12.1 v15) fun v16 =>
ite' v16 (bn (nth a1 y12.1) fun v17 =>
bn (Bb n v17) fun v18 =>
bn (Cc n v18) fun v19 =>
bn (Dq n y12.2 v19 1) fun v20 =>
bn (Bb n v17) fun v21 =>
bn (Cc n v21) fun v22 =>
bn (Cq n y12.2 v22 1) fun v23 =>
bn (bn (By n v23.1 v20.n) fun v25 =>
lt (notB v25) fun v26 =>
ite' v26 (some (true)) (bn (GU n v23.2) fun v27 =>
lt (neI v27 v20.e) fun v28 =>
some (v28))) fun (y24:Bool) =>
lt (y24) fun v29 =>
ite' v29 (some (.inr (.inr false))) (lt (addI .i64 y12.1 1) fun v30 =>
some (.inl (v30,v23.1)))) (some (.inr (.inl y12.2)))) (0,v10)) fun (y13:Node ⊕ Bool) =>
sm y13 (fun y31=>bn (iter n (fun (y33:Int×Node×Node×List Msg) =>
lt (lenI a2) fun v36 =>
lt (ltI y33.1 v36) fun v37 =>
ite' v37 (bn (bn (bn (nth a2 y33.1) fun v40 =>
bn (remI .u8 v40 3) fun v41 =>
lt (eqI v41 0) fun v42 =>
ite' v42 (some (true)) (lt (lenI y33.2.2.2) fun v43 =>
lt (eqI v43 0) fun v44 =>
some (v44))) fun (y39:Bool) =>
lt (y39) fun v45 =>
ite' v45 (bn (DV n y33.2.1) fun v46 =>
bn (CJ n y33.2.1) fun v47 =>
bn (bn (By n v47.1 v46.n) fun v49 =>
lt (notB v49) fun v50 =>
ite' v50 (some (true)) (bn (Co n v47.2 v46.l) fun v51 =>
lt (notB v51) fun v52 =>
some (v52))) fun (y48:Bool) =>
lt (y48) fun v53 =>
ite' v53 (some (.inr false)) (chk (room (y33.2.2.2.length+v47.2.length) 168) <|
lt (y33.2.2.2++v47.2) fun v55 =>
some (.inl (v47.1,y33.2.2.1,v55)))) (bn (nth a2 y33.1) fun v56 =>
lt (cvI .i64 v56) fun v57 =>
bn (quoI .i64 v57 3) fun v58 =>
lt (lenI y33.2.2.2) fun v59 =>
bn (remI .i64 v58 v59) fun v60 =>
bn (nth y33.2.2.2 v60) fun v61 =>
lt (eqI v61.kind 2) fun v63 =>
ite' v63 (bn (DW n y33.2.2.1 v61) fun v64 =>
bn (Do n y33.2.2.1 v61) fun v65 =>
bn (bn (By n v65.1 v64.n) fun v67 =>
lt (notB v67) fun v68 =>
ite' v68 (some (true)) (bn (Co n v65.2 v64.l) fun v69 =>
lt (notB v69) fun v70 =>
some (v70))) fun (y66:Bool) =>
lt (y66) fun v71 =>
ite' v71 (some (.inr false)) (chk (room (y33.2.2.2.length+v65.2.length) 168) <|
lt (y33.2.2.2++v65.2) fun v73 =>
some (.inl (y33.2.1,v65.1,v73)))) (bn (BW n y33.2.1 v61) fun v74 =>
bn (Ck n y33.2.1 v61) fun v75 =>
bn (By n v74 v75) fun v76 =>
lt (notB v76) fun v77 =>
ite' v77 (some (.inr false)) (some (.inl (v74,y33.2.2.1,y33.2.2.2)))))) fun (y38:(Node×Node×List Msg) ⊕ Bool) =>
sm y38 (fun y78=>bn (CC n y78.1 y78.2.1 y31.db) fun v80 =>
lt (notB v80) fun v81 =>
ite' v81 (some (.inr (.inr false))) (lt (addI .i64 y33.1 1) fun v82 =>
some (.inl (v82,y78.1,y78.2.1,y78.2.2)))) (fun y79=>some (.inr (.inr y79)))) (some (.inr (.inl ())))) (0,y31,(⟨v11.count,v11.id,v11.master,v11.epoch,v11.voted,v10.claims,v11.db,v11.moves,v11.last,v11.seen,v11.feed,v11.watch,v11.asked,v11.votes,v11.wait⟩:Node),[])) fun (y34:Unit ⊕ Bool) =>
sm y34 (fun y83=>bn (Ec n) fun v85 =>
some v85) (fun y84=>some y84)) (fun y32=>some y32))
def DY9t3:List DI:=[⟨[0],[],[(11,none)],false⟩,⟨[0],[],[(10,none)],false⟩,⟨[0],[1],[(70,some 1)],false⟩,⟨[0],[0,1,2],[(69,some 0),(71,some 2)],false⟩,⟨[0],[0,1,2,3],[(72,some 3)],false⟩,⟨[0],[0,1,2,3,4],[(73,some 4)],false⟩,⟨[0],[0,1,2,3,4,5],[(12,none),(74,some 5)],false⟩,⟨[0],[0,1,2,3,4,5,6],[(74,some 5),(75,some 6)],false⟩,⟨[0],[0,1,2,3,4,5],[(10,none),(74,some 5)],false⟩,⟨[0],[0,1,2,3,4,5,8],[(74,some 5),(77,some 8)],false⟩,⟨[],[0,1,2,3,4,5,6,7,8,9],[],false⟩,⟨[],[0,1,2,3,4,5,6,7,8,9,10],[],false⟩]
theorem KV {n:Nat} {a0:List Int} {a1:List Int} {a2:List Int} {r:Bool} (h:D1 n a0 a1 a2=some r):Sound Tryz.prog 5 [.l (dF a0),.l (dF a1),.l (dF a2)] [] (.l (bA r)) []:=by
 unfold D1 at h;refine SO 181 Tryz.func5 fun cx hG (hz:cx.nb=0)=>?_;simp only[it];refine ST ?_;apply AW.seq;obtain⟨y1,g1,h⟩:=bnE h;refine zC (p:=fun gh ls=>(nP (cx:=cx) (fun q=>(⟨[(0,.l (dF a0)),(1,.l (dF a1)),(2,.l (dF a2)),(36,.l (bA q))],[],181,gh,ls⟩:St))) y1) ?_ ?_
 ·replace h:=g1;clear g1
  obtain⟨v2,e2,v3,e3,h⟩:=oll h;cases v3 with
  |true=>
   replace h:=iT h;refine AW.last (by simp[Ad e2,← e3];intros;rfl) ?_;obtain rfl:=oi h;exact nP_i (WM [] hz)
  |false=>
   replace h:=iF h;obtain⟨v4,e4,v5,e5,h⟩:=oll h;cases v5 with
   |true=>
    replace h:=iT h;refine AW.last (by simp[Ad e2,← e3,Ad e4,← e5];intros;rfl) ?_;obtain rfl:=oi h;exact nP_i (WM [] hz)
   |false=>
    replace h:=iF h;obtain⟨v6,e6,v7,e7,h⟩:=oll h;refine AW.last (by simp[Ad e2,← e3,Ad e4,← e5,Ad e6,← e7];intros;rfl) ?_;obtain rfl:=oi h;exact nP_i (WM [] hz)
 ·rintro e s⟨rfl,hw⟩;refine⟨_,hw,?_⟩;try simp only[nm]
  obtain⟨v8,e8,h⟩:=ltE h;rw[← e8];cases v8 with
  |true=>
   replace h:=iT h;refine CT ?_;obtain⟨v9,e9,h⟩:=bnE h;apply AW.step
   ·simp;intros;refine Ab It (Ja e9) rfl trivial ?_;try simp
    intros;rfl
   obtain rfl:=oi h;apply AW.ret;exact LP hz
  |false=>
   replace h:=iF h;refine CF ?_;apply AW.skip;try simp only[nm]
   obtain⟨v10,e10,h⟩:=bnE h;obtain⟨v11,e11,h⟩:=bnE h;apply AW.step
   ·simp;intros;refine Ab G5 (HH e10) rfl ⟨.same rfl,.same rfl,trivial⟩ ?_;try simp
    intros;refine Ab G5 (HH e11) rfl ⟨.same rfl,.nil _ _,trivial⟩ ?_;try simp
    intros;rfl
   refine ST ?_;apply AW.seq;refine ST ?_;apply AW.block;obtain⟨y13,g13,h⟩:=bnE h;refine zD g13 (mk:=fun gh ls q=>(⟨[(1,.l (dF a1)),(2,.l (dF a2)),(7,.l (.p 0 0)),(8,.l (.p 1 0)),(9,.l (iA q.1))],[some ⟨38,22,false,none,(cA0 q.2)⟩,some ⟨38,22,false,none,(cF0 v11 (dB v10.claims))⟩],181,gh,ls⟩:St)) (N:=fun gh ls=>(sp (xP 0 (cx:=cx) (fun q=>(⟨[(2,.l (dF a2)),(7,.l (.p 0 0)),(8,.l (.p 1 0))],[some ⟨38,22,false,none,(cA0 q)⟩,some ⟨38,22,false,none,(cF0 v11 (dB v10.claims))⟩],181,gh,ls⟩:St))) (rP (cx:=cx) (P:=Tryz.prog) Tryz.f5 (fun q=>.l (bA q)) (fun q=>[])))) ?_ (noS noX noR) ?_ ?_
   ·exact WM [0,1] hz
   ·clear h;intro y12 y14 h
    apply AW.seq;obtain⟨v15,e15,v16,e16,h⟩:=oll h;refine AW.step (by simp[Ad e15,← e16];intros;rfl) ?_;cases v16 with
    |true=>
     replace h:=iT h;refine CT ?_;apply AW.skip;try simp only[nm]
     apply AW.seq;apply AW.block;obtain⟨v17,e17,h⟩:=bnE h;obtain⟨v18,e18,h⟩:=bnE h;obtain⟨v19,e19,h⟩:=bnE h;obtain⟨v20,e20,h⟩:=bnE h;apply zM (V:=[_,_,_,_,_,_,_,_,_]) (M:=[[some ⟨38,22,false,none,(cA0 y12.2)⟩,some ⟨38,22,false,none,(cF0 v11 (dB v10.claims))⟩],[some ⟨38,22,false,none,(cA0 y12.2)⟩,some ⟨38,22,false,none,(cF0 v11 (dB v10.claims))⟩,some ⟨67,24,false,none,cD0⟩]]) mixed [⟨[0,1],[],[(7,none)],false⟩,⟨[0,1],[],[(1,none)],false⟩,⟨[0,1],[],[(9,none)],false⟩,⟨[0,1],[1,2],[(51,some 1),(52,some 2)],false⟩,⟨[0,1],[1,2,3],[(53,some 3)],false⟩,⟨[0,1],[1,2,3,4],[(54,some 4)],false⟩,⟨[0,1],[1,2,3,4,5],[(55,some 5)],false⟩,⟨[0,1],[0,1,2,3,4,5,6],[(50,some 0),(56,some 6)],false⟩,⟨[0],[],[],true⟩,⟨[],[0,1,2,3,4,5,6,7,8],[],false⟩] 9 1 (by kernel_rfl) (by kernel_rfl)
     ·rfl
     ·refine⟨⟨?_,?_⟩,⟨?_,?_⟩,⟨?_,?_⟩,⟨?_,?_⟩,⟨?_,?_⟩,⟨?_,?_⟩,⟨?_,?_⟩,⟨?_,?_⟩,?_,trivial⟩;iterate 10 (· intro tm hr;simp[AllL,rdV] at hr;simp[hr,Aa e17];intros;exact KA)
      ·intro tm hr;simp[AllL,rdV] at hr;simp[hr,Aa e17];intros;refine Ab Eo (Fa e18) rfl ⟨.same rfl,trivial⟩ ?_;try simp[Aa e17]
       intros;exact KA
      ·intro tm hr;simp[AllL,rdV] at hr;simp[hr,Aa e17];intros;refine Ab Eo (Fa e18) rfl ⟨.same rfl,trivial⟩ ?_;try simp[Aa e17]
       intros;exact KA
      ·intro tm hr;simp[AllL,rdV] at hr;simp[hr,Aa e17];intros;refine Ab Em (E9 e19) rfl ⟨.same rfl,trivial⟩ ?_;try simp[Aa e17]
       intros;exact KA
      ·intro tm hr;simp[AllL,rdV] at hr;simp[hr,Aa e17];intros;refine Ab Em (E9 e19) rfl ⟨.same rfl,trivial⟩ ?_;try simp[Aa e17]
       intros;exact KA
      ·intro tm hr;simp[AllL,rdV] at hr;simp[hr,Aa e17];intros;refine Ab Ix (Jd e20) rfl ⟨.same rfl,.same rfl,.same rfl,trivial⟩ ?_;try simp[Aa e17]
       intros;exact KA
      ·intro tm hr;simp[AllL,rdV] at hr;simp[hr,Aa e17];intros;refine Ab Ix (Jd e20) rfl ⟨.same rfl,.same rfl,.same rfl,trivial⟩ ?_;try simp[Aa e17]
       intros;exact KA
      ·intro tm hr;simp[AllL,rdV] at hr;simp[hr,Aa e17];intros;exact KA
     ·rfl
     ·simp[tmD,putD,Aa e17];rfl
     ·simp[Aa e17];intros;rfl
     obtain⟨v21,e21,h⟩:=bnE h;obtain⟨v22,e22,h⟩:=bnE h;obtain⟨v23,e23,h⟩:=bnE h;apply zM (V:=[_,_,_,_,_,_,_,_,_,_,_,_,_]) (M:=[[some ⟨38,22,false,none,(cA0 y12.2)⟩,some ⟨38,22,false,none,(cF0 v11 (dB v10.claims))⟩,some ⟨67,24,false,none,(cG0 v20)⟩],[some ⟨38,22,false,none,(cA0 y12.2)⟩,some ⟨38,22,false,none,(cF0 v11 (dB v10.claims))⟩,some ⟨67,24,false,none,(cG0 v20)⟩,some ⟨38,22,false,none,cB0⟩],[some ⟨38,22,false,none,(cA0 y12.2)⟩,some ⟨38,22,false,none,(cF0 v11 (dB v10.claims))⟩,some ⟨67,24,false,none,(cG0 v20)⟩,some ⟨38,22,false,none,(cA0 v23.1)⟩]]) mixed [⟨[0,1],[],[(7,none)],false⟩,⟨[0,1],[],[(1,none)],false⟩,⟨[0,1],[],[(9,none)],false⟩,⟨[0,1],[1,2],[(60,some 1),(61,some 2)],false⟩,⟨[0,1],[1,2,3],[(62,some 3)],false⟩,⟨[0,1],[1,2,3,4],[(63,some 4)],false⟩,⟨[0,1],[1,2,3,4,5],[(64,some 5)],false⟩,⟨[0,1],[0,1,2,3,4,5,6],[(59,some 0),(65,some 6)],false⟩,⟨[0,1],[0,1,2,3,4,5,6,7],[(66,some 7)],false⟩,⟨[0,1],[0,1,2,3,4,5,6,7,8],[(58,some 8)],false⟩,⟨[0,1,2],[0,1,2,3,4,5,6,7,8],[(58,some 8)],false⟩,⟨[0],[],[],true⟩,⟨[1],[0,1,2,3,4,5,6,7,8,9,11],[(11,some 11),(67,some 9)],true⟩,⟨[],[0,1,2,3,4,5,6,7,8,9,10,11,12],[],false⟩] 13 2 (by kernel_rfl) (by kernel_rfl)
     ·rfl
     ·refine⟨⟨?_,?_⟩,⟨?_,?_⟩,⟨?_,?_⟩,⟨?_,?_⟩,⟨?_,?_⟩,⟨?_,?_⟩,⟨?_,?_⟩,⟨?_,?_⟩,⟨?_,?_⟩,⟨?_,?_⟩,⟨?_,?_,?_⟩,?_,?_,trivial⟩;iterate 10 (· intro tm hr;simp[AllL,rdV] at hr;simp[hr,Aa e17];intros;exact KA)
      ·intro tm hr;simp[AllL,rdV] at hr;simp[hr,Aa e17];intros;refine Ab Eo (Fa e21) rfl ⟨.same rfl,trivial⟩ ?_;try simp[Aa e17]
       intros;exact KA
      ·intro tm hr;simp[AllL,rdV] at hr;simp[hr,Aa e17];intros;refine Ab Eo (Fa e21) rfl ⟨.same rfl,trivial⟩ ?_;try simp[Aa e17]
       intros;exact KA
      ·intro tm hr;simp[AllL,rdV] at hr;simp[hr,Aa e17];intros;refine Ab Em (E9 e22) rfl ⟨.same rfl,trivial⟩ ?_;try simp[Aa e17]
       intros;exact KA
      ·intro tm hr;simp[AllL,rdV] at hr;simp[hr,Aa e17];intros;refine Ab Em (E9 e22) rfl ⟨.same rfl,trivial⟩ ?_;try simp[Aa e17]
       intros;exact KA
      ·intro tm hr;simp[AllL,rdV] at hr;simp[hr,Aa e17];intros;refine Ab F9 (GD e23) rfl ⟨.same rfl,.same rfl,.same rfl,trivial⟩ ?_;try simp[Aa e17]
       intros;exact KA
      ·intro tm hr;simp[AllL,rdV] at hr;simp[hr,Aa e17];intros;refine Ab F9 (GD e23) rfl ⟨.same rfl,.same rfl,.same rfl,trivial⟩ ?_;try simp[Aa e17]
       intros;exact KA
      iterate 9 (· intro tm hr;simp[AllL,rdV] at hr;simp[hr,Aa e17];intros;exact KA)
     ·rfl
     ·simp[tmD,putD,Aa e17];rfl
     ·simp[Aa e17];intros;rfl
     apply AW.seq;obtain⟨y24,g24,h⟩:=bnE h;refine zC (p:=fun gh ls=>(nP (cx:=cx) (fun q=>(⟨[(1,.l (dF a1)),(2,.l (dF a2)),(7,.l (.p 0 0)),(8,.l (.p 1 0)),(9,.l (iA y12.1)),(11,.l (.p 2 0)),(80,.l (bA q))],[some ⟨38,22,false,none,(cA0 y12.2)⟩,some ⟨38,22,false,none,(cF0 v11 (dB v10.claims))⟩,some ⟨38,22,false,none,(cA0 v23.1)⟩],181,gh,ls⟩:St))) y24) ?_ ?_
     ·replace h:=g24;clear g24
      obtain⟨v25,e25,v26,e26,h⟩:=obl h;cases v26 with
      |true=>
       replace h:=iT h;apply zF (V:=[_,_,_,_,_,_,_,_,_,_]) mixed DY9t3 10 (by kernel_rfl) (by kernel_rfl)
       ·refine⟨?_,?_,?_,?_,?_,?_,?_,?_,?_,?_,trivial⟩;iterate 3 (· intro tm hr;simp[AllL,rdV] at hr;simp[hr,← e26];intros;exact KA)
        ·intro tm hr;simp[AllL,rdV] at hr;simp[hr,← e26];intros;refine Ab BQ (B8 e25) rfl ⟨.same rfl,.same rfl,trivial⟩ ?_;try simp[← e26]
         intros;exact KA
        iterate 6 (· intro tm hr;simp[AllL,rdV] at hr;simp[hr,← e26];intros;exact KA)
       ·rfl
       ·simp[tmD,putD,← e26];rfl
       ·simp[← e26];intros;rfl
       obtain rfl:=oi h;exact nP_i (WM [0,1,3] hz)
      |false=>
       replace h:=iF h;obtain⟨v27,e27,v28,e28,h⟩:=obl h;apply zF (V:=[_,_,_,_,_,_,_,_,_,_]) mixed DY9t3 10 (by kernel_rfl) (by kernel_rfl)
       ·refine⟨?_,?_,?_,?_,?_,?_,?_,?_,?_,?_,trivial⟩;iterate 3 (· intro tm hr;simp[AllL,rdV] at hr;simp[hr,← e26,← e28];intros;exact KA)
        ·intro tm hr;simp[AllL,rdV] at hr;simp[hr,← e26,← e28];intros;refine Ab BQ (B8 e25) rfl ⟨.same rfl,.same rfl,trivial⟩ ?_;try simp[← e26,← e28]
         intros;exact KA
        iterate 3 (· intro tm hr;simp[AllL,rdV] at hr;simp[hr,← e26,← e28];intros;exact KA)
        ·intro tm hr;simp[AllL,rdV] at hr;simp[hr,← e26,← e28];intros;refine Ab Is (Jy e27) rfl ⟨.same rfl,trivial⟩ ?_;try simp[← e26,← e28]
         intros;exact KA
        iterate 2 (· intro tm hr;simp[AllL,rdV] at hr;simp[hr,← e26,← e28];intros;exact KA)
       ·rfl
       ·simp[tmD,putD,← e26,← e28];rfl
       ·simp[← e26,← e28];intros;rfl
       obtain rfl:=oi h;exact nP_i (WM [0,1,3] hz)
     ·rintro e s⟨rfl,hw⟩;refine⟨_,hw,?_⟩;try simp only[nm]
      obtain⟨v29,e29,h⟩:=ltE h;rw[← e29];cases v29 with
      |true=>
       replace h:=iT h;refine CT ?_;refine ST ?_;obtain rfl:=oi h;apply AW.ret;try simp only[nm]
       refine rP_i ?_;exact LP hz
      |false=>
       replace h:=iF h;refine CF ?_;apply AW.skip;try simp only[nm]
       refine SL ?_;try simp only[nm]
       obtain⟨v30,e30,h⟩:=ltE h;refine AW.last (by simp[← e30];intros;rfl) ?_;obtain rfl:=oi h;exact nP_i (WM [0,1] hz)
    |false=>
     replace h:=iF h;refine CF ?_;apply AW.exit;try simp only[nm]
     obtain rfl:=oi h;try simp only[sp_l,sp_r]
     refine xP_i ?_;exact WM [0,1] hz
   ·rintro e s hp;rcases y13 with y31|y32
    ·replace h:=smL h;obtain⟨rfl,hw⟩:=hp;refine⟨_,hw,?_⟩;try simp only[nm]
     refine ST ?_;refine ST ?_;apply AW.seq;refine ST ?_;apply AW.block;obtain⟨y34,g34,h⟩:=bnE h;refine zD g34 (mk:=fun gh ls q=>(⟨[(2,.l (dF a2)),(7,.l (.p 0 0)),(8,.l (.p 1 0)),(13,.l (dA y31.db)),(14,.l (.r 2 15 0 q.2.2.2.length)),(15,.l (iA q.1))],[some ⟨38,22,false,none,(cA0 q.2.1)⟩,some ⟨38,22,false,none,(cA0 q.2.2.1)⟩,some ⟨49,15,true,none,lvs (AA q.2.2.2)⟩],181,gh,ls⟩:St)) (N:=fun gh ls=>(sp (xP 2 (cx:=cx) (fun _=>(⟨[],[],181,gh,ls⟩:St))) (rP (cx:=cx) (P:=Tryz.prog) Tryz.f5 (fun q=>.l (bA q)) (fun q=>[])))) ?_ (noS noX noR) ?_ ?_
     ·refine W.nilRow 14 49 15 2 (by simp) rfl rfl ?_;exact WM [0,1,2] hz
     ·clear h;intro y33 y35 h
      apply AW.seq;obtain⟨v36,e36,v37,e37,h⟩:=oll h;refine AW.step (by simp[Ad e36,← e37];intros;rfl) ?_;cases v37 with
      |true=>
       replace h:=iT h;refine CT ?_;apply AW.skip;try simp only[nm]
       apply AW.seq;apply AW.block;obtain⟨y38,g38,h⟩:=bnE h;refine zC (p:=fun gh ls=>(sp (nP (cx:=cx) (fun q=>(⟨[(2,.l (dF a2)),(7,.l (.p 0 0)),(8,.l (.p 1 0)),(13,.l (dA y31.db)),(14,.l (.r 2 15 0 q.2.2.length)),(15,.l (iA y33.1))],[some ⟨38,22,false,none,(cA0 q.1)⟩,some ⟨38,22,false,none,(cA0 q.2.1)⟩,some ⟨49,15,true,none,lvs (AA q.2.2)⟩],181,gh,ls⟩:St))) (rP (cx:=cx) (P:=Tryz.prog) Tryz.f5 (fun q=>.l (bA q)) (fun q=>[]))) y38) ?_ ?_
       ·replace h:=g38;clear g38
        apply AW.block;obtain⟨y39,g39,h⟩:=bnE h;refine zC (p:=fun gh ls=>(nP (cx:=cx) (fun q=>(⟨[(2,.l (dF a2)),(7,.l (.p 0 0)),(8,.l (.p 1 0)),(13,.l (dA y31.db)),(14,.l (.r 2 15 0 y33.2.2.2.length)),(15,.l (iA y33.1)),(140,.l (bA q))],[some ⟨38,22,false,none,(cA0 y33.2.1)⟩,some ⟨38,22,false,none,(cA0 y33.2.2.1)⟩,some ⟨49,15,true,none,lvs (AA y33.2.2.2)⟩],181,gh,ls⟩:St))) y39) ?_ ?_
        ·replace h:=g39;clear g39
         obtain⟨v40,e40,v41,e41,v42,e42,h⟩:=obbl h;cases v42 with
         |true=>
          replace h:=iT h;refine AW.last (by simp[Aa e40,e41,← e42];intros;rfl) ?_;obtain rfl:=oi h;exact nP_i (WM [0,1,2] hz)
         |false=>
          replace h:=iF h;obtain⟨v43,e43,v44,e44,h⟩:=oll h;refine AW.last (by simp[Aa e40,e41,← e42,Ad e43,← e44];intros;rfl) ?_;obtain rfl:=oi h;exact nP_i (WM [0,1,2] hz)
        ·rintro e s⟨rfl,hw⟩;refine⟨_,hw,?_⟩;try simp only[nm]
         obtain⟨v45,e45,h⟩:=ltE h;rw[← e45];cases v45 with
         |true=>
          replace h:=iT h;refine CT ?_;obtain⟨v46,e46,h⟩:=bnE h;apply AW.step
          ·simp;intros;refine Ab NE (O1 e46) rfl ⟨.same rfl,trivial⟩ ?_;try simp
           intros;rfl
          obtain⟨v47,e47,h⟩:=bnE h;apply AW.step
          ·simp;intros;refine Ab Ir (I9 e47) rfl ⟨.same rfl,trivial⟩ ?_;try simp
           intros;rfl
          apply AW.seq;obtain⟨y48,g48,h⟩:=bnE h;refine zC (p:=fun gh ls=>(nP (cx:=cx) (fun q=>(⟨[(2,.l (dF a2)),(7,.l (.p 0 0)),(8,.l (.p 1 0)),(13,.l (dA y31.db)),(14,.l (.r 2 15 0 y33.2.2.2.length)),(15,.l (iA y33.1)),(17,.l (.p 3 0)),(18,.l (.d false 15 (AA v47.2))),(170,.l (bA q))],[some ⟨38,22,false,none,(cA0 y33.2.1)⟩,some ⟨38,22,false,none,(cA0 y33.2.2.1)⟩,some ⟨49,15,true,none,lvs (AA y33.2.2.2)⟩,some ⟨38,22,false,none,(cA0 v47.1)⟩],181,gh,ls⟩:St))) y48) ?_ ?_
          ·replace h:=g48;clear g48
           obtain⟨v49,e49,v50,e50,h⟩:=obl h;cases v50 with
           |true=>
            replace h:=iT h;apply AW.last
            ·simp[← e50];intros;refine Ab BQ (B8 e49) rfl ⟨.same rfl,.same rfl,trivial⟩ ?_;try simp[← e50]
             intros;rfl
            obtain rfl:=oi h;exact nP_i (WM [0,1,2,4] hz)
           |false=>
            replace h:=iF h;obtain⟨v51,e51,v52,e52,h⟩:=obl h;apply AW.last
            ·simp[← e50,← e52];intros;refine Ab BQ (B8 e49) rfl ⟨.same rfl,.same rfl,trivial⟩ ?_;try simp[← e50,← e52]
             intros;refine Ab GZ (Hs e51) rfl ⟨.same rfl,.same rfl,trivial⟩ ?_;try simp[← e50,← e52]
             intros;rfl
            obtain rfl:=oi h;exact nP_i (WM [0,1,2,4] hz)
          ·rintro e s⟨rfl,hw⟩;refine⟨_,hw,?_⟩;try simp only[nm]
           obtain⟨v53,e53,h⟩:=ltE h;rw[← e53];cases v53 with
           |true=>
            replace h:=iT h;refine CT ?_;refine ST ?_;obtain rfl:=oi h;apply AW.ret;try simp only[nm]
            refine rP_i ?_;exact LP hz
           |false=>
            replace h:=iF h;refine CF ?_;apply AW.skip;try simp only[nm]
            refine ST ?_;obtain⟨e54,v55,e55,h⟩:=ocl h;apply AW.last
            ·simp[← AK,← e55,Cn e55];intros;refine AD (acc:=AA y33.2.2.2) (ys:=AA v47.2) (cap:=none) (k:=v47.2.length) IM IL (by simp) (by rw[Ek];simp) (Cu _) (by simp) (by simp) (by first|(simp;done)|simpa using (Aw e54).1) ?_;try simp[← AK,← e55,Cn e55]
             intros;rfl
            obtain rfl:=oi h;try simp only[sp_l,sp_r]
            exact nP_i (WM [0,1,4] hz)
         |false=>
          replace h:=iF h;refine CF ?_;obtain⟨v56,e56,v57,e57,h⟩:=obl h;obtain⟨v58,e58,v59,e59,h⟩:=obl h;obtain⟨v60,e60,h⟩:=bnE h;obtain⟨v61,e61,h⟩:=bnE h;have f62:=A0 e61;try simp[Aa e56,← e57,e58,Ad e59,e60,Aa e61] at f62
          refine AW.step (by simp[Aa e56,← e57,e58,Ad e59,e60,Aa e61,f62,Ni (Aa e61).2 (k:=15) (by decide),OD (Aa e61).2 (show 15≤15 by decide),lvs1];intros;rfl) ?_;obtain⟨v63,e63,h⟩:=ltE h;refine AW.step (by simp[← e63];intros;rfl) ?_;cases v63 with
          |true=>
           replace h:=iT h;refine CT ?_;obtain⟨v64,e64,h⟩:=bnE h;apply AW.step
           ·simp;intros;refine Ab NF (O3 e64) rfl ⟨.same rfl,.same rfl,trivial⟩ ?_;try simp
            intros;rfl
           obtain⟨v65,e65,h⟩:=bnE h;apply AW.step
           ·simp;intros;refine Ab MN (Nz e65) rfl ⟨.same rfl,.same rfl,trivial⟩ ?_;try simp
            intros;rfl
           apply AW.seq;obtain⟨y66,g66,h⟩:=bnE h;refine zC (p:=fun gh ls=>(nP (cx:=cx) (fun q=>(⟨[(2,.l (dF a2)),(7,.l (.p 0 0)),(8,.l (.p 1 0)),(13,.l (dA y31.db)),(14,.l (.r 2 15 0 y33.2.2.2.length)),(15,.l (iA y33.1)),(21,.l (.p 3 0)),(22,.l (.d false 15 (AA v65.2))),(125,.l (bA q))],[some ⟨38,22,false,none,(cA0 y33.2.1)⟩,some ⟨38,22,false,none,(cA0 y33.2.2.1)⟩,some ⟨49,15,true,none,lvs (AA y33.2.2.2)⟩,some ⟨38,22,false,none,(cA0 v65.1)⟩],181,gh,ls⟩:St))) y66) ?_ ?_
           ·replace h:=g66;clear g66
            obtain⟨v67,e67,v68,e68,h⟩:=obl h;cases v68 with
            |true=>
             replace h:=iT h;apply AW.last
             ·simp[← e68];intros;refine Ab BQ (B8 e67) rfl ⟨.same rfl,.same rfl,trivial⟩ ?_;try simp[← e68]
              intros;rfl
             obtain rfl:=oi h;exact nP_i (WM [0,1,2,5] hz)
            |false=>
             replace h:=iF h;obtain⟨v69,e69,v70,e70,h⟩:=obl h;apply AW.last
             ·simp[← e68,← e70];intros;refine Ab BQ (B8 e67) rfl ⟨.same rfl,.same rfl,trivial⟩ ?_;try simp[← e68,← e70]
              intros;refine Ab GZ (Hs e69) rfl ⟨.same rfl,.same rfl,trivial⟩ ?_;try simp[← e68,← e70]
              intros;rfl
             obtain rfl:=oi h;exact nP_i (WM [0,1,2,5] hz)
           ·rintro e s⟨rfl,hw⟩;refine⟨_,hw,?_⟩;try simp only[nm]
            obtain⟨v71,e71,h⟩:=ltE h;rw[← e71];cases v71 with
            |true=>
             replace h:=iT h;refine CT ?_;refine ST ?_;obtain rfl:=oi h;apply AW.ret;try simp only[nm]
             refine rP_i ?_;exact LP hz
            |false=>
             replace h:=iF h;refine CF ?_;apply AW.skip;try simp only[nm]
             refine ST ?_;obtain⟨e72,v73,e73,h⟩:=ocl h;apply AW.last
             ·simp[← AK,← e73,Cn e73];intros;refine AD (acc:=AA y33.2.2.2) (ys:=AA v65.2) (cap:=none) (k:=v65.2.length) IM IL (by simp) (by rw[Ek];simp) (Cu _) (by simp) (by simp) (by first|(simp;done)|simpa using (Aw e72).1) ?_;try simp[← AK,← e73,Cn e73]
              intros;rfl
             obtain rfl:=oi h;try simp only[sp_l,sp_r]
             exact nP_i (WM [0,1,4] hz)
          |false=>
           replace h:=iF h;refine CF ?_;obtain⟨v74,e74,h⟩:=bnE h;apply AW.step
           ·simp;intros;refine Ab LJ (MJ e74) rfl ⟨.same rfl,.same rfl,trivial⟩ ?_;try simp
            intros;rfl
           apply AW.seq;obtain⟨v75,e75,v76,e76,v77,e77,h⟩:=obbl h;apply zH (V:=[_,_,_,_]) mixed [⟨[0],[],[(23,none)],false⟩,⟨[0],[],[(7,none)],false⟩,⟨[0],[],[(19,none)],false⟩,⟨[0],[1,2],[(134,some 1),(135,some 2)],false⟩,⟨[],[0,1,2,3],[],false⟩,⟨[],[0,1,2,3,4],[],false⟩] 4 (by kernel_rfl) (by kernel_rfl)
           ·refine⟨?_,?_,?_,?_,trivial⟩;iterate 3 (· intro tm hr;simp[AllL,rdV] at hr;simp[hr,← e77];intros;exact KA)
            ·intro tm hr;simp[AllL,rdV] at hr;simp[hr,← e77];intros;refine Ab MQ (NG e75) rfl ⟨.same rfl,.same rfl,trivial⟩ ?_;try simp[← e77]
             intros;exact KA
           ·rfl
           ·simp[tmD,putD,← e77];rfl
           ·simp[← e77];intros;refine Ab BQ (B8 e76) rfl ⟨.same rfl,.same rfl,trivial⟩ ?_;try simp[← e77]
            intros;rfl
           cases v77 with
           |true=>
            replace h:=iT h;refine CT ?_;refine ST ?_;obtain rfl:=oi h;apply AW.ret;try simp only[nm]
            refine rP_i ?_;exact LP hz
           |false=>
            replace h:=iF h;refine CF ?_;apply AW.skip;try simp only[nm]
            refine SL ?_;obtain rfl:=oi h;try simp only[sp_l,sp_r]
            exact nP_i (WM [0,1,2] hz)
       ·rintro e s hp;rcases y38 with y78|y79
        ·replace h:=smL h;obtain⟨rfl,hw⟩:=hp;refine⟨_,hw,?_⟩;try simp only[nm]
         obtain⟨v80,e80,v81,e81,h⟩:=obl h;apply AW.step
         ·simp[← e81];intros;refine Ab KT (LS e80) rfl ⟨.same rfl,.same rfl,.same rfl,trivial⟩ ?_;try simp[← e81]
          intros;rfl
         cases v81 with
         |true=>
          replace h:=iT h;refine CT ?_;refine ST ?_;obtain rfl:=oi h;apply AW.ret;try simp only[nm]
          refine rP_i ?_;exact LP hz
         |false=>
          replace h:=iF h;refine CF ?_;apply AW.skip;try simp only[nm]
          obtain⟨v82,e82,h⟩:=ltE h;refine AW.last (by simp[← e82];intros;rfl) ?_;obtain rfl:=oi h;exact nP_i (WM [0,1,2] hz)
        ·replace h:=smR h;obtain⟨rfl,hl⟩:=hp;refine⟨_,Weak.refl _,?_⟩;obtain rfl:=oi h;first|exact rP_i hl|(simp only[sp_l,sp_r];exact rP_i hl)|(simp only[sp_l,sp_r,Post.seq,Post.block,Nat.reduceEqDiff,reduceIte,Nat.zero_ne_one,Nat.one_ne_zero];exact rP_i hl)
      |false=>
       replace h:=iF h;refine CF ?_;apply AW.exit;try simp only[nm]
       obtain rfl:=oi h;try simp only[sp_l,sp_r]
       refine xP_i ?_;exact WM [] hz
     ·rintro e s hp;rcases y34 with y83|y84
      ·replace h:=smL h;obtain⟨rfl,hw⟩:=hp;refine⟨_,hw,?_⟩;try simp only[nm]
       obtain⟨v85,e85,h⟩:=bnE h;apply AW.step
       ·simp;intros;refine Ab It (Ja e85) rfl trivial ?_;try simp
        intros;rfl
       obtain rfl:=oi h;apply AW.ret;exact LP hz
      ·replace h:=smR h;obtain⟨rfl,hl⟩:=hp;refine⟨_,Weak.refl _,?_⟩;obtain rfl:=oi h;exact hl
    ·replace h:=smR h;obtain⟨rfl,hl⟩:=hp;refine⟨_,Weak.refl _,?_⟩;obtain rfl:=oi h;exact hl
end Go.Proofs.YtlbdhlbbkibgpaaGreat
namespace Go.Proofs.YtlbdhlbbkibgpaaGreat
open Go Go.RowKit
def subP (w:List Pair) (f:ByteArray→Bool):List Pair:=w.filter fun p=>f p.key
theorem M5 {w:List Pair} (h:SrtP w) (f:ByteArray→Bool):SrtP (subP w f):=List.Pairwise.filter _ h
theorem JG {w:List Pair} {f:ByteArray→Bool} {p:Pair}:p∈subP w f↔p∈w∧f p.key=true:=by unfold subP;rw[List.mem_filter]
theorem FM (w:List Pair) (f:ByteArray→Bool):(subP w f).length≤w.length:=List.length_filter_le _ _
theorem Qt {w:List Pair} (h:SrtP w) (f:ByteArray→Bool) (k:ByteArray):applyP (subP w f) (goneE k)=subP w fun x=>f x && decide (x≠k):=by
 rw[NM (M5 h f)];unfold subP;rw[List.filter_filter];exact List.filter_congr fun p _=>Bool.and_comm _ _
theorem Rx {w:List Pair} (h:SrtP w) (f:ByteArray→Bool) {p:Pair} (hp:p∈w):applyP (subP w f) ⟨p.key,false,p.item⟩=subP w fun x=>f x || decide (x=p.key):=by
 obtain⟨A,B,C,rfl,hA,hC,hB⟩:=shapeG (key:=Pair.key) p.key w h;have hBp:B=[p]:=by
  rcases List.mem_append.1 hp with hp|hp
  ·rcases List.mem_append.1 hp with hp|hp
   ·exact absurd rfl (Cg (hA p hp))
   ·rcases hB with rfl|⟨x,rfl,hx⟩
    ·simp at hp
    ·simp at hp;rw[hp]
  ·exact absurd rfl (Cg (hC p hp))
 subst hBp;have hfA:A.filter (fun q=>f q.key || decide (q.key=p.key))=A.filter fun q=>f q.key:=List.filter_congr fun q hq=>by
  rw[decide_eq_false (Cg (hA q hq)),Bool.or_false]
 have hfC:C.filter (fun q=>f q.key || decide (q.key=p.key))=C.filter fun q=>f q.key:=List.filter_congr fun q hq=>by
  rw[decide_eq_false fun e=>Cg (hC q hq) e.symm,Bool.or_false]
 have hs:subP (A++[p]++C) f=A.filter (fun q=>f q.key)++[p].filter (fun q=>f q.key)++C.filter fun q=>f q.key:=by
  unfold subP;rw[List.filter_append,List.filter_append]
 rw[hs,Ei (e:=⟨p.key,false,p.item⟩) (fun a ha=>hA a (List.mem_filter.1 ha).1) (fun c hc=>hC c (List.mem_filter.1 hc).1)]
 ·unfold subP;rw[List.filter_append,List.filter_append,hfA,hfC];congr 1
  congr 1
  simp[newP]
 ·by_cases hf:f p.key=true
  ·exact .inr ⟨p,by simp[hf],rfl⟩
  ·exact .inl (by simp[hf])
theorem Sy {w:List Pair} (h:SrtP w) {p:Pair} (hp:p∈w):rawP w p.key=some p.item:=by
 obtain⟨A,B,C,rfl,hA,hC,hB⟩:=shapeG (key:=Pair.key) p.key w h;rw[Kd hA hC hB];rcases List.mem_append.1 hp with hp|hp
 ·rcases List.mem_append.1 hp with hp|hp
  ·exact absurd rfl (Cg (hA p hp))
  ·rcases hB with rfl|⟨x,rfl,hx⟩
   ·simp at hp
   ·simp at hp;rw[hp];rfl
 ·exact absurd rfl (Cg (hC p hp))
theorem JH {w:List Pair} (h:SrtP w) (f:ByteArray→Bool) {p:Pair} (hp:p∈w):rawP (subP w f) p.key=if f p.key=true then some p.item else none:=by
 split
 ·rename_i hf
  exact Sy (M5 h f) (JG.2 ⟨hp,hf⟩)
 ·rename_i hf
  refine Oc fun q hq e=>hf ?_;have:=(JG.1 hq).2;rw[e] at this;exact this
theorem M6 (fa fb:ByteArray→Bool):∀ w:List Pair,(∀ p∈w,fa p.key=true∨fb p.key=true)→(subP w fa).length+(subP w fb).length=w.length+(subP w fun k=>fa k && fb k).length
 |[],_=>rfl
 |p::w,h=>by
  have ih:=M6 fa fb w fun q hq=>h q (List.mem_cons_of_mem _ hq);have hp:=h p List.mem_cons_self;unfold subP at ih ⊢;simp only[List.filter_cons];cases h1:fa p.key <;> cases h2:fb p.key <;> simp_all <;> omega
def onWay (l:List Move) (k:ByteArray):Bool:=l.any fun m=>decide (0<m.num) && decide (m.key=k)
theorem Pi (l:List Move) (k:ByteArray) (i:Nat) (hi:i<l.length):onWay (l.take (i+1)) k=(onWay (l.take i) k || (decide (0<(l[i]).num) && decide ((l[i]).key=k))):=by
 unfold onWay;rw[← List.take_append_getElem hi,List.any_append];simp
theorem lockLoop {γ:Type} (l:List Move) (hl:l.length≤1000) (w:List Pair) (j:Int) (p:Pair) (hp:nth w j=some p) (K:Bool→Option γ):bn (iter big (fun (y27:Bool×Int) =>
  lt (lenI l) fun v30 =>
  lt (ltI y27.2 v30) fun v31 =>
  ite' v31 (lt (y27.1) fun v32 =>
  ite' v32 (lt (addI .i64 y27.2 1) fun v33 =>
  some (.inl (true,v33))) (bn (nth l y27.2) fun v34 =>
  lt (gtI v34.num 0) fun v35 =>
  ite' v35 (bn (nth w j) fun v36 =>
  lt (eqS v34.key v36.key) fun v37 =>
  lt (addI .i64 y27.2 1) fun v38 =>
  some (.inl (v37,v38))) (lt (addI .i64 y27.2 1) fun v39 =>
  some (.inl (false,v39))))) (some (.inr y27.1))) (false,0)) K=K (onWay l p.key):=by
 refine A7 (onWay l p.key) (fun i=>(onWay (l.take i) p.key,(i:Int))) l.length (by unfold big;omega) rfl (fun i hi=>?_) ?_ rfl
 ·simp only[Ag,Ac,Ah,Aj,Ak,Al,Ai,Option.some.injEq];rw[AT (by omega),Ah,Pi l p.key i hi,As (by omega) (by omega),show (i:Int)+1=((i+1:Nat):Int) by omega];cases hw:onWay (l.take i) p.key
  ·rw[Aj,Au hi,Ac];by_cases hn:0<(l[i]).num
   ·rw[gtT hn,Ah,hp,Ac,decide_eq_true hn];simp only[Bool.false_or,Bool.true_and];rfl
   ·rw[gtF hn,Aj,decide_eq_false hn];rfl
  ·rw[Ah];rfl
 ·simp only[Ag,Ac,Ah,Aj,Ak,Al,Ai,Option.some.injEq];rw[AQ (by omega),Aj,List.take_length]
theorem Pj (a b:Node) (w:List Pair) (fa fb:ByteArray→Bool) (hw:SrtP w) (ho:okP w) (hwl:w.length≤1000) (hml:a.moves.length≤1000) (ha:a.db=subP w fa) (hb:b.db=subP w fb) (cov:∀ p∈w,fa p.key=true∨fb p.key=true)
  (lock:∀ p∈w,fa p.key=true→fb p.key=true→∃ m∈a.moves,1≤m.num∧m.key=p.key):CC big a b w=some true:=by
 have hla:a.db.length≤1000:=by rw[ha];have:=FM w fa;omega
 have hlb:b.db.length≤1000:=by rw[hb];have:=FM w fb;omega
 unfold CC;refine A7 (.inl ((subP w fun k=>fa k && fb k).length:Int)) (fun i=>(((subP (w.take i) fun k=>fa k && fb k).length:Int),(i:Int))) w.length (by unfold big;omega) rfl (fun i hi=>?_) ?_ ?_
 ·have hpm:w[i]∈w:=List.getElem_mem hi;have hoi:=ho _ hpm;have hstep:(subP (w.take (i+1)) fun k=>fa k && fb k).length=(subP (w.take i) fun k=>fa k && fb k).length+(if fa (w[i]).key=true∧fb (w[i]).key=true then 1 else 0):=by
   unfold subP;rw[← List.take_append_getElem hi,List.filter_append,List.length_append];congr 1
   simp only[List.filter_cons,List.filter_nil];cases fa (w[i]).key <;> cases fb (w[i]).key <;> simp
  have hcl:(subP (w.take i) fun k=>fa k && fb k).length≤1000:=by
   have:=FM (w.take i) fun k=>fa k && fb k;have:=List.length_take_le i w;omega
  have hRa:=HK a.db (w[i]).key (by omega);have hRb:=HK b.db (w[i]).key (by omega);rw[ha,JH hw fa hpm] at hRa;rw[hb,JH hw fb hpm] at hRb;rw[← ha] at hRa;rw[← hb] at hRb;have hnth:nth w (i:Int)=some w[i]:=Au hi;have hcov:=cov _ hpm;have hlock:=lock _ hpm;have hr:=Fy _ hoi;simp only[Ag,Ac,Ah,Aj,Ak,Al,Ai,Option.some.injEq];rw[AT (by omega),Ah,hnth,Ac,hRa,Ac,hRb,Ac,hstep];generalize (subP (w.take i) fun k=>fa k && fb k).length=c at hcl;by_cases h1:fa (w[i]).key=true
  ·by_cases h2:fb (w[i]).key=true
   ·rw[if_pos h1,if_pos h2,if_pos ⟨h1,h2⟩];simp only[Option.isSome_some,Option.getD_some,Bc,Aj,Ah,hr,Ac];have hL:=@lockLoop (Int ⊕ Bool) a.moves hml w (i:Int) w[i] hnth;simp only[Ag,Ac,Ah,Aj,Ak,Al,Ai,Option.some.injEq,hnth] at hL;rw[hL];have hon:onWay a.moves (w[i]).key=true:=by
     obtain⟨m,hm,g1,g2⟩:=hlock h1 h2;exact List.any_eq_true.2 ⟨m,hm,by simp[g2];omega⟩
    rw[hon,Bc,Aj,As (by omega) (by omega),Ac,Ak,As (by omega) (by omega)];exact congrArg some (congrArg Sum.inl (Prod.ext (by simp only;omega) (by simp only;omega)))
   ·rw[if_pos h1,if_neg h2,if_neg (fun h=>h2 h.2)];simp only[Option.isSome_some,Option.isSome_none,Option.getD_some,Option.getD_none,Bc,Gw,Aj,Ah,hr,Ac,Ak];rw[As (by omega) (by omega)];exact congrArg some (congrArg Sum.inl (Prod.ext (by simp only;omega) (by simp only;omega)))
  ·have h2:fb (w[i]).key=true:=by
    rcases hcov with h|h
    ·exact absurd h h1
    ·exact h
   rw[if_neg h1,if_pos h2,if_neg (fun h=>h1 h.1)];simp only[Option.isSome_some,Option.isSome_none,Option.getD_some,Option.getD_none,Bc,Gw,Aj,Ah,hr,Ac,Ak];rw[As (by omega) (by omega)];exact congrArg some (congrArg Sum.inl (Prod.ext (by simp only;omega) (by simp only;omega)))
 ·simp only[Ag,Ac,Ah,Aj,Ak,Al,Ai,Option.some.injEq];rw[AQ (by omega),Aj,List.take_length]
 ·have hc:=M6 fa fb w cov;have hcl:=FM w fun k=>fa k && fb k;rw[Ak,Ag,Ag,Ag,Ag,Ag,Ag];simp only[lenI];rw[As (by omega) (by omega),As (by omega) (by omega)];refine congrArg some (decide_eq_true ?_);rw[ha,hb];omega
end Go.Proofs.YtlbdhlbbkibgpaaGreat
namespace Go.Proofs.YtlbdhlbbkibgpaaGreat
open Go Go.RowKit
theorem HR {α:Type} (key:α→Int) (s:Int):∀ l:List α,(l.map key).Pairwise (·<·)→∃ A B C,l=A++B++C∧(∀ a∈A,key a<s)∧(∀ c∈C,s<key c)∧(B=[]∨∃ x,B=[x]∧key x=s)
 |[],_=>⟨[],[],[],rfl,by simp,by simp,.inl rfl⟩
 |x::l,h=>by
  rw[List.map_cons,List.pairwise_cons] at h;have hx:∀ y∈l,key x<key y:=fun y hy=>h.1 _ (List.mem_map.2 ⟨y,hy,rfl⟩);obtain⟨A,B,C,rfl,hA,hC,hB⟩:=HR key s l h.2;by_cases h1:key x<s
  ·exact⟨x::A,B,C,rfl,fun a ha=>by
    rcases List.mem_cons.1 ha with rfl|ha
    ·exact h1
    ·exact hA a ha,hC,hB⟩
  ·have hA0:A=[]:=by
    cases A with
    |nil=>rfl
    |cons a A =>
     have g1:=hx a (by simp);have g2:=hA a (by simp);omega
   subst hA0;by_cases h2:key x=s
   ·have hB0:B=[]:=by
     rcases hB with h|⟨y,rfl,hy⟩
     ·exact h
     ·have:=hx y (by simp);omega
    subst hB0;exact⟨[],[x],C,rfl,by simp,hC,.inr ⟨x,rfl,h2⟩⟩
   ·refine⟨[],[],x::(B++C),by simp,by simp,fun c hc=>?_,.inl rfl⟩;rcases List.mem_cons.1 hc with rfl|hc
    ·omega
    ·have:=hx c (by simpa using hc);omega
theorem Ry {α:Type} {key:α→Int} {l:List α} (h:(l.map key).Pairwise (·<·)) {x y:α} (hx:x∈l) (hy:y∈l) (e:key x=key y):x=y:=by
 induction l with
 |nil=>cases hx
 |cons z l ih =>
  rw[List.map_cons,List.pairwise_cons] at h;rcases List.mem_cons.1 hx with h1|h1
  ·rcases List.mem_cons.1 hy with h2|h2
   ·rw[h1,h2]
   ·have:=h.1 _ (List.mem_map.2 ⟨y,h2,rfl⟩);rw[h1] at e;omega
  ·rcases List.mem_cons.1 hy with h2|h2
   ·have:=h.1 _ (List.mem_map.2 ⟨x,h1,rfl⟩);rw[h2] at e;omega
   ·exact ih h.2 h1 h2
theorem JI {α:Type} {key:α→Int} {A B C:List α} {x:α} (h:((A++B++C).map key).Pairwise (·<·)) (hA:∀ a∈A,key a<key x) (hC:∀ c∈C,key x<key c):((A++[x]++C).map key).Pairwise (·<·):=by
 simp only[List.map_append,List.pairwise_append,List.mem_append,List.mem_map] at h ⊢;obtain⟨⟨h1,h2,h3⟩,h4,h5⟩:=h;refine⟨⟨h1,by simp,?_⟩,h4,?_⟩
 ·rintro _ ⟨a,ha,rfl⟩ _ ⟨y,hy,rfl⟩;simp at hy;subst hy;exact hA a ha
 ·rintro _ (⟨a,ha,rfl⟩|⟨y,hy,rfl⟩) _ ⟨c,hc,rfl⟩
  ·have g1:=hA a ha;have g2:=hC c hc;omega
  ·simp at hy;subst hy;exact hC c hc
def seenN (l:List Seen) (s:Int):Int:=((l.find? fun x=>decide (x.slot=s)).map fun x=>x.num).getD 0
theorem Rz {l:List Seen} {s n:Int} (h0:0≤n) (h:∀ x∈l,x.num≤n):seenN l s≤n:=by
 unfold seenN;cases hf:l.find? fun x=>decide (x.slot=s) with
 |none=>exact h0
 |some x=>exact h x (List.mem_of_find?_eq_some hf)
theorem M7 {A B C:List Seen} {s:Int} (hA:∀ a∈A,a.slot<s) (hC:∀ c∈C,s<c.slot) (hB:B=[]∨∃ x,B=[x]∧x.slot=s):seenN (A++B++C) s=((B.head?).map fun x=>x.num).getD 0:=by
 have e:(A++B++C).find? (fun x=>decide (x.slot=s))=B.head?:=by
  have e1:A.find? (fun x=>decide (x.slot=s))=none:=List.find?_eq_none.2 fun a ha=>by have:=hA a ha;simp;omega
  have e2:C.find? (fun x=>decide (x.slot=s))=none:=List.find?_eq_none.2 fun a ha=>by have:=hC a ha;simp;omega
  rw[List.find?_append,List.find?_append,e1,e2];rcases hB with rfl|⟨x,rfl,hx⟩
  ·rfl
  ·simp[hx]
 unfold seenN;rw[e]
theorem NO {A B C:List Seen} {y:Seen} {s:Int} (hB:B=[]∨∃ x,B=[x]∧x.slot=y.slot) (hs:s≠y.slot):seenN (A++[y]++C) s=seenN (A++B++C) s:=by
 unfold seenN;rw[List.find?_append,List.find?_append,List.find?_append,List.find?_append];have e:[y].find? (fun x=>decide (x.slot=s))=B.find? (fun x=>decide (x.slot=s)):=by
  rw[List.find?_eq_none.2 (fun a ha=>by simp at ha;subst ha;simp;exact fun h=>hs h.symm)];rcases hB with rfl|⟨x,rfl,hx⟩
  ·rfl
  ·rw[List.find?_eq_none.2 (fun a ha=>by simp at ha;subst ha;simp;rw[hx];exact fun h=>hs h.symm)]
 rw[e]
structure MoveOk (w:List Pair) (fa:ByteArray→Bool) (a:Node) (m:Move):Prop where
 to:m.to=1
 slot:0≤m.slot∧m.slot<16384
 num0:0≤m.num
 num:m.num≤a.last
 key:1≤m.num→∃ p∈w,p.key=m.key∧fa p.key=true∧slotOf p.key=m.slot
def MsgOk (w:List Pair) (a b:Node) (g:Msg):Prop :=
 (g.kind=2∧g.frm=0∧∃ p∈w,MayM g ⟨p.key,false,p.item⟩∧g.claims=[]∧g.nodes=[]∧g.num≤a.last∧(g.num≤seenN b.seen g.slot∨∃ m∈a.moves,m.slot=g.slot∧m.num=g.num∧m.key=p.key)) ∨
 (g.kind=3∧g.frm=1∧1≤g.num∧g.num≤seenN b.seen g.slot)
structure Inv (w:List Pair) (j:Nat) (fa fb:ByteArray→Bool) (a b:Node) (net:List Msg):Prop where
 oka:OkN a
 okb:OkN b
 ma:a.master=-1
 mb:b.master=-1
 ia:a.id=0
 ib:b.id=1
 da:a.db=subP w fa
 dbb:b.db=subP w fb
 cov:∀ p∈w,fa p.key=true∨fb p.key=true
 lock:∀ p∈w,fa p.key=true→fb p.key=true→∃ m∈a.moves,1≤m.num∧m.key=p.key
 good:GoodC a.claims
 cl:a.claims.length≤1+12*j
 la0:0≤a.last
 la:a.last≤6*j
 ep0:1≤a.epoch
 ep:a.epoch≤1+6*j
 mvl:a.moves.length≤6
 mvs:(a.moves.map fun m=>m.slot).Pairwise (·<·)
 mvo:∀ m∈a.moves,MoveOk w fa a m
 sns:(b.seen.map fun x=>x.slot).Pairwise (·<·)
 sno:∀ x∈b.seen,x.node=0∧x.num≤a.last
 snl:b.seen.length≤j
 msgs:∀ g∈net,MsgOk w a b g
 netl:net.length≤7*j
 seen:∀ m∈a.moves,1≤m.num→m.num≤seenN b.seen m.slot→fb m.key=true
structure FoldT (a:Node) (i:Nat) (t:Node×List Move×List Msg):Prop where
 sub:(t.2.1.map fun m=>m.slot).Sublist ((a.moves.take i).map fun m=>m.slot)
 mem:∀ m∈t.2.1,(m∈a.moves∧m.num≠0)∨(∃ m0∈a.moves,m.slot=m0.slot∧m.to=m0.to∧a.last<m.num∧m.num≤t.1.last∧m.key∈inP a.db m0.slot)
 keep:∀ m∈a.moves.take i,m.num≠0→m∈t.2.1
 out:∀ g∈t.2.2,∃ m∈t.2.1,g=msgP a m
theorem Lo {G:Nat→List Claim→Prop} {a:Node} (he:0≤a.epoch∧a.epoch≤1000000) (hl:a.moves.length≤1000) (g0:G 0 a.claims) (hG:GiveOk G a.moves):∀ i,i≤a.moves.length→FoldT a i ((a.moves.take i).foldl stepT (a,[],[]))
 |0,_=>⟨List.Sublist.refl _,fun m hm=>absurd hm List.not_mem_nil,fun m hm=>absurd hm List.not_mem_nil,fun m hm=>absurd hm List.not_mem_nil⟩
 |i+1,hi=>by
  have hlt:i<a.moves.length:=by omega
  obtain⟨h1,h2,h3,h4⟩:=Lo he hl g0 hG i (by omega);have hI:=E2 he hl g0 hG i (by omega);have hmm:a.moves[i]∈a.moves:=List.getElem_mem hlt;have hTk:=(List.take_append_getElem hlt).symm;rw[hTk,List.foldl_append];generalize (a.moves.take i).foldl stepT (a,[],[])=t at h1 h2 h3 h4 hI;obtain⟨q1,q2,q3,q4,q5,q6,q7,q8,q9⟩:=hI;generalize a.moves[i]=x at hmm hTk;have hid:t.1.id=a.id:=by rw[q9]
  simp only[List.foldl_cons,List.foldl_nil];rw[stepT];split
  ·rename_i hz
   split
   ·refine⟨?_,fun m hm=>?_,fun m hm hn=>?_,h4⟩
    ·show (t.2.1.map fun m=>m.slot).Sublist _;rw[hTk,List.map_append];exact h1.trans (List.sublist_append_left _ _)
    ·exact h2 m hm
    ·rw[hTk] at hm;rcases List.mem_append.1 hm with hm|hm
     ·exact h3 m hm hn
     ·simp at hm;subst hm;exact absurd hz hn
   ·rename_i hin
    refine⟨?_,fun m hm=>?_,fun m hm hn=>?_,fun g hg=>?_⟩
    ·rw[hTk,List.map_append,List.map_append];exact List.Sublist.append h1 (List.Sublist.refl _)
    ·rcases List.mem_append.1 hm with hm|hm
     ·rcases h2 m hm with h|⟨m0,g1,g2,g3,g4,g5,g6⟩
      ·exact .inl h
      ·exact .inr ⟨m0,g1,g2,g3,g4,by show m.num≤t.1.last+1;omega,g6⟩
     ·simp at hm;subst hm;refine .inr ⟨x,hmm,rfl,rfl,by show a.last<t.1.last+1;omega,by show t.1.last+1≤t.1.last+1;omega,?_⟩;show (inP t.1.db x.slot).headD ⟨#[]⟩∈inP a.db x.slot;obtain⟨k,ks,hks⟩:=List.exists_cons_of_ne_nil hin;rw[← q1,hks];exact List.mem_cons_self
    ·rw[hTk] at hm;rcases List.mem_append.1 hm with hm|hm
     ·exact List.mem_append_left _ (h3 m hm hn)
     ·simp at hm;subst hm;exact absurd hz hn
    ·rcases List.mem_append.1 hg with hg|hg
     ·obtain⟨m,g1,g2⟩:=h4 g hg;exact⟨m,List.mem_append_left _ g1,g2⟩
     ·simp at hg;subst hg;refine⟨lockM t.1 x,List.mem_append_right _ (by simp),?_⟩;unfold msgP lockT;simp only;rw[q1,hid]
  ·rename_i hz
   refine⟨?_,fun m hm=>?_,fun m hm hn=>?_,fun g hg=>?_⟩
   ·rw[hTk,List.map_append,List.map_append];exact List.Sublist.append h1 (List.Sublist.refl _)
   ·rcases List.mem_append.1 hm with hm|hm
    ·exact h2 m hm
    ·simp at hm;subst hm;exact .inl ⟨hmm,hz⟩
   ·rw[hTk] at hm;rcases List.mem_append.1 hm with hm|hm
    ·exact List.mem_append_left _ (h3 m hm hn)
    ·simp at hm;subst hm;exact List.mem_append_right _ (by simp)
   ·rcases List.mem_append.1 hg with hg|hg
    ·obtain⟨m,g1,g2⟩:=h4 g hg;exact⟨m,List.mem_append_left _ g1,g2⟩
    ·simp at hg;subst hg;refine⟨x,List.mem_append_right _ (by simp),?_⟩;unfold msgP;rw[q1,hid]
theorem Qu {w:List Pair} {j:Nat} {fa fb:ByteArray→Bool} {a b:Node} {net:List Msg} (h:Inv w j fa fb a b net) (hj:j≤80) (hw:SrtP w) (ho:okP w) (hmay:∀ p∈w,mayI p.item) (hkey:∀ p∈w,keyed p.key) :
  CJ big a=some (TickP a)∧DV big a=some ⟨(TickP a).1,(TickP a).2,0⟩∧OkN (TickP a).1∧(∀ g∈(TickP a).2,okE g.effects∧g.claims=[]∧g.nodes=[])∧(TickP a).2.length≤6∧Inv w (j+1) fa fb (TickP a).1 b (net++(TickP a).2):=by
 have hml:=h.mvl;have hsl:=fun m hm=>(h.mvo m hm).slot;have htt:=fun m hm=>(h.mvo m hm).to;have hla:=h.la;have hla0:=h.la0;have hep:=h.ep;have hep0:=h.ep0;have hcl:=h.cl;have hG:GiveOk (fun i cl=>GoodC cl∧cl.length≤a.claims.length+2*i) a.moves:=⟨fun i cl hc=>⟨hc.1,by have:=hc.2;omega⟩,fun i cl ep hi hc g1 g2=>by
  have hm:=List.getElem_mem hi;have q1:=hsl _ hm;have q2:=htt _ hm;have q3:=give1 hc.1 (a.moves[i]).slot (a.moves[i]).to ep (by omega) (by omega) g1;have q4:=give13 hc.1 (a.moves[i]).slot (a.moves[i]).to ep (by omega) (by omega) g1;exact⟨q3.1,q3.2.1,by have:=hc.2;have:=q4.2;omega⟩⟩
 have hG2:GiveOk2 (fun i cl=>GoodC cl∧cl.length≤a.claims.length+2*i) a.moves:=fun i cl ep hi hc g1 g2=>by
  have hm:=List.getElem_mem hi;have q1:=hsl _ hm;have q2:=htt _ hm;exact (give13 hc.1 (a.moves[i]).slot (a.moves[i]).to ep (by omega) (by omega) g1).1
 have g0:GoodC a.claims∧a.claims.length≤a.claims.length+2*0:=⟨h.good,by omega⟩;have hT:=Sp _ a h.oka h.ma (by omega) (by omega) g0 hG;have hR:=Rv _ a h.oka h.ma (by omega) (by omega) g0 hG hG2;have hI:=E2 (n:=a) (by omega) (by omega) g0 hG a.moves.length (Nat.le_refl _);have hF:=Lo (a:=a) (by omega) (by omega) g0 hG a.moves.length (Nat.le_refl _);rw[List.take_length] at hI hF;have e1:(TickP a).1={ (a.moves.foldl stepT (a,[],[])).1 with moves:=(a.moves.foldl stepT (a,[],[])).2.1 }:=rfl;have e2:(TickP a).2=(a.moves.foldl stepT (a,[],[])).2.2:=rfl;rw[e1,e2] at hR ⊢;clear e1 e2
 generalize a.moves.foldl stepT (a,[],[])=t at hR hI hF ⊢;obtain⟨q1,q2,q3,q4,q5,⟨q6,q6b⟩,q7,q8,q9⟩:=hI;obtain⟨s1,s2,s3,s4⟩:=hF;rw[List.take_length] at s1 s3;obtain⟨t1,mv,out⟩:=t;simp only at q1 q2 q3 q4 q5 q6 q6b q7 q8 q9 s1 s2 s3 s4 hR ⊢;have hnew:∀ m∈mv,MoveOk w fa { t1 with moves:=mv } m∧1≤m.num:=fun m hm=>by
  rcases s2 m hm with ⟨g1,g2⟩|⟨m0,g1,g2,g3,g4,g5,g6⟩
  ·have:=h.mvo m g1;have hn0:=this.num0;refine⟨⟨this.to,this.slot,hn0,by have:=this.num;show m.num≤t1.last;omega,this.key⟩,by omega⟩
  ·have hm0:=h.mvo m0 g1;refine⟨⟨by rw[g3];exact hm0.to,by rw[g2];exact hm0.slot,by omega,g5,fun _=>?_⟩,by omega⟩;obtain⟨hs,p,hp,hpk⟩:=Sk.1 g6;rw[h.da] at hp;obtain⟨hp1,hp2⟩:=JG.1 hp;exact⟨p,hp1,hpk,hp2,by rw[hpk,hs,g2]⟩
 have hkeep:∀ m∈a.moves,1≤m.num→m∈mv:=fun m hm hn=>s3 m hm (by omega);have hmvl:mv.length≤6:=by omega
 have hoka:OkN { t1 with moves:=mv }:=by
  have:=h.oka;rw[q9];exact⟨this.srt,this.okd,this.dl,this.key,this.bk,this.bl,by show t1.claims.length≤1000;omega,by show mv.length≤1000;omega,this.sn,this.vt,this.hd,this.sy,this.sz⟩
 have hseen:∀ s,seenN b.seen s≤a.last:=fun s=>Rz hla0 fun x hx=>(h.sno x hx).2;have hout:∀ g∈out,okE g.effects∧g.claims=[]∧g.nodes=[]∧MsgOk w { t1 with moves:=mv } b g:=fun g hg=>by
  obtain⟨m,hm,rfl⟩:=s4 g hg;obtain⟨hmo,hn1⟩:=hnew m hm;obtain⟨p,hp,hpk,hpf,hps⟩:=hmo.key hn1;have hraw:rawP a.db m.key=some p.item:=by rw[h.da,← hpk,JH hw fa hp,if_pos hpf]
  have hpi:=ho p hp;refine⟨⟨by show 1≤_;omega,fun e he=>?_⟩,rfl,rfl,.inl ⟨rfl,h.ia,p,hp,⟨?_,hn1,rfl,hkey p hp,hmay p hp,hpi,hps⟩,rfl,rfl,hmo.num,.inr ⟨m,hm,rfl,rfl,hpk.symm⟩⟩⟩
  ·have he:e∈([⟨m.key,false,(rawP a.db m.key).getD noI⟩]:List Effect):=he;simp at he;subst he;show okI ((rawP a.db m.key).getD noI);rw[hraw];exact hpi
  ·show [_]=_;rw[hraw,hpk];rfl
 refine⟨hT,hR,hoka,fun g hg=>⟨(hout g hg).1,(hout g hg).2.1,(hout g hg).2.2.1⟩,by omega,?_⟩;exact {
  oka:=hoka
  okb:=h.okb
  ma:=by show t1.master=-1;rw[q9];exact h.ma
  mb:=h.mb
  ia:=by show t1.id=0;rw[q9];exact h.ia
  ib:=h.ib
  da:=by show t1.db=_;rw[q1];exact h.da
  dbb:=h.dbb
  cov:=h.cov
  lock:=fun p hp h1 h2=>by
   obtain⟨m,g1,g2,g3⟩:=h.lock p hp h1 h2;exact⟨m,hkeep m g1 g2,g2,g3⟩
  good:=q6
  cl:=by show t1.claims.length≤_;omega
  la0:=by show 0≤t1.last;omega
  la:=by show t1.last≤_;omega
  ep0:=by show 1≤t1.epoch;omega
  ep:=by show t1.epoch≤_;omega
  mvl:=hmvl
  mvs:=List.Pairwise.sublist s1 h.mvs
  mvo:=fun m hm=>(hnew m hm).1
  sns:=h.sns
  sno:=fun x hx=>⟨(h.sno x hx).1,by have:=(h.sno x hx).2;show x.num≤t1.last;omega⟩
  snl:=by have:=h.snl;omega
  msgs:=fun g hg=>by
   rcases List.mem_append.1 hg with hg|hg
   ·rcases h.msgs g hg with ⟨g1,g2,p,g3,g4,gc,gn,g5,g6⟩|hk
    ·refine .inl ⟨g1,g2,p,g3,g4,gc,gn,by show g.num≤t1.last;omega,?_⟩;rcases g6 with g6|⟨m,k1,k2,k3,k4⟩
     ·exact .inl g6
     ·exact .inr ⟨m,hkeep m k1 (by rw[k3];exact g4.num),k2,k3,k4⟩
    ·exact .inr hk
   ·exact (hout g hg).2.2.2
  netl:=by have:=h.netl;simp;omega
  seen:=fun m hm g1 g2=>by
   rcases s2 m hm with ⟨k1,k2⟩|⟨m0,k1,k2,k3,k4,k5,k6⟩
   ·exact h.seen m k1 g1 g2
   ·have:=hseen m.slot;omega }
theorem Qv {w:List Pair} {j:Nat} {fa fb:ByteArray→Bool} {a b:Node} {net:List Msg} (h:Inv w j fa fb a b net) (hj:j≤80) (hw:SrtP w) (hwl:w.length≤40) {g:Msg} (hg:g∈net) (hk:g.kind=2) :
  ∃ b' fb',Do big b g=some (b',[ackP b g])∧DW big b g=some ⟨b',[ackP b g],0⟩∧OkN b'∧Inv w (j+1) fa fb' a b' (net++[ackP b g]):=by
 obtain⟨-,gf,p,hp,hM,gc,gn,gl,galt⟩:=(h.msgs g hg).resolve_right fun ⟨h3,_⟩=>by rw[hk] at h3;cases h3
 obtain⟨A,B,C,hs,hA,hC,hB⟩:=HR (fun x:Seen=>x.slot) g.slot b.seen h.sns;have hnode:∀ x∈b.seen,x.node=0:=fun x hx=>(h.sno x hx).1;have hmA:∀ x∈A,x∈b.seen:=fun x hx=>by rw[hs];simp[hx]
 have hmC:∀ x∈C,x∈b.seen:=fun x hx=>by rw[hs];simp[hx]
 have hmB:∀ x∈B,x∈b.seen:=fun x hx=>by rw[hs];simp[hx]
 have kA:∀ x∈A,sLt x g.frm g.slot:=fun x hx=>.inr ⟨by rw[hnode x (hmA x hx),gf],hA x hx⟩;have kC:∀ x∈C,sGt x g.frm g.slot:=fun x hx=>.inr ⟨by rw[hnode x (hmC x hx),gf],hC x hx⟩;have kB:B=[]∨∃ x,B=[x]∧x.node=g.frm∧x.slot=g.slot:=hB.imp id fun ⟨x,e,hx⟩=>⟨x,e,by rw[hnode x (hmB x (by rw[e];simp)),gf],hx⟩;have hT:=Sw b h.okb h.mb g _ hM A B C hs kA kC kB;have hR:=Rw b h.okb h.mb g _ hM A B C hs kA kC kB;have hN:=M7 hA hC hB;rw[← hs] at hN;have hn1:=hM.num;have hsnl:=h.snl;have hnetl:=h.netl;have hack:(ackP b g).kind=3∧(ackP b g).frm=1∧(ackP b g).slot=g.slot∧(ackP b g).num=g.num:=⟨rfl,h.ib,rfl,rfl⟩;by_cases hlt:seenN b.seen g.slot<g.num
 ·-- it is new
  have hcond:∀ x∈B,x.num<g.num:=fun x hx=>by
   rcases hB with rfl|⟨y,rfl,hy⟩
   ·cases hx
   ·simp at hx;subst hx;simp at hN;omega
  rw[if_pos hcond] at hT hR;obtain⟨m,hm,m1,m2,m3⟩:∃ m∈a.moves,m.slot=g.slot∧m.num=g.num∧m.key=p.key:=by
   rcases galt with h1|h1
   ·omega
   ·exact h1
  have hdb:(takeN b g ⟨p.key,false,p.item⟩ A C).db=subP w fun x=>fb x || decide (x=p.key):=by
   show applyP b.db _=_;rw[h.dbb];exact Rx hw fb hp
  have hsn:(takeN b g ⟨p.key,false,p.item⟩ A C).seen=A++[⟨g.frm,g.slot,g.num⟩]++C:=rfl;have hsl:(A++[(⟨g.frm,g.slot,g.num⟩:Seen)]++C).length≤j+1:=by
   have:b.seen.length=(A++B++C).length:=by rw[hs]
   simp at this ⊢;omega
  have hok:OkN (takeN b g ⟨p.key,false,p.item⟩ A C):=OkN.take h.okb hM (by
   have e:applyP b.db ⟨p.key,false,p.item⟩=subP w fun x=>fb x || decide (x=p.key):=hdb
   rw[e];have:=FM w fun x=>fb x || decide (x=p.key)
   omega) (by omega)
  have hN1:seenN (A++[(⟨g.frm,g.slot,g.num⟩:Seen)]++C) g.slot=g.num:=by
   rw[M7 hA hC (.inr ⟨_,rfl,rfl⟩)];rfl
  have hN2:∀ s,s≠g.slot→seenN (A++[(⟨g.frm,g.slot,g.num⟩:Seen)]++C) s=seenN b.seen s:=fun s hs2=>by
   rw[hs];exact NO (y:=⟨g.frm,g.slot,g.num⟩) hB hs2
  have hmono:∀ s,seenN b.seen s≤seenN (A++[(⟨g.frm,g.slot,g.num⟩:Seen)]++C) s:=fun s=>by
   by_cases e:s=g.slot
   ·rw[e,hN1];omega
   ·rw[hN2 s e];exact Int.le_refl _
  refine⟨takeN b g ⟨p.key,false,p.item⟩ A C,fun x=>fb x || decide (x=p.key),hT,hR,hok,?_⟩;exact {
   oka:=h.oka
   okb:=hok
   ma:=h.ma
   mb:=h.mb
   ia:=h.ia
   ib:=h.ib
   da:=h.da
   dbb:=hdb
   cov:=fun q hq=>by
    rcases h.cov q hq with h1|h1
    ·exact .inl h1
    ·exact .inr (by simp[h1])
   lock:=fun q hq h1 h2=>by
    simp only[Bool.or_eq_true,decide_eq_true_eq] at h2;rcases h2 with h2|h2
    ·exact h.lock q hq h1 h2
    ·exact⟨m,hm,by omega,by rw[m3,h2]⟩
   good:=h.good
   cl:=by have:=h.cl;omega
   la0:=h.la0
   la:=by have:=h.la;omega
   ep0:=h.ep0
   ep:=by have:=h.ep;omega
   mvl:=h.mvl
   mvs:=h.mvs
   mvo:=h.mvo
   sns:=by
    have:=h.sns;rw[hs] at this;exact JI (key:=fun x:Seen=>x.slot) (x:=⟨g.frm,g.slot,g.num⟩) this hA hC
   sno:=fun x hx=>by
    have hx:x∈A++[(⟨g.frm,g.slot,g.num⟩:Seen)]++C:=hx;simp only[List.mem_append,List.mem_singleton] at hx;rcases hx with (hx|hx)|hx
    ·exact h.sno x (hmA x hx)
    ·subst hx;exact⟨gf,gl⟩
    ·exact h.sno x (hmC x hx)
   snl:=hsl
   msgs:=fun q hq=>by
    rcases List.mem_append.1 hq with hq|hq
    ·rcases h.msgs q hq with ⟨g1,g2,p',g3,g4,g5,g6,g7,g8⟩|⟨g1,g2,g3,g4⟩
     ·refine .inl ⟨g1,g2,p',g3,g4,g5,g6,g7,?_⟩;rcases g8 with g8|g8
      ·exact .inl (Int.le_trans g8 (hmono _))
      ·exact .inr g8
     ·exact .inr ⟨g1,g2,g3,Int.le_trans g4 (hmono _)⟩
    ·simp at hq;subst hq;refine .inr ⟨rfl,h.ib,hn1,?_⟩;show g.num≤seenN (A++[(⟨g.frm,g.slot,g.num⟩:Seen)]++C) g.slot;rw[hN1];exact Int.le_refl _
   netl:=by simp;omega
   seen:=fun m' hm' h1 h2=>by
    have h2:m'.num≤seenN (A++[(⟨g.frm,g.slot,g.num⟩:Seen)]++C) m'.slot:=h2;by_cases e:m'.slot=g.slot
    ·have:m'=m:=Ry h.mvs hm' hm (by rw[e,m1]);subst this;simp[m3]
    ·rw[hN2 _ e] at h2;have:=h.seen m' hm' h1 h2;simp[this] }
 ·-- it came before
  have hcond:¬ ∀ x∈B,x.num<g.num:=fun hall=>by
   rcases hB with rfl|⟨y,rfl,hy⟩
   ·simp at hN;omega
   ·have:=hall y (by simp);simp at hN;omega
  rw[if_neg hcond] at hT hR;refine⟨_,fb,hT,hR,h.okb,?_⟩;exact {
   oka:=h.oka
   okb:=h.okb
   ma:=h.ma
   mb:=h.mb
   ia:=h.ia
   ib:=h.ib
   da:=h.da
   dbb:=h.dbb
   cov:=h.cov
   lock:=h.lock
   good:=h.good
   cl:=by have:=h.cl;omega
   la0:=h.la0
   la:=by have:=h.la;omega
   ep0:=h.ep0
   ep:=by have:=h.ep;omega
   mvl:=h.mvl
   mvs:=h.mvs
   mvo:=h.mvo
   sns:=h.sns
   sno:=h.sno
   snl:=by omega
   msgs:=fun q hq=>by
    rcases List.mem_append.1 hq with hq|hq
    ·exact h.msgs q hq
    ·simp at hq;subst hq;exact .inr ⟨rfl,h.ib,hn1,by show g.num≤seenN b.seen g.slot;omega⟩
   netl:=by simp;omega
   seen:=h.seen }
theorem RA {w:List Pair} {j:Nat} {fa fb:ByteArray→Bool} {a b:Node} {net:List Msg} (h:Inv w j fa fb a b net) (hj:j≤80) (hw:SrtP w) (hwl:w.length≤40) (hkey:∀ p∈w,keyed p.key) {g:Msg} (hg:g∈net) (hk:g.kind≠2) :
  ∃ a' fa',BW big a g=some a'∧Ck big a g=some a'∧OkN a'∧Inv w (j+1) fa' fb a' b net:=by
 rcases h.msgs g hg with ⟨h2,_⟩|⟨gk,gf,gn,gs⟩
 ·exact absurd h2 hk
 obtain⟨A,B,C,hs,hA,hC,hB⟩:=HR (fun x:Move=>x.slot) g.slot a.moves h.mvs;have hmvl:=h.mvl;have hnetl:=h.netl;have hsame:Inv w (j+1) fa fb a b net:={
  oka:=h.oka
  okb:=h.okb
  ma:=h.ma
  mb:=h.mb
  ia:=h.ia
  ib:=h.ib
  da:=h.da
  dbb:=h.dbb
  cov:=h.cov
  lock:=h.lock
  good:=h.good
  cl:=by have:=h.cl;omega
  la0:=h.la0
  la:=by have:=h.la;omega
  ep0:=h.ep0
  ep:=by have:=h.ep;omega
  mvl:=h.mvl
  mvs:=h.mvs
  mvo:=h.mvo
  sns:=h.sns
  sno:=h.sno
  snl:=by have:=h.snl;omega
  msgs:=h.msgs
  netl:=by omega
  seen:=h.seen }
 by_cases hy:∃ x,B=[x]∧x.num=g.num
 ·obtain⟨x,rfl,hxn⟩:=hy;have hxs:x.slot=g.slot:=by
   rcases hB with e|⟨y,e,hy⟩
   ·cases e
   ·have:=(List.cons.inj e).1;rw[this];exact hy
  have hxm:x∈a.moves:=by rw[hs];simp
  have hxo:=h.mvo x hxm;have hx1:1≤x.num:=by omega
  have hfb:fb x.key=true:=h.seen x hxm hx1 (by rw[hxn,hxs];exact gs);have hxt:x.to=g.frm:=by rw[hxo.to,gf]
  have hP:=Ql a h.oka g A C x hs hA hC hxs hx1 hxn hxt;have hR:=Pg a h.oka g A C x hs hA hxs hx1 hxn hxt;obtain⟨p,hp,hpk,hpf,hps⟩:=hxo.key hx1;have hdb:(AckedP a A x C).db=subP w fun y=>fa y && decide (y≠x.key):=by
   show applyP a.db (goneE x.key)=_;rw[h.da];exact Qt hw fa x.key
  have hml:(A++[(⟨x.slot,x.to,0,⟨#[]⟩⟩:Move)]++C).length≤6:=by
   have:a.moves.length=(A++[x]++C).length:=by rw[hs]
   simp at this ⊢;omega
  have hok:OkN (AckedP a A x C):=OkN.app h.oka (e:=goneE x.key) (by show keyed x.key;rw[← hpk];exact hkey p hp) MW (by
   have e:applyP a.db (goneE x.key)=subP w fun y=>fa y && decide (y≠x.key):=hdb;rw[e];have:=FM w fun y=>fa y && decide (y≠x.key);omega) (by omega) h.oka.sn
  have hAm:∀ m∈A,m∈a.moves:=fun m hm=>by rw[hs];simp[hm]
  have hCm:∀ m∈C,m∈a.moves:=fun m hm=>by rw[hs];simp[hm]
  have hsplit:∀ m∈a.moves,m≠x→m∈A++[(⟨x.slot,x.to,0,⟨#[]⟩⟩:Move)]++C:=fun m hm hne=>by
   rw[hs] at hm;simp only[List.mem_append,List.mem_singleton] at hm ⊢;rcases hm with (hm|hm)|hm
   ·exact .inl (.inl hm)
   ·exact absurd hm hne
   ·exact .inr hm
  have hold:∀ m∈A++[(⟨x.slot,x.to,0,⟨#[]⟩⟩:Move)]++C,(m∈a.moves∧m.slot≠x.slot)∨m=⟨x.slot,x.to,0,⟨#[]⟩⟩:=fun m hm=>by
   simp only[List.mem_append,List.mem_singleton] at hm;rcases hm with (hm|hm)|hm
   ·exact .inl ⟨hAm m hm,by have:=hA m hm;omega⟩
   ·exact .inr hm
   ·exact .inl ⟨hCm m hm,by have:=hC m hm;omega⟩
  refine⟨AckedP a A x C,fun y=>fa y && decide (y≠x.key),hP,hR,hok,?_⟩;exact {
   oka:=hok
   okb:=h.okb
   ma:=h.ma
   mb:=h.mb
   ia:=h.ia
   ib:=h.ib
   da:=hdb
   dbb:=h.dbb
   cov:=fun q hq=>by
    by_cases e:q.key=x.key
    ·exact .inr (by rw[e];exact hfb)
    ·rcases h.cov q hq with h1|h1
     ·exact .inl (by simp[h1,e])
     ·exact .inr h1
   lock:=fun q hq h1 h2=>by
    simp only[Bool.and_eq_true,decide_eq_true_eq] at h1;obtain⟨m,k1,k2,k3⟩:=h.lock q hq h1.1 h2;exact⟨m,hsplit m k1 (fun e=>h1.2 (by rw[← k3,e])),k2,k3⟩
   good:=h.good
   cl:=by have:=h.cl;show a.claims.length≤_;omega
   la0:=h.la0
   la:=by have:=h.la;show a.last≤_;omega
   ep0:=h.ep0
   ep:=by have:=h.ep;show a.epoch≤_;omega
   mvl:=hml
   mvs:=by
    have:=h.mvs;rw[hs] at this;exact JI (key:=fun m:Move=>m.slot) (x:=⟨x.slot,x.to,0,⟨#[]⟩⟩) this (by show ∀ y∈A,y.slot<x.slot;rw[hxs];exact hA) (by show ∀ y∈C,x.slot<y.slot;rw[hxs];exact hC)
   mvo:=fun m hm=>by
    rcases hold m hm with ⟨k1,k2⟩|rfl
    ·have hmo:=h.mvo m k1;refine⟨hmo.to,hmo.slot,hmo.num0,hmo.num,fun hn=>?_⟩;obtain⟨q,g1,g2,g3,g4⟩:=hmo.key hn;refine⟨q,g1,g2,?_,g4⟩;have hne:q.key≠x.key:=fun e=>k2 (by rw[← g4,e,← hpk,hps]);simp[g3,hne]
    ·exact⟨hxo.to,hxo.slot,Int.le_refl _,h.la0,fun hn=>by simp at hn⟩
   sns:=h.sns
   sno:=h.sno
   snl:=by have:=h.snl;omega
   msgs:=fun q hq=>by
    rcases h.msgs q hq with ⟨g1,g2,p',g3,g4,g5,g6,g7,g8⟩|hk'
    ·refine .inl ⟨g1,g2,p',g3,g4,g5,g6,g7,?_⟩;rcases g8 with g8|⟨m,k1,k2,k3,k4⟩
     ·exact .inl g8
     ·by_cases e:m=x
      ·subst e;refine .inl ?_;rw[← k3,hxn,← k2,hxs];exact gs
      ·exact .inr ⟨m,hsplit m k1 e,k2,k3,k4⟩
    ·exact .inr hk'
   netl:=by omega
   seen:=fun m hm h1 h2=>by
    rcases hold m hm with ⟨k1,_⟩|rfl
    ·exact h.seen m k1 h1 h2
    ·simp at h1 }
 ·have hno:B=[]∨∃ x,B=[x]∧x.slot=g.slot∧(x.num<1∨x.num≠g.num∨x.to≠g.frm):=by
   rcases hB with e|⟨x,rfl,hx⟩
   ·exact .inl e
   ·exact .inr ⟨x,rfl,hx,.inr (.inl fun e=>hy ⟨x,rfl,e⟩)⟩
  have hP:=Rg a h.oka g A B C hs hA hC hno;have hR:=Qr a h.oka g fun x hx ⟨k1,k2,k3,k4⟩=>by
   rw[hs] at hx;simp only[List.mem_append] at hx;rcases hx with (hx|hx)|hx
   ·have:=hA x hx;omega
   ·rcases hB with rfl|⟨y,rfl,hy2⟩
    ·cases hx
    ·simp at hx;subst hx;exact hy ⟨_,rfl,k2⟩
   ·have:=hC x hx;omega
  exact⟨a,fa,hP,hR,h.oka,hsame⟩
structure MvOk (mv:List Move):Prop where
 srt:(mv.map fun m=>m.slot).Pairwise (·<·)
 all:∀ m∈mv,m.to=1∧m.num=0∧0≤m.slot∧m.slot<16384
def ndM (db:List Pair) (mv:List Move):Node:={ nd 0 db with moves:=mv }
theorem Pk {db:List Pair} (hok:okDB db) {mv:List Move} (hl:mv.length≤100) (h:MvOk mv) {s:Int} (hs1:0≤s∧s<16384) :
  ∃ mv' e,Dq big (ndM db mv) s 1=some ⟨ndM db mv',[],e⟩∧Cq big (ndM db mv) s 1=some (ndM db mv',e)∧mv'.length≤mv.length+1∧MvOk mv':=by
 have hn1:OkN (ndM db mv):=OkN.mvs (LU hok) (by omega) 0;obtain⟨A,B,C,hmv,hA,hC,hB⟩:=HR (fun x:Move=>x.slot) s mv h.srt;have hOf:Dw big [⟨0,16383,0,1⟩] s=some (0,1):=by
  rw[RI _ _ (by simp)];unfold fC;simp only[List.map_cons,List.map_nil,cP,fnP];rw[if_pos ⟨hs1.1,by omega⟩];rfl
 have hR:=Qq (ndM db mv) hn1 rfl rfl s 1 1 hs1.1 hs1.2 (by omega) (by omega) (by show (1:Int)≠0;omega) hOf A B C hmv hA hC hB;have hP:=Rc (ndM db mv) hn1 rfl rfl s 1 1 hs1.1 hs1.2 (by omega) (by omega) (by show (1:Int)≠0;omega) (Tg 0 1 s hs1.1 hs1.2) A B C hmv hA hC hB;rcases hB with rfl|⟨x,rfl,hx⟩
 ·rw[if_pos rfl] at hR hP;refine⟨A++[⟨s,1,0,⟨#[]⟩⟩]++C,0,hR,hP,by rw[hmv];simp;omega,?_,fun m hm=>?_⟩
  ·have c2:=h.srt;rw[hmv] at c2;exact JI (key:=fun m:Move=>m.slot) (x:=⟨s,1,0,⟨#[]⟩⟩) c2 hA hC
  ·simp only[List.mem_append,List.mem_singleton] at hm;rcases hm with (hm|hm)|hm
   ·exact h.all m (by rw[hmv];simp[hm])
   ·subst hm;exact⟨rfl,rfl,hs1.1,hs1.2⟩
   ·exact h.all m (by rw[hmv];simp[hm])
 ·rw[if_neg (by simp)] at hR hP;exact⟨mv,3,hR,hP,by omega,h⟩
set_option maxHeartbeats 4000000 in
theorem NP (ns slots acts:List Int) (hu:u8s ns) (hs:u8s slots) (ha:u8s acts):D1 big ns slots acts=some true:=by
 refine Rn.eq ?_;unfold D1;refine Rn.bn (P:=fun b=>b=false→ns.length≤100∧slots.length≤6∧acts.length≤80) ?_ fun b hb=>Rn.lt (zB (fun _=>zA M3 (Rn.some rfl)) fun h=>?_)
 ·refine Rn.lt (Rn.lt (zB (fun _=>Rn.some fun h=>by cases h) fun h=>Rn.lt (Rn.lt (zB (fun _=>Rn.some fun h=>by cases h) fun h2=>Rn.lt (Rn.lt (Rn.some fun h3=>?_))))));have h:=IP h;have h2:=IP h2;have h3:=IP h3;simp only[lenI] at h h2 h3;omega
 obtain⟨l1,l2,l3⟩:=hb h;clear h hb
 obtain⟨db,hdb,hok,hmay⟩:=Qh ns hu (by omega);refine zA (Oh 0 (by omega) ns db hdb) (zA (Oh 1 (by omega) [] [] Rs) ?_);have hdl:=hok.2.2.1
 -- slots begin to move
 refine Rn.bn (P:=fun y=>∃ mv:List Move,y=.inl (ndM db mv)∧mv.length≤6∧MvOk mv)
  (zI _ (fun i y=>∃ mv:List Move,y=((i:Int),ndM db mv)∧mv.length≤i∧MvOk mv) slots.length (by unfold big;omega) ⟨[],rfl,by simp,⟨by simp,by simp⟩⟩ fun i y hi hI=>?_) fun y hy=>?_
 ·obtain⟨mv,rfl,c1,c2⟩:=hI;refine Rn.lt (Rn.lt (zB (fun hd=>?_) fun hd=>Rn.some ⟨mv,rfl,by omega,c2⟩));have hd:=Eu hd;simp only[lenI] at hd;have hil:i<slots.length:=by omega
  refine zA (Au hil) ?_;have hu1:=hs _ (List.getElem_mem hil);generalize slots[i]=v at hu1;obtain⟨j,hj,-,hk⟩:=JC v hu1.1 hu1.2;have hsl:=(Hv (keyT j) (by rw[(KM hj).2.1];omega)).1;refine zA hk (zA hsl ?_);have hs1:=So ⟨j,hj,rfl⟩;generalize slotOf (keyT j)=s at hs1 hsl ⊢;obtain⟨mv',e,hR,hP,k1,k2⟩:=Pk hok (by omega) c2 hs1;have hn2:OkN (ndM db mv'):=OkN.mvs (LU hok) (by omega) 0;have hS:=EW _ hn2;refine zA hR (zA hk (zA hsl (zA hP ?_)));refine zA (v:=false) ?_ (Rn.lt (zB (fun h=>by cases h) fun _=>Rn.lt (Rn.some ⟨hil,mv',?_,by omega,k2⟩)))
  ·refine Rn.eq (zA hS (Rn.lt (zB (fun h=>by cases h) fun _=>zA (v:=e) rfl (Rn.lt (Rn.some ?_)))));exact Ba e
  ·rw[As (by omega) (by omega)];exact congrArg (fun z:Int=>(z,ndM db mv')) (by omega)
 ·obtain⟨mv,rfl,c1,⟨c2,c3⟩⟩:=hy;refine Rn.sm (fun a0 ha0=>?_) fun b hb=>by cases hb
  obtain rfl:=Sum.inl.inj ha0;have hn1:OkN (ndM db mv):=OkN.mvs (LU hok) (by omega) 0;have hmayI:∀ p∈db,mayI p.item:=fun p hp=>(hmay.1 p hp).2;have hsubT:subP db (fun _=>true)=db:=by unfold subP;simp
  have hsubF:subP db (fun _=>false)=[]:=by unfold subP;simp
  have q0:=LU (id:=1) Rt;have hb0:OkN { nd 1 [] with claims:=[⟨0,16383,0,1⟩] }:=⟨q0.srt,q0.okd,q0.dl,q0.key,q0.bk,q0.bl,by show 1≤1000;omega,q0.mv,q0.sn,q0.vt,q0.hd,q0.sy,q0.sz⟩;have hInv:Inv db 0 (fun _=>true) (fun _=>false) (ndM db mv) { nd 1 [] with claims:=[⟨0,16383,0,1⟩] } []:={
   oka:=hn1
   okb:=hb0
   ma:=rfl
   mb:=rfl
   ia:=rfl
   ib:=rfl
   da:=hsubT.symm
   dbb:=hsubF.symm
   cov:=fun p _=>.inl rfl
   lock:=fun p _ _ h=>by cases h
   good:=Rp 0 (by omega)
   cl:=Nat.le_refl _
   la0:=Int.le_refl _
   la:=Int.le_refl _
   ep0:=Int.le_refl _
   ep:=Int.le_refl _
   mvl:=c1
   mvs:=c2
   mvo:=fun m hm=>by
    obtain⟨k1,k2,k3,k4⟩:=c3 m hm;exact⟨k1,⟨k3,k4⟩,by omega,by rw[k2];exact Int.le_refl _,fun h=>by omega⟩
   sns:=List.Pairwise.nil
   sno:=fun x hx=>absurd hx List.not_mem_nil
   snl:=Nat.le_refl _
   msgs:=fun g hg=>absurd hg List.not_mem_nil
   netl:=Nat.le_refl _
   seen:=fun m hm h1=>by
    have:=(c3 m hm).2.1;omega }
  have hin:∀ {j:Nat} {fa fb:ByteArray→Bool} {a b:Node} {net:List Msg},Inv db j fa fb a b net→CC big a b db=some true:=fun h=>Pj _ _ db _ _ hok.1 hok.2.1 (by omega) (by have:=h.mvl;omega) h.da h.dbb h.cov h.lock;refine Rn.bn (P:=fun y:Unit ⊕ Bool=>y=.inl ()) (zI _ (fun i y=>∃ fa fb a b net,y=((i:Int),a,b,net)∧Inv db i fa fb a b net) acts.length (by unfold big;omega) ⟨_,_,_,_,_,rfl,hInv⟩ fun i y hi hI=>?_) fun y hy=>?_
  ·obtain⟨fa,fb,a,b,net,rfl,hI⟩:=hI;refine Rn.lt (Rn.lt (zB (fun hd=>?_) fun hd=>Rn.some rfl));have hd:=Eu hd;simp only[lenI] at hd;have hil:i<acts.length:=by omega
   have hi80:i≤80:=by omega
   have hnl:=hI.netl;refine Rn.bn (P:=fun z:(Node×Node×List Msg) ⊕ Bool=>∃ fa' fb' a' b' net',z=.inl (a',b',net')∧Inv db (i+1) fa' fb' a' b' net') ?_ fun z hz=>?_
   ·refine Rn.bn (P:=fun c:Bool=>c=false→0<net.length) ?_ fun c hc=>Rn.lt (zB (fun _=>?_) fun hcf=>?_)
    ·have hu1:=ha _ (List.getElem_mem hil);refine zA (Au hil) (zA (Bd hu1.1 (by omega)) (Rn.lt (zB (fun _=>Rn.some fun h=>by cases h) fun _=>Rn.lt (Rn.lt (Rn.some fun h=>?_)))));have h:=O6 h;simp only[lenI] at h;omega
    ·obtain⟨t1,t2,t3,t4,t5,t6⟩:=Qu hI hi80 hok.1 hok.2.1 hmayI hok.2.2.2;refine zA t2 (zA t1 (zA (v:=false) ?_ (Rn.lt (zB (fun h=>by cases h) fun _=>?_))))
     ·rw[EW _ t3,Ac,Ag,Bc,Aj,H1 _ (by omega) (fun g hg=>by
       obtain⟨e1,e2,e3⟩:=t4 g hg;rw[e2,e3];exact⟨e1,by simp,by simp⟩),Ac,Ag,Bc]
     ·exact Rn.room (by simp only;omega) (by simp only;omega) (Rn.lt (Rn.some ⟨_,_,_,_,_,rfl,t6⟩))
    ·have hnet:=hc hcf;have hu1:=ha _ (List.getElem_mem hil);refine zA (Au hil) (Rn.lt ?_);generalize acts[i]=v at hu1;rw[C8 (by omega) (by omega)];refine zA (IO hu1.1 (by omega) (by omega)) (Rn.lt (zA (Bd (by omega) (by simp only[lenI];omega)) ?_));have hidx:∃ q:Nat,q<net.length∧v / 3 % lenI net=(q:Int):=by
      have h1:0≤v / 3 % (net.length:Int):=Int.emod_nonneg _ (by omega);have h2:v / 3 % (net.length:Int)<(net.length:Int):=Int.emod_lt_of_pos _ (by omega);exact⟨(v / 3 % (net.length:Int)).toNat,by omega,by simp only[lenI];omega⟩
     obtain⟨q,hq,hqe⟩:=hidx;rw[hqe];refine zA (Au hq) (Rn.lt ?_);have hgm:net[q]∈net:=List.getElem_mem hq;generalize net[q]=g at hgm;refine zB (fun hk=>?_) fun hk=>?_
     ·obtain⟨b',fb',t1,t2,t3,t4⟩:=Qv hI hi80 hok.1 hdl hgm (eqI_d hk);refine zA t2 (zA t1 (zA (v:=false) ?_ (Rn.lt (zB (fun h=>by cases h) fun _=>?_))))
      ·rw[EW _ t3,Ac,Ag,Bc,Aj,H1 _ (by simp) (fun g hg=>by
        simp at hg;subst hg;exact⟨⟨Nat.zero_le _,fun e he=>absurd he List.not_mem_nil⟩,Nat.zero_le _,Nat.zero_le _⟩),Ac,Ag,Bc]
      ·exact Rn.room (by simp;omega) (by simp;omega) (Rn.lt (Rn.some ⟨_,_,_,_,_,rfl,t4⟩))
     ·obtain⟨a',fa',t1,t2,t3,t4⟩:=RA hI hi80 hok.1 hdl hok.2.2.2 hgm (O6 hk);refine zA t1 (zA t2 (zA (EW _ t3) (Rn.lt (zB (fun h=>by cases h) fun _=>Rn.some ⟨_,_,_,_,_,rfl,t4⟩))))
   ·obtain⟨fa',fb',a',b',net',rfl,hI'⟩:=hz;refine Rn.sm (fun x0 hx0=>?_) fun b hb=>by cases hb
    obtain rfl:=Sum.inl.inj hx0;refine zA (hin hI') (Rn.lt (zB (fun h=>by cases h) fun _=>Rn.lt (Rn.some ⟨hil,_,_,_,_,_,?_,hI'⟩)));rw[As (by simp only;omega) (by simp only;omega)];exact congrArg (fun z:Int=>(z,a',b',net')) (by simp only;omega)
  ·subst hy;exact zA M3 (Rn.some rfl)
end Go.Proofs.YtlbdhlbbkibgpaaGreat
namespace Go.Proofs.YtlbdhlbbkibgpaaGreat
open Go Go.RowKit
set_option maxRecDepth 100000
section
variable {P:Program} {n t:Nat} {ts:List T}
theorem WfT.bool (hu:P.underlying t=some .bool) (h:WfT P (n+1) t ts):∃ b,ts=[.v (.bool b)]:=by rw[WfT,hu] at h;exact h
theorem WfT.int {k:IntKind} (hu:P.underlying t=some (.int k)) (h:WfT P (n+1) t ts):∃ i,ts=[.v (.int k i)]∧(Lit.int k i).wf=true:=by rw[WfT,hu] at h;exact h
theorem WfT.slice {e:Nat} (hu:P.underlying t=some (.slice e)) (h:WfT P (n+1) t ts):∃ es,ts=[.sl (P.cellsOf e) es]∧es.length*P.bytesOf e≤reachBytes∧∀ x∈es,WfT P n e x:=by rw[WfT,hu] at h;exact h
theorem WfT.struct {fs:Array Go.Field} (hu:P.underlying t=some (.struct fs)) (h:WfT P (n+1) t ts):∃ ps:List (List T),ts=ps.flatten∧All2 (fun p f=>WfT P n f p) ps (fs.toList.map (·.type)):=by rw[WfT,hu] at h;exact h
end
theorem All2.cons_r {α β:Type} {R:α→β→Prop} {l:List α} {b:β} {bs:List β} (h:All2 R l (b::bs)):∃ x xs,l=x::xs∧R x b∧All2 R xs bs:=by
 cases l with
 |nil=>exact h.elim
 |cons x xs=>exact⟨x,xs,rfl,h⟩
theorem All2.nil_r {α β:Type} {R:α→β→Prop} {l:List α} (h:All2 R l ([]:List β)):l=[]:=by
 cases l with
 |nil=>rfl
 |cons x xs=>exact h.elim
def rngI (i:Int):Prop:=-9223372036854775808≤i∧i≤9223372036854775807
theorem Ol {α:Type} {enc:List α→List (List T)} {R:List T→Prop} {rng:α→Prop} (hn:enc []=[]) (hc:∀ x l,enc (x::l)=enc [x]++enc l) (h1:∀ e,R e→∃ x,enc [x]=[e]∧rng x) :
  ∀ es,(∀ x∈es,R x)→∃ l,es=enc l∧∀ x∈l,rng x
 |[],_=>⟨[],hn.symm,fun x h=>by cases h⟩
 |e::es,h=>by
  obtain⟨x,hx,rx⟩:=h1 e (h e (by simp));obtain⟨l,rfl,rl⟩:=Ol hn hc h1 es fun y hy=>h y (by simp[hy]);refine⟨x::l,by rw[hc,hx];rfl,?_⟩;intro y hy;rcases List.mem_cons.1 hy with rfl|hy
  ·exact rx
  ·exact rl y hy
def rngU (i:Int):Prop:=0≤i∧i≤255
theorem wf_U (n:Nat) (e:List T) (h:WfT Tryz.prog (n+1) 5 e):∃ x:Int,encU [x]=[e]∧rngU x:=by
 obtain⟨f,rfl,h2⟩:=WfT.int (t:=5) Tryz.underlying5 h;have h':=(Bool.and_eq_true _ _ ▸ h2:_∧_);have h1:=of_decide_eq_true h'.1;have h2:=of_decide_eq_true h'.2;exact⟨f,rfl,h1,h2⟩
theorem Pl {n:Nat} {es:List (List T)} (h:∀ x∈es,WfT Tryz.prog (n+1) 5 x):∃ l:List Int,es=encU l∧∀ x∈l,rngU x :=
 Ol (enc:=encU) (R:=fun e=>WfT Tryz.prog (n+1) 5 e) (rng:=rngU) rfl (fun _ _=>rfl) (@wf_U n) es h
def rngField (x:Field):Prop:=True
def rngItem (x:Item):Prop:=(rngI x.kind)∧(x.f.length≤4398046510976∧∀ y∈x.f,rngField y)∧(x.l.length≤8796093021952)∧(rngI x.exp)
def rngPair (x:Pair):Prop:=(rngItem x.item)
def rngEffect (x:Effect):Prop:=(rngItem x.item)
def rngRid (x:Rid):Prop:=(rngI x.node)∧(rngI x.epoch)
def rngFeed (x:Feed):Prop:=(rngRid x.rid)∧(rngI x.off)∧(x.back.length≤1353245080300∧∀ y∈x.back,rngEffect y)∧(rngRid x.prev)∧(rngI x.upto)
def rngClaim (x:Claim):Prop:=(rngI x.frm)∧(rngI x.to)∧(rngI x.node)∧(rngI x.epoch)
def rngMsg (x:Msg):Prop:=(rngI x.kind)∧(rngI x.frm)∧(rngI x.to)∧(rngI x.epoch)∧(x.claims.length≤4398046510976∧∀ y∈x.claims,rngClaim y)∧(x.nodes.length≤17592186043904∧∀ y∈x.nodes,rngI y)∧(rngI x.node)∧(rngI x.slot)∧(rngI x.num)∧(rngRid x.rid)∧(rngRid x.prev)∧(rngI x.off)∧(x.effects.length≤1353245080300∧∀ y∈x.effects,rngEffect y)
end Go.Proofs.YtlbdhlbbkibgpaaGreat
namespace Go.Proofs.YtlbdhlbbkibgpaaGreat
open Go Go.RowKit
open Go.ChangeShapes Go.WideShapes Go.ChangeAt Go.RowKit
theorem Tryz.own:ownKnob Tryz.prog.godebug=none:=by kernel_rfl
theorem Tryz.laidOut:laidOutB Tryz.prog=true:=by kernel_rfl
end Go.Proofs.YtlbdhlbbkibgpaaGreat
