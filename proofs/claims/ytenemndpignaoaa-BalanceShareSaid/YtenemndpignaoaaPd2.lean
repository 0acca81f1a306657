/- Part 2 of the proof. -/
import Derived.Test.YtenemndpignaoaaPd1
import Derived.Laws.Externs
import Derived.Lib.Bytealg
import Derived.Laws.Rows
import Derived.ChangeArms
import Derived.ChangeSame
import Derived.ChangeShapes
import Derived.DataReads
import Derived.Carry
import Derived.SizedLaws
import Derived.RowKit3
import Derived.WalkKit
import Derived.ProofKit
import Derived.OpenShut
import Derived.Test.YtenemndpignaoaaProg
set_option linter.unusedVariables false
set_option linter.unusedSimpArgs false
set_option linter.constructorNameAsVariable false
set_option maxRecDepth 8000
set_option maxHeartbeats 8000000
namespace Go.Proofs.Ytenemndpignaoaa
open Go Go.RowKit
def xbnd (st:St) (x:Option Operand) (d:Nat) (K:Nat→Prop):Prop :=
  match x with
  |none=>K d
  |some y=>match st.ev y with|.l (.s (.int _ n))=>0≤n∧K n.toNat|_=>False
theorem CH {st:St} {x:Option Operand} {d:Nat} {K:Nat→Prop} (h:xbnd st x d K):∃ l,Bnd st x d l∧K l:=by
  unfold xbnd at h;split at h
  · exact⟨d,rfl,h⟩
  · rename_i y
    split at h
    · rename_i k n hy
      exact⟨n.toNat,⟨k,by rw[hy,Int.toNat_of_nonneg h.1]⟩,h.2⟩
    · exact h.elim
def xlen (P:Program) (t:Nat) (x:AV) (st:St) (dst:Option Nat) (K:St→Prop):Prop :=
  match x with
  |.l (.d _ _ es)=>(elemF P t).isSome=true∧(es.length≤140737488355328→K (st.put dst (.l (.s (.int .i64 es.length)))))
  |.l (.r _ _ lo hi)=>(elemF P t).isSome=true∧K (st.put dst (.l (.s (.int .i64 ((hi - lo:Nat):Int)))))
  |.l (.s (.slice none 0 0))=>(elemF P t).isSome=true∧K (st.put dst (.l (.s (.int .i64 0))))
  |.l (.s (.string s))=>strF P t=true∧K (st.put dst (.l (.s (.int .i64 s.size))))
  |_=>False
def xapp (P:Program) (t:Nat) (s x:AV) (st:St) (dst:Option Nat) (K:St→Prop):Prop :=
  wh (elemF P t) fun e=>wh (tiF P e) fun ti=>ti.zero.length=ti.sz∧0<ti.sz∧0<ti.bytes∧wh (st.src ti.sz x) fun q =>
    match s with
    |.l (.s (.slice none 0 0))=>q.1*ti.bytes≤140737488355328∧K ((st.add ⟨e,ti.sz,true,none,q.2⟩).put dst (hdr st.ob.length ti.sz q.1))
    |.l (.r ob sz lo hi)=>wh (st.obj ob) fun z=>(sz=ti.sz∧z.ty=e∧z.sz=ti.sz∧z.row=true) ∧
        ((lo=0∧z.cs.length=hi*ti.sz∧(hi+q.1)*ti.bytes≤140737488355328 ∧
          K ((st.grow ob ⟨e,ti.sz,true,none,(z.cs++q.2).map (LV.ren (but ob))⟩).put dst (hdr ob ti.sz (hi+q.1)))) ∨
         ((hi+q.1)*ti.sz≤z.cs.length∧K ((st.setO ob { z with cs:=setAt z.cs (hi*ti.sz) q.2 }).put dst (.l (.r ob ti.sz lo (hi+q.1))))) ∨
         (lo=0∧z.cs.length=hi*ti.sz∧(hi+q.1)*ti.bytes≤140737488355328 ∧
          K (St.put { st with ob:=st.ob.set ob none++[some ⟨e,ti.sz,true,none,z.cs++q.2⟩] } dst (hdr st.ob.length ti.sz (hi+q.1)))) ∨
         (lo=0∧z.cs.length=hi*ti.sz∧(hi+q.1)*ti.bytes≤140737488355328∧hi+q.1≤140737488355328∧∃ es,All2 NilLe (z.cs++q.2) (lvs es)∧(∀ x∈es,x.length=ti.sz)∧hi+q.1=es.length ∧
          K (St.put { st with ob:=st.ob.set ob none++[none] } dst (.l (.d false ti.sz es)))))
    |.l .e=>0<q.1∧q.1*ti.bytes≤140737488355328∧K ((st.add ⟨e,ti.sz,true,none,q.2⟩).put dst (hdr st.ob.length ti.sz q.1))
    |_=>False
def xmake (P:Program) (t t':Nat) (s x:AV) (st:St) (dst:Option Nat) (K:St→Prop):Prop :=
  wh (elemF P t) fun e=>wh (tiF P e) fun ti=>(intF P t').isSome=true∧(ti.zero.length=ti.sz∧ti.zero.all (·.oneCell')=true∧0<ti.sz) ∧
    match s,x with
    |.l (.s (.slice none 0 0)),.l (.s (.int _ n))=>0<n∧n.toNat*ti.bytes≤281474976710656∧n.toNat≤4611686018427387904∧K ((st.add ⟨e,ti.sz,true,none,(repZ n.toNat ti.zero).map .s⟩).put dst (hdr st.ob.length ti.sz n.toNat))
    |.l (.r ob sz lo hi),.l (.s (.int _ n))=>sz=ti.sz∧wh (st.obj ob) fun z=>z.row=true∧wh z.cap fun c=>wh (st.src ti.sz (.l (.r ob ti.sz lo hi))) fun q=>q.1=hi - lo∧0<n∧lo≤hi∧c<hi+n.toNat∧(hi - lo+n.toNat)*ti.bytes≤140737488355328∧hi - lo+n.toNat≤4611686018427387904 ∧
        K ((st.add ⟨e,ti.sz,true,none,q.2++(repZ n.toNat ti.zero).map .s⟩).put dst (hdr st.ob.length ti.sz (hi - lo+n.toNat)))
    |_,_=>False
def xcap (P:Program) (t:Nat) (x:AV) (st:St) (dst:Option Nat) (K:St→Prop):Prop :=
  (elemF P t).isSome=true ∧
  match x with
  |.l (.s (.slice none 0 0))=>K (st.put dst (.l (.s (.int .i64 0))))
  |.l (.r ob _ lo hi)=>wh (st.obj ob) fun z=>z.row=true∧∀ c,hi≤c→(∀ k,z.cap=some k→c=k)→z.cs.length≤c*z.sz→K ((st.setO ob { z with cap:=some c }).put dst (.l (.s (.int .i64 ((c - lo:Nat):Int)))))
  |_=>False
def xcopy (P:Program) (t:Nat) (d x:AV) (st:St) (dst:Option Nat) (K:St→Prop):Prop :=
  wh (elemF P t) fun e=>wh (tiF P e) fun ti =>
    match d with
    |.l (.r ob sz lo hi)=>sz=ti.sz∧wh (st.obj ob) fun z=>hi*ti.sz≤z.cs.length ∧
      (match x with
      |.l (.r ob2 sz2 lo2 hi2)=>sz2=ti.sz∧lo2≤hi2∧0<min (hi2 - lo2) (hi - lo)∧wh (st.src ti.sz (.l (.r ob2 ti.sz lo2 (lo2+min (hi2 - lo2) (hi - lo))))) fun q=>q.1=min (hi2 - lo2) (hi - lo) ∧
          K ((st.setO ob { z with cs:=setAt z.cs (lo*ti.sz) q.2 }).put dst (.l (.s (.int .i64 ((min (hi2 - lo2) (hi - lo):Nat):Int)))))
      |x=>wh (st.src ti.sz x) fun q=>K ((st.setO ob { z with cs:=setAt z.cs (lo*ti.sz) (q.2.take (min q.1 (hi - lo)*ti.sz)) }).put dst (.l (.s (.int .i64 ((min q.1 (hi - lo):Nat):Int))))))
    |_=>False
def xclear (P:Program) (t:Nat) (x:AV) (st:St) (dst:Option Nat) (K:St→Prop):Prop :=
  dst=none∧wh (elemF P t) fun e=>wh (tiF P e) fun ti=>(ti.zero.length=ti.sz∧ti.zero.all (·.oneCell')=true) ∧
    match x with
    |.l (.r ob sz lo hi)=>sz=ti.sz∧wh (st.obj ob) fun z=>lo≤hi∧hi*ti.sz≤z.cs.length∧K (st.setO ob { z with cs:=setAt z.cs (lo*ti.sz) ((repZ (hi - lo) ti.zero).map .s) })
    |_=>False
def xslice3 (P:Program) (t:Nat) (x l h m:AV) (st:St) (dst:Option Nat) (K:St→Prop):Prop :=
  wh (elemF P t) fun e=>wh (tiF P e) fun ti =>
    match x,l,h,m with
    |.l (.r _ sz lo hi),.l (.s (.int _ l)),.l (.s (.int _ h)),.l (.s (.int _ m))=>sz=ti.sz∧0≤l∧l≤h∧h≤m∧m≤((hi - lo:Nat):Int)∧K (st.put dst (.l .u))
    |_,_,_,_=>False
def xmm (f:Int→Int→Int) (x y:AV) (st:St) (dst:Option Nat) (K:St→Prop):Prop :=
  match x,y with
  |.l (.s (.int k a)),.l (.s (.int k' b))=>k=k'∧K (st.put dst (.l (.s (.int k (f a b)))))
  |_,_=>False
def xcallop (P:Program) (c:Call) (st:St) (dst:Option Nat) (K:St→Prop):Prop :=
  match c.callee with
  |.value g =>
    match st.ev g with
    |.l (.s (.func (.func f) fi ca))=>(fi=#[]∧ca=#[])∧xcall P f (c.args.toList.map st.ev) st dst K
    |.l (.f f caps)=>xcall P f (c.args.toList.map st.ev++caps.map fun o=>.l (.p o 0)) st dst K
    |_=>False
  |.builtin .len=>match c.args.toList,c.argTypes.toList with|[x],[t]=>xlen P t (st.ev x) st dst K|_,_=>False
  |.builtin .append=>match c.args.toList,c.argTypes.toList with|[s,x],[t,t']=>if t=t' then xapp P t (st.ev s) (st.ev x) st dst K else xmake P t t' (st.ev s) (st.ev x) st dst K|_,_=>False
  |.builtin .cap=>match c.args.toList,c.argTypes.toList with|[x],[t]=>xcap P t (st.ev x) st dst K|_,_=>False
  |.builtin .copy=>match c.args.toList,c.argTypes.toList with|[d,x],[t,_]=>xcopy P t (st.ev d) (st.ev x) st dst K|_,_=>False
  |.builtin .clear=>match c.args.toList,c.argTypes.toList with|[x],[t]=>xclear P t (st.ev x) st dst K|_,_=>False
  |.builtin .max=>match c.args.toList with|[x,y]=>xmm max (st.ev x) (st.ev y) st dst K|_=>False
  |.builtin .min=>match c.args.toList with|[x,y]=>xmm min (st.ev x) (st.ev y) st dst K|_=>False
  |_=>False
def xslice (P:Program) (t:Nat) (x:AV) (lo hi:Option Operand) (st:St) (dst:Option Nat) (K:St→Prop):Prop :=
  match x with
  |.l (.s (.string s))=>strF P t=true∧xbnd st lo 0 fun l=>xbnd st hi s.size fun h=>l≤h∧h≤s.size∧K (st.put dst (.l (.s (.string (s.extract l h)))))
  |.l (.d al sz es)=>wh (elemF P t) fun e=>wh (tiF P e) fun ti=>sz=ti.sz∧xbnd st lo 0 fun l=>xbnd st hi es.length fun h=>l≤h∧h≤es.length∧K (st.put dst (.l (.d al sz ((es.drop l).take (h - l)))))
  |.l (.r ob sz l0 h0)=>wh (elemF P t) fun e=>wh (tiF P e) fun ti=>wh (st.obj ob) fun z=>(z.row=true∧z.sz=sz∧sz=ti.sz∧0<sz)∧xbnd st lo 0 fun l=>xbnd st hi (h0 - l0) fun h=>l≤h∧(l0+h)*sz≤z.cs.length ∧
      K (st.put dst (.l (.r ob sz (l0+l) (l0+h))))
  |.l (.s (.slice none 0 0))=>wh (elemF P t) fun e=>wh (tiF P e) fun ti=>xbnd st lo 0 fun l=>xbnd st hi 0 fun h=>l=0∧h=0∧K (st.put dst (.l (.s (.slice none 0 0))))
  |_=>False
def xeq (P:Program) (op:BinOp) (t:Nat) (x y:AV) (st:St) (dst:Option Nat) (K:St→Prop):Prop :=
  match x,y with
  |.l (.s a),.l (.s b)=>wh (bopP P op t a b) fun v=>K (st.put dst (.l (.s v)))
  |.l (.d _ _ es),.l (.s (.slice none 0 0))=>(op=.eql∨op=.neq)∧(elemF P t).isSome=true∧∀ b:Bool,(es≠[]→b=false)→K (st.put dst (.l (.s (.bool (if op=.eql then b else !b)))))
  |.g xs,.g ys=>(op=.eql∨op=.neq)∧wh (seqF P t) fun ks=>wh (veqs ks xs ys) fun b=>K (st.put dst (.l (.s (.bool (if op=.eql then b else !b)))))
  |_,_=>False
def xidx (P:Program) (t:Nat) (x i:AV) (st:St) (dst:Option Nat) (K:St→Prop):Prop :=
  match i with
  |.l (.s (.int _ n))=>0≤n∧wh (elemF P t) fun e=>wh (tiF P e) fun ti =>
    match x with
    |.l (.d al sz es)=>sz=ti.sz∧wh (es[n.toNat]?) fun c=>K (st.put dst (.l (.q al c 0)))
    |.l (.r ob sz lo hi)=>sz=ti.sz∧n.toNat<hi - lo∧K (st.put dst (.l (.p ob ((lo+n.toNat)*ti.sz))))
    |_=>False
  |_=>False
def xrow (st:St) (dst:Option Nat) (e sz len:Nat) (cs:List LV) (p:Prop) (K:St→Prop):Prop :=
  (∃ cs',All2 NilLe cs cs'∧K ((st.add ⟨e,sz,true,none,cs'⟩).put dst (hdr st.ob.length sz len))) ∨
  (∃ es,All2 NilLe cs (lvs es)∧(∀ x∈es,x.length=sz)∧0<sz∧len=es.length∧K (st.put dst (.l (.d false sz es)))) ∨
  (p∧len=0∧K (st.put dst (.l .e)))
def xconv (P:Program) (src dst':Nat) (x:AV) (st:St) (dst:Option Nat) (K:St→Prop):Prop :=
  match x with
  |.l (.s (.int _ n))=>(P.underlying src).isSome=true∧wh (intF P dst') fun k=>K (st.put dst (.l (.s (.int k (k.wrap n)))))
  |.l (.s (.string s))=>if strF P dst'=true then (P.underlying src).isSome=true∧K (st.put dst (.l (.s (.string s)))) else
      wh (elemF P dst') fun e=>strF P src=true∧intF P e=some .u8∧s.size≤140737488355328∧K (st.put dst (.l (.d false 1 (bytesT s))))
  |x=>wh (elemF P src) fun e=>intF P e=some .u8∧strF P dst'=true∧wh (st.src 1 x) fun q=>wh (byteL q.2) fun bs=>K (st.put dst (.l (.s (.string ⟨bs.toArray⟩))))
def xmakeS (P:Program) (t:Nat) (x y:AV) (st:St) (dst:Option Nat) (K:St→Prop):Prop :=
  match x,y with
  |.l (.s (.int _ n)),.l (.s (.int _ c))=>wh (elemF P t) fun e=>wh (tiF P e) fun ti=>(ti.zero.length=ti.sz∧ti.zero.all (·.oneCell')=true∧0<ti.sz)∧0≤n∧n≤c∧c.toNat*ti.bytes≤140737488355328∧c≤140737488355328 ∧
      xrow st dst e ti.sz n.toNat ((repZ n.toNat ti.zero).map .s) False K
  |_,_=>False
def xo (P:Program) (o:Oper) (st:St) (K:St→Prop):Prop :=
  match o.op with
  |.move x=>K (st.put o.dst (st.ev x))
  |.assign x=>K (st.put o.dst (st.ev x))
  |.pick c x y=>match st.ev c with|.l (.s (.bool b))=>K (st.put o.dst (bif b then st.ev x else st.ev y))|_=>False
  |.load t x=>wh (tiF P t) fun ti=>wh (st.at (st.ev x)) fun c=>wh (ldX ti c.1 c.2) fun v=>K (st.put o.dst v)
  |.store t x y=>wh (tiF P t) fun ti =>
    match st.ev x with
    |.l (.p ob off)=>wh (st.obj ob) fun z=>(st.ev y).ok=true∧(st.ev y).cells.length=ti.sz∧off+ti.sz≤z.cs.length∧K ((st.setO ob { z with cs:=setAt z.cs off (st.ev y).cells }).put o.dst (.l .u))
    |_=>False
  |.alloc t=>wh (tiF P t) fun ti=>ti.zero.all (·.oneCell')=true∧K ((st.add ⟨t,ti.sz,false,none,ti.zero.map .s⟩).put o.dst (ptr st.ob.length))
  |.box t x=>(st.ev x).ok=true∧K ((st.add ⟨t,(st.ev x).cells.length,false,none,(st.ev x).cells⟩).put o.dst (ptr st.ob.length))
  |.build t parts=>wh (tiF P t) fun ti=>wh (flds P t) fun fs=>ti.zero.all (·.oneCell')=true∧wh (fillA (fun i=>(fs[i]?).map fun x=>(x.1,x.2.1)) (ti.zero.map .s) (parts.toList.map fun x=>(x.1,st.ev x.2))) fun cs=>K (st.put o.dst (.g cs))
  |.buildSlice t len parts=>wh (elemF P t) fun e=>wh (tiF P e) fun ti=>(ti.zero.all (·.oneCell')=true∧ti.zero.length=ti.sz∧len*ti.sz≤16777216∧len≤16777216) ∧
      wh (fillA (fun i=>some (i*ti.sz,ti.sz)) ((repZ len ti.zero).map .s) (parts.toList.map fun x=>(x.1,st.ev x.2))) fun cs=>xrow st o.dst e ti.sz len cs (parts=#[]) K
  |.fieldAddr s x f=>wh (flds P s) fun fs=>wh (fs[f]?) fun q=>q.2.1≠0∧(match st.ev x with|.l p=>p.isPtr=true∧K (st.put o.dst (.l (p.add q.1)))|_=>False)
  |.field s x f=>wh (flds P s) fun fs=>wh (fs[f]?) fun q=>(match st.ev x with|.g cs=>q.1+q.2.1≤cs.length∧wh (if q.2.2=true then some (.g ((cs.drop q.1).take q.2.1)) else (cs[q.1]?).map .l) fun v=>K (st.put o.dst v)|_=>False)
  |.indexAddr t x i=>xidx P t (st.ev x) (st.ev i) st o.dst K
  |.index t x i=>match st.ev x,st.ev i with|.l (.s (.string s)),.l (.s (.int _ n))=>strF P t=true∧0≤n∧n.toNat<s.size∧K (st.put o.dst (.l (.s (.int .u8 (bAt s n.toNat)))))|_,_=>False
  |.slice t x lo hi none=>xslice P t (st.ev x) lo hi st o.dst K
  |.slice t x (some l) (some h) (some m)=>xslice3 P t (st.ev x) (st.ev l) (st.ev h) (st.ev m) st o.dst K
  |.binOp op t x y _=>xeq P op t (st.ev x) (st.ev y) st o.dst K
  |.unOp op _ x=>match st.ev x with|.l (.s a)=>wh (uop op a) fun v=>K (st.put o.dst (.l (.s v)))|_=>False
  |.convert src dst x=>xconv P src dst (st.ev x) st o.dst K
  |.makeSlice t x y=>xmakeS P t (st.ev x) (st.ev y) st o.dst K
  |.extract x i=>wh (tget (st.ev x) i) fun v=>K (st.put o.dst v)
  |.makeFunc (.func f) fi cs=>fi=#[]∧wh (capt (cs.toList.map st.ev)) fun ids=>K (st.put o.dst (.l (.f f ids)))
  |.nilCheck x=>match st.ev x with|.l p=>p.isPtr=true∧K (st.put o.dst (.l p))|_=>False
  |.call c=>xcallop P c st o.dst K
  |_=>False
section
variable {P:Program} {R:Option Nat} {cx:Cx} {o:Oper} {st:St} {K:St→Prop}
theorem OpOk.buildE {t e:Nat} {ti:TI} (ho:o.op=.buildSlice t 0 #[]) (he:elemF P t=some e) (hti:tiF P e=some ti):OpOk P cx o st (st.put o.dst (.l .e)):=by
  intro σ a w hr;refine⟨.slice (some ⟨w.heap.size,0,none⟩) 0 0,w.alloc (.cells #[] e),σ,?_,(hr.allocB _).put o.dst ⟨_,rfl⟩⟩;simp[execOp,ho,Instr.buildSlice,run_underlying (AE he),Bc hti,newRow,Instr.fill,World.drewN];rw[show (Array.map (fun _=>(default:Value)) (Array.range 0))=#[] from Array.eq_empty_of_size_eq_zero (by simp)]
theorem OpOk.append_e {t e m:Nat} {s x:Operand} {ti:TI} {nc:List LV} (ho:o.op=.call { callee:=.builtin .append,args:=#[s,x],argTypes:=#[t,t] }) (he:elemF P t=some e) (hti:tiF P e=some ti)
    (hzl:ti.zero.length=ti.sz) (h0:0<ti.sz) (hb0:0<ti.bytes) (hs:st.ev s=.l .e) (hx:st.src ti.sz (st.ev x)=some (m,nc)) (hm:0<m) (hbytes:m*ti.bytes≤140737488355328) :
    OpOk P cx o st ((st.add ⟨e,ti.sz,true,none,nc⟩).put o.dst (hdr st.ob.length ti.sz m)):=by
  intro σ a w hr;have hv:=hr.ev s;rw[hs] at hv;obtain⟨ad0,hv'⟩:=hv;obtain⟨news,hnews,hrel⟩:=EX hr hx;obtain⟨i,d,z,h1,h2,h3,rfl⟩:=Cg hti;simp only at hzl h0 hb0 hbytes hnews hx hrel ⊢;rcases hnews with ⟨_,h,_⟩|⟨ad,c,hxe,hl,hc,h1'⟩
  · omega
  · have hmm:m≤maxLen:=by
      have:m≤m*i.bytes:=Nat.le_mul_of_pos_right _ hb0;unfold maxLen;omega
    have hrun:=run_append_grow (P:=P) w t o.type e i z (AE he) h1 h3 ad0 0 0 [] (by simp) (fun j v h=>by simp at h) ad m c news hl hc (by omega) (by unfold maxLen at hmm;omega) (growslice_fits (by omega) (by simpa using hbytes));simp only[Nat.zero_add] at hrun;have hge:=grownCap_ge w m 0 e;have hcm:grownCap w m 0 e≤maxLen:=grownCap_le_maxLen w m 0 e hmm;have hgr:w.grownBy (w.drew.alloc (.cells (([]:List Value).toArray++news.toArray++Builtin.zeroCells z.cells (grownCap w m 0 e - m)) e)) none:=⟨rfl,rfl,rfl,by simp,fun k hk _=>Go.heap_alloc_old w.drew _ (r:=k) hk⟩;have hn:=hr.newAt ⟨e,i.size,true,none,nc⟩ (some (w.heap.size,grownCap w m 0 e)) hgr (fun b k h=>by simp at h;omega) (fun b k h=>by
      simp at h;obtain⟨rfl,rfl⟩:=h;refine⟨news,(Builtin.zeroCells z.cells (grownCap w m 0 e - m)).toList,?_,hrel,fun h=>by simp at h,fun _=>⟨?_,hcm,fun _ k' h=>by simp at h⟩⟩
      · have:=Go.heap_alloc_new w.drew (.cells (([]:List Value).toArray++news.toArray++Builtin.zeroCells z.cells (grownCap w m 0 e - m)) e)
        rw[show w.drew.heap.size=w.heap.size from rfl] at this;rw[this];simp
      · have:z.cells.size=i.size:=by simpa using hzl
        simp[size_zeroCells,this,hl,← Nat.add_mul];congr 1
        omega) (fun h=>by simp at h)
    refine⟨_,_,_,?_,hn.put o.dst (.inr ⟨w.heap.size,_,0,AQ _ _ _,Nat.zero_le _,hge,by simp;exact rfl,fun _=>by simp⟩)⟩;simp[execOp,ho,resolve,invoke,builtin,hv',hxe,hrun]
theorem OpFam.fact {p:Prop} (h:∀ σ a w,RelS cx σ st a w→p) (k:p→OpFam P R cx o st K):OpFam P R cx o st K:=fun σ a w hr=>k (h σ a w hr) σ a w hr
theorem IG {t:Nat} {x:Operand} (ho:o.op=.call { callee:=.builtin .len,args:=#[x],argTypes:=#[t] }) (h:xlen P t (st.ev x) st o.dst K):OpFam P R cx o st K:=by
  have hd:∀ c,o.op≠.defer c:=fun c e=>by rw[ho] at e;simp at e
  unfold xlen at h;split at h
  · rename_i al sz es hx
    obtain⟨e,he⟩:=Option.isSome_iff_exists.1 h.1;exact .fact (fun σ a w hr=>I9 hr hx) fun hl=>.ok hd (.len_d ho he hx) (h.2 hl)
  · rename_i ob sz lo hi hx
    obtain⟨e,he⟩:=Option.isSome_iff_exists.1 h.1;exact .ok hd (.len_r ho he hx) h.2
  · rename_i hx
    obtain⟨e,he⟩:=Option.isSome_iff_exists.1 h.1;exact .ok hd (.len_nil ho he hx) h.2
  · rename_i s hx
    exact .ok hd (.len_s ho h.1 hx) h.2
  · exact h.elim
theorem IH {t:Nat} {s x:Operand} (ho:o.op=.call { callee:=.builtin .append,args:=#[s,x],argTypes:=#[t,t] }) (h:xapp P t (st.ev s) (st.ev x) st o.dst K):OpFam P R cx o st K:=by
  have hd:∀ c,o.op≠.defer c:=fun c e=>by rw[ho] at e;simp at e
  unfold xapp at h;obtain⟨e,he,h⟩:=Ax h;obtain⟨ti,hti,h1,h2,h3,h⟩:=Ax h;obtain⟨q,hq,h⟩:=Ax h;split at h
  · rename_i hs
    exact .ok hd (.append_nil ho he hti h1 h2 h3 hs hq h.1) h.2
  · rename_i ob sz lo hi hs
    obtain⟨z,hz,⟨rfl,h4,h5,h6⟩,⟨rfl,h7,h8,hk⟩|⟨h7,hk⟩|⟨rfl,h7,h8,hk⟩|⟨rfl,h7,h8,h9,es,g1,g2,g3,hk⟩⟩:=Ax h
    · exact .ok hd (.append_own ho he hti h1 h2 h3 hs hz ⟨h4,h5,h6⟩ h7 hq h8) hk
    · exact .ok hd (.append_in ho he hti h2 hs hz ⟨h5,h6⟩ hq h7) hk
    · exact .ok hd (.append_new ho he hti h1 h2 h3 hs hz ⟨h4,h5,h6⟩ h7 hq h8) hk
    · refine .ok hd (OpOk.freshG (ob':=st.ob.set ob none) (e:=e) (len:=hi+q.1) (by simp) (fun i x hi=>?_) ?_ g1 g2 h2 g3 (by omega)) hk
      · by_cases e:ob=i
        · subst e
          by_cases hl:ob<st.ob.length
          · rw[List.getElem?_set_self hl] at hi
            simp at hi
          · rw[List.getElem?_eq_none (by simpa using hl)] at hi
            simp at hi
        · rw[List.getElem?_set_ne e] at hi
          exact hi
      · have:=OpOk.append_new (cx:=cx) ho he hti h1 h2 h3 hs hz ⟨h4,h5,h6⟩ h7 hq h8
        rw[List.length_set];exact this
  · rename_i hs
    exact .ok hd (.append_e ho he hti h1 h2 h3 hs hq h.1 h.2.1) h.2.2
  · exact h.elim
theorem H7 {t t':Nat} {s x:Operand} (ho:o.op=.call { callee:=.builtin .append,args:=#[s,x],argTypes:=#[t,t'] }) (h:xmake P t t' (st.ev s) (st.ev x) st o.dst K):OpFam P R cx o st K:=by
  have hd:∀ c,o.op≠.defer c:=fun c e=>by rw[ho] at e;simp at e
  unfold xmake at h;obtain⟨e,he,h⟩:=Ax h;obtain⟨ti,hti,h1,⟨h2,h3,h4⟩,h⟩:=Ax h;obtain⟨k,hk'⟩:=Option.isSome_iff_exists.1 h1;split at h
  · rename_i kq n hs hx
    obtain⟨g1,g2,g3,hk⟩:=h;have hx':st.ev x=.l (.s (.int kq (n.toNat:Int))):=by rw[hx,Int.toNat_of_nonneg (by omega)]
    exact .ok hd (.append_make_nil ho he hk' hti h2 h3 h4 hs hx' (by omega) g2 g3) hk
  · rename_i ob sz lo hi kq n hs hx
    obtain⟨rfl,h⟩:=h;obtain⟨z,hz,hrow,h⟩:=Ax h;obtain⟨c,hc,h⟩:=Ax h;obtain⟨q,hq,g0,g1,g2,g3,g4,g5,hk⟩:=Ax h;obtain⟨q1,q2⟩:=q;simp only at g0 hk;subst g0;have hx':st.ev x=.l (.s (.int kq (n.toNat:Int))):=by rw[hx,Int.toNat_of_nonneg (by omega)]
    exact .ok hd (.append_make_grow ho he hk' hti h2 h3 h4 hs hz hrow hc hq hx' (by omega) g2 g3 g4 g5) hk
  · exact h.elim
theorem II {t:Nat} {x:Operand} (ho:o.op=.call { callee:=.builtin .cap,args:=#[x],argTypes:=#[t] }) (h:xcap P t (st.ev x) st o.dst K):OpFam P R cx o st K:=by
  have hd:∀ c,o.op≠.defer c:=fun c e=>by rw[ho] at e;simp at e
  unfold xcap at h;obtain⟨he,h⟩:=h;obtain⟨e,he⟩:=Option.isSome_iff_exists.1 he;split at h
  · rename_i hx
    exact .ok hd (.cap_nil ho he hx) h
  · rename_i ob sz lo hi hx
    obtain⟨z,hz,hrow,hk⟩:=Ax h;exact .cap_r ho he hx hz hrow hk
  · exact h.elim
theorem H8 {t t':Nat} {d x:Operand} (ho:o.op=.call { callee:=.builtin .copy,args:=#[d,x],argTypes:=#[t,t'] }) (h:xcopy P t (st.ev d) (st.ev x) st o.dst K):OpFam P R cx o st K:=by
  have hd:∀ c,o.op≠.defer c:=fun c e=>by rw[ho] at e;simp at e
  unfold xcopy at h;obtain⟨e,he,h⟩:=Ax h;obtain⟨ti,hti,h⟩:=Ax h;split at h
  · rename_i ob sz lo hi hx
    obtain⟨rfl,h⟩:=h;obtain⟨z,hz,hfit,h⟩:=Ax h;split at h
    · rename_i ob2 sz2 lo2 hi2 hx2
      obtain⟨rfl,h1,h2,h⟩:=h;obtain⟨q,hq,h3,hk⟩:=Ax h;obtain⟨q1,q2⟩:=q;simp only at h3 hk;subst h3;exact .ok hd (.copy_part ho he hti hx hz hfit hx2 h1 hq h2) hk
    · obtain⟨q,hq,hk⟩:=Ax h
      exact .ok hd (.copy_r ho he hti hx hz hfit hq) hk
  · exact h.elim
theorem HB {t:Nat} {x:Operand} (ho:o.op=.call { callee:=.builtin .clear,args:=#[x],argTypes:=#[t] }) (h:xclear P t (st.ev x) st o.dst K):OpFam P R cx o st K:=by
  have hd:∀ c,o.op≠.defer c:=fun c e=>by rw[ho] at e;simp at e
  obtain⟨hdst,h⟩:=h;obtain⟨e,he,h⟩:=Ax h;obtain⟨ti,hti,⟨h1,h2⟩,h⟩:=Ax h;split at h
  · rename_i ob sz lo hi hx
    obtain⟨rfl,h⟩:=h;obtain⟨z,hz,h3,h4,hk⟩:=Ax h;exact .ok hd (.clear_r ho hdst he hti h1 h2 hx hz h3 h4) hk
  · exact h.elim
theorem G9 {t:Nat} {x l h m:Operand} (ho:o.op=.slice t x (some l) (some h) (some m)) (hh:xslice3 P t (st.ev x) (st.ev l) (st.ev h) (st.ev m) st o.dst K):OpFam P R cx o st K:=by
  have hd:∀ c,o.op≠.defer c:=fun c e=>by rw[ho] at e;simp at e
  unfold xslice3 at hh;obtain⟨e,he,hh⟩:=Ax hh;obtain⟨ti,hti,hh⟩:=Ax hh;split at hh
  · rename_i ob sz lo hi k1 l' k2 h' k3 m' hx hl hh' hm
    obtain⟨rfl,g1,g2,g3,g4,hk⟩:=hh;obtain⟨l',rfl⟩:=Int.eq_ofNat_of_zero_le g1;obtain⟨h',rfl⟩:=Int.eq_ofNat_of_zero_le (show 0≤h' by omega);obtain⟨m',rfl⟩:=Int.eq_ofNat_of_zero_le (show 0≤m' by omega);exact .ok hd (.slice3_r ho he hti hx hl hh' hm (by omega) (by omega) (by omega)) hk
  · exact hh.elim
theorem HC {t:Nat} {x:Operand} {lo hi:Option Operand} (ho:o.op=.slice t x lo hi none) (h:xslice P t (st.ev x) lo hi st o.dst K):OpFam P R cx o st K:=by
  have hd:∀ c,o.op≠.defer c:=fun c e=>by rw[ho] at e;simp at e
  unfold xslice at h;split at h
  · rename_i s hx
    obtain⟨hs,h⟩:=h;obtain⟨l,hl,h⟩:=CH h;obtain⟨m,hm,h1,h2,hk⟩:=CH h;exact .ok hd (.slice_s ho hs hx hl hm h1 h2) hk
  · rename_i al sz es hx
    obtain⟨e,he,h⟩:=Ax h;obtain⟨ti,hti,hsz,h⟩:=Ax h;obtain⟨l,hl,h⟩:=CH h;obtain⟨m,hm,h1,h2,hk⟩:=CH h;exact .ok hd (.slice_d ho he hti hx hsz hl hm h1 h2) hk
  · rename_i ob sz l0 h0 hx
    obtain⟨e,he,h⟩:=Ax h;obtain⟨ti,hti,h⟩:=Ax h;obtain⟨z,hz,⟨h1,h2,h3,h4⟩,h⟩:=Ax h;obtain⟨l,hl,h⟩:=CH h;obtain⟨m,hm,h5,h6,hk⟩:=CH h;exact .ok hd (.slice_r ho he hti hx hz h1 h2 h3 h4 hl hm h5 h6) hk
  · rename_i hx
    obtain⟨e,he,h⟩:=Ax h;obtain⟨ti,hti,h⟩:=Ax h;obtain⟨l,hl,h⟩:=CH h;obtain⟨m,hm,rfl,rfl,hk⟩:=CH h;exact .ok hd (.slice_nil ho he hti hx hl hm) hk
  · exact h.elim
theorem Jb {op:BinOp} {t t':Nat} {x y:Operand} (ho:o.op=.binOp op t x y t') (h:xeq P op t (st.ev x) (st.ev y) st o.dst K):OpFam P R cx o st K:=by
  have hd:∀ c,o.op≠.defer c:=fun c e=>by rw[ho] at e;simp at e
  unfold xeq at h;split at h
  · rename_i a b hx hy
    obtain⟨v,hv,hk⟩:=Ax h;exact .ok hd (.binP ho hx hy hv) hk
  · rename_i al sz es hx hy
    obtain⟨hop,he,h⟩:=h;obtain⟨e,he⟩:=Option.isSome_iff_exists.1 he;intro σ a w hr next Q hn;obtain⟨b,hb,hrun⟩:=Kh ho hop he hx hy hr;rw[Oper.semAt_eq _ _ _ hd,hrun];exact hn σ _ _ w (h b hb) (hr.put o.dst ⟨rfl,rfl⟩)
  · rename_i xs ys hx hy
    obtain⟨hop,h⟩:=h;obtain⟨ks,hks,h⟩:=Ax h;obtain⟨b,hb,hk⟩:=Ax h;exact .ok hd (.eql_g ho hop hks hx hy hb) hk
  · exact h.elim
theorem IJ {t:Nat} {x i:Operand} (ho:o.op=.indexAddr t x i) (h:xidx P t (st.ev x) (st.ev i) st o.dst K):OpFam P R cx o st K:=by
  have hd:∀ c,o.op≠.defer c:=fun c e=>by rw[ho] at e;simp at e
  unfold xidx at h;split at h
  · rename_i k n hi
    obtain⟨h0,h⟩:=h;obtain⟨e,he,h⟩:=Ax h;obtain⟨ti,hti,h⟩:=Ax h;split at h
    · rename_i al sz es hx
      obtain⟨hsz,h⟩:=h;obtain⟨c,hc,hk⟩:=Ax h;exact .ok hd (.indexAddr_d ho he hti hx hi hsz h0 hc) hk
    · rename_i ob sz lo hi' hx
      obtain⟨hsz,hlt,hk⟩:=h;exact .ok hd (.indexAddr_r ho he hti hx hi hsz h0 hlt) hk
    · exact h.elim
  · exact h.elim
theorem HD {t:Nat} {x y:Operand} (ho:o.op=.makeSlice t x y) (h:xmakeS P t (st.ev x) (st.ev y) st o.dst K):OpFam P R cx o st K:=by
  have hd:∀ c,o.op≠.defer c:=fun c e=>by rw[ho] at e;simp at e
  unfold xmakeS at h;split at h
  · rename_i k n k' c hx hy
    obtain⟨e,he,h⟩:=Ax h;obtain⟨ti,hti,⟨h1,h2,h3⟩,h4,h5,h6,h7,hk⟩:=Ax h;obtain⟨n,rfl⟩:=Int.eq_ofNat_of_zero_le h4;obtain⟨c,rfl⟩:=Int.eq_ofNat_of_zero_le (Int.le_trans h4 h5);rcases hk with ⟨cs',hn,hk⟩|⟨es,g1,g2,g3,g4,hk⟩|⟨hf,_⟩
    · exact .ok hd (OpOk.freshN (.makeSlice ho he hti h1 h2 h3 hx hy (by omega) (by simpa using h6) (by omega)) hn) hk
    · exact .ok hd (OpOk.unNone <| OpOk.freshD (.makeSlice ho he hti h1 h2 h3 hx hy (by omega) (by simpa using h6) (by omega)) g1 g2 g3 g4 (by rw[← g4];simp;omega)) hk
    · exact hf.elim
  · exact h.elim
theorem H9 {src dst:Nat} {x:Operand} (ho:o.op=.convert src dst x) (h:xconv P src dst (st.ev x) st o.dst K):OpFam P R cx o st K:=by
  have hd:∀ c,o.op≠.defer c:=fun c e=>by rw[ho] at e;simp at e
  unfold xconv at h;split at h
  · rename_i k n hx
    obtain⟨hs,h⟩:=h;obtain⟨k',hk',hk⟩:=Ax h;exact .ok hd (.conv_int ho hs hk' hx) hk
  · rename_i s hx
    split at h
    · rename_i hst
      exact .ok hd (.conv_str ho h.1 hst hx) h.2
    · obtain⟨e,he,h1,h2,h3,hk⟩:=Ax h
      exact .ok hd (.conv_tobytes ho h1 he h2 h3 hx) hk
  · obtain⟨e,he,h1,h2,h⟩:=Ax h
    obtain⟨q,hq,h⟩:=Ax h;obtain⟨bs,hb,hk⟩:=Ax h;exact .ok hd (.conv_bytes ho he h1 h2 hq hb) hk
theorem Ha {c:Call} (ho:o.op=.call c) (h:xcallop P c st o.dst K):OpFam P R cx o st K:=by
  have hd:∀ c,o.op≠.defer c:=fun c e=>by rw[ho] at e;simp at e
  obtain⟨callee,args,argTypes⟩:=c;unfold xcallop at h;split at h
  · rename_i g hc
    simp at hc;subst hc;split at h
    · rename_i f fi ca hg
      obtain⟨⟨rfl,rfl⟩,h⟩:=h;exact .call ho rfl (.inl ⟨hg,rfl⟩) (by simpa using h)
    · rename_i f caps hg
      exact .call ho rfl (.inr hg) h
    · exact h.elim
  · rename_i hc
    simp at hc;subst hc;split at h
    · rename_i x t ha ht
      obtain rfl:args=#[x]:=by rw[← Array.toArray_toList (xs:=args)];exact congrArg List.toArray ha
      obtain rfl:argTypes=#[t]:=by rw[← Array.toArray_toList (xs:=argTypes)];exact congrArg List.toArray ht
      exact IG ho h
    · exact h.elim
  · rename_i hc
    simp at hc;subst hc;split at h
    · rename_i s x t t' ha ht
      obtain rfl:args=#[s,x]:=by rw[← Array.toArray_toList (xs:=args)];exact congrArg List.toArray ha
      obtain rfl:argTypes=#[t,t']:=by rw[← Array.toArray_toList (xs:=argTypes)];exact congrArg List.toArray ht
      split at h
      · rename_i e
        subst e;exact IH ho h
      · exact H7 ho h
    · exact h.elim
  · rename_i hc
    simp at hc;subst hc;split at h
    · rename_i x t ha ht
      obtain rfl:args=#[x]:=by rw[← Array.toArray_toList (xs:=args)];exact congrArg List.toArray ha
      obtain rfl:argTypes=#[t]:=by rw[← Array.toArray_toList (xs:=argTypes)];exact congrArg List.toArray ht
      exact II ho h
    · exact h.elim
  · rename_i hc
    simp at hc;subst hc;split at h
    · rename_i d x t t' ha ht
      obtain rfl:args=#[d,x]:=by rw[← Array.toArray_toList (xs:=args)];exact congrArg List.toArray ha
      obtain rfl:argTypes=#[t,t']:=by rw[← Array.toArray_toList (xs:=argTypes)];exact congrArg List.toArray ht
      exact H8 ho h
    · exact h.elim
  · rename_i hc
    simp at hc;subst hc;split at h
    · rename_i x t ha ht
      obtain rfl:args=#[x]:=by rw[← Array.toArray_toList (xs:=args)];exact congrArg List.toArray ha
      obtain rfl:argTypes=#[t]:=by rw[← Array.toArray_toList (xs:=argTypes)];exact congrArg List.toArray ht
      exact HB ho h
    · exact h.elim
  · rename_i hc
    simp at hc;subst hc;split at h
    · rename_i x y ha
      obtain rfl:args=#[x,y]:=by rw[← Array.toArray_toList (xs:=args)];exact congrArg List.toArray ha
      unfold xmm at h;split at h
      · rename_i k a k' b hx hy
        obtain⟨rfl,hk⟩:=h;exact .ok hd (.max2 ho hx hy) hk
      · exact h.elim
    · exact h.elim
  · rename_i hc
    simp at hc;subst hc;split at h
    · rename_i x y ha
      obtain rfl:args=#[x,y]:=by rw[← Array.toArray_toList (xs:=args)];exact congrArg List.toArray ha
      unfold xmm at h;split at h
      · rename_i k a k' b hx hy
        obtain⟨rfl,hk⟩:=h;exact .ok hd (.min2 ho hx hy) hk
      · exact h.elim
    · exact h.elim
  · exact h.elim
theorem HE (h:xo P o st K):OpFam P R cx o st K:=by
  unfold xo at h;split at h
  all_goals (try (exact h.elim))
  all_goals
    rename_i ho
    have hd:∀ c,o.op≠.defer c:=fun c e=>by rw[ho] at e;simp at e
  · exact .ok hd (.move (.inl ho)) h
  · exact .ok hd (.move (.inr ho)) h
  · split at h
    · rename_i b hc
      exact .ok hd (.pick ho hc) h
    · exact h.elim
  · obtain⟨ti,hti,h⟩:=Ax h
    obtain⟨c,hc,h⟩:=Ax h;obtain⟨v,hv,hk⟩:=Ax h;exact .ok hd (.load ho hti hc hv) hk
  · obtain⟨ti,hti,h⟩:=Ax h
    split at h
    · rename_i ob off hx
      obtain⟨z,hz,h1,h2,h3,hk⟩:=Ax h;exact .skip hd (.store ho hti hx hz h1 h2 h3) hk
    · exact h.elim
  · obtain⟨ti,hti,h1,hk⟩:=Ax h
    exact .ok hd (.alloc ho hti h1) hk
  · exact .ok hd (.box ho h.1) h.2
  · obtain⟨ti,hti,h⟩:=Ax h
    obtain⟨fs,hfs,h1,h⟩:=Ax h;obtain⟨cs,hcs,hk⟩:=Ax h;exact .ok hd (.build ho hti hfs h1 hcs) hk
  · obtain⟨e,he,h⟩:=Ax h
    obtain⟨ti,hti,⟨h1,h2,h3,h4⟩,h⟩:=Ax h;obtain⟨cs,hcs,hk⟩:=Ax h;rcases hk with ⟨cs',hn,hk⟩|⟨es,g1,g2,g3,g4,hk⟩|⟨g1,g2,hk⟩
    · exact .ok hd (OpOk.freshN (.buildSlice ho he hti h1 h2 h3 h4 hcs) hn) hk
    · exact .ok hd (OpOk.unNone <| OpOk.freshD (.buildSlice ho he hti h1 h2 h3 h4 hcs) g1 g2 g3 g4 (by omega)) hk
    · subst g1
      subst g2;exact .ok hd (OpOk.buildE ho he hti) hk
  · obtain⟨fs,hfs,h⟩:=Ax h
    obtain⟨q,hq,h1,h⟩:=Ax h;split at h
    · rename_i p hx
      exact .ok hd (.fieldAddr ho hfs hq h1 hx h.1) h.2
    · exact h.elim
  · obtain⟨fs,hfs,h⟩:=Ax h
    obtain⟨q,hq,h⟩:=Ax h;split at h
    · rename_i cs hx
      obtain⟨h1,h⟩:=h;obtain⟨v,hv,hk⟩:=Ax h;exact .ok hd (.field ho hfs hq hx h1 hv) hk
    · exact h.elim
  · exact IJ ho h
  · split at h
    · rename_i s k n hx hi
      exact .ok hd (.index_s ho h.1 hx hi h.2.1 h.2.2.1) h.2.2.2
    · exact h.elim
  · exact HC ho h
  · exact G9 ho h
  · exact Jb ho h
  · split at h
    · rename_i a hx
      obtain⟨v,hv,hk⟩:=Ax h;exact .ok hd (.un ho hx hv) hk
    · exact h.elim
  · exact H9 ho h
  · exact HD ho h
  · obtain⟨v,hv,hk⟩:=Ax h
    exact .ok hd (.extract ho hv) hk
  · obtain⟨rfl,h⟩:=h
    obtain⟨ids,hi,hk⟩:=Ax h;exact .ok hd (.makeFunc ho hi) hk
  · split at h
    · rename_i p hx
      exact .ok hd (.nilCheck ho hx h.1) h.2
    · exact h.elim
  · exact Ha ho h
end
end Go.Proofs.Ytenemndpignaoaa
namespace Go.Proofs.Ytenemndpignaoaa
open Go Go.RowKit
def yd (ops:Array Oper) (st:St) (j:Nat):Option (Option Bool) :=
 match (ops[j]?).bind (·.dst) with
 |some d=>match lk st.tm d with|.l (.s (.bool b))=>some (some b)|.t []=>some none|_=>none
 |none=>none
def xg (P:Program) (ops:Array Oper) (o:Oper) (st:St) (K:St→Prop):Prop :=
 match o.guard with
 |none=>xo P o st K
 |some (j,want)=>wh (yd ops st j) fun b=>if b=some want then xo P o st K else K (st.put o.dst (.t []))
def xops (P:Program) (ops:Array Oper):List Oper→St→(St→Prop)→Prop
 |[],st,K=>K st
 |o::os,st,K=>xg P ops o st fun st'=>xops P ops os st' K
section
variable {P:Program} {R:Option Nat} {cx:Cx} {st:St} {ops:Array Oper} {Q:Post}
theorem HF {σ:Nat→Hd} {a:Act} {w:World} (hr:RelS cx σ st a w) {j:Nat} {b:Option Bool} (h:yd ops st j=some b):yielded ops a.tmps j=b:=by
 unfold yd at h;split at h
 ·rename_i d hd
  split at h
  ·rename_i b' hb
   simp at h;subst h;have:=hr.tm d;rw[hb] at this;have h1:a.tmps.getD d undef=.bool b':=this.1;have h2:a.tmps[d]?=some (.bool b'):=by
    rw[Array.getD_eq_getD_getElem?] at h1;cases ht:a.tmps[d]? with
    |none=>rw[ht] at h1;simp[undef] at h1
    |some v=>rw[ht] at h1;simp at h1;rw[h1]
   simp[yielded,hd,h2]
  ·rename_i hb
   simp at h;subst h;have:=hr.tm d;rw[hb] at this;obtain⟨vs,h1,h2⟩:=this;have h3:vs=[]:=List.eq_nil_of_length_eq_zero h2.length;subst h3;cases ht:a.tmps[d]? with
   |none=>simp[yielded,hd,ht]
   |some v =>
    rw[Array.getD_eq_getD_getElem?,ht] at h1;simp at h1;subst h1;simp[yielded,hd,ht]
  ·simp at h
 ·simp at h
theorem Hp {o:Oper} {K:St→Prop} {i:Nat} (ho:ops[i]?=some o) (h:xg P ops o st K) {next:Act→World→Prop} {QQ:Exit→Act→World→Prop} (hn:∀ σ' st' a' w',K st'→RelS cx σ' st' a' w'→next a' w')
  {σ:Nat→Hd} {a:Act} {w:World} (hr:RelS cx σ st a w):wpOpIn (fR R) 0 P ops QQ i next a w:=by
 unfold wpOpIn;simp only[ho];unfold xg at h;split at h
 ·rename_i hg
  simp only[Region.wanted,hg,if_true];exact⟨fun f _=>Er R f,HE (R:=R) (cx:=cx) h σ a w hr _ _ hn⟩
 ·rename_i j want hg
  obtain⟨b,hb,h⟩:=Ax h;have hy:=HF hr hb;simp only[Region.wanted,hg,hy];by_cases e:b=some want
  ·subst e;simp only[beq_self_eq_true,if_true] at h ⊢;exact⟨fun f _=>Er R f,HE (R:=R) (cx:=cx) h σ a w hr _ _ hn⟩
  ·have:(b == some want)=false:=by simp[e]
   rw[if_neg e] at h;simp only[this,Bool.false_eq_true,if_false];exact⟨fun f _=>Er R f,hn σ _ _ w h (hr.put o.dst ⟨[],rfl,trivial⟩)⟩
theorem AO.xops:∀ (os:List Oper) (k:Nat) (st:St),ops.toList.drop k=os→Go.Proofs.Ytenemndpignaoaa.xops P ops os st (fun s=>Q .normal s)→AO P R cx ops Q (List.range' k os.length) st
 |[],k,st,hd,h=>AO.nil h
 |o::os,k,st,hd,h=>by
  intro σ a w hr;have hk:ops[k]?=some o:=by
   have:(ops.toList.drop k)[0]?=some o:=by rw[hd];rfl
   rw[List.getElem?_drop,Nat.add_zero] at this;rw[← Array.getElem?_toList];exact this
  have hd':ops.toList.drop (k+1)=os:=by
   have:=congrArg List.tail hd;simpa [List.tail_drop] using this
  show wpOpsIn _ _ _ _ _ (List.range' k (os.length+1)) a w;rw[List.range'_succ,wpOpsIn_cons];exact Hp (cx:=cx) hk h (fun σ' st' a' w' hK hr'=>AO.xops os (k+1) st' hd' hK σ' a' w' hr') hr
theorem AW.xregion {id:Nat} (h:xops P ops ops.toList st (fun s=>Q .normal s)):AW P R cx (.region id ops false) Q st:=by
 refine AW.region ?_;have:=AO.xops (R:=R) (cx:=cx) (Q:=Q) ops.toList 0 st (by simp) h;rwa [Array.length_toList,← List.range_eq_range'] at this
end
end Go.Proofs.Ytenemndpignaoaa
namespace Go.Proofs.Ytenemndpignaoaa
open Go Go.RowKit
theorem nr {α:Sort _} {a b:α} (h:a=b):a=b:=h
section
variable {P:Program} {tm:Tm} {ob:List (Option Ob)} {nt:Nat} {gh:List Tm} {ls:Option Code}
theorem enters {f:FuncId} {fn:Func} {c:Code} (hf:P.funcs[f]?=some fn) (hname:(fn.name == "runtime.NumGoroutine")=false) (hb:fn.body=some c):Enters P f:=by
 intro args w;have h1:fn.name≠"runtime.NumGoroutine":=by simpa using hname
 simp[callFunc,hf,h1,hb,mark]
@[simp] theorem K0 (args:List AV) (obs:List Ob) (n:Nat):st0 args obs n=⟨initTm 0 args,obs.map some,n,[],none⟩:=rfl
@[simp] theorem put_mk {d:Nat} (v:AV) (h:d<nt):St.put ⟨tm,ob,nt,gh,ls⟩ (some d) v=⟨(d,v)::tm,ob,nt,gh,ls⟩:=by
 have:Nat.blt d nt=true:=by rw[Nat.blt_eq];exact h
 simp[St.put,this]
@[simp] theorem put_none (v:AV) (st:St):st.put none v=st:=rfl
@[simp] theorem ev_tmp (t:Nat):St.ev ⟨tm,ob,nt,gh,ls⟩ (.tmp t)=lk tm t:=rfl
@[simp] theorem ev_int (k:IntKind) (n:Int):St.ev ⟨tm,ob,nt,gh,ls⟩ (.const (.int k n))=.l (.s (.int k n)):=rfl
@[simp] theorem ev_bool (b:Bool):St.ev ⟨tm,ob,nt,gh,ls⟩ (.const (.bool b))=.l (.s (.bool b)):=rfl
@[simp] theorem ev_str (s:ByteArray):St.ev ⟨tm,ob,nt,gh,ls⟩ (.const (.string s))=.l (.s (.string s)):=rfl
@[simp] theorem ev_nil (c n:Nat):St.ev ⟨tm,ob,nt,gh,ls⟩ (.const (.slice none c n))=.l (.s (.slice none c n)):=rfl
@[simp] theorem ev_glob (g:Nat):St.ev ⟨tm,ob,nt,gh,ls⟩ (.global g)=.l (.s (.pointer (some ⟨g,0,none⟩))):=rfl
@[simp] theorem ev_func (f:Nat):St.ev ⟨tm,ob,nt,gh,ls⟩ (.func f)=.l (.s (.func (.func f) #[] #[])):=rfl
@[simp] theorem K1 (x:Ob):St.add ⟨tm,ob,nt,gh,ls⟩ x=⟨tm,ob++[some x],nt,gh,ls⟩:=rfl
@[simp] theorem setO_mk (o:Nat) (x:Ob):St.setO ⟨tm,ob,nt,gh,ls⟩ o x=⟨tm,ob.set o (some x),nt,gh,ls⟩:=rfl
@[simp] theorem obj_mk (o:Nat):St.obj ⟨tm,ob,nt,gh,ls⟩ o=(ob[o]?).bind id:=rfl
@[simp] theorem at_p (o off:Nat):St.at ⟨tm,ob,nt,gh,ls⟩ (.l (.p o off))=((ob[o]?).bind id).map fun x=>(x.cs,off):=rfl
@[simp] theorem at_q (st:St) (al:Bool) (cs:List T) (off:Nat):St.at st (.l (.q al cs off))=some (cs.map (T.lv al),off):=rfl
@[simp] theorem xops_nil (ops:Array Oper) (st:St) (K:St→Prop):xops P ops [] st K=K st:=nr rfl
@[simp] theorem xops_cons (ops:Array Oper) (o:Oper) (os:List Oper) (K:St→Prop):xops P ops (o::os) ⟨tm,ob,nt,gh,ls⟩ K=xg P ops o ⟨tm,ob,nt,gh,ls⟩ fun st'=>xops P ops os st' K:=nr rfl
theorem GT (st:St) (obs':List (Option Ob)):st.after [] obs'={ st with ob:=st.ob++obs'.map (Option.map (Ob.ren (outR [] st.ob.length))) }:=by
 have hk:keptR st []=some:=by funext o;simp[keptR]
 have h1:∀ tm:Tm,tm.ren some=tm:=fun tm=>by
  unfold Tm.ren;rw[show (fun e:Nat×AV=>(e.1,e.2.ren some))=id from funext fun e=>by simp[AV.ren_some]];simp
 have h2:Tm.ren some=id:=funext h1;have h3:Ob.ren some=id:=funext fun x=>by
  have:LV.ren some=id:=funext LV.ren_some;simp[Ob.ren,this]
 have h4:inv []=fun _=>none:=by funext o;simp[inv]
 simp[St.after,obAfter,hk,h2,h3,h4,h1];apply List.ext_getElem?;intro i;simp
def LV.plain:LV→Bool
 |.s _=>true
 |.d al _ _=>!al
 |.u=>true
 |_=>false
def AV.arg:AV→Bool
 |.l x=>x.plain
 |.g cs=>cs.all LV.plain
 |.t _=>false
def AV.plain:AV→Bool
 |.l x=>x.plain
 |.g cs=>cs.all LV.plain
 |.t xs=>xs.all fun c=>c.2.all LV.plain
theorem LV.plain_ren (ρ:Ren) {x:LV} (h:x.plain=true):x.ren ρ=x:=by cases x <;> simp[LV.plain] at h <;> rfl
theorem LV.plain_na {x:LV} (h:x.plain=true):x.na=true:=by cases x <;> simp_all [LV.plain,LV.na]
theorem Fi (ρ:Ren):∀ {cs:List LV},cs.all LV.plain=true→cs.map (LV.ren ρ)=cs
 |[],_=>rfl
 |c::cs,h=>by
  simp only[List.all_cons,Bool.and_eq_true] at h;rw[List.map_cons,LV.plain_ren ρ h.1,Fi ρ h.2]
theorem Fj:∀ {cs:List LV},cs.all LV.plain=true→cs.all LV.na=true
 |[],_=>rfl
 |c::cs,h=>by
  simp only[List.all_cons,Bool.and_eq_true] at h ⊢;exact⟨LV.plain_na h.1,Fj h.2⟩
theorem AV.plain_ren (ρ:Ren) {x:AV} (h:x.plain=true):x.ren ρ=x:=by
 cases x with
 |l x=>simp[AV.ren,LV.plain_ren ρ h]
 |g cs=>simp[AV.ren,Fi ρ h]
 |t xs =>
  simp only[AV.ren,AV.t.injEq];simp only[AV.plain,List.all_eq_true] at h;induction xs with
  |nil=>rfl
  |cons c xs ih =>
   rw[List.map_cons,ih fun x hx=>h x (by simp[hx])];have:=Fi ρ (cs:=c.2) (by simpa using h c (by simp));simp[CV.ren,this]
theorem AV.plain_na {x:AV} (h:x.plain=true):x.na=true:=by
 cases x with
 |l x=>exact LV.plain_na h
 |g cs=>exact Fj h
 |t xs =>
  simp only[AV.plain,List.all_eq_true] at h;simp only[AV.na,List.all_eq_true];intro c hc x hx;exact LV.plain_na (h c hc x hx)
theorem Aj {f:Nat} {avs cargs:List AV} {st:St} {dst:Option Nat} {K:St→Prop} {res:AV} (he:Enters P f) (hs:Sound P f cargs [] res []) (hp:res.plain=true) (hv:All2 (Vw st []) avs cargs)
  (hk:K (st.put dst res)):xcall P f avs st dst K:=by
 refine .inl ⟨[],[],[],res,cargs,he,hs,CallOk.nil (AV.plain_na hp) rfl,hv,?_⟩;rw[GT,AV.plain_ren _ hp];simpa using hk
theorem DQ {f:Nat} {avs cargs:List AV} {st:St} {dst:Option Nat} {K:St→Prop} {res:AV} {obs':List (Option Ob)} (he:Enters P f) (hs:Sound P f cargs [] res obs') (hp:res.na=true)
  (hn:obs'.all (fun x=>match x with|some x=>x.na|none=>true)=true) (hv:All2 (Vw st []) avs cargs)
  (hk:K ({ st with ob:=st.ob++obs'.map (Option.map (Ob.ren (outR [] st.ob.length))) }.put dst (res.ren (outR [] st.ob.length)))):xcall P f avs st dst K:=by
 refine .inl ⟨[],[],obs',res,cargs,he,hs,CallOk.nil hp hn,hv,?_⟩;rw[GT];exact hk
theorem Vw.same {st:St} {x:AV} (h:x.arg=true):Vw st [] x x:=by
 cases x with
 |l x =>
  have:=VwL.ren (st:=st) (ids:=[]) x;rw[LV.plain_ren _ h] at this;exact .l this
 |g cs =>
  refine .g ?_;simp only[AV.arg] at h;induction cs with
  |nil=>trivial
  |cons c cs ih =>
   simp only[List.all_cons,Bool.and_eq_true] at h;have:=VwL.ren (st:=st) (ids:=[]) c;rw[LV.plain_ren _ h.1] at this;exact⟨this,ih h.2⟩
 |t xs=>simp[AV.arg] at h
theorem Vw.d {st:St} (al:Bool) (sz:Nat) (es:List (List T)):Vw st [] (.l (.d al sz es)) (.l (.d true sz es)):=.l (.al al sz es)
theorem Vw.nil {st:St} (al:Bool) (sz:Nat):Vw st [] (.l (.s (.slice none 0 0))) (.l (.d al sz [])):=.l (.nil al sz)
theorem Weak.keep {cx:Cx} (tm':Tm) (h:∀ e∈tm',lk tm e.1=e.2):Weak cx ⟨tm,ob,nt,gh,ls⟩ ⟨tm',ob,nt,gh,ls⟩:=by
 refine Weak.tm (st:=⟨tm,ob,nt,gh,ls⟩) tm' fun i=>?_;have:∀ l:Tm,(∀ e∈l,lk tm e.1=e.2)→lk l i=lk tm i∨lk l i=.l .u:=by
  intro l;induction l with
  |nil=>intro _;exact .inr rfl
  |cons e l ih =>
   intro hl;rw[A5 e.1 e.2];split
   ·rename_i hi
    subst hi;exact .inl (hl e (by simp)).symm
   ·exact ih fun e' he'=>hl e' (by simp[he'])
 exact this tm' h
end
section
variable (ob off n sz lo hi:Nat) (al:Bool) (cs:List T) (es:List (List T)) (x:Value) (l:List LV) (t:List (Bool×List LV)) (y:LV)
@[simp] theorem lk_nil (i:Nat):lk [] i=.l .u:=rfl
@[simp] theorem isPtr_p:(LV.p ob off).isPtr=true:=rfl
@[simp] theorem isPtr_q:(LV.q al cs off).isPtr=true:=rfl
@[simp] theorem add_p:(LV.p ob off).add n=.p ob (off+n):=rfl
@[simp] theorem add_q:(LV.q al cs off).add n=.q al cs (off+n):=rfl
@[simp] theorem ok_s:(LV.s x).ok=true:=rfl
@[simp] theorem ok_d:(LV.d al sz es).ok=true:=rfl
@[simp] theorem ok_r:(LV.r ob sz lo hi).ok=true:=rfl
@[simp] theorem ok_p:(LV.p ob off).ok=true:=rfl
@[simp] theorem ok_e:LV.e.ok=true:=rfl
@[simp] theorem ok_f (fn:Nat) (c:List Nat):(LV.f fn c).ok=true:=rfl
@[simp] theorem okV_l:(AV.l y).ok=y.ok:=rfl
@[simp] theorem okV_g:(AV.g l).ok=l.all LV.ok:=rfl
@[simp] theorem cells_l:(AV.l y).cells=[y]:=rfl
@[simp] theorem cells_g:(AV.g l).cells=l:=rfl
@[simp] theorem lv_v:(T.v x).lv al=.s x:=rfl
@[simp] theorem lv_sl:(T.sl sz es).lv al=.d al sz es:=rfl
@[simp] theorem setAt_nil {α:Type} (l:List α) (i:Nat):setAt l i []=l:=by cases l <;> rfl
@[simp] theorem Ly {α:Type} (l:List α) (i:Nat) (c:α) (cs:List α):setAt l i (c::cs)=setAt (l.set i c) (i+1) cs:=by cases l <;> rfl
end
def wl (v:AV) (k:LV→Prop):Prop :=
 match v with
 |.l p=>k p
 |_=>False
def ws (v:AV) (k:Value→Prop):Prop :=
 match v with
 |.l (.s a)=>k a
 |_=>False
def wb (v:AV) (k:Bool→Prop):Prop :=
 match v with
 |.l (.s (.bool b))=>k b
 |_=>False
def wi (v:AV) (k:Int→Prop):Prop :=
 match v with
 |.l (.s (.int _ n))=>k n
 |_=>False
def wst (v:AV) (k:ByteArray→Prop):Prop :=
 match v with
 |.l (.s (.string n))=>k n
 |_=>False
def wg (v:AV) (k:List LV→Prop):Prop :=
 match v with
 |.g cs=>k cs
 |_=>False
def wp (v:AV) (k:Nat→Nat→Prop):Prop :=
 match v with
 |.l (.p ob off)=>k ob off
 |_=>False
def wf (v:AV) (k:Nat→List Nat→Prop):Prop :=
 match v with
 |.l (.s (.func (.func f) fi ca))=>(fi=#[]∧ca=#[])∧k f []
 |.l (.f f caps)=>k f caps
 |_=>False
@[congr] theorem wh_congr {α:Type} {x y:Option α} {k:α→Prop} (h:x=y):wh x k=wh y k:=by rw[h]
@[congr] theorem wl_congr {x y:AV} {k:LV→Prop} (h:x=y):wl x k=wl y k:=by rw[h]
@[congr] theorem ws_congr {x y:AV} {k:Value→Prop} (h:x=y):ws x k=ws y k:=by rw[h]
@[congr] theorem wb_congr {x y:AV} {k:Bool→Prop} (h:x=y):wb x k=wb y k:=by rw[h]
@[congr] theorem wi_congr {x y:AV} {k:Int→Prop} (h:x=y):wi x k=wi y k:=by rw[h]
@[congr] theorem wst_congr {x y:AV} {k:ByteArray→Prop} (h:x=y):wst x k=wst y k:=by rw[h]
@[congr] theorem wg_congr {x y:AV} {k:List LV→Prop} (h:x=y):wg x k=wg y k:=by rw[h]
@[congr] theorem wp_congr {x y:AV} {k:Nat→Nat→Prop} (h:x=y):wp x k=wp y k:=by rw[h]
@[congr] theorem wf_congr {x y:AV} {k:Nat→List Nat→Prop} (h:x=y):wf x k=wf y k:=by rw[h]
section
variable {P:Program} {d:Option Nat} {ty:Nat} {pos:String} {af:Array Edge} {g:Option (Nat×Bool)} {st:St} {K:St→Prop}
@[simp] theorem wh_s {α:Type} (a:α) (k:α→Prop):wh (some a) k=k a:=nr rfl
@[simp] theorem wh_n {α:Type} (k:α→Prop):wh (none:Option α) k=False:=nr rfl
@[simp] theorem wl_l (p:LV) (k:LV→Prop):wl (.l p) k=k p:=nr rfl
@[simp] theorem wb_b (a:Bool) (k:Bool→Prop):wb (.l (.s (.bool a))) k=k a:=nr rfl
@[simp] theorem wi_i (kd:IntKind) (n:Int) (k:Int→Prop):wi (.l (.s (.int kd n))) k=k n:=nr rfl
@[simp] theorem wst_s (s:ByteArray) (k:ByteArray→Prop):wst (.l (.s (.string s))) k=k s:=nr rfl
@[simp] theorem wp_p (ob off:Nat) (k:Nat→Nat→Prop):wp (.l (.p ob off)) k=k ob off:=nr rfl
@[simp] theorem wf_s (f:Nat) (k:Nat→List Nat→Prop):wf (.l (.s (.func (.func f) #[] #[]))) k=k f []:=by simp[wf]
@[simp] theorem xg_none (ops:Array Oper) (op:Op):xg P ops ⟨d,op,ty,pos,af,none⟩ st K=xo P ⟨d,op,ty,pos,af,none⟩ st K:=nr rfl
@[simp] theorem xg_yes (ops:Array Oper) (op:Op) (j:Nat) (want:Bool) (h:yd ops st j=some (some want)):xg P ops ⟨d,op,ty,pos,af,some (j,want)⟩ st K=xo P ⟨d,op,ty,pos,af,some (j,want)⟩ st K:=by
 simp[xg,h]
@[simp] theorem xg_no (ops:Array Oper) (op:Op) (j:Nat) (want:Bool) (h:yd ops st j=some (some (!want))):xg P ops ⟨d,op,ty,pos,af,some (j,want)⟩ st K=K (st.put d (.t [])):=by
 simp[xg,h]
@[simp] theorem xg_skip (ops:Array Oper) (op:Op) (j:Nat) (want:Bool) (h:yd ops st j=some none):xg P ops ⟨d,op,ty,pos,af,some (j,want)⟩ st K=K (st.put d (.t [])):=by
 simp[xg,h]
@[simp] theorem yd_eq (ops:Array Oper) (j:Nat):yd ops st j=match (ops[j]?).bind (·.dst) with|some d=>(match lk st.tm d with|.l (.s (.bool b))=>some (some b)|.t []=>some none|_=>none)|none=>none:=nr rfl
@[simp] theorem xo_move (x:Operand):xo P ⟨d,.move x,ty,pos,af,g⟩ st K=K (st.put d (st.ev x)):=nr rfl
@[simp] theorem xo_assign (x:Operand):xo P ⟨d,.assign x,ty,pos,af,g⟩ st K=K (st.put d (st.ev x)):=nr rfl
@[simp] theorem xo_pick (c x y:Operand):xo P ⟨d,.pick c x y,ty,pos,af,g⟩ st K=wb (st.ev c) fun b=>K (st.put d (bif b then st.ev x else st.ev y)):=nr rfl
@[simp] theorem xo_load (t:Nat) (x:Operand):xo P ⟨d,.load t x,ty,pos,af,g⟩ st K=wh (tiF P t) fun ti=>wh (st.at (st.ev x)) fun c=>wh (ldX ti c.1 c.2) fun v=>K (st.put d v):=nr rfl
@[simp] theorem xo_store (t:Nat) (x y:Operand):xo P ⟨d,.store t x y,ty,pos,af,g⟩ st K=wh (tiF P t) fun ti=>wp (st.ev x) fun ob off=>wh (st.obj ob) fun z =>
  (st.ev y).ok=true∧(st.ev y).cells.length=ti.sz∧off+ti.sz≤z.cs.length∧K ((st.setO ob { z with cs:=setAt z.cs off (st.ev y).cells }).put d (.l .u)):=nr rfl
@[simp] theorem xo_alloc (t:Nat):xo P ⟨d,.alloc t,ty,pos,af,g⟩ st K=wh (tiF P t) fun ti=>ti.zero.all (·.oneCell')=true∧K ((st.add ⟨t,ti.sz,false,none,ti.zero.map .s⟩).put d (ptr st.ob.length)):=nr rfl
@[simp] theorem xo_box (t:Nat) (x:Operand):xo P ⟨d,.box t x,ty,pos,af,g⟩ st K=((st.ev x).ok=true∧K ((st.add ⟨t,(st.ev x).cells.length,false,none,(st.ev x).cells⟩).put d (ptr st.ob.length))):=nr rfl
@[simp] theorem xo_build (t:Nat) (parts:Array (Nat×Operand)):xo P ⟨d,.build t parts,ty,pos,af,g⟩ st K=wh (tiF P t) fun ti=>wh (flds P t) fun fs=>ti.zero.all (·.oneCell')=true ∧
  wh (fillA (fun i=>(fs[i]?).map fun x=>(x.1,x.2.1)) (ti.zero.map .s) (parts.toList.map fun x=>(x.1,st.ev x.2))) fun cs=>K (st.put d (.g cs)):=nr rfl
@[simp] theorem KV (t len:Nat) (parts:Array (Nat×Operand)):xo P ⟨d,.buildSlice t len parts,ty,pos,af,g⟩ st K=wh (elemF P t) fun e=>wh (tiF P e) fun ti =>
  (ti.zero.all (·.oneCell')=true∧ti.zero.length=ti.sz∧len*ti.sz≤16777216∧len≤16777216) ∧
   wh (fillA (fun i=>some (i*ti.sz,ti.sz)) ((repZ len ti.zero).map .s) (parts.toList.map fun x=>(x.1,st.ev x.2))) fun cs=>xrow st d e ti.sz len cs (parts=#[]) K:=nr rfl
@[simp] theorem K2 (s:Nat) (x:Operand) (f:Nat):xo P ⟨d,.fieldAddr s x f,ty,pos,af,g⟩ st K=wh (flds P s) fun fs=>wh (fs[f]?) fun q=>q.2.1≠0∧wl (st.ev x) fun p=>p.isPtr=true∧K (st.put d (.l (p.add q.1))):=nr rfl
@[simp] theorem K3 (t:Nat) (x i:Operand):xo P ⟨d,.indexAddr t x i,ty,pos,af,g⟩ st K=xidx P t (st.ev x) (st.ev i) st d K:=nr rfl
@[simp] theorem xo_slice (t:Nat) (x:Operand) (lo hi:Option Operand):xo P ⟨d,.slice t x lo hi none,ty,pos,af,g⟩ st K=xslice P t (st.ev x) lo hi st d K:=nr rfl
@[simp] theorem xo_binOp (op:BinOp) (t t':Nat) (x y:Operand):xo P ⟨d,.binOp op t x y t',ty,pos,af,g⟩ st K=xeq P op t (st.ev x) (st.ev y) st d K:=nr rfl
@[simp] theorem Kj (op:UnOp) (t:Nat) (x:Operand):xo P ⟨d,.unOp op t x,ty,pos,af,g⟩ st K=ws (st.ev x) fun a=>wh (uop op a) fun v=>K (st.put d (.l (.s v))):=nr rfl
@[simp] theorem Lz (s t:Nat) (x:Operand):xo P ⟨d,.convert s t x,ty,pos,af,g⟩ st K=xconv P s t (st.ev x) st d K:=nr rfl
@[simp] theorem LA (x:Operand) (i:Nat):xo P ⟨d,.extract x i,ty,pos,af,g⟩ st K=wh (tget (st.ev x) i) fun v=>K (st.put d v):=nr rfl
@[simp] theorem Lm (f:Nat) (cs:Array Operand):xo P ⟨d,.makeFunc (.func f) #[] cs,ty,pos,af,g⟩ st K=wh (capt (cs.toList.map st.ev)) fun ids=>K (st.put d (.l (.f f ids))):=by simp[xo]
@[simp] theorem Ln (x:Operand):xo P ⟨d,.nilCheck x,ty,pos,af,g⟩ st K=wl (st.ev x) fun p=>p.isPtr=true∧K (st.put d (.l p)):=nr rfl
@[simp] theorem xo_callV (f:Operand) (args:Array Operand) (tys:Array Nat):xo P ⟨d,.call ⟨.value f,args,tys⟩,ty,pos,af,g⟩ st K=wf (st.ev f) fun f caps=>xcall P f (args.toList.map st.ev++caps.map fun o=>.l (.p o 0)) st d K:=by
 simp only[xo,xcallop];generalize st.ev f=v;cases v with
 |l y =>
  cases y with
  |s a =>
   cases a with
   |func fn fi ca=>cases fn <;> simp[wf]
   |_=>rfl
  |f fn caps=>rfl
  |_=>rfl
 |_=>rfl
@[simp] theorem xo_len (x:Operand) (t:Nat):xo P ⟨d,.call ⟨.builtin .len,#[x],#[t]⟩,ty,pos,af,g⟩ st K=xlen P t (st.ev x) st d K:=nr rfl
@[simp] theorem xo_append (x y:Operand) (t:Nat):xo P ⟨d,.call ⟨.builtin .append,#[x,y],#[t,t]⟩,ty,pos,af,g⟩ st K=xapp P t (st.ev x) (st.ev y) st d K:=by simp[xo,xcallop]
@[simp] theorem xo_make (x y:Operand) (t t':Nat) (h:t≠t'):xo P ⟨d,.call ⟨.builtin .append,#[x,y],#[t,t']⟩,ty,pos,af,g⟩ st K=xmake P t t' (st.ev x) (st.ev y) st d K:=by simp[xo,xcallop,h]
@[simp] theorem xo_cap (x:Operand) (t:Nat):xo P ⟨d,.call ⟨.builtin .cap,#[x],#[t]⟩,ty,pos,af,g⟩ st K=xcap P t (st.ev x) st d K:=nr rfl
@[simp] theorem xo_clear (x:Operand) (t:Nat):xo P ⟨d,.call ⟨.builtin .clear,#[x],#[t]⟩,ty,pos,af,g⟩ st K=xclear P t (st.ev x) st d K:=nr rfl
@[simp] theorem xo_max (x y:Operand) (t t':Nat):xo P ⟨d,.call ⟨.builtin .max,#[x,y],#[t,t']⟩,ty,pos,af,g⟩ st K=xmm max (st.ev x) (st.ev y) st d K:=nr rfl
@[simp] theorem xo_min (x y:Operand) (t t':Nat):xo P ⟨d,.call ⟨.builtin .min,#[x,y],#[t,t']⟩,ty,pos,af,g⟩ st K=xmm min (st.ev x) (st.ev y) st d K:=nr rfl
@[simp] theorem xo_index (t:Nat) (x i:Operand):xo P ⟨d,.index t x i,ty,pos,af,g⟩ st K=wst (st.ev x) fun s=>wi (st.ev i) fun n=>strF P t=true∧0≤n∧n.toNat<s.size∧K (st.put d (.l (.s (.int .u8 (bAt s n.toNat))))):=by
 simp only[xo];generalize st.ev x=X;generalize st.ev i=I;cases X with
 |l y =>
  cases y with
  |s a =>
   cases a <;> first
    |rfl
    |(cases I with
     |l z =>
      cases z with
      |s b=>cases b <;> rfl
      |_=>rfl
     |_=>rfl)
  |_=>rfl
 |_=>rfl
end
section
variable {P:Program} {d:Option Nat} {t:Nat} {st:St} {K:St→Prop} {al:Bool} {sz:Nat} {es:List (List T)} {ob lo hi:Nat}
@[simp] theorem xlen_d':xlen P t (.l (.d al sz es)) st d K=((elemF P t).isSome=true∧(es.length≤140737488355328→K (st.put d (.l (.s (.int .i64 es.length)))))):=nr rfl
@[simp] theorem xlen_r':xlen P t (.l (.r ob sz lo hi)) st d K=((elemF P t).isSome=true∧K (st.put d (.l (.s (.int .i64 ((hi - lo:Nat):Int)))))):=nr rfl
@[simp] theorem xlen_n':xlen P t (.l (.s (.slice none 0 0))) st d K=((elemF P t).isSome=true∧K (st.put d (.l (.s (.int .i64 0))))):=nr rfl
theorem Fk {e n:Nat} {x:AV} {ti:TI} {q:Nat×List LV} {z:Ob} (he:elemF P t=some e) (hti:tiF P e=some ti) (h1:ti.zero.length=ti.sz∧0<ti.sz∧0<ti.bytes) (hq:st.src ti.sz x=some q) (hz:st.obj ob=some z)
  (h2:sz=ti.sz∧z.ty=e∧z.sz=ti.sz∧z.row=true) (h3:z.cs.length=n*ti.sz) (h4:(n+q.1)*ti.bytes≤140737488355328)
  (hk:K ((st.grow ob ⟨e,ti.sz,true,none,(z.cs++q.2).map (LV.ren (but ob))⟩).put d (hdr ob ti.sz (n+q.1)))):xapp P t (.l (.r ob sz 0 n)) x st d K:=by
 simp only[xapp,he,hti,Gr,hq,hz];exact⟨h1.1,h1.2.1,h1.2.2,h2,.inl ⟨trivial,h3,h4,hk⟩⟩
theorem JM {e n:Nat} {x:AV} {ti:TI} {q:Nat×List LV} {z:Ob} (he:elemF P t=some e) (hti:tiF P e=some ti) (h1:ti.zero.length=ti.sz∧0<ti.sz∧0<ti.bytes) (hq:st.src ti.sz x=some q) (hz:st.obj ob=some z)
  (h2:sz=ti.sz∧z.ty=e∧z.sz=ti.sz∧z.row=true) (h3:z.cs.length=n*ti.sz) (h4:(n+q.1)*ti.bytes≤140737488355328)
  (hk:K (St.put { st with ob:=st.ob.set ob none++[some ⟨e,ti.sz,true,none,z.cs++q.2⟩] } d (hdr st.ob.length ti.sz (n+q.1)))):xapp P t (.l (.r ob sz 0 n)) x st d K:=by
 simp only[xapp,he,hti,Gr,hq,hz];exact⟨h1.1,h1.2.1,h1.2.2,h2,.inr (.inr (.inl ⟨trivial,h3,h4,hk⟩))⟩
theorem Kk {e:Nat} {x:AV} {ti:TI} {q:Nat×List LV} {z:Ob} (he:elemF P t=some e) (hti:tiF P e=some ti) (h1:ti.zero.length=ti.sz∧0<ti.sz∧0<ti.bytes) (hq:st.src ti.sz x=some q) (hz:st.obj ob=some z)
  (h2:sz=ti.sz∧z.ty=e∧z.sz=ti.sz∧z.row=true) (h3:(hi+q.1)*ti.sz≤z.cs.length)
  (hk:K ((st.setO ob { z with cs:=setAt z.cs (hi*ti.sz) q.2 }).put d (.l (.r ob ti.sz lo (hi+q.1))))):xapp P t (.l (.r ob sz lo hi)) x st d K:=by
 simp only[xapp,he,hti,Gr,hq,hz];exact⟨h1.1,h1.2.1,h1.2.2,h2,.inr (.inl ⟨h3,hk⟩)⟩
@[simp] theorem xmake_n (t':Nat) (k:IntKind) (n:Int):xmake P t t' (.l (.s (.slice none 0 0))) (.l (.s (.int k n))) st d K=wh (elemF P t) fun e=>wh (tiF P e) fun ti=>(intF P t').isSome=true∧(ti.zero.length=ti.sz∧ti.zero.all (·.oneCell')=true∧0<ti.sz) ∧
  (0<n∧n.toNat*ti.bytes≤281474976710656∧n.toNat≤4611686018427387904∧K ((st.add ⟨e,ti.sz,true,none,(repZ n.toNat ti.zero).map .s⟩).put d (hdr st.ob.length ti.sz n.toNat))):=nr rfl
@[simp] theorem xcap_n:xcap P t (.l (.s (.slice none 0 0))) st d K=((elemF P t).isSome=true∧K (st.put d (.l (.s (.int .i64 0))))):=nr rfl
@[simp] theorem xclear_r:xclear P t (.l (.r ob sz lo hi)) st d K=(d=none∧wh (elemF P t) fun e=>wh (tiF P e) fun ti=>(ti.zero.length=ti.sz∧ti.zero.all (·.oneCell')=true)∧(sz=ti.sz∧wh (st.obj ob) fun z=>lo≤hi∧hi*ti.sz≤z.cs.length∧K (st.setO ob { z with cs:=setAt z.cs (lo*ti.sz) ((repZ (hi - lo) ti.zero).map .s) }))):=nr rfl
@[simp] theorem xslice_n' (l h:Option Operand):xslice P t (.l (.s (.slice none 0 0))) l h st d K=wh (elemF P t) fun e=>wh (tiF P e) fun ti=>xbnd st l 0 fun l=>xbnd st h 0 fun h=>l=0∧h=0∧K (st.put d (.l (.s (.slice none 0 0)))):=nr rfl
@[simp] theorem xslice_d' (l h:Option Operand):xslice P t (.l (.d al sz es)) l h st d K=wh (elemF P t) fun e=>wh (tiF P e) fun ti=>sz=ti.sz∧xbnd st l 0 fun l=>xbnd st h es.length fun h=>l≤h∧h≤es.length∧K (st.put d (.l (.d al sz ((es.drop l).take (h - l))))):=nr rfl
@[simp] theorem xslice_r' (l h:Option Operand):xslice P t (.l (.r ob sz lo hi)) l h st d K=wh (elemF P t) fun e=>wh (tiF P e) fun ti=>wh (st.obj ob) fun z=>(z.row=true∧z.sz=sz∧sz=ti.sz∧0<sz)∧xbnd st l 0 fun l=>xbnd st h (hi - lo) fun h=>l≤h∧(lo+h)*sz≤z.cs.length ∧
   K (st.put d (.l (.r ob sz (lo+l) (lo+h)))):=nr rfl
@[simp] theorem xbnd_none (n:Nat) (k:Nat→Prop):xbnd st none n k=k n:=nr rfl
@[simp] theorem xbnd_some (y:Operand) (n:Nat) (k:Nat→Prop):xbnd st (some y) n k=wi (st.ev y) fun n=>0≤n∧k n.toNat:=nr rfl
@[congr] theorem LB {st':St} {x y:Option Operand} {n m:Nat} {k:Nat→Prop} (h0:st=st') (h:x=y) (h':n=m):xbnd st x n k=xbnd st' y m k:=by rw[h0,h,h']
@[simp] theorem xeq_s' (op:BinOp) (a b:Value):xeq P op t (.l (.s a)) (.l (.s b)) st d K=wh (bopP P op t a b) fun v=>K (st.put d (.l (.s v))):=nr rfl
@[simp] theorem bopP_i (op:BinOp) (k k':IntKind) (a b:Int):bopP P op t (.int k a) (.int k' b)=bop op (.int k a) (.int k' b):=rfl
@[simp] theorem bopP_s (op:BinOp) (a b:ByteArray):bopP P op t (.string a) (.string b)=bop op (.string a) (.string b):=rfl
@[simp] theorem bopP_b (op:BinOp) (a b:Bool):bopP P op t (.bool a) (.bool b)=if sk P t=some 2 then (match op with|.eql=>some (.bool (decide (a=b)))|.neq=>some (.bool (!decide (a=b)))|_=>none) else none:=rfl
@[simp] theorem xeq_n' (op:BinOp):xeq P op t (.l (.d al sz es)) (.l (.s (.slice none 0 0))) st d K=((op=.eql∨op=.neq)∧(elemF P t).isSome=true∧∀ b:Bool,(es≠[]→b=false)→K (st.put d (.l (.s (.bool (if op=.eql then b else !b)))))):=nr rfl
@[simp] theorem xidx_d' (k:IntKind) (n:Int):xidx P t (.l (.d al sz es)) (.l (.s (.int k n))) st d K=(0≤n∧wh (elemF P t) fun e=>wh (tiF P e) fun ti=>sz=ti.sz∧wh (es[n.toNat]?) fun c=>K (st.put d (.l (.q al c 0)))):=nr rfl
@[simp] theorem xidx_r' (k:IntKind) (n:Int):xidx P t (.l (.r ob sz lo hi)) (.l (.s (.int k n))) st d K=(0≤n∧wh (elemF P t) fun e=>wh (tiF P e) fun ti=>sz=ti.sz∧n.toNat<hi - lo∧K (st.put d (.l (.p ob ((lo+n.toNat)*ti.sz))))):=nr rfl
end
attribute [simp] byteL A5 initTm hdr ptr ldX bop uop tget capt Post.seq Post.block fillA repZ St.src
theorem AW.stepN {P:Program} {R:Option Nat} {cx:Cx} {Q:Post} {st:St} {id:Nat} {ops:Array Oper} {c:Code} (N:St→Prop) (h:xops P ops ops.toList st N) (k:∀ s,N s→AW P R cx c Q s):AW P R cx (.seq (.region id ops false) c) Q st:=by
 refine AW.seq (AW.mono (AW.xregion (Q:=fun e s=>e=.normal∧N s) ?_) ?_)
 ·simpa using h
 ·rintro e s ⟨rfl,hs⟩;exact k s hs
theorem AW.step {P:Program} {R:Option Nat} {cx:Cx} {Q:Post} {st:St} {id:Nat} {ops:Array Oper} {c:Code} {st':St} (h:xops P ops ops.toList st (fun s=>s=st')) (k:AW P R cx c Q st'):AW P R cx (.seq (.region id ops false) c) Q st :=
 AW.stepN _ h fun s hs=>by subst hs;exact k
theorem AW.last {P:Program} {R:Option Nat} {cx:Cx} {Q:Post} {st:St} {id:Nat} {ops:Array Oper} {st':St} (h:xops P ops ops.toList st (fun s=>s=st')) (k:Q .normal st'):AW P R cx (.region id ops false) Q st:=by
 refine AW.mono (AW.xregion (Q:=fun e s=>e=.normal∧s=st') ?_) ?_
 ·simpa using h
 ·rintro e s ⟨rfl,hs⟩;subst hs;exact k
def LeftV (cx:Cx) (res:AV) (obs':List (Option Ob)) (s:St):Prop:=∃ s',Weak cx s s'∧s'.ob=obs'∧s'.ls=none∧lk s'.tm 0=res
section
variable {P:Program} {cx:Cx} {fn:Func} {res:AV} {obs':List (Option Ob)} {s:St}
theorem Left.of {av:AV} (h:resV P s fn.results.toList=some av) (k:LeftV cx res obs' ⟨[(0,av)],s.ob,1,s.gh,s.ls⟩):Left P cx fn res obs' s:=by
 obtain⟨s',h1,h2,h3,h4⟩:=k;exact⟨av,s',h,h1,h2,h3,h4⟩
theorem LeftV.weak {s':St} (hw:Weak cx s s') (k:LeftV cx res obs' s'):LeftV cx res obs' s:=by
 obtain⟨s2,h1,h2⟩:=k;exact⟨s2,hw.trans h1,h2⟩
theorem zM (h:cx.nb=0) (ids:List (Option Nat)) (hnd:∀ (i j o:Nat),ids[i]?=some (some o)→ids[j]?=some (some o)→i=j) (hls:s.ls=none) (hob:pickOb ids s.ob=obs') (hr:(lk s.tm 0).ren (inv ids)=res):LeftV cx res obs' s :=
 ⟨_,Weak.ren ids (s.tm.ren (inv ids)) hnd (by omega) (fun i o hi=>by omega) (fun i=>.inl (Cv _ _ _)),hob,hls,by rw[Cv,hr]⟩
theorem Left.plain {av:AV} (hn:cx.nb=0) (h:resV P s fn.results.toList=some av) (hp:av.plain=true) (hls:s.ls=none) (he:av=res):Left P cx fn res [] s :=
 Left.of h (zM hn [] (by simp) hls rfl (by rw[A5,if_pos rfl,AV.plain_ren _ hp,he]))
end
end Go.Proofs.Ytenemndpignaoaa
namespace Go.Proofs.Ytenemndpignaoaa
open Go Go.RowKit
def AllL {α:Type} (p:α→Prop):List α→Prop
 |[]=>True
 |[a]=>p a
 |a::b::r=>p a∧AllL p (b::r)
theorem AllL.mem {α:Type} {p:α→Prop}:∀ {l:List α},AllL p l→∀ a∈l,p a
 |[],_,a,h=>by simp at h
 |[b],h,a,ha=>by simp at ha;subst ha;exact h
 |b::c::r,h,a,ha=>by
  rcases List.mem_cons.1 ha with rfl|ha
  ·exact h.1
  ·exact AllL.mem h.2 a ha
theorem AllL.of {α:Type} {p:α→Prop}:∀ {l:List α},(∀ a∈l,p a)→AllL p l
 |[],_=>trivial
 |[b],h=>h b (by simp)
 |b::c::r,h=>⟨h b (by simp),AllL.of fun a ha=>h a (by simp[ha])⟩
structure DI where
 ks:List Nat
 an:List Nat
 rd:List (Nat×Option Nat)
 ef:Bool
def before (o:Oper):List Nat:=(o.after.toList.filter (Region.binds .any)).map (·.on)
def dsOf (ops:Array Oper) (j:Nat):Option Nat:=(ops[j]?).bind (·.dst)
def efCount (D:List DI) (p:Nat→Bool):Nat:=((List.range D.length).filter fun e=>(D[e]?).any (·.ef) && p e).length
def inAn (D:List DI) (i j:Nat):Bool:=(D[i]?).any fun d=>d.an.contains j
def chkD (ops:Array Oper) (D:List DI) (n1:Nat):Bool :=
 D.length == ops.size && decide (n1≤ops.size) && (List.range ops.size).all fun i =>
  match ops[i]?,D[i]? with
  |some o,some d =>
   (before o).all (fun p=>decide (p<i)) &&
   d.an.all (fun j=>(before o).any fun p=>p == j || inAn D p j) &&
   (if i<n1 then
    d.rd.all (fun r=>match r.2 with
     |some j=>d.an.contains j && decide (j<n1) && dsOf ops j == some r.1
     |none=>(List.range n1).all fun j=>!(dsOf ops j == some r.1) || i == j || inAn D j i) &&
    (List.range n1).all (fun j=>i == j || dsOf ops j == none || !(dsOf ops j == o.dst)) &&
    (if d.ef then d.ks == [efCount D fun e=>d.an.contains e] && (List.range n1).all (fun e=>e == i || !((D[e]?).any (·.ef)) || d.an.contains e || inAn D e i)
     else (List.range' (efCount D fun e=>d.an.contains e) (efCount D (fun e=>decide (e<n1) && !inAn D e i)+1 - efCount D fun e=>d.an.contains e)).all fun k=>d.ks.contains k)
   else !d.ef && (List.range i).all fun j=>d.an.contains j)
  |_,_=>false
def rdV (V:List AV) (tm0:Tm) (r:Nat×Option Nat):AV :=
 match r.2 with
 |some j=>V.getD j (.l .u)
 |none=>lk tm0 r.1
def putD (dst:Option Nat) (v:AV) (tm:Tm):Tm :=
 match dst with
 |some e=>(e,v)::tm
 |none=>tm
theorem Ew (dst:Option Nat) (v:AV) (tm:Tm) (t:Nat):lk (putD dst v tm) t=if dst=some t then v else lk tm t:=by
 cases dst with
 |none=>simp[putD]
 |some e =>
  rw[putD,A5];by_cases h:t=e
  ·subst h;simp
  ·rw[if_neg h,if_neg (fun h'=>h (by simpa using h'.symm))]
def Obl (P:Program) (ops:Array Oper) (V:List AV) (M:List (List (Option Ob))) (st:St):List Oper→List DI→List AV→Prop
 |o::os,d::ds,v::vs=>(AllL (fun k=>∀ tm,AllL (fun r=>lk tm r.1=rdV V st.tm r) d.rd→xg P ops o ⟨tm,M.getD k [],st.nt,st.gh,st.ls⟩ (fun s=>∃ v',(∀ t,lk s.tm t=lk (putD o.dst v' tm) t)∧v'=v∧s.ob=M.getD (bif d.ef then k+1 else k) []∧s.nt=st.nt∧s.gh=st.gh∧s.ls=st.ls)) d.ks)∧Obl P ops V M st os ds vs
 |_,_,[]=>True
 |_,_,_=>False
def tmD:List Oper→List AV→Tm→Tm
 |o::os,v::vs,tm=>putD o.dst v (tmD os vs tm)
 |_,_,tm=>tm
section
variable {P:Program} {cx:Cx} {st:St} {ops:Array Oper} {D:List DI} {n1:Nat} {V:List AV} {M:List (List (Option Ob))} {Q:Post}
def Ls (listed:Array Bool) (i:Nat):Bool:=listed.getD i false
theorem Obl.get:∀ {os:List Oper} {ds:List DI} {vs:List AV} (i:Nat),Obl P ops V M st os ds vs→i<vs.length→∃ o d v,os[i]?=some o∧ds[i]?=some d∧vs[i]?=some v ∧
  AllL (fun k=>∀ tm,AllL (fun r=>lk tm r.1=rdV V st.tm r) d.rd→xg P ops o ⟨tm,M.getD k [],st.nt,st.gh,st.ls⟩ (fun s=>∃ v',(∀ t,lk s.tm t=lk (putD o.dst v' tm) t)∧v'=v∧s.ob=M.getD (bif d.ef then k+1 else k) []∧s.nt=st.nt∧s.gh=st.gh∧s.ls=st.ls)) d.ks
 |o::os,d::ds,v::vs,0,h,_=>⟨o,d,v,rfl,rfl,rfl,h.1⟩
 |o::os,d::ds,v::vs,i+1,h,hi=>by
  obtain⟨o',d',v',h1,h2,h3,h4⟩:=Obl.get i h.2 (by simpa using hi);exact⟨o',d',v',by simpa using h1,by simpa using h2,by simpa using h3,h4⟩
 |[],_,_::_,_,h,_=>by simp[Obl] at h
 |_::_,[],_::_,_,h,_=>by simp[Obl] at h
 |_,_,[],i,_,hi=>by simp at hi
structure Right (ops:Array Oper) (D:List DI) (n1 i:Nat) (o:Oper) (d:DI):Prop where
 back:∀ p∈before o,p<i
 an:∀ j∈d.an,∃ p∈before o,p=j∨inAn D p j=true
 rd:i<n1→∀ r∈d.rd,match r.2 with
  |some j=>j∈d.an∧j<n1∧dsOf ops j=some r.1
  |none=>∀ j,j<n1→dsOf ops j=some r.1→i=j∨inAn D j i=true
 dst:i<n1→∀ j,j<n1→i≠j→dsOf ops j≠none→dsOf ops j≠o.dst
 ef:i<n1→d.ef=true→d.ks=[efCount D fun e=>d.an.contains e]∧∀ e,e<n1→e≠i→(D[e]?).any (·.ef)=true→e∈d.an∨inAn D e i=true
 ne:i<n1→d.ef=false→∀ k,(efCount D fun e=>d.an.contains e)≤k→k≤efCount D (fun e=>decide (e<n1) && !inAn D e i)→k∈d.ks
 late:¬ i<n1→d.ef=false∧∀ j,j<i→j∈d.an
theorem DR (h:chkD ops D n1=true) {i:Nat} {o:Oper} (ho:ops[i]?=some o):∃ d,D[i]?=some d∧Right ops D n1 i o d:=by
 have hi:i<ops.size:=(Array.getElem?_eq_some_iff.1 ho).1;simp only[chkD,Bool.and_eq_true,List.all_eq_true] at h;have h1:=h.2 i (List.mem_range.2 hi);rw[ho] at h1;cases hd:D[i]? with
 |none=>rw[hd] at h1;simp at h1
 |some d =>
  rw[hd] at h1;simp only[Bool.and_eq_true,List.all_eq_true,List.any_eq_true,decide_eq_true_eq] at h1;obtain⟨⟨ha,hb⟩,hc⟩:=h1;refine⟨d,rfl,⟨ha,fun j hj=>?_,fun hlt=>?_,fun hlt=>?_,fun hlt=>?_,fun hlt=>?_,fun hlt=>?_⟩⟩
  ·obtain⟨p,hp,h2⟩:=hb j hj;exact⟨p,hp,by simpa using h2⟩
  all_goals (first|rw[if_pos hlt] at hc|rw[if_neg hlt] at hc)
  all_goals simp only[Bool.and_eq_true,List.all_eq_true,List.mem_range] at hc
  ·intro r hr;have:=hc.1.1 r hr;split at this
   ·simp at this;exact⟨this.1.1,this.1.2,this.2⟩
   ·intro j hj hjt;simp at this;rcases this j hj with (h2|h2)|h2
    ·exact absurd hjt h2
    ·exact .inl h2
    ·exact .inr h2
  ·intro j hj hne hn e;have:=hc.1.2 j hj;simp at this;rcases this with (h2|h2)|h2
   ·exact hne h2
   ·exact hn h2
   ·exact h2 e
  ·intro hef;have:=hc.2;rw[if_pos hef] at this;simp only[Bool.and_eq_true,List.all_eq_true,List.mem_range,beq_iff_eq] at this;refine⟨this.1,fun e he hne hee=>?_⟩;have h2:=this.2 e he;simp at h2;rcases h2 with ((h2|h2)|h2)|h2
   ·exact absurd h2 hne
   ·rw[h2] at hee;exact absurd hee (by simp)
   ·exact .inl h2
   ·exact .inr h2
  ·intro hef k h2 h3;have:=hc.2;rw[hef] at this;simp only[Bool.false_eq_true,if_false,List.all_eq_true] at this;have h4:=this k (List.mem_range'_1.2 ⟨h2,by omega⟩);simpa using h4
  ·refine⟨by simpa using hc.1,fun j hj=>?_⟩;have:=hc.2 j hj;simpa using this
end
end Go.Proofs.Ytenemndpignaoaa
namespace Go.Proofs.Ytenemndpignaoaa
open Go Go.RowKit
theorem EY {i:Nat} {p q:Nat→Bool}:∀ {l:List Nat},l.Nodup→i∈l→p i=false→q i=true→(∀ e,e≠i→q e=p e)→(l.filter q).length=(l.filter p).length+1
 |[],_,h,_,_,_=>by simp at h
 |a::l,hn,h,hp,hq,hpq=>by
  have hn':=List.nodup_cons.1 hn;by_cases e:a=i
  ·subst e;have:l.filter q=l.filter p:=by
    refine List.filter_congr fun x hx=>hpq x fun e=>?_;subst e;exact hn'.1 hx
   simp[hp,hq,this]
  ·have ih:=EY hn'.2 (by rcases List.mem_cons.1 h with e'|e';exact absurd e'.symm e;exact e') hp hq hpq;simp only[List.filter_cons,hpq a e];split
   ·simp[ih]
   ·exact ih
theorem HG {p q:Nat→Bool} (h:∀ e,p e=true→q e=true):∀ l:List Nat,(l.filter p).length≤(l.filter q).length
 |[]=>by simp
 |a::l=>by
  have ih:=HG h l;simp only[List.filter_cons];split
  ·rename_i hp
   rw[if_pos (h a hp)];simpa using ih
  ·split
   ·simp;omega
   ·exact ih
theorem DW {D:List DI} {p q:Nat→Bool} (h:∀ e,(D[e]?).any (·.ef)=true→p e=true→q e=true):efCount D p≤efCount D q :=
 HG (fun e he=>by simp only[Bool.and_eq_true] at he ⊢;exact⟨he.1,h e he.1 he.2⟩) _
theorem DF {D:List DI} {p q:Nat→Bool} (h:∀ e,(D[e]?).any (·.ef)=true→p e=q e):efCount D p=efCount D q :=
 Nat.le_antisymm (DW fun e he hp=>by rw[← h e he];exact hp) (DW fun e he hp=>by rw[h e he];exact hp)
section
variable {P:Program} {cx:Cx} {st:St} {ops:Array Oper} {D:List DI} {n1:Nat} {V:List AV} {M:List (List (Option Ob))} {Q:Post} {R:Option Nat} {listed:Array Bool}
theorem Fl (hs:listed.size=ops.size) {i:Nat} (h:i∈Region.ready .any ops listed):∃ o,ops[i]?=some o∧Ls listed i=false∧∀ p∈before o,Ls listed p=true:=by
 simp only[Region.ready,List.mem_filter,List.mem_range,Bool.and_eq_true] at h;obtain⟨h1,h2,h3⟩:=h;have ho:ops[i]?=some ops[i]:=Array.getElem?_eq_getElem h1;refine⟨_,ho,?_,fun p hp=>?_⟩
 ·have hl:i<listed.size:=by omega
  simp only[Ls,Array.getD_eq_getD_getElem?,Array.getElem?_eq_getElem hl,Option.getD_some] at h2 ⊢;simpa using h2
 ·rw[ho] at h3;simp only[Option.map_some,Option.getD_some,Array.all_eq_true_iff_forall_mem] at h3;simp only[before,List.mem_map,List.mem_filter] at hp;obtain⟨e,⟨he,hb⟩,rfl⟩:=hp;have:=h3 e (by simpa using he);rw[hb] at this;simpa [Ls] using this
theorem JN (hs:listed.size=ops.size) {i:Nat} {o:Oper} (ho:ops[i]?=some o) (hl:Ls listed i=false) (hp:∀ p∈before o,Ls listed p=true):i∈Region.ready .any ops listed:=by
 have hi:i<ops.size:=(Array.getElem?_eq_some_iff.1 ho).1;simp only[Region.ready,List.mem_filter,List.mem_range,Bool.and_eq_true];refine⟨hi,?_,?_⟩
 ·have hl':i<listed.size:=by omega
  simp only[Ls,Array.getD_eq_getD_getElem?,Array.getElem?_eq_getElem hl',Option.getD_some] at hl ⊢;simpa using hl
 ·rw[ho];simp only[Option.map_some,Option.getD_some,Array.all_eq_true_iff_forall_mem];intro e he;cases hb:Region.binds .any e
  ·rfl
  ·have:=hp e.on (by simp only[before,List.mem_map,List.mem_filter];exact⟨e,⟨by simpa using he,hb⟩,rfl⟩);simpa [Ls] using this
theorem GU (hc:chkD ops D n1=true) (hs:listed.size=ops.size) (h:Region.ready .any ops listed=[]):∀ i,i<ops.size→Ls listed i=true:=by
 intro i;induction i using Nat.strongRecOn with
 |_ i ih =>
  intro hi;have ho:ops[i]?=some ops[i]:=Array.getElem?_eq_getElem hi;obtain⟨d,hd,hR⟩:=DR hc ho;cases hl:Ls listed i
  ·have:=JN hs ho hl fun p hp=>ih p (hR.back p hp) (by have:=hR.back p hp;omega);rw[h] at this;simp at this
  ·rfl
theorem C7 {i:Nat} (hi:i<listed.size) (j:Nat):Ls (listed.setIfInBounds i true) j=if j=i then true else Ls listed j:=by
 simp only[Ls,Array.getD_eq_getD_getElem?];by_cases e:j=i
 ·subst e;simp[hi]
 ·rw[Array.getElem?_setIfInBounds_ne (Ne.symm e),if_neg e]
def Clo (ops:Array Oper) (D:List DI) (listed:Array Bool):Prop:=∀ i,i<ops.size→Ls listed i=true→∀ j,inAn D i j=true→Ls listed j=true
theorem Clo.an (hcl:Clo ops D listed) (hc:chkD ops D n1=true) {i:Nat} {o:Oper} {d:DI} (ho:ops[i]?=some o) (hR:Right ops D n1 i o d) (hp:∀ p∈before o,Ls listed p=true):∀ j∈d.an,Ls listed j=true:=by
 intro j hj;obtain⟨p,hpb,h⟩:=hR.an j hj;have hi:i<ops.size:=(Array.getElem?_eq_some_iff.1 ho).1;have:=hR.back p hpb;rcases h with rfl|h
 ·exact hp p hpb
 ·exact hcl p (by omega) (hp p hpb) j h
theorem Clo.set (hcl:Clo ops D listed) {i:Nat} {d:DI} (hi:i<listed.size) (hd:D[i]?=some d) (han:∀ j∈d.an,Ls listed j=true):Clo ops D (listed.setIfInBounds i true):=by
 intro k hk hl j hj;rw[C7 hi] at hl ⊢;split
 ·rfl
 ·by_cases e:k=i
  ·subst e;rw[inAn,hd] at hj;exact han j (by simpa using hj)
  ·rw[if_neg e] at hl;exact hcl k hk hl j hj
def OpG (P:Program) (R:Option Nat) (cx:Cx) (ops:Array Oper) (i:Nat) (s:St) (K:St→Prop):Prop :=
 ∀ (next:Act→World→Prop) (QQ:Exit→Act→World→Prop) (σ:Nat→Hd) (a:Act) (w:World),(∀ σ' s' a' w',K s'→RelS cx σ' s' a' w'→next a' w')→RelS cx σ s a w→wpOpIn (fR R) 0 P ops QQ i next a w
def xopsY (P:Program) (R:Option Nat) (cx:Cx) (ops:Array Oper):List Oper→Nat→St→(St→Prop)→Prop
 |[],_,s,K=>K s
 |o::os,i,s,K=>OpG P R cx ops i s fun s'=>xopsY P R cx ops os (i+1) s' K
theorem Dw {K:St→Prop}:∀ (os:List Oper) (i:Nat) (s:St),ops.toList.drop i=os→xops P ops os s K→xopsY P R cx ops os i s K
 |[],i,s,_,h=>h
 |o::os,i,s,hd,h=>by
  have ho:ops[i]?=some o:=by
   have:ops.toList[i]?=some o:=by
    have:=congrArg (fun l=>l[0]?) hd;simpa using this
   simpa using this
  intro next QQ σ a w hn hr;refine Hp ho h (fun σ' s' a' w' hk hr'=>hn σ' s' a' w' ?_ hr') hr;refine Dw os (i+1) s' ?_ hk;have:=congrArg (List.drop 1) hd;simpa [Nat.add_comm] using this
theorem drawn2 (hc:chkD ops D n1=true):∀ (m:Nat) (listed:Array Bool) (k:Nat) (s:St) (σ:Nat→Hd) (a:Act) (w:World),listed.size=ops.size→ops.size≤k+m→n1≤k→(∀ j,j<ops.size→(Ls listed j=true↔j<k)) →
  xopsY P R cx ops (ops.toList.drop k) k s (fun s=>Q .normal s)→RelS cx σ s a w→wpAnyIn (fR R) 0 P .any ops (post cx Q) m listed a w
 |0,listed,k,s,σ,a,w,hs,hk,hn,hL,hx,hr=>by
  have hall:∀ j,j<ops.size→Ls listed j=true:=fun j hj=>(hL j hj).2 (by omega);have hnil:Region.ready .any ops listed=[]:=by
   rw[List.eq_nil_iff_forall_not_mem];intro i hi;obtain⟨o,ho,hf,_⟩:=Fl hs hi;rw[hall i (Array.getElem?_eq_some_iff.1 ho).1] at hf;simp at hf
  refine⟨hnil,σ,s,hr,?_⟩;rw[List.drop_eq_nil_of_le (by simp;omega)] at hx;exact hx
 |m+1,listed,k,s,σ,a,w,hs,hk,hn,hL,hx,hr=>by
  refine⟨fun hnil=>?_,fun i hi=>?_⟩
  ·have hkl:ops.size≤k:=by
    apply Nat.le_of_not_lt;intro hkl;have h1:=GU hc hs hnil k hkl;have h2:=(hL k hkl).1 h1;omega
   rw[List.drop_eq_nil_of_le (by simp;omega)] at hx;exact⟨σ,s,hr,hx⟩
  ·obtain⟨o,ho,hf,hp⟩:=Fl hs hi;have hin:i<ops.size:=(Array.getElem?_eq_some_iff.1 ho).1;obtain⟨d,hd,hR⟩:=DR hc ho;have hik:i=k:=by
    have h1:¬ i<k:=fun h=>by rw[(hL i hin).2 h] at hf;simp at hf
    by_cases e:k<i
    ·exfalso
     have h2:=(hR.late (by omega)).2 k e;obtain⟨p,hpb,h3⟩:=hR.an k h2;have hpl:=hR.back p hpb;have h4:=(hL p (by omega)).1 (hp p hpb);rcases h3 with rfl|h3
     ·omega
     ·obtain⟨d',hd',hR'⟩:=DR hc (Array.getElem?_eq_getElem (show p<ops.size by omega));rw[inAn,hd'] at h3;have h5:k∈d'.an:=by simpa using h3
      -- what comes ahead comes ahead in the text
      have key:∀ q,q<ops.size→∀ d'',D[q]?=some d''→∀ j∈d''.an,j<q:=by
       intro q;induction q using Nat.strongRecOn with
       |_ q ih =>
        intro hq d'' hd'' j hj;obtain⟨d3,hd3,hR3⟩:=DR hc (Array.getElem?_eq_getElem hq);rw[hd''] at hd3;cases hd3
        obtain⟨p',hp',h6⟩:=hR3.an j hj;have:=hR3.back p' hp';rcases h6 with rfl|h6
        ·exact this
        ·cases hd4:D[p']? with
         |none=>rw[inAn,hd4] at h6;simp at h6
         |some d4 =>
          rw[inAn,hd4] at h6;have:=ih p' this (by omega) d4 hd4 j (by simpa using h6);omega
      have:=key p (by omega) d' hd' k h5;omega
    ·omega
   subst hik;have hdrop:ops.toList.drop i=o::ops.toList.drop (i+1):=by
    have hl:i<ops.toList.length:=by simpa using hin
    rw[List.drop_eq_getElem_cons hl];congr 1
    have:=(Array.getElem?_eq_some_iff.1 ho).2;simpa using this
   rw[hdrop] at hx;refine hx _ _ σ a w (fun σ' s' a' w' hk' hr'=>?_) hr;refine drawn2 hc m _ (i+1) s' σ' a' w' (by simpa using hs) (by omega) (by omega) (fun j hj=>?_) hk' hr';rw[C7 (by omega)];split
   ·simp;omega
   ·rw[hL j hj];omega
theorem HH:∀ (os:List Oper) (V:List AV) (tm:Tm) (t:Nat),(∀ (j:Nat) (v:AV),V[j]?=some v→(os[j]?).bind Oper.dst=some t→(∀ (i:Nat) (v':AV),V[i]?=some v'→(os[i]?).bind Oper.dst=some t→i=j)→lk (tmD os V tm) t=v)∧((∀ (j:Nat) (v:AV),V[j]?=some v→(os[j]?).bind Oper.dst≠some t)→lk (tmD os V tm) t=lk tm t)
 |[],V,tm,t=>⟨fun j v hv ho=>by simp at ho,fun _=>by simp[tmD]⟩
 |o::os,[],tm,t=>⟨fun j v hv=>by simp at hv,fun _=>by simp[tmD]⟩
 |o::os,v::vs,tm,t=>by
  obtain⟨ih1,ih2⟩:=HH os vs tm t;refine⟨fun j x hx ho hu=>?_,fun hn=>?_⟩
  ·cases j with
   |zero =>
    simp at hx ho;subst hx;rw[tmD,Ew,if_pos ho]
   |succ j =>
    simp at hx ho;have h0:o.dst≠some t:=fun e=>by
     have:=hu 0 v rfl (by simpa using e);omega
    have:lk (tmD (o::os) (v::vs) tm) t=lk (tmD os vs tm) t:=by
     rw[tmD,Ew,if_neg h0]
    rw[this];exact ih1 j x hx (by simpa using ho) fun i v' hv' hi=>by
     have:=hu (i+1) v' (by simpa using hv') (by simpa using hi);omega
  ·have h0:o.dst≠some t:=fun e=>hn 0 v rfl (by simpa using e);have:lk (tmD (o::os) (v::vs) tm) t=lk (tmD os vs tm) t:=by
    rw[tmD,Ew,if_neg h0]
   rw[this];exact ih2 fun j x hx=>by have:=hn (j+1) x (by simpa using hx);simpa using this
theorem Is {V:List AV} {j:Nat} {v:AV} (h:V[j]?=some v):V.getD j (.l .u)=v:=by simp[List.getD_eq_getElem?_getD,h]
theorem Fm (j:Nat):dsOf ops j=(ops.toList[j]?).bind Oper.dst:=by simp[dsOf]
structure In1 (ops:Array Oper) (D:List DI) (n1:Nat) (V:List AV) (M:List (List (Option Ob))) (st:St) (listed:Array Bool) (s:St):Prop where
 nt:s.nt=st.nt
 gh:s.gh=st.gh
 ls:s.ls=st.ls
 ob:s.ob=M.getD (efCount D fun e=>decide (e<n1) && Ls listed e) []
 wr:∀ (t j:Nat),j<n1→Ls listed j=true→dsOf ops j=some t→lk s.tm t=V.getD j (.l .u)
 un:∀ t,(∀ j,j<n1→Ls listed j=true→dsOf ops j≠some t)→lk s.tm t=lk st.tm t
theorem drawn1 (hc:chkD ops D n1=true) (hV:V.length=n1) (hn:n1≤ops.size) (hO:Obl P ops V M st ops.toList D V)
  (hx:xopsY P R cx ops (ops.toList.drop n1) n1 ⟨tmD ops.toList V st.tm,M.getD (efCount D fun e=>decide (e<n1)) [],st.nt,st.gh,st.ls⟩ (fun s=>Q .normal s)) :
  ∀ (fuel:Nat) (listed:Array Bool) (s:St) (σ:Nat→Hd) (a:Act) (w:World),listed.size=ops.size→Clo ops D listed→((List.range n1).filter fun i=>!Ls listed i).length+(ops.size - n1)≤fuel →
   (∀ j,n1≤j→j<ops.size→Ls listed j=false)→In1 ops D n1 V M st listed s→RelS cx σ s a w→wpAnyIn (fR R) 0 P .any ops (post cx Q) fuel listed a w:=by
 intro fuel;have whole:∀ (fuel:Nat) (listed:Array Bool) (s:St) (σ:Nat→Hd) (a:Act) (w:World),listed.size=ops.size→ops.size - n1≤fuel →
   (∀ j,n1≤j→j<ops.size→Ls listed j=false)→(∀ j,j<n1→Ls listed j=true)→In1 ops D n1 V M st listed s→RelS cx σ s a w→wpAnyIn (fR R) 0 P .any ops (post cx Q) fuel listed a w:=by
  intro fuel listed s σ a w hs hf hlate hall hI hr;refine drawn2 hc fuel listed n1 ⟨tmD ops.toList V st.tm,M.getD (efCount D fun e=>decide (e<n1)) [],st.nt,st.gh,st.ls⟩ σ a w hs (by omega) (Nat.le_refl _) (fun j hj=>?_) hx ?_
  ·constructor
   ·intro h;apply Nat.lt_of_not_le;intro h';rw[hlate j h' hj] at h;simp at h
   ·exact hall j
  ·have e1:s.ob=M.getD (efCount D fun e=>decide (e<n1)) []:=by
    rw[hI.ob];congr 1
    refine DF fun e _=>?_;by_cases h:e<n1
    ·simp[h,hall e h]
    ·simp[h]
   have hlk:∀ t,lk (tmD ops.toList V st.tm) t=lk s.tm t:=by
    intro t;by_cases h:∃ j,j<n1∧dsOf ops j=some t
    ·obtain⟨j,hj,hjt⟩:=h;rw[hI.wr t j hj (hall j hj) hjt];have hv:V[j]?=some V[j]:=List.getElem?_eq_getElem (by omega);rw[Is hv];refine (HH ops.toList V st.tm t).1 j _ hv (by rw[← Fm];exact hjt) fun i v' hi hit=>?_;rw[← Fm] at hit;apply Classical.byContradiction;intro hne;have hil:i<ops.size:=by have:=(List.getElem?_eq_some_iff.1 hi).1;omega
     have ho:ops[i]?=some (ops[i]'hil):=Array.getElem?_eq_getElem hil;obtain⟨d,hd,hR⟩:=DR hc ho;have hi':i<n1:=by have:=(List.getElem?_eq_some_iff.1 hi).1;omega
     refine hR.dst hi' j hj hne (by rw[hjt];simp) ?_;rw[hjt,← hit,dsOf,ho];rfl
    ·rw[hI.un t fun j hj _ e=>h ⟨j,hj,e⟩];refine (HH ops.toList V st.tm t).2 fun j v hv e=>h ⟨j,by have:=(List.getElem?_eq_some_iff.1 hv).1;omega,by rw[Fm];exact e⟩
   refine⟨?_,fun t=>?_,?_,?_,hr.dm⟩
   ·have:=hr.h;rw[e1,hI.ls] at this;exact this
   ·have:=hr.tm t;rw[e1] at this;rw[hlk];exact this
   ·rw[hr.nt,hI.nt]
   ·have:=hr.gh;rw[e1,hI.gh] at this;exact this
 induction fuel with
 |zero =>
  intro listed s σ a w hs hcl hf hlate hI hr;have h0:((List.range n1).filter fun i=>!Ls listed i).length=0:=by omega
  refine whole 0 listed s σ a w hs (by omega) hlate (fun j hj=>?_) hI hr;have:=List.filter_eq_nil_iff.1 (List.eq_nil_of_length_eq_zero h0) j (List.mem_range.2 hj);simpa using this
 |succ fuel ih =>
  intro listed s σ a w hs hcl hf hlate hI hr;by_cases hall:∀ j,j<n1→Ls listed j=true
  ·exact whole (fuel+1) listed s σ a w hs (by omega) hlate hall hI hr
  ·refine⟨fun hnil=>?_,fun i hi=>?_⟩
   ·exact absurd (fun j hj=>GU hc hs hnil j (by omega)) hall
   ·obtain⟨o,ho,hfl,hp⟩:=Fl hs hi;have hin:i<ops.size:=(Array.getElem?_eq_some_iff.1 ho).1;obtain⟨d,hd,hR⟩:=DR hc ho;have han:=hcl.an hc ho hR hp;have hi1:i<n1:=by
     apply Classical.byContradiction;intro h;exact hall fun j hj=>han j ((hR.late h).2 j (by omega))
    obtain⟨o',d',v,h1,h2,h3,h4⟩:=hO.get i (by omega);have:o'=o:=by
     have:ops.toList[i]?=some o:=by simpa using ho
     rw[h1] at this;simpa using this
    subst this;rw[hd] at h2;cases h2
    have hv:=Is h3
    -- how many effects have been
    have hk:(efCount D fun e=>decide (e<n1) && Ls listed e)∈d.ks:=by
     cases hef:d.ef
     ·refine hR.ne hi1 hef _ (DW fun e he h=>?_) (DW fun e he h=>?_)
      ·have h5:e∈d.an:=by simpa using h
       rw[han e h5];simp;apply Nat.lt_of_not_le;intro h6;by_cases h7:e<ops.size
       ·have h8:=han e h5;rw[hlate e h6 h7] at h8;simp at h8
       ·have h8:=han e h5;have h9:¬ e<listed.size:=by omega
        simp[Ls,Array.getD_eq_getD_getElem?,h9] at h8
      ·simp only[Bool.and_eq_true,decide_eq_true_eq] at h;simp only[Bool.and_eq_true,decide_eq_true_eq,Bool.not_eq_true'];refine⟨h.1,?_⟩;cases h5:inAn D e i
       ·rfl
       ·have:=hcl e (by omega) h.2 i h5;rw[hfl] at this;simp at this
     ·obtain⟨h5,h6⟩:=hR.ef hi1 hef;rw[h5,List.mem_singleton];refine DF fun e he=>?_;by_cases h7:e<n1∧Ls listed e=true
      ·have hne:e≠i:=fun h=>by subst h;rw[hfl] at h7;simp at h7
       have h8:e∈d.an:=by
        rcases h6 e h7.1 hne he with h9|h9
        ·exact h9
        ·have:=hcl e (by omega) h7.2 i h9;rw[hfl] at this;simp at this
       simp[h7.1,h7.2,h8]
      ·have h8:¬ e∈d.an:=fun h8=>by
        have h9:=han e h8;refine h7 ⟨?_,h9⟩;apply Nat.lt_of_not_le;intro h10;by_cases h11:e<ops.size
        ·rw[hlate e h10 h11] at h9;simp at h9
        ·have h12:¬ e<listed.size:=by omega
         simp[Ls,Array.getD_eq_getD_getElem?,h12] at h9
       have h9:(decide (e<n1) && Ls listed e)=false:=by
        cases hq:(decide (e<n1) && Ls listed e)
        ·rfl
        ·simp only[Bool.and_eq_true,decide_eq_true_eq] at hq;exact absurd hq h7
       simp[h9,h8]
    have hrd:AllL (fun r=>lk s.tm r.1=rdV V st.tm r) d.rd:=AllL.of fun r hr'=>by
     have h5:=hR.rd hi1 r hr';obtain⟨t,x⟩:=r;cases x with
     |some j=>exact hI.wr t j h5.2.1 (han j h5.1) h5.2.2
     |none =>
      refine hI.un t fun j hj hlj hjt=>?_;rcases h5 j hj hjt with h6|h6
      ·subst h6;rw[hfl] at hlj;simp at hlj
      ·have:=hcl j (by omega) hlj i h6;rw[hfl] at this;simp at this
    have hxg:=AllL.mem h4 _ hk s.tm hrd;have hsE:s=⟨s.tm,M.getD (efCount D fun e=>decide (e<n1) && Ls listed e) [],st.nt,st.gh,st.ls⟩:=by
     rw[← hI.ob,← hI.nt,← hI.gh,← hI.ls]
    rw[← hsE] at hxg;refine Hp ho hxg (fun σ' s' a' w' hk' hr'=>?_) hr;obtain⟨v',hlk,hvv,hob,hnt,hgh,hls⟩:=hk';subst hvv;refine ih _ s' σ' a' w' (by simpa using hs) (hcl.set (by omega) hd han) ?_ (fun j hj hjs=>?_) ⟨hnt,hgh,hls,?_,fun t j hj hlj hjt=>?_,fun t hun=>?_⟩ hr'
    ·have:=EY (i:=i) (p:=fun j=>!Ls (listed.setIfInBounds i true) j) (q:=fun j=>!Ls listed j) (List.nodup_range (n:=n1)) (List.mem_range.2 hi1) (by simp[C7 (show i<listed.size by omega)]) (by simp[hfl]) (fun e he=>by simp[C7 (show i<listed.size by omega),he]);omega
    ·rw[C7 (by omega),if_neg (by omega)];exact hlate j hj hjs
    ·rw[hob];congr 1
     cases hef:d.ef
     ·refine DF fun e he=>?_;rw[C7 (by omega)];split
      ·rename_i h;subst h;rw[hd] at he;simp[hef] at he
      ·rfl
     ·show _=efCount D _;unfold efCount;refine (EY (i:=i) List.nodup_range (List.mem_range.2 (List.getElem?_eq_some_iff.1 hd).1) ?_ ?_ fun e he=>?_).symm
      ·simp[hfl]
      ·simp[hd,hef,hi1,C7 (show i<listed.size by omega)]
      ·have h5:Ls (listed.setIfInBounds i true) e=Ls listed e:=by rw[C7 (by omega),if_neg he]
       simp only[h5]
    ·rw[C7 (by omega)] at hlj;rw[hlk];by_cases e:j=i
     ·subst e;have:o'.dst=some t:=by rw[dsOf,ho] at hjt;exact hjt
      rw[Ew,if_pos this,hv]
     ·rw[if_neg e] at hlj;have hne:o'.dst≠some t:=fun h=>hR.dst hi1 j hj (Ne.symm e) (by rw[hjt];simp) (by rw[hjt,h]);rw[Ew,if_neg hne];exact hI.wr t j hj hlj hjt
    ·rw[hlk];have hne:o'.dst≠some t:=fun h=>hun i hi1 (by rw[C7 (by omega),if_pos rfl]) (by rw[dsOf,ho];exact h);rw[Ew,if_neg hne];refine hI.un t fun j hj hlj=>hun j hj ?_;rw[C7 (by omega)];split
     ·rfl
     ·exact hlj
theorem AW.drawnY (hm:P.follows .mixedOrders=true) {id:Nat} {c:Code} (D:List DI) (n1:Nat) (V:List AV) (M:List (List (Option Ob))) (N:St→Prop) (hc:chkD ops D n1=true) (hV:V.length=n1) (hM:M.getD 0 []=st.ob) (hO:Obl P ops V M st ops.toList D V)
  {me:List (Option Ob)} (hme:M.getD (efCount D fun e=>decide (e<n1)) []=me) (hx:xopsY P R cx ops (ops.toList.drop n1) n1 ⟨tmD ops.toList V st.tm,me,st.nt,st.gh,st.ls⟩ N) (k:∀ s,N s→AW P R cx c Q s):AW P R cx (.seq (.region id ops true) c) Q st:=by
 subst hme;have hn:n1≤ops.size:=by
  simp only[chkD,Bool.and_eq_true,decide_eq_true_eq] at hc;exact hc.1.2
 have h1:AW P R cx (.region id ops true) (fun e s=>e=.normal∧N s) st:=by
  intro σ a w hr;refine wpIn_region_any hm ?_;have hLf:∀ j,Ls (Array.replicate ops.size false) j=false:=fun j=>by
   simp only[Ls,Array.getD_eq_getD_getElem?,Array.getElem?_replicate];split <;> rfl
  have hr':RelS cx σ st a { w with drawn:=w.drawn+1 }:=hr.drewN 1;refine drawn1 hc hV hn hO (by simpa using hx) ops.size _ st σ a _ (by simp) (fun i hi h=>by rw[hLf] at h;simp at h) ?_ (fun j _ _=>hLf j) ⟨rfl,rfl,rfl,?_,fun t j _ h=>by rw[hLf] at h;simp at h,fun t _=>rfl⟩ hr'
  ·have:((List.range n1).filter fun i=>!Ls (Array.replicate ops.size false) i).length≤n1:=by
    have:=List.length_filter_le (fun i=>!Ls (Array.replicate ops.size false) i) (List.range n1);simpa using this
   omega
  ·rw[← hM];congr 1
   have:efCount D (fun e=>decide (e<n1) && Ls (Array.replicate ops.size false) e)=efCount D fun _=>false:=DF fun e _=>by simp[hLf]
   rw[this];have h5:(List.filter (fun _=>false) (List.range D.length))=[]:=List.filter_eq_nil_iff.2 fun _ _=>by simp
   simp[efCount,h5]
 refine AW.seq (AW.mono h1 ?_);rintro e s ⟨rfl,hs⟩;exact k s hs
theorem AW.drawn (hm:P.follows .mixedOrders=true) {id:Nat} {c:Code} (D:List DI) (n1:Nat) (V:List AV) (M:List (List (Option Ob))) (st':St) (hc:chkD ops D n1=true) (hV:V.length=n1) (hM:M.getD 0 []=st.ob) (hO:Obl P ops V M st ops.toList D V)
  {me:List (Option Ob)} (hme:M.getD (efCount D fun e=>decide (e<n1)) []=me) (hx:xops P ops (ops.toList.drop n1) ⟨tmD ops.toList V st.tm,me,st.nt,st.gh,st.ls⟩ (fun s=>s=st')) (k:AW P R cx c Q st'):AW P R cx (.seq (.region id ops true) c) Q st :=
 AW.drawnY hm D n1 V M (fun s=>s=st') hc hV hM hO hme (Dw _ _ _ rfl hx) fun s hs=>by subst hs;exact k
theorem AW.stepY {id:Nat} {c:Code} (N:St→Prop) (h:xopsY P R cx ops ops.toList 0 st N) (k:∀ s,N s→AW P R cx c Q s):AW P R cx (.seq (.region id ops false) c) Q st:=by
 have key:∀ (os:List Oper) (i:Nat) (s:St),ops.toList.drop i=os→xopsY P R cx ops os i s N→AO P R cx ops (fun e s=>e=.normal∧N s) (List.range' i os.length) s:=by
  intro os;induction os with
  |nil=>intro i s _ hx σ a w hr;exact⟨σ,s,hr,rfl,hx⟩
  |cons o os ih =>
   intro i s hd hx σ a w hr;rw[List.length_cons,List.range'_succ,wpOpsIn_cons];refine hx _ _ σ a w (fun σ' s' a' w' hk hr'=>?_) hr;refine ih (i+1) s' ?_ hk σ' a' w' hr';have:=congrArg (List.drop 1) hd;simpa [Nat.add_comm] using this
 refine AW.seq (AW.mono (AW.region (Q:=fun e s=>e=.normal∧N s) ?_) ?_)
 ·have:=key ops.toList 0 st rfl h;rw[← List.range_eq_range'] at this;simpa using this
 ·rintro e s ⟨rfl,hs⟩;exact k s hs
theorem Fn {K:St→Prop} {s1:St} (os':List Oper):∀ (os:List Oper) (i:Nat) (s:St),ops.toList.drop i=os++os'→xops P ops os s (fun s=>s=s1)→xopsY P R cx ops os' (i+os.length) s1 K→xopsY P R cx ops (os++os') i s K
 |[],i,s,_,h,hk=>by
  have:s=s1:=h;subst this;exact hk
 |o::os,i,s,hd,h,hk=>by
  have ho:ops[i]?=some o:=by
   have:ops.toList[i]?=some o:=by
    have:=congrArg (fun l=>l[0]?) hd;simpa using this
   simpa using this
  intro next QQ σ a w hn hr;refine Hp ho h (fun σ' s' a' w' hk' hr'=>hn σ' s' a' w' ?_ hr') hr;refine Fn os' os (i+1) s' ?_ hk' ?_
  ·have:=congrArg (List.drop 1) hd;simpa [Nat.add_comm] using this
  ·rw[show i+1+os.length=i+(o::os).length by simp;omega];exact hk
theorem OpG.fam {o:Oper} {i:Nat} {s:St} {K:St→Prop} (ho:ops[i]?=some o) (hg:match o.guard with|none=>True|some (j,want)=>yd ops s j=some (some want)) (h:OpFam P R cx o s K):OpG P R cx ops i s K:=by
 intro next QQ σ a w hn hr;unfold wpOpIn;simp only[ho];have hw:Region.wanted o (yielded ops a.tmps)=true:=by
  unfold Region.wanted;split at hg
  ·rename_i hg';rw[hg']
  ·rename_i j want hg'
   have hy:=HF hr hg;rw[hg'];show (yielded ops a.tmps j == some want)=true;rw[hy];simp
 rw[if_pos hw];exact⟨fun f _=>Er R f,h σ a w hr _ _ hn⟩
end
end Go.Proofs.Ytenemndpignaoaa
namespace Go.Proofs.Ytenemndpignaoaa
open Go Go.RowKit
structure EOk (m:Nat) (E:Option Code→World→Prop):Prop where
 M:∀ c w b o,m≤b→E c w→E c (w.putObj b o)
 E:∀ c w w',E c w→(∀ b,b<w.heap.size→(∀ cs t fr,w.heap[b]?≠some (.cells cs t fr))→w'.heap[b]?=w.heap[b]?)→E c w'
def Cx.sw (cx:Cx) (G:List (Array Value)) (m:Nat) (E:Option Code→World→Prop) (hm:cx.m≤m) (hE:EOk m E):Cx :=
 { w0:=cx.w0,own:=cx.own,Z:=cx.Z,G:=G,E:=E,nb:=cx.nb,σ0:=cx.σ0,zlt:=cx.zlt,m:=m,hm:=Nat.le_trans cx.hm hm,hM:=hE.M,hE:=hE.E }
theorem RelH.sw {cx:Cx} {w:World} {σ:Nat→Hd} {ob:List (Option Ob)} {ls ls':Option Code} {G:List (Array Value)} {m:Nat} {E:Option Code→World→Prop} {hm:cx.m≤m}
  {hE:EOk m E} (h:RelH cx w σ ob ls) (hs:m≤w.heap.size) (he:E ls' w):RelH (cx.sw G m E hm hE) w σ ob ls' :=
 ⟨h.obs,h.inj,h.dom,h.nbl,h.box,h.loc,hs,h.frame,h.os,h.tape,h.output,he⟩
theorem RelH.back {cx:Cx} {w:World} {σ:Nat→Hd} {ob:List (Option Ob)} {ls ls':Option Code} {G:List (Array Value)} {m:Nat} {E:Option Code→World→Prop} {hm:cx.m≤m}
  {hE:EOk m E} (h:RelH (cx.sw G m E hm hE) w σ ob ls) (he:cx.E ls' w):RelH cx w σ ob ls' :=
 ⟨h.obs,h.inj,h.dom,h.nbl,h.box,h.loc,Nat.le_trans hm h.msize,h.frame,h.os,h.tape,h.output,he⟩
theorem GV {w w':World} (h:∀ b,b<w.heap.size→(∀ cs t fr,w.heap[b]?≠some (.cells cs t fr))→w'.heap[b]?=w.heap[b]?) {b:Nat} {o:Obj} (hb:w.heap[b]?=some o) (ho:∀ c t fr,o≠.cells c t fr):w'.heap[b]?=some o:=by
 rw[h b (Array.getElem?_eq_some_iff.1 hb).1 fun c t fr e=>by rw[hb] at e;simp at e;exact ho c t fr e,hb]
def MarksB (lo m:Nat) (ds:List Deferred) (w:World):Prop :=
 ∃ Ds:List Nat,ds=Ds.map (fun D=>{ target:=.collected D,args:=#[] })∧Ds.Nodup∧∀ D∈Ds,w.heap[D]?=some (.deferred (some []))∧lo≤D∧D<m
theorem MarksB.same {lo m:Nat} {w w':World} (h:∀ b,b<w.heap.size→(∀ cs t fr,w.heap[b]?≠some (.cells cs t fr))→w'.heap[b]?=w.heap[b]?) {ds:List Deferred} (hm:MarksB lo m ds w):MarksB lo m ds w':=by
 obtain⟨Ds,h1,h2,h3⟩:=hm;exact⟨Ds,h1,h2,fun D hD=>⟨GV h (h3 D hD).1 (fun c t fr e=>by simp at e),(h3 D hD).2⟩⟩
theorem MarksB.put {lo m b:Nat} {w:World} {o:Obj} (hb:m≤b) {ds:List Deferred} (hm:MarksB lo m ds w):MarksB lo m ds (w.putObj b o):=by
 obtain⟨Ds,h1,h2,h3⟩:=hm;exact⟨Ds,h1,h2,fun D hD=>⟨by rw[World.putObj_heap_other (by have:=(h3 D hD).2.2;omega)];exact (h3 D hD).1,(h3 D hD).2⟩⟩
theorem MarksB.putL {lo m b:Nat} {w:World} {o o':Obj} (hb:w.heap[b]?=some o') (ho:∀ d,o'≠.deferred d) {ds:List Deferred} (hm:MarksB lo m ds w):MarksB lo m ds (w.putObj b o):=by
 obtain⟨Ds,h1,h2,h3⟩:=hm;exact⟨Ds,h1,h2,fun D hD=>⟨by rw[World.putObj_heap_other (fun e=>by have:=(h3 D hD).1;rw[e,hb] at this;simp at this;exact ho _ this)];exact (h3 D hD).1,(h3 D hD).2⟩⟩
theorem Marks.toB {cx:Cx} {ds:List Deferred} {w:World} (h:Marks cx ds w):MarksB cx.m w.heap.size ds w:=by
 obtain⟨Ds,h1,h2,h3⟩:=h;exact⟨Ds,h1,h2,fun D hD=>⟨(h3 D hD).1,(h3 D hD).2,(Array.getElem?_eq_some_iff.1 (h3 D hD).1).1⟩⟩
theorem MarksB.of {cx:Cx} {m:Nat} {ds:List Deferred} {w:World} (h:MarksB cx.m m ds w):Marks cx ds w:=by
 obtain⟨Ds,h1,h2,h3⟩:=h;exact⟨Ds,h1,h2,fun D hD=>⟨(h3 D hD).1,(h3 D hD).2.1⟩⟩
theorem MarksB.mono {lo m m':Nat} {ds:List Deferred} {w:World} (h:MarksB lo m ds w) (hm:m≤m'):MarksB lo m' ds w:=by
 obtain⟨Ds,h1,h2,h3⟩:=h;exact⟨Ds,h1,h2,fun D hD=>⟨(h3 D hD).1,(h3 D hD).2.1,by have:=(h3 D hD).2.2;omega⟩⟩
def recI (fn:Nat) (S:Array Value) (ps:Array Tmp) (assign body:Code) (D:Nat) (c:Option Code):Loop :=
 { state:=if c.isNone then .ready else .done,pending:=c,fn:=fn,tmps:=S,params:=ps,assign:=assign,body:=body,defers:=D }
def recR (fn:Nat) (S:Array Value) (ps:Array Tmp) (assign body:Code) (D:Nat) (c:Option Code):Loop :=
 { state:=if c.isNone then .ready else .busy,pending:=none,fn:=fn,tmps:=S,params:=ps,assign:=assign,body:=body,defers:=D }
def EI (cx:Cx) (ls0:Option Code) (l m:Nat) (r:Option Code→Loop) (ds:List Deferred) (c:Option Code) (w:World):Prop :=
 cx.E ls0 w∧w.heap[l]?=some (.loop (r c))∧MarksB cx.m m ds w
theorem EI.ok {cx:Cx} {ls0:Option Code} {l m:Nat} {r:Option Code→Loop} {ds:List Deferred} (hl:l<m) (hm:cx.m≤m):EOk m (EI cx ls0 l m r ds) where
 M:=fun c w b o hb ⟨h1,h2,h3⟩=>⟨cx.hM _ _ _ _ (Nat.le_trans hm hb) h1,by rw[World.putObj_heap_other (by omega)];exact h2,h3.put hb⟩
 E:=fun c w w' ⟨h1,h2,h3⟩ h=>⟨cx.hE _ w w' h1 h,GV h h2 (fun c t fr e=>by simp at e),h3.same h⟩
def ER (cx:Cx) (ls0:Option Code) (l m m2:Nat) (r:Option Code→Loop) (ds ds2:List Deferred) (c:Option Code) (w:World):Prop:=EI cx ls0 l m r ds c w∧MarksB m m2 ds2 w
theorem ER.ok {cx:Cx} {ls0:Option Code} {l m m2:Nat} {r:Option Code→Loop} {ds ds2:List Deferred} (hl:l<m) (hm:cx.m≤m) (hm2:m≤m2):EOk m2 (ER cx ls0 l m m2 r ds ds2) where
 M:=fun c w b o hb ⟨h1,h2⟩=>⟨(EI.ok hl hm).M c w b o (Nat.le_trans hm2 hb) h1,h2.put hb⟩
 E:=fun c w w' ⟨h1,h2⟩ h=>⟨(EI.ok hl hm).E c w w' h1 h,h2.same h⟩
def puts:List (Nat×AV)→St→St
 |[],st=>st
 |(t,x)::r,st=>puts r (st.put (some t) x)
theorem RelS.puts {cx:Cx} {σ:Nat→Hd} {w:World}:∀ (ps:List Tmp) (vs:List Value) (xs:List AV) (st:St) (a:Act),RelS cx σ st a w→All2 (RelV w (Xd cx w σ st.ob) (Xe w σ st.ob) σ) vs xs →
  RelS cx σ (Go.Proofs.Ytenemndpignaoaa.puts (ps.zip xs) st) { a with tmps:=(ps.zip vs).foldl (fun tmps (x:Tmp×Value)=>tmps.setIfInBounds x.1 x.2) a.tmps } w
 |[],_,_,st,a,h,_=>by simpa [Go.Proofs.Ytenemndpignaoaa.puts] using h
 |p::ps,[],[],st,a,h,_=>by simpa [Go.Proofs.Ytenemndpignaoaa.puts] using h
 |p::ps,v::vs,x::xs,st,a,h,hv=>RelS.puts ps vs xs (st.put (some p) x) (a.put (some p) v) (h.put (some p) hv.1) hv.2
 |p::ps,[],_::_,st,a,h,hv=>hv.elim
 |p::ps,_::_,[],st,a,h,hv=>hv.elim
section
variable {P:Program} {cx:Cx} {σ:Nat→Hd} {st:St} {a:Act} {w:World}
theorem RelS.alloc (h:RelS cx σ st a w) (o:Obj):RelS cx σ st a (w.alloc o):=by
 have hs:Step σ st.ob w σ st.ob (w.alloc o) some:=⟨Evo.alloc _ _ _ _,fun o o' x e hx=>by cases e;exact hx,fun b hb=>.inl hb⟩;refine h.step_some hs (hs.relH h.h (fun i x hi=>?_) h.h.inj h.h.dom h.h.nbl h.h.box);have:=hs.relO (cx:=cx) (fun b k e=>Below.heap_alloc w o b (h.h.lt ⟨i,x,k,hi,e⟩)) (h.h.obs i x hi);rwa [Ob.ren_some] at this
structure YCx (cxI:Cx) (l nt:Nat) (ps:Array Tmp) (assign body:Code):Prop where
 ex:∃ (cx:Cx) (ls0:Option Code) (fn D m:Nat) (S:Array Value) (ds:List Deferred) (hl:l<m) (hm:cx.m≤m),cxI=cx.sw (S::cx.G) m (EI cx ls0 l m (recI fn S ps assign body D) ds) hm (EI.ok hl hm)∧S.size=nt∧cx.m≤l
def backQ (P:Program) (R:Option Nat) (cx:Cx) (nt:Nat) (ls0:Option Code) (Q:Post) (s:St):Prop :=
 ∃ tm gh,s.gh=tm::gh∧match s.ls with
  |none=>Q .normal ⟨tm,s.ob,nt,gh,ls0⟩
  |some c=>AW P R cx c Q ⟨tm,s.ob,nt,gh,ls0⟩
def iterPost (P:Program) (cx:Cx) (nt:Nat) (ls0:Option Code) (Q:Post):Post
 |.normal,s=>backQ P none cx nt ls0 Q s
 |.ret,s=>backQ P none cx nt ls0 Q s
 |_,_=>False
theorem AW.rangeFunc {Q:Post} {g:Operand} {ps:Array Tmp} {assign body:Code} {f:Nat} {fn:Func} {c:Code} {caps:List Nat} (hg:st.ev g=.l (.f f caps)) (hf:P.funcs[f]?=some fn) (hname:(fn.name == "runtime.NumGoroutine")=false) (hb:fn.body=some c) (hnt:1+caps.length≤fn.ntmps) (hres:fn.results.toList=[])
  (h:∀ cxI l,cxI.nb=cx.nb→YCx cxI l st.nt ps assign body →
   AW P none cxI c (iterPost P cx st.nt st.ls Q) ⟨initTm 0 (.l (.s (.func (.yield l) #[] #[]))::caps.map fun o=>.l (.p o 0)),st.ob,fn.ntmps,st.tm::st.gh,none⟩) :
  AW P none cx (.rangeFunc g ps assign body) Q st:=by
 intro σ a w hr;refine wpIn_rangeFunc fun fn0 _=>?_;have hgv:=hr.ev g;rw[hg] at hgv;obtain⟨cvs,hgv',hcv⟩:=hgv;obtain⟨w1,hw1⟩:∃ w1,w1=(w.alloc (.deferred (some []))).alloc (.loop (recI fn0 a.tmps ps assign body w.heap.size none)):=⟨_,rfl⟩;have hrun:(Instr.enterLoop fn0 a.tmps ps assign body (fR none).round).run P w=.ok (w.heap.size+1,[{ target:=.collected w.heap.size,args:=#[] }]) w1:=by
  rw[hw1];exact run_enterLoop_outer fn0 a.tmps ps assign body
 have hw1s:w1.heap.size=w.heap.size+2:=by rw[hw1];simp
 have hl:w1.heap[w.heap.size+1]?=some (.loop (recI fn0 a.tmps ps assign body w.heap.size none)):=by
  rw[hw1];have:=World.alloc_heap_new (w.alloc (.deferred (some []))) (.loop (recI fn0 a.tmps ps assign body w.heap.size none));simpa using this
 have hD:w1.heap[w.heap.size]?=some (.deferred (some [])):=by
  rw[hw1,Below.heap_alloc _ _ _ (by simp)];exact World.alloc_heap_new _ _
 have hr1:RelS cx σ st a w1:=by rw[hw1];exact (hr.alloc _).alloc _
 refine⟨w.heap.size+1,[{ target:=.collected w.heap.size,args:=#[] }],w1,{ target:=.fn (.func f) cvs.toArray,args:=#[Value.func (.yield (w.heap.size+1)) #[] #[]] },w1,f,#[Value.func (.yield (w.heap.size+1)) #[] #[]]++cvs.toArray,w1,hrun,?_,?_,?_,fun h=>by rw[FQ] at h;simp at h,?_⟩
 ·simp only[resolve,rangeCall,hgv',Deferred.ofValue];simp[Sem.run_pure];rfl
 ·exact fun f' _=>Er none f'
 ·have:=enters hf hname hb (#[Value.func (.yield (w.heap.size+1)) #[] #[]]++cvs.toArray) w1;simpa [invoke] using this
 ·-- the context of the function that is ranged over
  have hlm:w.heap.size+1<w.heap.size+2:=by omega
  have hmx:cx.m≤w.heap.size+2:=by have:=hr.h.msize;omega
  obtain⟨cxI,hcxI⟩:∃ cxI,cxI=cx.sw (a.tmps::cx.G) (w.heap.size+2) (EI cx st.ls (w.heap.size+1) (w.heap.size+2) (recI fn0 a.tmps ps assign body w.heap.size) ([{ target:=.collected w.heap.size,args:=#[] }]++a.defers)) hmx (EI.ok hlm hmx):=⟨_,rfl⟩;have hY:YCx cxI (w.heap.size+1) st.nt ps assign body:=⟨cx,st.ls,fn0,w.heap.size,_,a.tmps,_,hlm,hmx,hcxI,hr.nt,by have:=hr.h.msize;omega⟩;have hm1:MarksB cx.m (w.heap.size+2) ([{ target:=.collected w.heap.size,args:=#[] }]++a.defers) w1:=by
   obtain⟨Ds,h1,h2,h3⟩:=hr.dm;refine⟨w.heap.size::Ds,by rw[h1];rfl,List.nodup_cons.2 ⟨fun hx=>?_,h2⟩,fun D hx=>?_⟩
   ·have:=(Array.getElem?_eq_some_iff.1 (h3 _ hx).1).1;omega
   ·rcases List.mem_cons.1 hx with rfl|hx
    ·exact⟨hD,hr.h.msize,by omega⟩
    ·have h4:=(Array.getElem?_eq_some_iff.1 (h3 _ hx).1).1;refine⟨?_,(h3 _ hx).2,by omega⟩;rw[hw1,Below.heap_alloc _ _ _ (by simp;omega),Below.heap_alloc _ _ _ h4];exact (h3 _ hx).1
  have hAW:=h cxI (w.heap.size+1) (by rw[hcxI];rfl) hY;have hlen:=hcv.length;have hrI:RelS cxI σ ⟨initTm 0 (.l (.s (.func (.yield (w.heap.size+1)) #[] #[]))::caps.map fun o=>.l (.p o 0)),st.ob,fn.ntmps,st.tm::st.gh,none⟩
    { tmps:=(#[Value.func (.yield (w.heap.size+1)) #[] #[]]++cvs.toArray)++Array.replicate (fn.ntmps - (#[Value.func (.yield (w.heap.size+1)) #[] #[]]++cvs.toArray).size) undef,defers:=[] } w1:=by
   subst hcxI;refine⟨hr1.h.sw (by omega) ⟨hr1.h.ext,hl,hm1⟩,fun i=>?_,by simp;omega,⟨hr1.tm,hr1.gh⟩,[],rfl,List.nodup_nil,fun D hD=>by simp at hD⟩;have e:=Gs (.l (.s (.func (.yield (w.heap.size+1)) #[] #[]))::caps.map fun o=>.l (.p o 0)) 0 i;rw[Nat.zero_add] at e;show RelV _ _ _ _ _ (lk (initTm 0 _) i);rw[e];have hall:All2 (RelV w1 (Xd cx w1 σ st.ob) (Xe w1 σ st.ob) σ) (Value.func (.yield (w.heap.size+1)) #[] #[]::cvs) (.l (.s (.func (.yield (w.heap.size+1)) #[] #[]))::caps.map fun o=>.l (.p o 0)) :=
    ⟨⟨rfl,rfl⟩,All2.map _ (fun v o _ ⟨b,k,hb,hv⟩=>⟨b,k,hb,hv⟩) hcv⟩
   cases ha:(AV.l (.s (.func (.yield (w.heap.size+1)) #[] #[]))::caps.map fun o=>AV.l (.p o 0))[i]? with
   |none=>trivial
   |some x =>
    obtain⟨v,hv,hrel⟩:=hall.at i ha;have hlt:=(List.getElem?_eq_some_iff.1 hv).1;have:((#[Value.func (.yield (w.heap.size+1)) #[] #[]]++cvs.toArray)++Array.replicate (fn.ntmps - (#[Value.func (.yield (w.heap.size+1)) #[] #[]]++cvs.toArray).size) undef).getD i undef=v:=by
     rw[Array.getD_eq_getD_getElem?,Array.getElem?_append_left (by simp at hlt ⊢;omega)];have e2:(#[Value.func (.yield (w.heap.size+1)) #[] #[]]++cvs.toArray)=(Value.func (.yield (w.heap.size+1)) #[] #[]::cvs).toArray:=by simp
     rw[e2];simp[hv]
    rw[this];exact hrel
  refine callsIn_of_wp_marks hf hb trivial (wpIn_mono (hAW σ _ w1 hrI) ?_) rfl;rintro e a' w' ⟨σ',s,hs,hq⟩;have fin:backQ P none cx st.nt st.ls Q s→LeavesInM (fR none) 0 P fn a'.tmps (rangePost (fR none) 0 P (w.heap.size+1) (post cx Q) { a with defers:=[{ target:=.collected w.heap.size,args:=#[] }]++a.defers }) a'.defers .returning w':=by
   rintro⟨tm,gh,hgh,hq⟩;obtain⟨Ds,hd,hn,hDs⟩:=hs.dm;refine EC (av:=.t []) (by rw[hres];rfl) (fun σ3 a3 v w3 hr3 _=>?_) Ds a' w' σ' hs hd hn hDs;subst hcxI;obtain⟨e1,e2,e3⟩:=hr3.h.ext;have hst:(recI fn0 a.tmps ps assign body w.heap.size s.ls).state≠.busy:=by
    simp only[recI];split <;> simp
   refine⟨_,_,run_endLoop e2 hst,?_⟩;have hg3:=hr3.gh;rw[hgh] at hg3
   -- the outer frame again
   have hput:RelS cx σ3 ⟨tm,s.ob,st.nt,gh,st.ls⟩ { a with defers:=[{ target:=.collected w.heap.size,args:=#[] }]++a.defers } (w3.putObj (w.heap.size+1) (.loop { recI fn0 a.tmps ps assign body w.heap.size s.ls with state:=.exhausted })):=by
    have h0:RelS cx σ3 ⟨tm,s.ob,st.nt,gh,st.ls⟩ { a with defers:=[{ target:=.collected w.heap.size,args:=#[] }]++a.defers } w3 :=
     ⟨hr3.h.back e1,hg3.1,hr.nt,hg3.2,MarksB.of e3⟩
    refine h0.putObj e2 (fun c t fr e=>by simp at e) (by have:=hr.h.size;omega) (cx.hM _ _ _ _ (by have:=hr.h.msize;omega) e1) (MarksB.of (e3.putL e2 fun d e=>by simp at e))
   have hp:(recI fn0 a.tmps ps assign body w.heap.size s.ls).pending=s.ls:=rfl;rw[hp];cases hls:s.ls with
   |none =>
    rw[hls] at hq hput;exact⟨σ3,_,hput,hq⟩
   |some c =>
    rw[hls] at hq hput;exact hq σ3 _ _ hput
  cases e with
  |normal=>exact fin hq
  |ret=>exact fin hq
  |exit id=>exact hq.elim
  |goto l=>exact hq.elim
  |panic ch=>exact hq.elim
  |outgrown=>exact hq.elim
end
end Go.Proofs.Ytenemndpignaoaa
namespace Go.Proofs.Ytenemndpignaoaa
open Go Go.RowKit
section
variable {P:Program} {cx:Cx} {σ:Nat→Hd} {st:St} {a:Act} {w:World}
theorem RelH.sw2 {ob:List (Option Ob)} {ls ls':Option Code} {G G':List (Array Value)} {m m':Nat} {E E':Option Code→World→Prop} {hm:cx.m≤m} {hm':cx.m≤m'} {hE:EOk m E} {hE':EOk m' E'}
  (h:RelH (cx.sw G m E hm hE) w σ ob ls) (hs:m'≤w.heap.size) (he:E' ls' w):RelH (cx.sw G' m' E' hm' hE') w σ ob ls' :=
 ⟨h.obs,h.inj,h.dom,h.nbl,h.box,h.loc,hs,h.frame,h.os,h.tape,h.output,he⟩
def jumpOf:Exit→Option (Option Code)
 |.normal=>some none
 |.ret=>some (some .ret)
 |.exit id=>some (some (.exit id))
 |.goto t=>some (some (.goto t))
 |_=>none
def roundQ (dst:Option Nat) (nt:Nat) (K:St→Prop):Post:=fun e s =>
 match jumpOf e with
 |some j=>∃ tmI gh,s.gh=tmI::gh∧K (St.put ⟨tmI,s.ob,nt,gh,j⟩ dst (.l (.s (.bool j.isNone))))
 |none=>False
def asgQ (N:St→Prop):Post
 |.normal,s=>s.ls=none∧N s
 |_,_=>False
theorem OpFam.yield {cxI:Cx} {l nt:Nat} {ps:Array Tmp} {assign body:Code} (hY:YCx cxI l nt ps assign body) {o:Oper} {c:Call} {g:Operand} {s:St} {K:St→Prop} (ho:o.op=.call c) (hc:c.callee=.value g) (hg:s.ev g=.l (.s (.func (.yield l) #[] #[])))
  (hls:s.ls=none) {tmO:Tm} {gh:List Tm} (hgh:s.gh=tmO::gh) (hlen:c.args.size=ps.size)
  (h:∀ cxR,cxR.nb=cxI.nb→AW P (some l) cxR assign (asgQ fun s1=>AW P (some l) cxR body (roundQ o.dst s.nt K) { s1 with ls:=some .skip }) (puts (ps.toList.zip (c.args.toList.map s.ev)) ⟨tmO,s.ob,nt,s.tm::tmO::gh,none⟩)) :
  OpFam P none cxI o s K:=by
 intro σ a w hr next Q hn;obtain⟨cx,ls0,fn,D,m,S,ds,hl,hm,rfl,hSn,hlo⟩:=hY.ex;obtain⟨e1,e2,e3⟩:=hr.h.ext;rw[hls] at e2;have hmw:m≤w.heap.size:=hr.h.msize;have hm2:cx.m≤w.heap.size:=Nat.le_trans hm hmw;have hgv:a.eval g=.func (.yield l) #[] #[]:=by have:=hr.ev g;rw[hg] at this;exact this.1
 have hG:=hr.gh;rw[hgh] at hG;have hm2':MarksB m w.heap.size a.defers w:=Marks.toB hr.dm
 -- the round's context
 obtain⟨cxR,hcxR⟩:∃ cxR,cxR=cx.sw (a.tmps::S::cx.G) w.heap.size (ER cx ls0 l m w.heap.size (recR fn S ps assign body D) ds a.defers) hm2 (ER.ok hl hm hmw):=⟨_,rfl⟩;have hAW:=h cxR (by rw[hcxR];rfl);have hrun:(execOp a.eval o).run P w=.ok (.round l fn ((ps.zip (c.args.map a.eval)).foldl (fun tmps (t,a)=>tmps.setIfInBounds t a) S) assign body) w:=by
  have hy:=run_yield (P:=P) (args:=c.args.map a.eval) e2 (by simp[recI,hlen]);simp only[recI] at hy;simp only[execOp,ho,resolve,hc,hgv,Deferred.ofValue,Sem.run_bind,Sem.run_pure,Result.andThen_ok,invoke];simpa using hy
 rw[Oper.semAt_eq _ _ _ (fun c' e=>by rw[ho] at e;simp at e),hrun];refine⟨fun h=>by rw[FQ] at h;simp at h,?_⟩;refine roundIn_of_wpIn (Er none fn) ?_;have hvals:All2 (RelV w (Xd cxR w σ s.ob) (Xe w σ s.ob) σ) (c.args.toList.map a.eval) (c.args.toList.map s.ev):=by
  rw[hcxR];generalize c.args.toList=l;induction l with
  |nil=>trivial
  |cons x l ih=>exact⟨hr.ev x,ih⟩
 have hr0:RelS cxR σ ⟨tmO,s.ob,nt,s.tm::tmO::gh,none⟩ { tmps:=S,defers:=[] } w:=by
  subst hcxR;exact⟨hr.h.sw2 (Nat.le_refl _) ⟨⟨e1,e2,e3⟩,hm2'⟩,hG.1,hSn,⟨hr.tm,hG⟩,[],rfl,List.nodup_nil,fun D hD=>by simp at hD⟩
 have hr1:=RelS.puts ps.toList _ _ _ _ hr0 hvals;have hfold:(ps.zip (c.args.map a.eval)).foldl (fun tmps (x:Tmp×Value)=>tmps.setIfInBounds x.1 x.2) S=(ps.toList.zip (c.args.toList.map a.eval)).foldl (fun tmps (x:Tmp×Value)=>tmps.setIfInBounds x.1 x.2) S:=by
  rw[← Array.foldl_toList,Array.toList_zip];simp
 have hw0:=hAW σ _ w hr1;rw[← hfold] at hw0;refine wpIn_mono hw0 ?_;rintro e a1 w1 ⟨σ1,s1,hs1,hq1⟩;cases e with
 |normal =>
  obtain⟨hls1,hq1⟩:=hq1;have hx:=hs1.h.ext;rw[hcxR] at hx;obtain⟨⟨f1,f2,f3⟩,f4⟩:=hx;rw[hls1] at f2;refine⟨_,run_beginRound f2 rfl,?_⟩;have hlw:l<w1.heap.size:=(Array.getElem?_eq_some_iff.1 f2).1;have hs2:RelS cxR σ1 { s1 with ls:=some .skip } a1 (w1.putObj l (.loop { recR fn S ps assign body D none with state:=.busy })):=by
   have hE:cxR.E (some .skip) (w1.putObj l (.loop { recR fn S ps assign body D none with state:=.busy })):=by
    rw[hcxR];exact⟨⟨cx.hM _ _ _ _ hlo f1,World.putObj_heap_same hlw,f3.putL f2 fun d e=>by simp at e⟩,f4.putL f2 fun d e=>by simp at e⟩
   have hge:cxR.w0.heap.size≤l:=by rw[hcxR];exact Nat.le_trans cx.hm hlo
   have hdm:Marks cxR a1.defers (w1.putObj l (.loop { recR fn S ps assign body D none with state:=.busy })):=MarksB.of ((Marks.toB hs1.dm).putL f2 fun d e=>by simp at e);exact hs1.putObj f2 (fun c t fr e=>by simp at e) hge hE hdm
  refine wpIn_mono (hq1 σ1 a1 _ hs2) ?_;rintro e a2 w2 ⟨σ2,s2,hs3,hq2⟩;have hx:=hs3.h.ext;rw[hcxR] at hx;obtain⟨⟨g1,g2,g3⟩,g4⟩:=hx;have hlw2:l<w2.heap.size:=(Array.getElem?_eq_some_iff.1 g2).1
  -- back in the frame of the function that is ranged over
  have fin:∀ j:Option Code,jumpOf e=some j→∃ v w',(Instr.endRound l j).run P w2=.ok v w'∧(fun (e:Ending) (w'':World)=>match e with
    |.returned v=>next (a.put o.dst v) w''
    |.panicked chain=>Q (.panic chain) a w''
    |.outgrown=>LetsOut Q) (.returned v) w':=by
   intro j hj;simp only[roundQ,hj] at hq2;obtain⟨tmI,gh',hgh',hk⟩:=hq2;refine⟨_,_,run_endRound j g2,?_⟩;have hloop:({ recR fn S ps assign body D s2.ls with state:=if j.isNone then .ready else .done,pending:=j }:Loop)=recI fn S ps assign body D j:=rfl;rw[hloop];refine hn σ2 _ _ _ hk ?_;have hT:RelH (cx.sw [] cx.m (fun _ _=>True) (Nat.le_refl _) ⟨fun _ _ _ _ _ _=>trivial,fun _ _ _ _ _=>trivial⟩) w2 σ2 s2.ob none:=by
    have:=hs3.h;rw[hcxR] at this;exact this.sw2 (Nat.le_trans hm2 (by have:=hs3.h.msize;rw[hcxR] at this;exact this)) trivial
   obtain⟨k1,k2,k3⟩:=hT.putObj (ls':=none) (o':=.loop (recI fn S ps assign body D j)) g2 (fun c t fr e=>by simp at e) (Nat.le_trans cx.hm hlo) trivial;have hG3:=hs3.gh;rw[hgh',hcxR] at hG3;have hbase:RelS (cx.sw (S::cx.G) m (EI cx ls0 l m (recI fn S ps assign body D) ds) hm (EI.ok hl hm)) σ2 ⟨tmI,s2.ob,s.nt,gh',j⟩ a (w2.putObj l (.loop (recI fn S ps assign body D j))):=by
    refine⟨k1.sw2 ?_ ⟨cx.hM _ _ _ _ hlo g1,World.putObj_heap_same hlw2,g3.putL g2 fun d e=>by simp at e⟩,RelT.putX k2 k3 hG3.1,hr.nt,?_,?_⟩
    ·have:=hs3.h.msize;rw[hcxR] at this;have h5:w.heap.size≤w2.heap.size:=this;simp[World.putObj];omega
    ·exact hG3.2.mono fun S tm _ hS=>RelT.putX k2 k3 hS
    ·exact MarksB.of (cx:=cx.sw (S::cx.G) m (EI cx ls0 l m (recI fn S ps assign body D) ds) hm (EI.ok hl hm)) (g4.putL g2 fun d e=>by simp at e)
   exact hbase.put o.dst ⟨rfl,rfl⟩
  cases e with
  |normal=>exact fin none rfl
  |ret=>exact fin (some .ret) rfl
  |exit id=>exact fin (some (.exit id)) rfl
  |goto t=>exact fin (some (.goto t)) rfl
  |panic ch=>exact hq2.elim
  |outgrown=>exact hq2.elim
 |ret=>exact hq1.elim
 |exit id=>exact hq1.elim
 |goto t=>exact hq1.elim
 |panic ch=>exact hq1.elim
 |outgrown=>exact hq1.elim
end
end Go.Proofs.Ytenemndpignaoaa
namespace Go.Proofs.Ytenemndpignaoaa
open Go Go.RowKit
theorem Fo {n:Int} (h:-9223372036854775808≤n) (h':n≤9223372036854775807):IntKind.i64.wrap n=n:=by rw[HA];omega
theorem DJ {a:Nat} (h:a+1≤9223372036854775807):IntKind.i64.wrap ((a:Int)+1)=((a+1:Nat):Int):=by rw[Fo (by omega) (by omega)];omega
section
variable {P:Program} {R:Option Nat} {cx:Cx} {c:Code} {Q:Post} {st:St}
theorem AW.len_d (t:Nat) {al:Bool} {sz:Nat} {es:List (List T)} (h:lk st.tm t=.l (.d al sz es)) (k:es.length≤140737488355328→AW P R cx c Q st):AW P R cx c Q st:=by
 intro σ a w hr;exact k (I9 hr (x:=.tmp t) h) σ a w hr
theorem AW.loopP {α:Type} (S:α→St) (I:α→Prop) (μ:α→Nat) (x0:α) (h0:Weak cx st (S x0)) (hI:I x0)
  (round:∀ x,I x→AW P R cx c (Post.seq (fun s'=>∃ y,Weak cx s' (S y)∧I y∧μ y<μ x) Q) (S x)):AW P R cx (.loop c) Q st :=
 AW.loop (fun s n=>∃ x,s=S x∧I x∧n=μ x) ⟨_,h0,x0,rfl,hI,rfl⟩ fun s n ⟨x,hs,hx,hn⟩=>by
  subst hs;subst hn;refine AW.mono (round x hx) fun e s h=>?_;cases e with
  |normal =>
   obtain⟨y,h1,h2,h3⟩:=h;exact⟨_,_,h1,⟨y,rfl,h2,rfl⟩,h3⟩
  |_=>exact h
theorem Weak.nilRow (i ty sz:Nat) (h:lk st.tm i=.l (.s (.slice none 0 0))):Weak cx st { st.add ⟨ty,sz,true,none,[]⟩ with tm:=(i,.l (.r st.ob.length sz 0 0))::st.tm }:=by
 intro σ a w hr;have hv:=hr.tm i;rw[h] at hv;have hn:=hr.newNil ⟨ty,sz,true,none,[]⟩ ⟨rfl,rfl,.inl rfl⟩;refine⟨upd σ st.ob.length (some none),hn.h,fun j=>?_,hn.nt,hn.gh,hn.dm⟩;show RelV _ _ _ _ _ (lk ((i,.l (.r st.ob.length sz 0 0))::st.tm) j);rw[A5];split
 ·rename_i e
  subst e;exact .inl ⟨AQ _ _ _,rfl,rfl,hv.1⟩
 ·exact hn.tm j
abbrev cmpB (a b:ByteArray):Int:=Lib.compareBytes a.data.toList b.data.toList
end
end Go.Proofs.Ytenemndpignaoaa
namespace Go.Proofs.Ytenemndpignaoaa
open Go Go.RowKit
def inl (j:Nat):List Nat→Bool
 |[]=>false
 |m::ms=>bif decide (j=m) then true else inl j ms
def filt (ms:List Nat):Tm→Tm
 |[]=>[]
 |e::r=>bif inl e.1 ms then filt ms r else e::filt ms r
theorem Gu (ms:List Nat) (i:Nat):∀ tm:Tm,lk (filt ms tm) i=if inl i ms=true then .l .u else lk tm i
 |[]=>by simp[filt,lk]
 |(j,v)::r=>by
  have ih:=Gu ms i r;simp only[filt];cases hj:inl j ms
  ·simp only[cond_false];rw[A5,A5,ih];by_cases e:i=j
   ·subst e;rw[if_pos rfl,if_pos rfl,hj];rfl
   ·rw[if_neg e,if_neg e]
  ·simp only[cond_true];rw[ih,A5];by_cases e:i=j
   ·subst e;rw[if_pos hj,if_pos hj]
   ·rw[if_neg e]
section
variable {P:Program} {R:Option Nat} {cx:Cx} {Q:Post} {c:Code} {tm tm':Tm} {ob ob':List (Option Ob)} {nt:Nat} {gh gh':List Tm} {ls:Option Code}
theorem Weak.filt (ms:List Nat) (h:Go.Proofs.Ytenemndpignaoaa.filt ms tm=tm'):Weak cx ⟨tm,ob,nt,gh,ls⟩ ⟨tm',ob,nt,gh,ls⟩:=by
 subst h;refine Weak.tm (st:=⟨tm,ob,nt,gh,ls⟩) _ fun i=>?_;rw[Gu];split
 ·exact .inr rfl
 ·exact .inl rfl
theorem AW.forget (ms:List Nat) (h:Go.Proofs.Ytenemndpignaoaa.filt ms tm=tm') (k:AW P R cx c Q ⟨tm',ob,nt,gh,ls⟩):AW P R cx c Q ⟨tm,ob,nt,gh,ls⟩ :=
 AW.weak (Weak.filt ms h) k
def idr (n:Nat):List (Option Nat):=(List.range n).map some
theorem zN (n:Nat) (hn:cx.nb≤n) (htm:∀ e∈tm',(lk tm e.1).ren (inv (idr n))=e.2) (hob:pickOb (idr n) ob=ob') (hgh:gh.map (Tm.ren (inv (idr n)))=gh') :
  Weak cx ⟨tm,ob,nt,gh,ls⟩ ⟨tm',ob',nt,gh',ls⟩:=by
 subst hob;subst hgh;have key:∀ l:Tm,(∀ e∈l,(lk tm e.1).ren (inv (idr n))=e.2)→∀ i,lk l i=(lk tm i).ren (inv (idr n))∨lk l i=.l .u:=by
  intro l;induction l with
  |nil=>intro _ i;exact .inr rfl
  |cons e l ih =>
   intro hl i;rw[A5 e.1 e.2];split
   ·rename_i hi
    subst hi;exact .inl (hl e (by simp)).symm
   ·exact ih (fun e' he'=>hl e' (by simp[he'])) i
 have hget:∀ {i o:Nat},(idr n)[i]?=some (some o)→i=o:=by
  intro i o h;rw[idr,List.getElem?_map] at h;obtain⟨a,ha,e⟩:=Option.map_eq_some_iff.1 h;have:=(List.getElem?_eq_some_iff.1 ha).2;simp at *;omega
 exact Weak.ren (st:=⟨tm,ob,nt,gh,ls⟩) (idr n) tm' (fun i j o hi hj=>by rw[hget hi,hget hj]) (by simp[idr];exact hn) (fun i o _ h=>(hget h).symm) (key tm' htm)
theorem AW.loopF {α:Type} (ms:List Nat) (up:α→Tm) (O:α→List (Option Ob)) (I:α→Prop) (μ:α→Nat) (x0:α) {base:Tm} (hb:Go.Proofs.Ytenemndpignaoaa.filt ms tm=base)
  (h0:∀ e∈up x0,lk tm e.1=e.2) (hO:ob=O x0) (hI:I x0)
  (round:∀ x,I x→AW P R cx c (Post.seq (fun s'=>∃ y,Weak cx s' ⟨up y++base,O y,nt,gh,ls⟩∧I y∧μ y<μ x) Q) ⟨up x++base,O x,nt,gh,ls⟩):AW P R cx (.loop c) Q ⟨tm,ob,nt,gh,ls⟩:=by
 refine AW.loopP (fun x=>⟨up x++base,O x,nt,gh,ls⟩) I μ x0 ?_ hI round;subst hb;subst hO;have key:∀ l:Tm,(∀ e∈l,lk tm e.1=e.2)→∀ i,lk (l++Go.Proofs.Ytenemndpignaoaa.filt ms tm) i=lk tm i∨lk (l++Go.Proofs.Ytenemndpignaoaa.filt ms tm) i=.l .u:=by
  intro l;induction l with
  |nil =>
   intro _ i;rw[List.nil_append,Gu];split
   ·exact .inr rfl
   ·exact .inl rfl
  |cons e l ih =>
   intro hl i;rw[List.cons_append,A5 e.1 e.2];split
   ·rename_i hi
    subst hi;exact .inl (hl e (by simp)).symm
   ·exact ih (fun e' he'=>hl e' (by simp[he'])) i
 exact Weak.tm (st:=⟨tm,O x0,nt,gh,ls⟩) _ (key _ h0)
end
theorem Sound.weak {P:Program} {f:Nat} {args:List AV} {obs:List Ob} {res res':AV} {obs' obs'':List (Option Ob)} {s':St} (h:Sound P f args obs res obs') (hw:∀ cx:Cx,cx.nb=obs.length→Weak cx ⟨[(0,res)],obs',1,[],none⟩ s')
  (h1:s'.ob=obs'') (h2:s'.ls=none) (h3:lk s'.tm 0=res'):Sound P f args obs res' obs'':=by
 intro Z w σ vs hZ hH hargs;refine (h Z w σ vs hZ hH hargs).mono ?_;rintro e w' ⟨v,σ',rfl,k1,k2⟩;obtain⟨σ2,k3⟩:=hw _ rfl σ' { tmps:=#[v],defers:=[] } w' ⟨k1,fun i=>by
  rw[A5];split
  ·rename_i hi;subst hi;exact k2
  ·trivial,rfl,trivial,[],rfl,List.nodup_nil,fun D hD=>by simp at hD⟩
 have k4:=k3.h;have k5:=k3.tm 0;rw[h1,h2] at k4;rw[h3,h1] at k5;exact⟨v,σ2,rfl,k4,k5⟩
theorem Sound.frz {P:Program} {f:Nat} {args:List AV} {ty sz n:Nat} {cap:Option Nat} {es:List (List T)} (h:Sound P f args [] (.l (.r 0 sz 0 n)) [some ⟨ty,sz,true,cap,lvs es⟩]) (hn:es.length=n) (h0:0<sz) (hes:∀ e∈es,e.length=sz)
  (hm:n≤140737488355328):Sound P f args [] (.l (.d false sz es)) []:=by
 subst hn;have hw:∀ cx:Cx,cx.nb=0→Weak cx ⟨[(0,.l (.r 0 sz 0 es.length))],[some ⟨ty,sz,true,cap,lvs es⟩],1,[],none⟩ ⟨[(0,.l (.d false sz es))],[],1,[],none⟩:=by
  intro cx hcx;refine Weak.trans (Weak.freeze (o:=0) (sz:=sz) (z:=⟨ty,sz,true,cap,lvs es⟩) (es:=es) rfl rfl rfl h0 rfl hes hm) ?_;refine zN 0 (by omega) (fun e he=>?_) rfl rfl;simp only[List.mem_singleton] at he;subst he;simp[Tm.frz,A5,AV.frz,LV.frz,AV.ren,LV.ren]
 exact h.weak (fun cx hcx=>hw cx hcx) rfl rfl (by simp[A5])
section
variable {st:St} {ids:List Nat}
theorem VwL.s (x:Value):VwL st ids (.s x) (.s x):=.ren (.s x)
theorem VwL.e (sz:Nat) (es:List (List T)):VwL st ids (.d false sz es) (.d false sz es):=.ren (.d false sz es)
end
attribute [simp] filt inl
end Go.Proofs.Ytenemndpignaoaa
namespace Go.Proofs.Ytenemndpignaoaa
open Go Go.RowKit
def KD (dst:Option Nat) (v:AV) (tm:Tm) (ob:List (Option Ob)) (nt:Nat) (gh:List Tm) (ls:Option Code) (s:St):Prop :=
 ∃ v',(∀ t,lk s.tm t=lk (putD dst v' tm) t)∧v'=v∧s.ob=ob∧s.nt=nt∧s.gh=gh∧s.ls=ls
theorem KD.mk {d:Nat} {v:AV} {tm:Tm} {ob:List (Option Ob)} {nt:Nat} {gh:List Tm} {ls:Option Code}:KD (some d) v tm ob nt gh ls ⟨(d,v)::tm,ob,nt,gh,ls⟩ :=
 ⟨v,fun _=>rfl,rfl,rfl,rfl,rfl,rfl⟩
def ObP (P:Program) (ops:Array Oper) (tm0:Tm) (V:List AV) (ob:List (Option Ob)) (nt:Nat) (gh:List Tm) (ls:Option Code):List Oper→List DI→List AV→Prop
 |o::os,d::ds,v::vs=>(∀ tm,AllL (fun r=>lk tm r.1=rdV V tm0 r) d.rd→xg P ops o ⟨tm,ob,nt,gh,ls⟩ (KD o.dst v tm ob nt gh ls))∧ObP P ops tm0 V ob nt gh ls os ds vs
 |_,_,[]=>True
 |_,_,_=>False
section
variable {P:Program} {cx:Cx} {ops:Array Oper} {D:List DI} {n1:Nat} {V:List AV} {Q:Post} {R:Option Nat} {tm tm':Tm} {ob:List (Option Ob)} {nt:Nat} {gh:List Tm} {ls:Option Code}
theorem ObP.obl (tm0:Tm):∀ (os:List Oper) (ds:List DI) (vs:List AV),(∀ d∈ds,d.ef=false∧∀ k∈d.ks,k=0)→ObP P ops tm0 V ob nt gh ls os ds vs→Obl P ops V [ob] ⟨tm0,ob,nt,gh,ls⟩ os ds vs
 |_,_,[],_,_=>by simp[Obl]
 |[],_,_::_,_,h=>by simp[ObP] at h
 |_::_,[],_::_,_,h=>by simp[ObP] at h
 |o::os,d::ds,v::vs,hd,h=>by
  refine⟨AllL.of fun k hk tm hr=>?_,ObP.obl tm0 os ds vs (fun d' hd'=>hd d' (by simp[hd'])) h.2⟩;obtain⟨h1,h2⟩:=hd d (by simp);have h3:=h2 k hk;subst h3;have h4:=h.1 tm hr;rw[h1];exact h4
theorem Fz (h:D.all (fun d=>!d.ef)=true) (p:Nat→Bool):efCount D p=0:=by
 simp only[efCount,List.length_eq_zero_iff,List.filter_eq_nil_iff];intro a ha;cases hd:D[a]? with
 |none=>simp
 |some d =>
  have:=List.all_eq_true.1 h d (List.mem_of_getElem? hd);simp at this;simp[this]
theorem zI (hm:P.follows .mixedOrders=true) {id:Nat} {c:Code} {st':St} (D:List DI) (n1:Nat) (hc:chkD ops D n1=true) (he:D.all (fun d=>!d.ef && d.ks.all (· == 0))=true) (hO:ObP P ops tm V ob nt gh ls ops.toList D V) (hV:V.length=n1)
  (htm:tmD ops.toList V tm=tm') (hx:xops P ops (ops.toList.drop n1) ⟨tm',ob,nt,gh,ls⟩ (fun s=>s=st')) (k:AW P R cx c Q st'):AW P R cx (.seq (.region id ops true) c) Q ⟨tm,ob,nt,gh,ls⟩:=by
 subst htm;have h1:D.all (fun d=>!d.ef)=true:=List.all_eq_true.2 fun d hd=>by
  have:=List.all_eq_true.1 he d hd;simp only[Bool.and_eq_true] at this;exact this.1
 refine AW.drawn hm D n1 V [ob] st' hc hV rfl (ObP.obl tm _ _ _ (fun d hd=>?_) hO) (me:=ob) (by rw[Fz h1];rfl) hx k;have:=List.all_eq_true.1 he d hd;simp only[Bool.and_eq_true,List.all_eq_true] at this;exact⟨by simpa using this.1,fun k hk=>by simpa using this.2 k hk⟩
theorem zH (hm:P.follows .mixedOrders=true) {id:Nat} (D:List DI) (n1:Nat) (hc:chkD ops D n1=true) (he:D.all (fun d=>!d.ef && d.ks.all (· == 0))=true) (hO:ObP P ops tm V ob nt gh ls ops.toList D V) (hV:V.length=n1)
  (htm:tmD ops.toList V tm=tm') {st':St} (hx:xops P ops (ops.toList.drop n1) ⟨tm',ob,nt,gh,ls⟩ (fun s=>s=st')) (k:Q .normal st'):AW P R cx (.region id ops true) Q ⟨tm,ob,nt,gh,ls⟩:=by
 subst htm;have h1:D.all (fun d=>!d.ef)=true:=List.all_eq_true.2 fun d hd=>by
  have:=List.all_eq_true.1 he d hd;simp only[Bool.and_eq_true] at this;exact this.1
 have hO2:Obl P ops V [ob] ⟨tm,ob,nt,gh,ls⟩ ops.toList D V:=ObP.obl tm _ _ _ (fun d hd=>by
  have:=List.all_eq_true.1 he d hd;simp only[Bool.and_eq_true,List.all_eq_true] at this;exact⟨by simpa using this.1,fun k hk=>by simpa using this.2 k hk⟩) hO
 have hn:n1≤ops.size:=by
  simp only[chkD,Bool.and_eq_true,decide_eq_true_eq] at hc;exact hc.1.2
 have h1':AW P R cx (.region id ops true) (fun e s=>e=.normal∧s=st') ⟨tm,ob,nt,gh,ls⟩:=by
  intro σ a w hr;refine wpIn_region_any hm ?_;have hLf:∀ j,Ls (Array.replicate ops.size false) j=false:=fun j=>by
   simp only[Ls,Array.getD_eq_getD_getElem?,Array.getElem?_replicate];split <;> rfl
  have hr':RelS cx σ ⟨tm,ob,nt,gh,ls⟩ a { w with drawn:=w.drawn+1 }:=hr.drewN 1;refine drawn1 hc hV hn hO2 ?_ ops.size _ ⟨tm,ob,nt,gh,ls⟩ σ a _ (by simp) (fun i hi h=>by rw[hLf] at h;simp at h) ?_ (fun j _ _=>hLf j) ⟨rfl,rfl,rfl,?_,fun t j _ h=>by rw[hLf] at h;simp at h,fun t _=>rfl⟩ hr'
  ·have h2:=Dw (R:=R) (cx:=cx) _ n1 _ rfl hx;rw[Fz h1];simpa using h2
  ·have:((List.range n1).filter fun i=>!Ls (Array.replicate ops.size false) i).length≤n1:=by
    have:=List.length_filter_le (fun i=>!Ls (Array.replicate ops.size false) i) (List.range n1);simpa using this
   omega
  ·rw[Fz h1];rfl
 refine AW.mono h1' ?_;rintro e s ⟨rfl,hs⟩;subst hs;exact k
end
end Go.Proofs.Ytenemndpignaoaa
namespace Go.Proofs.Ytenemndpignaoaa
open Go Go.RowKit
section
variable {P:Program} {R:Option Nat} {cx:Cx} {Q:Post} {ops:Array Oper} {c c1:Code} {st st':St} {tm tm':Tm} {ob ob':List (Option Ob)} {nt:Nat} {gh:List Tm} {ls:Option Code} {id:Nat}
attribute [simp] Value.oneCell'
def KU (up tm:Tm) (ob:List (Option Ob)) (nt:Nat) (gh:List Tm) (ls:Option Code) (s:St):Prop :=
 (∀ e∈up++tm,lk s.tm e.1=e.2)∧s.ob=ob∧s.nt=nt∧s.gh=gh∧s.ls=ls
theorem KU.mk {up tm tm':Tm} (h:∀ e∈up++tm,lk tm' e.1=e.2):KU up tm ob nt gh ls ⟨tm',ob,nt,gh,ls⟩:=⟨h,rfl,rfl,rfl,rfl⟩
theorem Jc {t e n k:Nat} {x:AV} {z:List Value} {ag:Bool} {sz by' o:Nat} {cap:Option Nat} {acc ys:List (List T)} {d:Option Nat} {K:St→Prop} (he:elemF P t=some e) (hti:tiF P e=some ⟨ag,sz,by',z⟩) (hz:st.obj o=some ⟨e,sz,true,cap,lvs acc⟩)
  (hq:st.src sz x=some (k,lvs ys)) (hacc:∀ e∈acc,e.length=sz) (hn:acc.length=n) (h1:z.length=sz∧0<sz∧0<by') (h4:(n+k)*by'≤140737488355328)
  (hk:K ((st.grow o ⟨e,sz,true,none,lvs (acc++ys)⟩).put d (.l (.r o sz 0 (n+k))))):xapp P t (.l (.r o sz 0 n)) x st d K:=by
 subst hn;refine Fk (ti:=⟨ag,sz,by',z⟩) (q:=(k,lvs ys)) he hti h1 hq hz ⟨rfl,rfl,rfl,rfl⟩ (by simp[BJ hacc]) h4 ?_;rw[show ((⟨e,sz,true,cap,lvs acc⟩:Ob).cs++(k,lvs ys).2).map (LV.ren (but o))=lvs (acc++ys) by
  show (lvs acc++lvs ys).map _=_;rw[← Eu,D4]]
 exact hk
theorem IK {sz:Nat} {es:List (List T)}:st.src sz (.l (.d false sz es))=some (es.length,lvs es):=by simp[St.src,KY]
theorem AW.joinF (ms:List Nat) (up:Tm) (O:List (Option Ob)) {base:Tm} (hb:Go.Proofs.Ytenemndpignaoaa.filt ms tm=base) (h:AW P R cx c1 (Post.seq (fun s=>Weak cx s ⟨up++base,O,nt,gh,ls⟩) Q) ⟨tm,ob,nt,gh,ls⟩)
  (k:AW P R cx c Q ⟨up++base,O,nt,gh,ls⟩):AW P R cx (.seq c1 c) Q ⟨tm,ob,nt,gh,ls⟩ :=
 AW.seq (AW.mono h fun e s hs=>by
  cases e with
  |normal=>exact AW.weak hs k
  |_=>exact hs)
theorem AW.nilRow (i ty sz n:Nat) (h:lk tm i=.l (.s (.slice none 0 0))) (hn:ob.length=n) {ob':List (Option Ob)} (ho:ob++[some ⟨ty,sz,true,none,[]⟩]=ob') (k:AW P R cx c Q ⟨(i,.l (.r n sz 0 0))::tm,ob',nt,gh,ls⟩):AW P R cx c Q ⟨tm,ob,nt,gh,ls⟩:=by
 subst hn;subst ho;exact AW.weak (Weak.nilRow (st:=⟨tm,ob,nt,gh,ls⟩) i ty sz h) k
end
section
variable {ρ:Ren}
@[simp] theorem tmren_nil:Tm.ren ρ []=[]:=rfl
@[simp] theorem LC (j:Nat) (v:AV) (r:Tm):Tm.ren ρ ((j,v)::r)=(j,v.ren ρ)::Tm.ren ρ r:=rfl
@[simp] theorem avren_l (x:LV):(AV.l x).ren ρ=.l (x.ren ρ):=rfl
@[simp] theorem avren_g (x:List LV):(AV.g x).ren ρ=.g (x.map (LV.ren ρ)):=rfl
@[simp] theorem avren_t (x:List (Bool×List LV)):(AV.t x).ren ρ=.t (x.map (CV.ren ρ)):=rfl
@[simp] theorem cvren (b:Bool) (x:List LV):CV.ren ρ (b,x)=(b,x.map (LV.ren ρ)):=rfl
@[simp] theorem lvren_u:LV.ren ρ .u=.u:=rfl
@[simp] theorem lvren_s (x:Value):LV.ren ρ (.s x)=.s x:=rfl
@[simp] theorem lvren_d (al:Bool) (sz:Nat) (es:List (List T)):LV.ren ρ (.d al sz es)=.d al sz es:=rfl
@[simp] theorem lvren_q (al:Bool) (cs:List T) (off:Nat):LV.ren ρ (.q al cs off)=.q al cs off:=rfl
@[simp] theorem lvren_p (o off:Nat):LV.ren ρ (.p o off)=match ρ o with|some o'=>.p o' off|none=>.u:=rfl
@[simp] theorem lvren_r (o sz lo hi:Nat):LV.ren ρ (.r o sz lo hi)=match ρ o with|some o'=>.r o' sz lo hi|none=>.u:=rfl
@[simp] theorem lvren_f (f:Nat) (cs:List Nat):LV.ren ρ (.f f cs)=match cs.mapM ρ with|some cs'=>.f f cs'|none=>.u:=rfl
@[simp] theorem but_eq (o i:Nat):but o i=if i=o then none else some i:=rfl
theorem FK (o:Nat):∀ n:Nat,(idr n).findIdx? (fun x=>x == some o)=if o<n then some o else none
 |0=>by simp[idr]
 |n+1=>by
  have ih:=FK o n;simp only[idr] at ih ⊢;rw[List.range_succ,List.map_append,List.findIdx?_append,ih];by_cases h:o<n
  ·simp[h,show o<n+1 by omega]
  ·by_cases e:o=n
   ·subst e;simp
   ·simp[h,show ¬ o<n+1 by omega,Ne.symm e]
@[simp] theorem inv_idr (n o:Nat):inv (idr n) o=if o<n then some o else none:=FK o n
@[simp] theorem pick_idr (n:Nat) (ob:List (Option Ob)):pickOb (idr n) ob=(List.range n).map fun o=>((ob[o]?).bind id).map (Ob.ren (inv (idr n))):=by
 simp[pickOb,idr,Function.comp_def]
@[simp] theorem obren (ty sz:Nat) (row:Bool) (cap:Option Nat) (cs:List LV):Ob.ren ρ ⟨ty,sz,row,cap,cs⟩=⟨ty,sz,row,cap,cs.map (LV.ren ρ)⟩:=rfl
end
theorem LeftV.nowN {cx:Cx} {s:St} {obs':List (Option Ob)} {res:AV} (n:Nat) (h:cx.nb=0) (hob:pickOb (idr n) s.ob=obs') (hr:(lk s.tm 0).ren (inv (idr n))=res) (hls:s.ls=none):LeftV cx res obs' s :=
 zM h (idr n) (fun i j o hi hj=>by
  have hget:∀ {i o:Nat},(idr n)[i]?=some (some o)→i=o:=by
   intro i o h;rw[idr,List.getElem?_map] at h;obtain⟨a,ha,e⟩:=Option.map_eq_some_iff.1 h;have:=(List.getElem?_eq_some_iff.1 ha).2;simp at *;omega
  rw[hget hi,hget hj]) hls hob hr
attribute [simp] D4 Hw List.range_succ
end Go.Proofs.Ytenemndpignaoaa
namespace Go.Proofs.Ytenemndpignaoaa
open Go Go.RowKit
theorem Af (o:Nat):inv [] o=none:=by simp[inv]
theorem Ab (a o:Nat) (r:List (Option Nat)):inv (some a::r) o=if a=o then some 0 else (inv r o).map (·+1):=by
 unfold inv;rw[List.findIdx?_cons];by_cases h:a=o
 ·subst h;simp
 ·simp[h]
section
variable {P:Program} {tm:Tm} {ob:List (Option Ob)} {nt:Nat} {gh:List Tm} {ls:Option Code}
@[simp] theorem keptR_mk (ids:List Nat) (o:Nat):keptR ⟨tm,ob,nt,gh,ls⟩ ids o=if (ids.contains o && ((ob[o]?).bind id).any (·.row))=true then none else some o:=rfl
theorem JO (ids:List Nat) (obs':List (Option Ob)):St.after ⟨tm,ob,nt,gh,ls⟩ ids obs'=⟨tm.ren (keptR ⟨tm,ob,nt,gh,ls⟩ ids),obAfter ⟨tm,ob,nt,gh,ls⟩ ids obs',nt,gh.map (Tm.ren (keptR ⟨tm,ob,nt,gh,ls⟩ ids)),ls⟩:=rfl
theorem IL (ids:List Nat) (obs':List (Option Ob)):obAfter ⟨tm,ob,nt,gh,ls⟩ ids obs'=(ob.mapIdx fun o x=>match inv (ids.map some) o with
  |some i=>((obs'[i]?).bind id).map (Ob.ren (outR ids ob.length))
  |none=>x.map (Ob.ren (keptR ⟨tm,ob,nt,gh,ls⟩ ids)))++(obs'.drop ids.length).map (Option.map (Ob.ren (outR ids ob.length))):=rfl
@[simp] theorem outR_eq (ids:List Nat) (L j:Nat):outR ids L j=if j<ids.length then ids[j]? else some (L+(j - ids.length)):=rfl
end
section
variable {P:Program} {f:Nat} {avs cargs:List AV} {st:St} {dst:Option Nat} {K:St→Prop} {res:AV} {obs:List Ob} {obs':List (Option Ob)}
end
end Go.Proofs.Ytenemndpignaoaa
namespace Go.Proofs.Ytenemndpignaoaa
open Go Go.RowKit
def KK (p:St→Prop) (s:St):Prop:=p s
@[congr] theorem KK_congr {p:St→Prop} {s s':St} (h:s=s'):KK p s=KK p s':=by rw[h]
section
variable {P:Program} {R:Option Nat} {cx:Cx} {Q:Post} {ops:Array Oper} {c:Code} {st:St} {id:Nat}
theorem Weak.shrink {ob:Nat} {z:Ob} (hz:st.obj ob=some z) (hrow:z.row=true) (n:Nat):Weak cx st (st.setO ob { z with cap:=none,cs:=z.cs.take n }):=by
 intro σ a w hr;have hO:=hr.h.obs ob z (AK hz);have hl:ob<st.ob.length:=(List.getElem?_eq_some_iff.1 (AK hz)).1;match hb:σ ob with
 |none=>rw[hb] at hO;exact hO.elim
 |some none =>
  rw[hb] at hO;obtain⟨h0,h1,h2⟩:=hO;have hs:Step σ st.ob w σ (st.ob.set ob (some { z with cap:=none,cs:=z.cs.take n })) w some:=by
   refine⟨Evo.refl _ _ _,fun o o' h' e hh=>by cases e;exact hh,?_⟩;rintro b' ⟨o',y,k',ho',hb'⟩;by_cases e:o'=ob
   ·subst e;rw[hb] at hb';simp at hb'
   ·rw[List.getElem?_set_ne (Ne.symm e)] at ho';exact .inl ⟨o',y,k',ho',hb'⟩
  refine⟨σ,hr.step_some hs (hs.relH hr.h ?_ ?_ ?_ (by have:=hr.h.nbl;simpa using this) ?_)⟩
  ·intro o' y ho';by_cases e:o'=ob
   ·subst e;rw[List.getElem?_set_self hl] at ho';simp at ho';subst ho';rw[hb];exact⟨Ob.bx_row hrow,by simp[h1],fun _=>.inl rfl⟩
   ·rw[List.getElem?_set_ne (Ne.symm e)] at ho';have:=hs.relO (cx:=cx) (fun _ _ _=>rfl) (hr.h.obs o' y ho');rwa [Ob.ren_some] at this
  ·intro o1 o2 y y' b' k1 k2 h11 h12 h13 h14;have hlive:∀ (o':Nat) (y:Ob),(st.ob.set ob (some { z with cap:=none,cs:=z.cs.take n }))[o']?=some (some y)→∃ z':Ob,st.ob[o']?=some (some z'):=by
    intro o' y hy;by_cases e:o'=ob
    ·subst e;exact⟨z,AK hz⟩
    ·rw[List.getElem?_set_ne (Ne.symm e)] at hy;exact⟨y,hy⟩
   obtain⟨z1,hz1⟩:=hlive o1 y h11;obtain⟨z2,hz2⟩:=hlive o2 y' h12;exact hr.h.inj o1 o2 z1 z2 b' k1 k2 hz1 hz2 h13 h14
  ·intro o' ho';exact hr.h.dom o' (by simpa using ho')
  ·intro o' y ho' hrow' hlt;by_cases e:o'=ob
   ·subst e;rw[List.getElem?_set_self hl] at ho';simp at ho';subst ho';rw[hrow] at hrow';simp at hrow'
   ·rw[List.getElem?_set_ne (Ne.symm e)] at ho';exact hr.h.box o' y ho' hrow' hlt
 |some (some (b,k)) =>
  rw[hb] at hO;obtain⟨vs,rest,g1,g2,g4,g5⟩:=hO;obtain⟨f1,f2,f3⟩:=g5 (Ob.bx_row hrow);have f3:=f3 hrow;have hwr:=hr.write (x':={ z with cap:=none,cs:=z.cs.take n }) (AK hz) hb (vs.take n) (vs.drop n++rest) (g2.take n) rfl rfl (fun h=>absurd h (by simp[Ob.bx,hrow])) (fun _=>⟨by
   have:(vs.take n).length+(vs.drop n++rest).length=vs.length+rest.length:=by simp;omega
   rw[this];exact f1,f2,fun _ k' h=>by simp at h⟩)
  refine⟨σ,?_⟩;have e:w.setRow b (vs.take n++(vs.drop n++rest)).toArray=w:=by
   rw[← List.append_assoc,List.take_append_drop];exact setRow_self _ _ _ _ _ g1
  rw[e] at hwr;exact hwr
end
theorem LeftV.shrink {cx:Cx} {tm:Tm} {ob ob' obs':List (Option Ob)} {nt:Nat} {gh:List Tm} {ls:Option Code} {res:AV} (o n:Nat) {z z':Ob} (hz:ob[o]?=some (some z)) (hrow:z.row=true) (hz':{ z with cap:=none,cs:=z.cs.take n }=z') (ho:ob.set o (some z')=ob')
  (k:LeftV cx res obs' ⟨tm,ob',nt,gh,ls⟩):LeftV cx res obs' ⟨tm,ob,nt,gh,ls⟩:=by
 subst hz';subst ho;exact LeftV.weak (Weak.shrink (st:=⟨tm,ob,nt,gh,ls⟩) (by simp[St.obj,hz]) hrow n) k
theorem AW.room {P:Program} {R:Option Nat} {cx:Cx} {Q:Post} {c:Code} {tm:Tm} {ob ob':List (Option Ob)} {nt:Nat} {gh:List Tm} {ls:Option Code} (o n:Nat) {z z':Ob} {m:Nat} (hz:ob[o]?=some (some z)) (hrow:z.row=true) (hcap:z.cap=some m) (hn:z.cs.length+n≤m*z.sz)
  (hz':{ z with cs:=z.cs++List.replicate n .u }=z') (ho:ob.set o (some z')=ob') (k:AW P R cx c Q ⟨tm,ob',nt,gh,ls⟩):AW P R cx c Q ⟨tm,ob,nt,gh,ls⟩:=by
 subst hz';subst ho;exact AW.weak (Weak.room (st:=⟨tm,ob,nt,gh,ls⟩) (by simp[St.obj,hz]) hrow hcap hn) k
theorem Jd {es:List (List T)} {sz:Nat} (h:∀ e∈es,e.length=sz):∀ n:Nat,(lvs es).take (n*sz)=lvs (es.take n):=by
 induction es with
 |nil=>intro n;simp[lvs]
 |cons e es ih =>
  intro n;have he:=h e (by simp);cases n with
  |zero=>simp[lvs]
  |succ n =>
   have ih':=ih (fun e' h'=>h e' (by simp[h'])) n;have e1:lvs (e::es)=e.map (T.lv false)++lvs es:=by simp[lvs]
   rw[e1,List.take_succ_cons,show lvs (e::es.take n)=e.map (T.lv false)++lvs (es.take n) by simp[lvs],← ih'];rw[List.take_append,List.take_of_length_le (by rw[List.length_map,he,Nat.succ_mul];omega)];congr 2
   rw[List.length_map,he,Nat.succ_mul];omega
theorem Je {es:List (List T)} {sz:Nat} (h:∀ e∈es,e.length=sz):∀ n:Nat,(lvs es).drop (n*sz)=lvs (es.drop n):=by
 induction es with
 |nil=>intro n;simp[lvs]
 |cons e es ih =>
  intro n;have he:=h e (by simp);cases n with
  |zero=>simp[lvs]
  |succ n =>
   have ih':=ih (fun e' h'=>h e' (by simp[h'])) n;have e1:lvs (e::es)=e.map (T.lv false)++lvs es:=by simp[lvs]
   rw[e1,List.drop_succ_cons,← ih'];rw[List.drop_append,List.drop_of_length_le (by rw[List.length_map,he,Nat.succ_mul];omega),List.nil_append];congr 1
   rw[List.length_map,he,Nat.succ_mul];omega
section
variable {P:Program} {st:St} {t e o o1 o2 lo hi lo2 hi2 m sz by' c n:Nat} {ag:Bool} {zz:List Value} {cap:Option Nat} {es:List (List T)} {us:List LV} {d:Option Nat} {K:St→Prop} {z:Ob} {cs' nc:List LV}
end
theorem Weak.pick {cx:Cx} {st:St} (ids:List (Option Nat)) (tm':Tm) (hnd:∀ (i j o:Nat),ids[i]?=some (some o)→ids[j]?=some (some o)→i=j) (hnl:cx.nb≤ids.length)
  (hnb:∀ (i o:Nat) (x:Ob),ids[i]?=some (some o)→st.ob[o]?=some (some x)→x.row=true) (htm:∀ i,lk tm' i=(lk st.tm i).ren (inv ids)∨lk tm' i=.l .u) :
  Weak cx st { st with tm:=tm',ob:=pickOb ids st.ob,gh:=st.gh.map (Tm.ren (inv ids)) }:=by
 intro σ a w h;have hs:Step σ st.ob w (sel ids σ) (pickOb ids st.ob) w (inv ids):=by
  refine⟨Evo.refl _ _ _,fun o i hh e ho=>?_,?_⟩
  ·rw[sel,EB e];exact ho
  ·rintro b ⟨i,x,k,hi,hb⟩;obtain⟨o,y,h1,h2,_⟩:=Bk hi;rw[sel,h1] at hb;exact .inl ⟨o,y,k,h2,hb⟩
 have hH:RelH cx w (sel ids σ) (pickOb ids st.ob) st.ls:=by
  refine hs.relH h.h ?_ ?_ ?_ (by simp[pickOb];exact hnl) ?_
  ·intro i x hi;obtain⟨o,y,h1,h2,rfl⟩:=Bk hi;rw[show sel ids σ i=σ o by rw[sel,h1]];exact hs.relO (cx:=cx) (fun _ _ _=>rfl) (h.h.obs o y h2)
  ·intro i j x x' b k k' hi hj hb hb';obtain⟨o,y,h1,h2,_⟩:=Bk hi;obtain⟨o',y',h1',h2',_⟩:=Bk hj;rw[sel,h1] at hb;rw[sel,h1'] at hb';have:=h.h.inj o o' y y' b k k' h2 h2' hb hb';subst this;exact hnd i j o h1 h1'
  ·intro i hi;have:ids[i]?=none:=List.getElem?_eq_none (by simpa [pickOb] using hi);rw[sel,this]
  ·intro i x hi hrow hlt;obtain⟨o,y,h1,h2,rfl⟩:=Bk hi;have:=hnb i o y h1 h2;rw[show (y.ren (inv ids)).row=y.row from rfl,this] at hrow;simp at hrow
 refine⟨sel ids σ,hH,fun i=>?_,h.nt,hs.gh h.gh,h.dm.step hs h.h⟩;rcases htm i with e|e
 ·show RelV _ _ _ _ _ (lk tm' i);rw[e];exact hs.relV (h.tm i)
 ·show RelV _ _ _ _ _ (lk tm' i);rw[e];trivial
theorem LeftV.rows {cx:Cx} {s:St} {obs':List (Option Ob)} {res:AV} (ids:List (Option Nat)) (hnl:cx.nb≤ids.length) (hnd:∀ (i j o:Nat),ids[i]?=some (some o)→ids[j]?=some (some o)→i=j) (hrow:s.ob.all (fun x=>match x with|some x=>x.row|none=>true)=true) (hls:s.ls=none)
  (hob:pickOb ids s.ob=obs') (hr:(lk s.tm 0).ren (inv ids)=res):LeftV cx res obs' s :=
 ⟨_,Weak.pick ids (s.tm.ren (inv ids)) hnd hnl (fun i o x _ hx=>List.all_eq_true.1 hrow _ (List.mem_of_getElem? hx)) (fun i=>.inl (Cv _ _ _)),hob,hls,by rw[Cv,hr]⟩
theorem Kl {a b:Nat} (h:a≠b):∀ (i j o:Nat),[some a,some b][i]?=some (some o)→[some a,some b][j]?=some (some o)→i=j:=by
 intro i j o hi hj;match i,j with
 |0,0=>rfl
 |1,1=>rfl
 |0,1=>simp at hi hj;exact absurd (hi.trans hj.symm) h
 |1,0=>simp at hi hj;exact absurd (hj.trans hi.symm) h
 |i+2,_=>simp at hi
 |0,j+2=>simp at hj
 |1,j+2=>simp at hj
theorem HI {a:Nat}:∀ (i j o:Nat),[some a][i]?=some (some o)→[some a][j]?=some (some o)→i=j:=by
 intro i j o hi hj;match i,j with
 |0,0=>rfl
 |i+1,_=>simp at hi
 |0,j+1=>simp at hj
theorem VwL.own {st:St} {ids:List Nat} {o i sz lo hi:Nat} (h:inv (ids.map some) o=some i):VwL st ids (.r o sz lo hi) (.r i sz lo hi):=by
 have:=VwL.ren (st:=st) (ids:=ids) (.r o sz lo hi);simp only[LV.ren,h] at this;exact this
theorem K4 (es:List (List T)):(lvs es).all LV.na=true:=by
 simp only[lvs,List.all_flatMap,List.all_eq_true,List.all_map];intro e _ x _;cases x <;> rfl
attribute [simp] JO IL
attribute [simp] Af Ab
end Go.Proofs.Ytenemndpignaoaa
namespace Go.Proofs.Ytenemndpignaoaa
open Go Go.RowKit
section
variable {P:Program} {R:Option Nat} {cx:Cx} {Q:Post} {ops:Array Oper} {c:Code} {st:St} {id:Nat} {tm tmO:Tm} {ob ob':List (Option Ob)} {nt:Nat} {gh:List Tm} {ls:Option Code}
end
section
variable {P:Program} {cx:Cx} {Q:Post} {tm tm':Tm} {ob:List (Option Ob)} {nt:Nat} {gh:List Tm} {ls:Option Code}
theorem AW.rangeG {g:Operand} {ps:Array Tmp} {assign body:Code} {f:Nat} {fn:Func} {c:Code} {caps:List Nat} (hg:St.ev ⟨tm,ob,nt,gh,ls⟩ g=.l (.f f caps)) (hf:P.funcs[f]?=some fn) (hname:(fn.name == "runtime.NumGoroutine")=false) (hb:fn.body=some c) (hnt:1+caps.length≤fn.ntmps) (hres:fn.results.toList=[])
  {nt':Nat} (hnt':fn.ntmps=nt')
  (h:∀ cxI l,cxI.nb=cx.nb→YCx cxI l nt ps assign body →
   AW P none cxI c (iterPost P cx nt ls Q) ⟨(0,.l (.s (.func (.yield l) #[] #[])))::initTm 1 (caps.map fun o=>.l (.p o 0)),ob,nt',tm::gh,none⟩) :
  AW P none cx (.rangeFunc g ps assign body) Q ⟨tm,ob,nt,gh,ls⟩:=by
 subst hnt';exact AW.rangeFunc hg hf hname hb hnt hres fun cxI l h1 h2=>h cxI l h1 h2
end
section
variable {P:Program} {R:Option Nat} {cx:Cx} {Q:Post} {c:Code} {tm:Tm} {ob ob':List (Option Ob)} {nt:Nat} {gh:List Tm} {ls:Option Code}
theorem Weak.nilCell (o j ty sz:Nat) {z:Ob} (hz:ob[o]?=some (some z)) (hj:z.cs[j]?=some (.s (.slice none 0 0))) (hrow:z.row=false) :
  Weak cx ⟨tm,ob,nt,gh,ls⟩ ⟨tm,ob.set o (some { z with cs:=z.cs.set j (.r ob.length sz 0 0) })++[some ⟨ty,sz,true,none,[]⟩],nt,gh,ls⟩:=by
 intro σ a w hr;have hn:=hr.newNil ⟨ty,sz,true,none,[]⟩ ⟨rfl,rfl,.inl rfl⟩;have hl:o<ob.length:=(List.getElem?_eq_some_iff.1 hz).1;have hO:=hr.h.obs o z hz;have hbl:∃ b k,σ o=some (some (b,k)):=by
  match hb:σ o with
  |none=>rw[hb] at hO;exact hO.elim
  |some none =>
   rw[hb] at hO;rw[hO.2.1] at hj;simp at hj
  |some (some (b,k))=>exact⟨b,k,rfl⟩
 obtain⟨b,k,hb⟩:=hbl;have hz':(ob++[some ⟨ty,sz,true,none,[]⟩])[o]?=some (some z):=by rw[List.getElem?_append_left hl];exact hz
 have hb':upd σ ob.length (some none) o=some (some (b,k)):=by rw[AD _ _ (by omega)];exact hb
 have hO':=hn.h.obs o z hz';rw[hb'] at hO';obtain⟨vs,rest,g1,g2,g4,g5⟩:=hO';have hall:All2 (RelL w (Xd cx w (upd σ ob.length (some none)) (ob++[some ⟨ty,sz,true,none,[]⟩])) (Xe w (upd σ ob.length (some none)) (ob++[some ⟨ty,sz,true,none,[]⟩])) (upd σ ob.length (some none))) vs (z.cs.set j (.r ob.length sz 0 0)):=by
  obtain⟨v,hv,hvr⟩:=g2.at j hj;have hrel:RelL w (Xd cx w (upd σ ob.length (some none)) (ob++[some ⟨ty,sz,true,none,[]⟩])) (Xe w (upd σ ob.length (some none)) (ob++[some ⟨ty,sz,true,none,[]⟩])) (upd σ ob.length (some none)) v (.r ob.length sz 0 0):=Or.inl ⟨AQ _ _ _,rfl,rfl,hvr.1⟩;have:=g2.set j hrel;have e:vs.set j v=vs:=by
   apply List.ext_getElem?;intro i;by_cases h:j=i
   ·subst h;rw[List.getElem?_set_self (List.getElem?_eq_some_iff.1 hv).1,hv]
   ·rw[List.getElem?_set_ne h]
  rwa [e] at this
 have hwr:=hn.write (x':={ z with cs:=z.cs.set j (.r ob.length sz 0 0) }) hz' hb' vs rest hall rfl rfl (fun h=>g4 h) (fun h=>g5 h);refine Exists.intro (upd σ ob.length (some none)) ?_;have e1:w.setRow b (vs++rest).toArray=w:=setRow_self _ _ _ _ _ g1;have e2:(ob++[some (⟨ty,sz,true,none,[]⟩:Ob)]).set o (some { z with cs:=z.cs.set j (.r ob.length sz 0 0) })=ob.set o (some { z with cs:=z.cs.set j (.r ob.length sz 0 0) })++[some ⟨ty,sz,true,none,[]⟩]:=List.set_append_left _ _ hl;rw[e1] at hwr;simp only[K1] at hwr;rw[e2] at hwr;exact hwr
theorem AW.nilCell (o j ty sz n:Nat) {z:Ob} (hz:ob[o]?=some (some z)) (hj:z.cs[j]?=some (.s (.slice none 0 0))) (hrow:z.row=false) (hn:ob.length=n) (ho:ob.set o (some { z with cs:=z.cs.set j (.r n sz 0 0) })++[some ⟨ty,sz,true,none,[]⟩]=ob') (k:AW P R cx c Q ⟨tm,ob',nt,gh,ls⟩):AW P R cx c Q ⟨tm,ob,nt,gh,ls⟩:=by
 subst hn;subst ho;exact AW.weak (Weak.nilCell (z:=z) o j ty sz hz hj hrow) k
end
theorem Gd:∀ (ids:List (Option Nat)),(ids.filterMap fun x=>x).Nodup→∀ (i j o:Nat),ids[i]?=some (some o)→ids[j]?=some (some o)→i=j
 |[],_,i,j,o,hi,_=>by simp at hi
 |x::ids,h,i,j,o,hi,hj=>by
  have hmem:∀ k,ids[k]?=some (some o)→o∈ids.filterMap fun x=>x:=fun k hk=>List.mem_filterMap.2 ⟨some o,List.mem_of_getElem? hk,rfl⟩;cases x with
  |none =>
   cases i with
   |zero=>simp at hi
   |succ i =>
    cases j with
    |zero=>simp at hj
    |succ j=>rw[Gd ids h i j o (by simpa using hi) (by simpa using hj)]
  |some a =>
   have h2:a ∉ (ids.filterMap fun x=>x)∧(ids.filterMap fun x=>x).Nodup:=by simpa using h
   cases i with
   |zero =>
    cases j with
    |zero=>rfl
    |succ j =>
     simp at hi hj;subst hi;exact absurd (hmem j hj) h2.1
   |succ i =>
    cases j with
    |zero =>
     simp at hi hj;subst hj;exact absurd (hmem i hi) h2.1
    |succ j=>rw[Gd ids h2.2 i j o (by simpa using hi) (by simpa using hj)]
theorem zF {cx:Cx} {s:St} {obs':List (Option Ob)} {res:AV} (nb:Nat) (ids:List (Option Nat)) (hnb:cx.nb=nb) (hpre:ids.take nb=idr nb) (hnd:(ids.filterMap fun x=>x).Nodup) (hls:s.ls=none) (hob:pickOb ids s.ob=obs') (hr:(lk s.tm 0).ren (inv ids)=res):LeftV cx res obs' s:=by
 have hlen:nb≤ids.length:=by
  have:=congrArg List.length hpre;simp[idr] at this;omega
 refine⟨_,Weak.ren ids (s.tm.ren (inv ids)) (Gd ids hnd) (by omega) (fun i o hi ho=>?_) (fun i=>.inl (Cv _ _ _)),hob,hls,by rw[Cv,hr]⟩;have h1:(ids.take nb)[i]?=some (some o):=by rw[List.getElem?_take_of_lt (by omega)];exact ho
 rw[hpre,idr,List.getElem?_map] at h1;obtain⟨a,ha,e⟩:=Option.map_eq_some_iff.1 h1;have:=(List.getElem?_eq_some_iff.1 ha).2;simp at *;omega
theorem VwL.fn {st:St} {ids:List Nat} {f:Nat} {cs cs':List Nat} (h:cs.mapM (inv (ids.map some))=some cs'):VwL st ids (.f f cs) (.f f cs'):=by
 have:=VwL.ren (st:=st) (ids:=ids) (.f f cs);simp only[LV.ren,h] at this;exact this
section
variable {P:Program} {f:Nat} {avs cargs:List AV} {st:St} {dst:Option Nat} {K:St→Prop} {res:AV} {obs:List Ob} {obs':List (Option Ob)}
theorem As (ids:List Nat) (he:Enters P f) (hs:Sound P f cargs obs res obs') (hnd:ids.Nodup) (hob:pickOb (ids.map some) st.ob=obs.map some) (hrow:(obs'.take obs.length).map (Option.map (·.row))=obs.map fun z=>some z.row)
  (hna:res.na=true) (hona:obs'.all (fun x=>match x with|some x=>x.na|none=>true)=true) (hv:All2 (Vw st ids) avs cargs)
  (hk:K ((st.after ids obs').put dst (res.ren (outR ids st.ob.length)))):xcall P f avs st dst K:=by
 have hl:ids.length=obs.length:=by have:=congrArg List.length hob;simpa [pickOb] using this
 have hl2:obs.length≤obs'.length:=by have:=congrArg List.length hrow;simp at this;omega
 have key:∀ i o:Nat,ids[i]?=some o→∃ z y,st.ob[o]?=some (some z)∧obs'[i]?=some (some y)∧y.row=z.row:=by
  intro i o hi;have h1:(pickOb (ids.map some) st.ob)[i]?=(obs.map some)[i]?:=by rw[hob]
  have hlt:=(List.getElem?_eq_some_iff.1 hi).1;have h2:obs[i]?=some obs[i]:=List.getElem?_eq_getElem (by omega);rw[List.getElem?_map,h2] at h1;obtain⟨o',y,g1,g2,g3⟩:=Bk h1;rw[List.getElem?_map,hi] at g1;simp at g1;subst g1;have h3:((obs'.take obs.length).map (Option.map (·.row)))[i]?=(obs.map fun z=>some z.row)[i]?:=by rw[hrow]
  rw[List.getElem?_map,List.getElem?_map,h2,List.getElem?_take_of_lt (by omega)] at h3;obtain⟨y',hy',he⟩:=Option.map_eq_some_iff.1 h3;obtain⟨y2,rfl,he2⟩:=Option.map_eq_some_iff.1 he;refine⟨y,y2,g2,hy',?_⟩;rw[he2,g3];rfl
 have hobj:∀ o z,st.ob[o]?=some (some z)→st.obj o=some z:=by
  intro o z h;simp[St.obj,h]
 refine .inl ⟨ids,obs,obs',res,cargs,he,hs,⟨hnd,?_,hob,?_,?_,hna,hona,by omega⟩,hv,hk⟩
 ·intro o ho;obtain⟨i,hi⟩:=List.getElem?_of_mem ho;obtain⟨z,_,hz,_⟩:=key i o hi;exact (List.getElem?_eq_some_iff.1 hz).1
 ·intro i o z hi hz hr;obtain⟨z',y,hz',hy,hr'⟩:=key i o hi;rw[hobj o z' hz'] at hz;simp at hz;subst hz;exact⟨y,hy,by rw[hr',hr]⟩
 ·intro i o z y hi hz hy;obtain⟨z',y',hz',hy',hr'⟩:=key i o hi;rw[hobj o z' hz'] at hz;simp at hz;subst hz;rw[hy'] at hy;simp at hy;subst hy;exact hr'
end
section
@[simp] theorem na_s (x:Value):(LV.s x).na=true:=rfl
@[simp] theorem na_u:LV.u.na=true:=rfl
@[simp] theorem na_d (al:Bool) (sz:Nat) (es:List (List T)):(LV.d al sz es).na=!al:=rfl
@[simp] theorem na_r (o sz lo hi:Nat):(LV.r o sz lo hi).na=true:=rfl
@[simp] theorem na_p (o off:Nat):(LV.p o off).na=true:=rfl
@[simp] theorem na_f (f:Nat) (cs:List Nat):(LV.f f cs).na=true:=rfl
@[simp] theorem ob_na (ty sz:Nat) (row:Bool) (cap:Option Nat) (cs:List LV):Ob.na ⟨ty,sz,row,cap,cs⟩=cs.all LV.na:=rfl
attribute [simp] K4
end
theorem Vw.rowd {st:St} {ids:List Nat} {o n sz e:Nat} {cap:Option Nat} {es:List (List T)} (h1:o ∉ ids) (hz:st.obj o=some ⟨e,sz,true,cap,lvs es⟩) (h0:0<sz) (hes:∀ e∈es,e.length=sz) (hn:es.length=n) (hm:n≤140737488355328):Vw st ids (.l (.r o sz 0 n)) (.l (.d true sz es)):=by
 subst hn;have hl:=BJ hes;refine .l (.row o sz 0 es.length _ es h1 hz ⟨rfl,rfl,h0,by simp[hl],Nat.zero_le _,hm⟩ ?_ hes);simp only[Nat.zero_mul,List.drop_zero,Nat.sub_zero];rw[← hl,List.take_length]
end Go.Proofs.Ytenemndpignaoaa
namespace Go.Proofs.Ytenemndpignaoaa
open Go Go.RowKit
def PTy (P:Program):Nat→TypeId→Bool
 |0,_=>false
 |n+1,t=>match P.underlying t with
  |some .bool=>true
  |some (.int _)=>true
  |some .string=>true
  |some (.slice e)=>decide (0<P.bytesOf e) && decide (0<P.cellsOf e) && PTy P n e
  |some (.struct fs)=>fs.toList.all (fun f=>PTy P n f.type) && tiles P 0 fs.toList && decide (P.cellsOf t=total P fs.toList)
  |_=>false
where
 tiles (P:Program):Nat→List Field→Bool
  |_,[]=>true
  |k,f::fs=>decide (f.offset=k) && tiles P (k+P.cellsOf f.type) fs
 total (P:Program):List Field→Nat
  |[]=>0
  |f::fs=>P.cellsOf f.type+total P fs
def WfT (P:Program):Nat→TypeId→List T→Prop
 |0,_,_=>False
 |n+1,t,ts=>match P.underlying t with
  |some .bool=>∃ b,ts=[.v (.bool b)]
  |some (.int k)=>∃ i,ts=[.v (.int k i)]∧(Lit.int k i).wf=true
  |some .string=>∃ s,ts=[.v (.string s)]∧s.size≤maxLen
  |some (.slice e)=>∃ es,ts=[.sl (P.cellsOf e) es]∧es.length*P.bytesOf e≤reachBytes∧∀ x∈es,WfT P n e x
  |some (.struct fs)=>∃ ps:List (List T),ts=ps.flatten∧All2 (fun p f=>WfT P n f p) ps (fs.toList.map (·.type))
  |_=>False
def Xw (w:World) (b:Nat):Prop:=b<w.heap.size∧isC w b
theorem FL {β:Type} {Q:Nat→β→Prop}:∀ n:Nat,(∀ i,i<n→∃ y,Q i y)→∃ l:List β,l.length=n∧∀ i y,l[i]?=some y→Q i y
 |0,_=>⟨[],rfl,fun i y h=>by simp at h⟩
 |n+1,h=>by
  obtain⟨l,hl,hq⟩:=FL n fun i hi=>h i (by omega);obtain⟨y,hy⟩:=h n (by omega);refine⟨l++[y],by simp[hl],fun i z hz=>?_⟩;rcases Nat.lt_or_ge i n with hi|hi
  ·rw[List.getElem?_append_left (by omega)] at hz;exact hq i z hz
  ·rw[List.getElem?_append_right (by omega)] at hz;have:i - l.length=0:=by
    have:=(List.getElem?_eq_some_iff.1 hz).1;simp at this;omega
   rw[this] at hz;simp at hz;subst hz;have:i=n:=by omega
   subst this;exact hy
section
variable {H:Type} {enc:TypeId×Value→H} {P:Program} {w:World} {held:Bool} {spare:Nat→Bool}
theorem EU {e:TypeId}:∀ {l:List (DataW H)} {d:DataW H},d∈l→∀ y∈DataW.weights P e d,y∈DataW.weightsAll P e l
 |[],d,h,y,_=>by simp at h
 |a::l,d,h,y,hy=>by
  simp only[DataW.weightsAll,List.mem_append];rcases List.mem_cons.1 h with rfl|h
  ·exact .inl hy
  ·exact .inr (EU h y hy)
theorem EG:∀ {ts:List TypeId} {l:List (DataW H)} (i:Nat) {t:TypeId} {d:DataW H},ts[i]?=some t→l[i]?=some d→∀ y∈DataW.weights P t d,y∈DataW.weightsEach P ts l
 |[],_,i,_,_,h,_,_,_=>by simp at h
 |_::_,[],i,_,_,_,h,_,_=>by simp at h
 |t::ts,d::l,0,_,_,h,h',y,hy=>by
  simp at h h';subst h h';simp only[DataW.weightsEach,List.mem_append];exact .inl hy
 |t::ts,d::l,i+1,_,_,h,h',y,hy=>by
  simp only[DataW.weightsEach,List.mem_append];exact .inr (EG i (by simpa using h) (by simpa using h') y hy)
theorem FM {R:List Value→List T→Prop} (Q:TypeId→List T→Prop) (hnil:R [] []) (happ:∀ a b x y,R a x→R b y→R (a++b) (x++y)):∀ (fs:List Field) (k:Nat) (cs:List Value),PTy.tiles P k fs=true→k+PTy.total P fs=cs.length →
  (∀ (i:Nat) (f:Field),fs[i]?=some f→∃ p,R ((cs.drop f.offset).take (P.cellsOf f.type)) p∧Q f.type p)→∃ ps:List (List T),R (cs.drop k) ps.flatten∧All2 (fun p f=>Q f p) ps (fs.map (·.type))
 |[],k,cs,_,hk,_=>⟨[],by simp only[PTy.total,Nat.add_zero] at hk;rw[hk,List.drop_length];exact hnil,trivial⟩
 |f::fs,k,cs,ht,hk,h=>by
  simp only[PTy.tiles,Bool.and_eq_true,decide_eq_true_eq] at ht;simp only[PTy.total] at hk;obtain⟨p,h1,h2⟩:=h 0 f rfl;obtain⟨ps,h3,h4⟩:=FM Q hnil happ fs (k+P.cellsOf f.type) cs ht.2 (by omega) fun i g hg=>h (i+1) g (by simpa using hg);refine⟨p::ps,?_,h2,h4⟩;have e:cs.drop k=(cs.drop f.offset).take (P.cellsOf f.type)++cs.drop (k+P.cellsOf f.type):=by
   rw[ht.1,← List.drop_drop,List.take_append_drop]
  rw[e,List.flatten_cons];exact happ _ _ _ _ h1 h3
theorem IM:∀ (m:Nat) (n:Nat) (t:TypeId) (cs:List Value) (x:DataW H×List MemPlace),DataW.trod enc P w 0 spare held n t cs=some x→PTy P m t=true→(∀ y∈DataW.weights P t x.1,y≤reachBytes) →
  ∃ ts,All2 (Rd w (Xw w)) cs ts∧WfT P m t ts:=by
 intro m;induction m with
 |zero=>intro n t cs x _ h;simp[PTy] at h
 |succ m ih =>
  intro n t cs x h hp hw;simp only[PTy] at hp;split at hp
  ·rename_i hu
   obtain⟨b,rfl,rfl⟩:=DataW.trod_bool hu h;exact⟨[.v (.bool b)],⟨.v _ rfl,trivial⟩,by simp only[WfT,hu];exact⟨b,rfl⟩⟩
  ·rename_i k hu
   obtain⟨i,rfl,rfl,hwf⟩:=DataW.trod_int hu h;exact⟨[.v (.int k i)],⟨.v _ rfl,trivial⟩,by simp only[WfT,hu];exact⟨i,rfl,hwf⟩⟩
  ·rename_i hu
   obtain⟨s,rfl,rfl,hs⟩:=DataW.trod_string hu h;exact⟨[.v (.string s)],⟨.v _ rfl,trivial⟩,by simp only[WfT,hu];exact⟨s,rfl,hs⟩⟩
  ·rename_i e hu
   simp only[Bool.and_eq_true,decide_eq_true_eq] at hp;obtain⟨⟨hb0,hc0⟩,hpe⟩:=hp;rcases DataW.trod_slice hu h with ⟨rfl,rfl⟩|⟨a,len,cap,elems,rest,n',rfl,rfl,rfl,_,hlc,hcm,hel,helem,hspare,hnospare⟩
   ·refine⟨[.sl (P.cellsOf e) []],⟨?_,trivial⟩,by simp only[WfT,hu];exact⟨[],rfl,by simp,by simp⟩⟩;exact .sl none 0 0 _ [] 0 0 (fun _ _=>.bool false) rfl (Nat.le_refl _) (by omega) (by simp) (fun h=>by omega) (fun _=>rfl) (fun i j hi=>by omega) (fun i j e t he=>by simp at he)
   ·simp only[DataW.weights,hu] at hw;have hlen:(elems.length+rest.length)*P.bytesOf e≤reachBytes:=by
     have:=hw _ (List.mem_cons_self ..);simpa using this
    have hle:len*P.bytesOf e≤reachBytes:=Nat.le_trans (Nat.mul_le_mul_right _ (by omega)) hlen;have hlb:len≤len*P.bytesOf e:=Nat.le_mul_of_pos_right _ hb0;have key:∀ i,i<len→∃ y:List Value×List T,w.cells? 0 (a.add (i*P.cellsOf e)) (P.cellsOf e)=some y.1∧All2 (Rd w (Xw w)) y.1 y.2∧WfT P m e y.2:=by
     intro i hi;have h1:=helem i hi;have h2:elems[i]?=some elems[i]:=List.getElem?_eq_getElem (by omega);rw[h2] at h1;obtain⟨csi,hcs,htr⟩:=Option.bind_eq_some_iff.1 h1;obtain⟨tsi,h3,h4⟩:=ih n' e csi _ htr hpe fun y hy=>hw y (List.mem_cons_of_mem _ (List.mem_append_left _ (EU (List.mem_map.2 ⟨_,List.mem_of_getElem? h2,rfl⟩) y hy)));exact⟨(csi,tsi),hcs,h3,h4⟩
    obtain⟨l,hl,hq⟩:=FL len key;have hcell:∀ (i:Nat) (y:List Value×List T),l[i]?=some y→∀ j,j<P.cellsOf e→w.cell? ((a.add (i*P.cellsOf e)).add j)=y.1[j]?:=by
     intro i y hy j hj;exact (World.cells?_some (hq i y hy).1).2.2 j hj
    have hlen2:∀ (i:Nat) (y:List Value×List T),l[i]?=some y→y.1.length=P.cellsOf e:=fun i y hy=>(World.cells?_some (hq i y hy).1).2.1
    -- where it lies
    have hspot:0<len→a.spot=none∧Xw w a.block:=by
     intro h0;have hy:l[0]?=some l[0]:=List.getElem?_eq_getElem (by omega);have h1:=hcell 0 _ hy 0 hc0;have h2:=hlen2 0 _ hy;rw[Nat.zero_mul] at h1;have e0:(a.add 0).add 0=a:=by simp[Addr.add]
     rw[e0,List.getElem?_eq_getElem (by omega)] at h1;unfold World.cell? at h1;split at h1
     ·rename_i c t fr hc
      split at h1
      ·simp at h1
      ·rename_i hs
       refine⟨by simpa using hs,(Array.getElem?_eq_some_iff.1 hc).1,c,t,fr,hc⟩
     ·simp at h1
    refine⟨[.sl (P.cellsOf e) (l.map (·.2))],⟨?_,trivial⟩,by simp only[WfT,hu];exact⟨l.map (·.2),rfl,by simpa [hl] using hle,fun x hx=>by
     obtain⟨y,hy,rfl⟩:=List.mem_map.1 hx;obtain⟨i,hi⟩:=List.getElem?_of_mem hy;exact (hq i y hi).2.2⟩⟩
    refine .sl (some a) len cap _ (l.map (·.2)) a.block a.off (fun i j=>(l.getD i default).1.getD j (.bool false)) (by simp[hl]) hlc (by unfold reachBytes at hle;omega) (fun x hx=>?_) (fun h0=>?_) (fun h=>by simp at h) (fun i j hi hj=>?_) (fun i j x t hx ht=>?_)
    ·obtain⟨y,hy,rfl⟩:=List.mem_map.1 hx;obtain⟨i,hi⟩:=List.getElem?_of_mem hy;rw[← (hq i y hi).2.1.length,hlen2 i y hi]
    ·obtain⟨h1,h2⟩:=hspot h0;refine⟨?_,h2⟩;obtain⟨b,o,s⟩:=a;simp only at h1;subst h1;rfl
    ·have hy:l[i]?=some l[i]:=List.getElem?_eq_getElem (by omega);have h1:=hcell i _ hy j hj;have h2:=hlen2 i _ hy;obtain⟨hs,_⟩:=hspot (by omega);have e1:(a.add (i*P.cellsOf e)).add j=⟨a.block,a.off+(i*P.cellsOf e+j),none⟩:=by
      obtain⟨b,o,s⟩:=a;simp only at hs;subst hs;rw[Cr,Cr,Nat.add_assoc]
     rw[e1] at h1;have hj2:j<(l[i]).1.length:=by omega
     have e2:l.getD i default=l[i]:=by rw[List.getD_eq_getElem?_getD,hy];rfl
     rw[h1];simp only[e2];rw[List.getElem?_eq_getElem hj2,List.getD_eq_getElem?_getD,List.getElem?_eq_getElem hj2];rfl
    ·rw[List.getElem?_map] at hx;obtain⟨y,hy,rfl⟩:=Option.map_eq_some_iff.1 hx;have h1:=(hq i y hy).2.1;obtain⟨v,hv,hr⟩:=h1.at j ht;have e2:l.getD i default=y:=by rw[List.getD_eq_getElem?_getD,hy];rfl
     simp only[e2];rw[List.getD_eq_getElem?_getD,hv];exact hr
  ·rename_i fs hu
   simp only[Bool.and_eq_true,List.all_eq_true,decide_eq_true_eq] at hp;obtain⟨⟨hpf,htile⟩,htot⟩:=hp;obtain⟨xs,n',rfl,rfl,hcl,hxl,hf⟩:=DataW.trod_struct hu h;simp only[DataW.weights,hu] at hw;obtain⟨ps,h1,h2⟩:=FM (P:=P) (R:=All2 (Rd w (Xw w))) (WfT P m) trivial (fun a b x y h h'=>h.append h') fs.toList 0 cs htile (by rw[hcl,htot];omega) fun i f hf'=>by
    have hfa:fs[i]?=some f:=by rw[← Array.getElem?_toList];exact hf'
    have h3:=hf i f hfa;have hi:i<fs.size:=(Array.getElem?_eq_some_iff.1 hfa).1;have h4:xs[i]?=some xs[i]:=List.getElem?_eq_getElem (by omega);rw[h4] at h3;obtain⟨p,h5,h6⟩:=ih n' f.type _ _ h3 (hpf f (List.mem_of_getElem? hf')) fun y hy=>hw y (EG i (by rw[List.getElem?_map,hf'];rfl) (by rw[List.getElem?_map,h4];rfl) y hy);exact⟨p,h5,h6⟩
   rw[List.drop_zero] at h1;exact⟨ps.flatten,h1,by simp only[WfT,hu];exact⟨ps,rfl,h2⟩⟩
  ·simp at hp
end
end Go.Proofs.Ytenemndpignaoaa
namespace Go.Proofs.Ytenemndpignaoaa
open Go Go.RowKit Go.ChangeShapes Go.WideShapes Go.ChangeAt
def oneAV:List T→AV
 |[x]=>.l (x.lv false)
 |_=>.l .u
def mkAV (P:Program) (t:TypeId) (ts:List T):AV :=
 match P.underlying t with
 |some (.struct _)=>.g (ts.map (T.lv false))
 |_=>oneAV ts
def mkAVs (P:Program):List TypeId→List (List T)→List AV
 |t::ts,x::xs=>mkAV P t x::mkAVs P ts xs
 |_,_=>[]
section
variable {H:Type} {enc:TypeId×Value→H} {P:Program} {w:World} {X Xa:Nat→Prop} {σ:Nat→Hd}
theorem Kc {v:Value} {t:T} (h:Rd w X v t):RelL w X Xa σ v (t.lv false):=by
 cases h with
 |v x h1=>exact⟨rfl,h1⟩
 |sl a n c sz es b off cv hn hc hm hs ha hz hcell hrd=>exact .sl a n c sz es b off cv hn hc hm hs ha hz hcell hrd
theorem Jf:∀ {vs:List Value} {ts:List T},All2 (Rd w X) vs ts→All2 (RelL w X Xa σ) vs (ts.map (T.lv false))
 |[],[],_=>trivial
 |v::vs,t::ts,h=>⟨Kc h.1,Jf h.2⟩
 |[],_::_,h=>h.elim
 |_::_,[],h=>h.elim
theorem Km {m n base:Nat} {t:TypeId} {v:Value} {d:DataW H} {ps:List MemPlace} (hp:PTy P m t=true) (hv:Value.okWide P w .any base t v) (h:DataW.Trod enc P w 0 (fun _=>true) true t v d ps) (hw:∀ y∈DataW.weights P t d,y≤reachBytes)
  (hX:∀ b,Xw w b→X b):∃ ts,WfT P m t ts∧RelV w X Xa σ v (mkAV P t ts):=by
 obtain⟨fuel,hf⟩:=h;obtain⟨ts,h1,h2⟩:=IM m fuel t _ _ hf hp hw;have h1':All2 (Rd w X) v.cells.toList ts:=h1.mono fun a b _ hr=>hr.mono fun b hb=>⟨hX b hb,rfl⟩;refine⟨ts,h2,?_⟩;have one:(hc:v.cells=#[v])→RelV w X Xa σ v (oneAV ts):=by
  intro hc;rw[hc] at h1';cases ts with
  |nil=>exact h1'.elim
  |cons x ts =>
   cases ts with
   |nil=>exact Kc h1'.1
   |cons y ts=>exact h1'.2.elim
 cases m with
 |zero=>simp[PTy] at hp
 |succ m =>
  simp only[PTy] at hp;unfold mkAV;split at hp
  ·rename_i hu
   obtain⟨b,rfl⟩:=okWide_bool hu hv;rw[hu];exact one rfl
  ·rename_i k hu
   obtain⟨b,rfl⟩:=okWide_int hu hv;rw[hu];exact one rfl
  ·rename_i hu
   obtain⟨b,rfl⟩:=okWide_string hu hv;rw[hu];exact one rfl
  ·rename_i e hu
   obtain⟨a,l,c,rfl⟩:=okWide_slice hu hv;rw[hu];exact one rfl
  ·rename_i fs hu
   rw[hu];simp only[Value.okWide,hu] at hv;obtain⟨cs,rfl,_,_⟩:=hv;refine⟨cs.toList,by simp,?_⟩;have:=Jf (Xa:=Xa) (σ:=σ) h1';simpa [Value.cells] using this
  ·simp at hp
theorem HJ {m base:Nat} (hX:∀ b,Xw w b→X b):∀ (ts:List TypeId) (vs:List Value) (ds:List (DataW H)) (ps:List MemPlace),(∀ t∈ts,PTy P m t=true)→(∀ (j:Nat) t v,ts[j]?=some t→vs[j]?=some v→Value.okWide P w .any base t v) →
  DataW.TrodAll enc P w 0 (fun _=>true) true ts vs ds ps→(∀ y∈DataW.weightsEach P ts ds,y≤reachBytes)→∃ tss,All2 (fun x t=>WfT P m t x) tss ts∧All2 (RelV w X Xa σ) vs (mkAVs P ts tss)∧ds.length=ts.length
 |[],vs,ds,ps,_,_,h,_=>by
  obtain⟨rfl,rfl,_⟩:=trodAll_nil h;exact⟨[],trivial,trivial,rfl⟩
 |t::ts,vs,ds,ps,hp,hv,h,hw=>by
  obtain⟨v,vs',d,ds',p,q,rfl,rfl,_,h1,h2⟩:=trodAll_cons h;simp only[DataW.weightsEach,List.mem_append] at hw;obtain⟨x,h3,h4⟩:=Km (Xa:=Xa) (σ:=σ) (n:=0) (hp t (by simp)) (hv 0 t v rfl rfl) h1 (fun y hy=>hw y (.inl hy)) hX;obtain⟨tss,h5,h6,h7⟩:=HJ hX ts vs' ds' q (fun t' ht=>hp t' (by simp[ht])) (fun j t' v' hj hj'=>hv (j+1) t' v' (by simpa using hj) (by simpa using hj')) h2 fun y hy=>hw y (.inr hy);exact⟨x::tss,⟨h3,h5⟩,⟨h4,h6⟩,by simp[h7]⟩
theorem GW (hl:laidOutB P=true) {W W':World} (hb:Below W.heap.size W W') {sp:Nat→Bool}:∀ (ts:List TypeId) (vs:List Value) (ds:List (DataW H)) (ps:List MemPlace),(∀ t∈ts,P.readableRec t=true∧t<P.types.size) →
  DataW.TrodAll enc P W 0 (fun _=>true) true ts vs ds ps→(∀ p∈ps,p.block<W.heap.size)→(∀ p∈ps,sp p.block=true)→DataW.TrodAll enc P W' 0 sp true ts vs ds ps
 |[],vs,ds,ps,_,h,_,_=>by
  obtain⟨rfl,rfl,rfl⟩:=trodAll_nil h;rfl
 |t::ts,vs,ds,ps,hr,h,hlt,hs=>by
  obtain⟨v,vs',d,ds',p,q,rfl,rfl,rfl,h1,h2⟩:=trodAll_cons h;obtain⟨r1,r2⟩:=hr t (by simp);exact⟨p,q,WideElems.Trod_stays hl r1 r2 h1 (fun x hx=>hb.same (hlt x (by simp[hx]))) (fun x hx=>hs x (by simp[hx])),
   GW hl hb ts vs' ds' q (fun t' ht=>hr t' (by simp[ht])) h2 (fun x hx=>hlt x (by simp[hx])) (fun x hx=>hs x (by simp[hx])),rfl⟩
theorem Jg {f:Nat} {fn:Func} {s:ChangeSpec} {tb m:Nat} (hl:laidOutB P=true) (hpar:fn.params.toList.all (fun t=>PTy P m t && P.readableRec t && decide (t<P.types.size))=true) (hres:fn.resultTypes=#[tb]) (htb:P.underlying tb=some .bool) (hvars:s.vars=[])
  (hfn:∀ ds:List (DataW H),ds.length=fn.params.toList.length→s.fn H ds={ results:=[.lit (.bool true)],args:=ds })
  (S:∀ tss:List (List T),All2 (fun x t=>WfT P m t x) tss fn.params.toList→Sound P f (mkAVs P fn.params.toList tss) [] (.l (.s (.bool true))) [])
  (W:World) (base:Nat) (args:Array Value) (ds gs:List (DataW H)) (before:List MemPlace) (hval:∀ (j:Nat) t v,fn.params[j]?=some t→args[j]?=some v→Value.okWide P W .any base t v)
  (hW:DataW.Whole enc P fn.params.toList s.vars false W args.toList ds gs before) (hw:(DataW.weightsEach P (fn.params.toList++s.plain.varTypes P) (ds++gs)).all (·≤reachBytes)=true) :
  Calls P f args W fun e W'=>∃ v,e=.returned v∧s.post enc P fn false true false false W args v W':=by
 have hW':=hW;obtain⟨p,q,hA,hV,rfl,hfz,hnd⟩:=hW;rw[hvars] at hV;have hgq:gs=[]∧q=[]:=by
  cases gs with
  |nil=>exact⟨rfl,hV⟩
  |cons g gs=>exact hV.elim
 obtain⟨rfl,rfl⟩:=hgq;have hpar':∀ t∈fn.params.toList,PTy P m t=true∧P.readableRec t=true∧t<P.types.size:=by
  intro t ht;have:=List.all_eq_true.1 hpar t ht;simp only[Bool.and_eq_true,decide_eq_true_eq] at this;exact⟨this.1.1,this.1.2,this.2⟩
 have hw':∀ y∈DataW.weightsEach P fn.params.toList ds,y≤reachBytes:=by
  intro y hy;have happ:∀ (ts us:List TypeId) (l:List (DataW H)),y∈DataW.weightsEach P ts l→y∈DataW.weightsEach P (ts++us) l:=by
   intro ts us;induction ts with
   |nil=>intro l h;simp[DataW.weightsEach] at h
   |cons t ts ih =>
    intro l h;cases l with
    |nil=>simp[DataW.weightsEach] at h
    |cons d l =>
     simp only[List.cons_append,DataW.weightsEach,List.mem_append] at h ⊢;rcases h with h|h
     ·exact .inl h
     ·exact .inr (ih l h)
  have:=List.all_eq_true.1 hw y (by rw[List.append_nil];exact happ _ _ _ hy);simpa using this
 have hX:∀ b,Xw W b→Xd (cx0 W (fun _=>none) 0 [] (fun _=>False) (fun b hb=>hb.elim)) W (fun _=>none) [] b:=by
  rintro b ⟨h1,h2⟩;refine⟨h1,?_,fun h=>h,h2⟩;rintro⟨o,x,k,ho,_⟩;simp at ho
 obtain⟨tss,h1,h2,h3⟩:=HJ (Xa:=Xe W (fun _=>none) []) (σ:=fun _=>none) (base:=base) hX fn.params.toList args.toList ds p (fun t ht=>(hpar' t ht).1) (fun j t v hj hj'=>hval j t v (by rwa [← Array.getElem?_toList]) (by rwa [← Array.getElem?_toList])) hA hw';have hS:=S tss h1 (fun _=>False) W (fun _=>none) args.toList (fun b hb=>hb.elim) ⟨fun o x ho=>by simp at ho,fun o o' x x' b k k' ho=>by simp at ho,fun o _=>rfl,Nat.zero_le _,fun o x ho=>by simp at ho,fun b hb=>by
  obtain⟨o,x,k,ho,_⟩:=hb;simp at ho,Nat.le_refl _,fun _ _ _=>rfl,rfl,rfl,rfl,trivial⟩ h2
 have e1:args.toList.toArray=args:=by simp
 rw[e1] at hS;refine hS.mono ?_;rintro e W' ⟨v,σ',rfl,k1,k2⟩;have hv:v=.bool true:=k2.1;subst hv;have hown:∀ b,¬ lvb (fun _=>none) ([]:List (Option Ob)) b:=by
  rintro b ⟨o,x,k,ho,_⟩;simp at ho
 have hb:Below W.heap.size W W':=⟨k1.os,k1.tape,k1.output,k1.size,fun b hb=>k1.frame b hb (hown b)⟩;have hlt:∀ x∈p,x.block<W.heap.size:=fun x hx=>by simpa using hW'.lt x (by simpa using hx)
 have hf:=hfn ds h3;simp only[List.append_nil] at hW';refine⟨_,rfl,ds,[],p,[],p,[],hW',?_,?_,?_,World.keptBut_mono (fun x hx=>hx.elim) (hb.frame fun _=>False),fun h=>by cases h⟩
 ·rw[List.append_nil,hf,hres];exact trodAll_cons_mk (shut_bool htb _) trodAll_mk0
 ·rw[List.append_nil,hf];exact GW hl hb _ _ _ _ (fun t ht=>(hpar' t ht).2) hA hlt fun x hx=>by simpa using hlt x hx
 ·rw[List.append_nil,hf,hvars];rfl
end
end Go.Proofs.Ytenemndpignaoaa
namespace Go.Proofs.Ytenemndpignaoaa
open Go Go.RowKit
@[simp] theorem Ge:tiF Try.prog 3=some ⟨false,1,8,[.int .i64 0]⟩:=by kernel_rfl
@[simp] theorem tb_ti22:tiF Try.prog 22=some ⟨false,1,24,[.slice none 0 0]⟩:=by kernel_rfl
@[simp] theorem tb_ti24:tiF Try.prog 24=some ⟨false,1,24,[.slice none 0 0]⟩:=by kernel_rfl
@[simp] theorem Gv:tiF Try.prog 31=some ⟨true,4,32,[.int .i64 0,.int .i64 0,.int .i64 0,.int .i64 0]⟩:=by kernel_rfl
@[simp] theorem Kn:tiF Try.prog 33=some ⟨true,3,24,[.int .i64 0,.int .i64 0,.int .i64 0]⟩:=by kernel_rfl
@[simp] theorem tb_ti43:tiF Try.prog 43=some ⟨false,1,24,[.slice none 0 0]⟩:=by kernel_rfl
@[simp] theorem tb_ti52:tiF Try.prog 52=some ⟨false,1,24,[.slice none 0 0]⟩:=by kernel_rfl
@[simp] theorem Ko:tiF Try.prog 54=some ⟨true,3,40,[.int .i64 0,.slice none 0 0,.int .i64 0]⟩:=by kernel_rfl
@[simp] theorem Df:tiF Try.prog 59=some ⟨true,2,16,[.int .i64 0,.int .i64 0]⟩:=by kernel_rfl
@[simp] theorem tb_ti79:tiF Try.prog 79=some ⟨true,8,64,[.int .i64 0,.int .i64 0,.int .i64 0,.int .i64 0,.int .i64 0,.int .i64 0,.int .i64 0,.int .i64 0]⟩:=by kernel_rfl
@[simp] theorem tb_ti104:tiF Try.prog 104=some ⟨false,1,8,[.int .u64 0]⟩:=by kernel_rfl
@[simp] theorem Gw:elemF Try.prog 22=some 31:=by kernel_rfl
@[simp] theorem FA:elemF Try.prog 23=some 3:=by kernel_rfl
@[simp] theorem Kp:elemF Try.prog 24=some 33:=by kernel_rfl
@[simp] theorem Dg:elemF Try.prog 43=some 59:=by kernel_rfl
@[simp] theorem Kq:elemF Try.prog 52=some 54:=by kernel_rfl
@[simp] theorem tb_el119:elemF Try.prog 119=some 43:=by kernel_rfl
@[simp] theorem tb_fl31:flds Try.prog 31=some [(0,1,false),(1,1,false),(2,1,false),(3,1,false)]:=by kernel_rfl
@[simp] theorem tb_fl33:flds Try.prog 33=some [(0,1,false),(1,1,false),(2,1,false)]:=by kernel_rfl
@[simp] theorem tb_fl54:flds Try.prog 54=some [(0,1,false),(1,1,false),(2,1,false)]:=by kernel_rfl
@[simp] theorem tb_fl59:flds Try.prog 59=some [(0,1,false),(1,1,false)]:=by kernel_rfl
@[simp] theorem tb_fl79:flds Try.prog 79=some [(0,4,true),(4,4,true)]:=by kernel_rfl
@[simp] theorem tb_st9:strF Try.prog 9=true:=by kernel_rfl
@[simp] theorem tb_in3:intF Try.prog 3=some .i64:=by kernel_rfl
@[simp] theorem tb_in5:intF Try.prog 5=some .u8:=by kernel_rfl
@[simp] theorem tb_in67:intF Try.prog 67=some .u64:=by kernel_rfl
@[simp] theorem tb_in104:intF Try.prog 104=some .u64:=by kernel_rfl
end Go.Proofs.Ytenemndpignaoaa
namespace Go.Proofs.Ytenemndpignaoaa
open Go Go.RowKit
def encS (l:List ByteArray):List (List T):=l.map fun x=>[.v (.string x)]
@[simp] theorem encS_nil:encS []=[]:=rfl
def encI (l:List Int):List (List T):=l.map fun x=>[.v (.int .i64 x)]
@[simp] theorem Lo (l:List Int):(encI l).length=l.length:=by simp[encI]
@[simp high] theorem encI_get (l:List Int) (i:Nat):(encI l)[i]?=(l[i]?).map fun x=>[.v (.int .i64 x)]:=by simp[encI]
@[simp] theorem encI_nil:encI []=[]:=rfl
theorem CX (l m:List Int):encI (l++m)=encI l++encI m:=by simp[encI]
theorem Cw (l:List Int):∀ e∈encI l,e.length=1:=by
 intro e h;obtain⟨x,_,rfl⟩:=List.mem_map.1 h;rfl
@[simp] theorem Lp (l:List Int):(encI l=[])=(l=[]):=by simp[encI]
def encB (l:List Bool):List (List T):=l.map fun x=>[.v (.bool x)]
@[simp] theorem encB_nil:encB []=[]:=rfl
def encU (l:List Int):List (List T):=l.map fun x=>[.v (.int .u8 x)]
@[simp] theorem encU_nil:encU []=[]:=rfl
structure Field where
 name:ByteArray
 val:ByteArray
deriving DecidableEq,Inhabited
attribute [ext] Field
def EZ (l:List Field):List (List T):=l.map fun x=>[.v (.string x.name),.v (.string x.val)]
@[simp] theorem K5:EZ []=[]:=rfl
structure Item where
 kind:Int
 s:ByteArray
 f:List Field
 l:List ByteArray
 exp:Int
deriving DecidableEq,Inhabited
attribute [ext] Item
def Kr (l:List Item):List (List T):=l.map fun x=>[.v (.int .i64 x.kind),.v (.string x.s),.sl 2 (EZ x.f),.sl 1 (encS x.l),.v (.int .i64 x.exp)]
@[simp] theorem Lq:Kr []=[]:=rfl
structure Pair where
 key:ByteArray
 item:Item
deriving DecidableEq,Inhabited
attribute [ext] Pair
def Ks (l:List Pair):List (List T):=l.map fun x=>[.v (.string x.key),.v (.int .i64 x.item.kind),.v (.string x.item.s),.sl 2 (EZ x.item.f),.sl 1 (encS x.item.l),.v (.int .i64 x.item.exp)]
@[simp] theorem Lr:Ks []=[]:=rfl
structure Effect where
 key:ByteArray
 gone:Bool
 item:Item
deriving DecidableEq,Inhabited
attribute [ext] Effect
def Fp (l:List Effect):List (List T):=l.map fun x=>[.v (.string x.key),.v (.bool x.gone),.v (.int .i64 x.item.kind),.v (.string x.item.s),.sl 2 (EZ x.item.f),.sl 1 (encS x.item.l),.v (.int .i64 x.item.exp)]
@[simp] theorem KW:Fp []=[]:=rfl
structure Rid where
 node:Int
 epoch:Int
deriving DecidableEq,Inhabited
attribute [ext] Rid
def K6 (l:List Rid):List (List T):=l.map fun x=>[.v (.int .i64 x.node),.v (.int .i64 x.epoch)]
@[simp] theorem LD:K6 []=[]:=rfl
structure Feed where
 rid:Rid
 off:Int
 back:List Effect
 prev:Rid
 upto:Int
deriving DecidableEq,Inhabited
attribute [ext] Feed
def Kt (l:List Feed):List (List T):=l.map fun x=>[.v (.int .i64 x.rid.node),.v (.int .i64 x.rid.epoch),.v (.int .i64 x.off),.sl 7 (Fp x.back),.v (.int .i64 x.prev.node),.v (.int .i64 x.prev.epoch),.v (.int .i64 x.upto)]
@[simp] theorem Lt:Kt []=[]:=rfl
structure Claim where
 frm:Int
 to:Int
 node:Int
 epoch:Int
deriving DecidableEq,Inhabited
attribute [ext] Claim
def Au (l:List Claim):List (List T):=l.map fun x=>[.v (.int .i64 x.frm),.v (.int .i64 x.to),.v (.int .i64 x.node),.v (.int .i64 x.epoch)]
theorem DG (x:Claim):lvs (Au [x])=[.s (.int .i64 x.frm),.s (.int .i64 x.to),.s (.int .i64 x.node),.s (.int .i64 x.epoch)]:=rfl
@[simp] theorem Kd (l:List Claim):(Au l).length=l.length:=by simp[Au]
@[simp high] theorem K7 (l:List Claim) (i:Nat):(Au l)[i]?=(l[i]?).map fun x=>[.v (.int .i64 x.frm),.v (.int .i64 x.to),.v (.int .i64 x.node),.v (.int .i64 x.epoch)]:=by simp[Au]
@[simp] theorem K8:Au []=[]:=rfl
theorem B5 (l m:List Claim):Au (l++m)=Au l++Au m:=by simp[Au]
theorem Cs (l:List Claim):∀ e∈Au l,e.length=4:=by
 intro e h;obtain⟨x,_,rfl⟩:=List.mem_map.1 h;rfl
@[simp] theorem Ke (l:List Claim):(Au l=[])=(l=[]):=by simp[Au]
structure Msg where
 kind:Int
 frm:Int
 to:Int
 epoch:Int
 claims:List Claim
 nodes:List Int
 node:Int
 slot:Int
 num:Int
 rid:Rid
 prev:Rid
 off:Int
 effects:List Effect
deriving DecidableEq,Inhabited
attribute [ext] Msg
def K9 (l:List Msg):List (List T):=l.map fun x=>[.v (.int .i64 x.kind),.v (.int .i64 x.frm),.v (.int .i64 x.to),.v (.int .i64 x.epoch),.sl 4 (Au x.claims),.sl 1 (encI x.nodes),.v (.int .i64 x.node),.v (.int .i64 x.slot),.v (.int .i64 x.num),.v (.int .i64 x.rid.node),.v (.int .i64 x.rid.epoch),.v (.int .i64 x.prev.node),.v (.int .i64 x.prev.epoch),.v (.int .i64 x.off),.sl 7 (Fp x.effects)]
@[simp] theorem LE:K9 []=[]:=rfl
theorem mixed:Try.prog.follows .mixedOrders=true:=by kernel_rfl
theorem Jh (al:Bool) (l:List Int):lvsA al (encI l)=lvs (encI l):=by
 simp[lvsA,lvs,encI,List.flatMap_map]
def bs (p:Nat→Bool) (lo hi:Nat):Nat :=
 if h:lo<hi then (if p ((lo+hi) / 2) then bs p ((lo+hi) / 2+1) hi else bs p lo ((lo+hi) / 2)) else lo
termination_by hi - lo
theorem DK {α:Type} {l:List α} {i:Nat} (h:i<l.length):∃ x,l[i]?=some x:=⟨_,List.getElem?_eq_getElem h⟩
end Go.Proofs.Ytenemndpignaoaa
namespace Go.Proofs.Ytenemndpignaoaa
open Go Go.RowKit
end Go.Proofs.Ytenemndpignaoaa
namespace Go.Proofs.Ytenemndpignaoaa
open Go Go.RowKit
theorem EH {α:Type} {l:List α} {i:Nat} {x:α} (h:l[i]?=some x):l.take i++[x]=l.take (i+1):=by
 rw[List.take_add_one,h];simp
end Go.Proofs.Ytenemndpignaoaa
namespace Go.Proofs.Ytenemndpignaoaa
open Go Go.RowKit
section
variable {es:List (List T)} {sz i j k:Nat} {e e':List T}
theorem FW (hes:∀ e∈es,e.length=sz) (hi:es[i]?=some e):(lvs es).drop (i*sz)=lvs [e]++lvs (es.drop (i+1)):=by
 obtain⟨hlt,he⟩:=List.getElem?_eq_some_iff.1 hi;rw[Je hes,List.drop_eq_getElem_cons hlt,he];simp[lvs]
theorem D7 (hes:∀ e∈es,e.length=sz) (hi:es[i]?=some e):(lvs [e]).length=sz:=by
 have:=hes e (List.mem_of_getElem? hi);simp[lvs,this]
theorem Ku (hes:∀ e∈es,e.length=sz) (hi:es[i]?=some e) (hjk:j+k≤sz):((lvs es).drop (i*sz+j)).take k=((lvs [e]).drop j).take k:=by
 have h1:=D7 hes hi;rw[← List.drop_drop,FW hes hi,List.drop_append_of_le_length (by omega),List.take_append_of_le_length (by rw[List.length_drop];omega)]
theorem HK (hes:∀ e∈es,e.length=sz) (hi:es[i]?=some e) (hj:j<sz):(lvs es)[i*sz+j]?=(lvs [e])[j]?:=by
 have h1:=D7 hes hi;have h2:((lvs es).drop (i*sz))[j]?=(lvs [e])[j]?:=by rw[FW hes hi,List.getElem?_append_left (by omega)]
 rwa [List.getElem?_drop] at h2
theorem HL (A B cs:List LV) (j:Nat) (h:j+cs.length≤B.length):setAt (A++B) (A.length+j) cs=A++setAt B j cs:=by
 rw[CK _ _ _ (by simp;omega),CK _ _ _ h];rw[List.take_length_add_append,Nat.add_assoc,List.drop_length_add_append];simp[List.append_assoc]
theorem IN (A B cs:List LV) (j:Nat) (h:j+cs.length≤A.length):setAt (A++B) j cs=setAt A j cs++B:=by
 rw[CK _ _ _ (by simp;omega),CK _ _ _ h,List.take_append_of_le_length (by omega),List.drop_append_of_le_length (by omega),List.append_assoc,List.append_assoc,List.append_assoc]
theorem Kv {cs:List LV} (hes:∀ e∈es,e.length=sz) (hi:es[i]?=some e) (hj:j+cs.length≤sz) (he':setAt (lvs [e]) j cs=lvs [e']):setAt (lvs es) (i*sz+j) cs=lvs (es.set i e'):=by
 obtain⟨hlt,he⟩:=List.getElem?_eq_some_iff.1 hi;have h1:=D7 hes hi;have h2:lvs es=lvs (es.take i)++(lvs [e]++lvs (es.drop (i+1))):=by
  rw[← FW hes hi,← Jd hes,List.take_append_drop]
 have h3:(lvs (es.take i)).length=i*sz:=by
  rw[BJ fun e he=>hes e (List.mem_of_mem_take he),List.length_take];congr 1
  omega
 rw[h2,← h3,HL _ _ _ _ (by rw[List.length_append];omega),IN _ _ _ _ (by omega),he',List.set_eq_take_append_cons_drop,if_pos hlt];simp[lvs]
end
theorem Sound.frz1 {P:Program} {f:Nat} {args:List AV} {ty sz n:Nat} {cap:Option Nat} {es:List (List T)} {x0 y0:Ob} (h:Sound P f args [y0] (.l (.r 1 sz 0 n)) [some x0,some ⟨ty,sz,true,cap,lvs es⟩]) (hn:es.length=n) (h0:0<sz) (hes:∀ e∈es,e.length=sz)
  (hm:n≤140737488355328) (hx:(x0.frz 1 sz es).ren (inv (idr 1))=x0):Sound P f args [y0] (.l (.d false sz es)) [some x0]:=by
 subst hn;have hw:∀ cx:Cx,cx.nb=1→Weak cx ⟨[(0,.l (.r 1 sz 0 es.length))],[some x0,some ⟨ty,sz,true,cap,lvs es⟩],1,[],none⟩ ⟨[(0,.l (.d false sz es))],[some x0],1,[],none⟩:=by
  intro cx hcx;refine Weak.trans (Weak.freeze (o:=1) (sz:=sz) (z:=⟨ty,sz,true,cap,lvs es⟩) (es:=es) rfl rfl rfl h0 rfl hes hm) ?_;refine zN 1 (by omega) (fun e he=>?_) ?_ rfl
  ·simp only[List.mem_singleton] at he;subst he;simp[Tm.frz,A5,AV.frz,LV.frz,AV.ren,LV.ren]
  ·simp[pickOb,idr,List.range_succ];exact hx
 exact h.weak (fun cx hcx=>hw cx hcx) rfl rfl (by simp[A5])
theorem AW.frzRow {P:Program} {R:Option Nat} {cx:Cx} {Q:Post} {c:Code} {tm tm':Tm} {ob ob':List (Option Ob)} {nt:Nat} {gh gh':List Tm} {ls:Option Code} (o:Nat) {ty sz:Nat} {cap:Option Nat} {es:List (List T)} (hz:ob[o]?=some (some ⟨ty,sz,true,cap,lvs es⟩)) (h0:0<sz) (hes:∀ e∈es,e.length=sz)
  (hm:es.length≤140737488355328) (h1:Tm.frz o sz es tm=tm') (h2:(ob.set o none).map (Option.map (Ob.frz o sz es))=ob') (h3:gh.map (Tm.frz o sz es)=gh') (k:AW P R cx c Q ⟨tm',ob',nt,gh',ls⟩):AW P R cx c Q ⟨tm,ob,nt,gh,ls⟩:=by
 subst h1;subst h2;subst h3;exact AW.weak (Weak.freeze (st:=⟨tm,ob,nt,gh,ls⟩) (o:=o) (sz:=sz) (z:=⟨ty,sz,true,cap,lvs es⟩) (es:=es) (by simp[St.obj,hz]) rfl rfl h0 rfl hes hm) k
theorem zK {cx:Cx} {tm tm':Tm} {ob ob':List (Option Ob)} {nt:Nat} {gh gh':List Tm} {ls:Option Code} (ids:List (Option Nat)) (hn:cx.nb=0) (hnd:(ids.filterMap fun x=>x).Nodup) (htm:∀ e∈tm',(lk tm e.1).ren (inv ids)=e.2) (hob:pickOb ids ob=ob') (hgh:gh.map (Tm.ren (inv ids))=gh') :
  Weak cx ⟨tm,ob,nt,gh,ls⟩ ⟨tm',ob',nt,gh',ls⟩:=by
 subst hob;subst hgh;have key:∀ l:Tm,(∀ e∈l,(lk tm e.1).ren (inv ids)=e.2)→∀ i,lk l i=(lk tm i).ren (inv ids)∨lk l i=.l .u:=by
  intro l;induction l with
  |nil=>intro _ i;exact .inr rfl
  |cons e l ih =>
   intro h i;rw[A5];split
   ·rename_i hi
    subst hi;exact .inl (h e (by simp)).symm
   ·exact ih (fun e' he'=>h e' (by simp[he'])) i
 exact Weak.ren (st:=⟨tm,ob,nt,gh,ls⟩) ids tm' (Gd ids hnd) (by omega) (fun i o hi ho=>by omega) (key tm' htm)
section
variable {P:Program} {R:Option Nat} {cx:Cx} {Q:Post} {c:Code} {tm:Tm} {ob ob':List (Option Ob)} {nt:Nat} {gh:List Tm} {ls:Option Code}
end
end Go.Proofs.Ytenemndpignaoaa
namespace Go.Proofs.Ytenemndpignaoaa
open Go Go.RowKit
def ObE (P:Program) (ops:Array Oper) (tm0:Tm) (V:List AV) (M:List (List (Option Ob))) (nt:Nat) (gh:List Tm) (ls:Option Code):List Oper→List DI→List AV→Prop
 |o::os,d::ds,v::vs=>(AllL (fun k=>∀ tm,AllL (fun r=>lk tm r.1=rdV V tm0 r) d.rd→xg P ops o ⟨tm,M.getD k [],nt,gh,ls⟩ (KD o.dst v tm (M.getD (bif d.ef then k+1 else k) []) nt gh ls)) d.ks)∧ObE P ops tm0 V M nt gh ls os ds vs
 |_,_,[]=>True
 |_,_,_=>False
section
variable {P:Program} {cx:Cx} {ops:Array Oper} {D:List DI} {n1:Nat} {V:List AV} {M:List (List (Option Ob))} {Q:Post} {R:Option Nat} {tm tm':Tm} {ob me:List (Option Ob)} {nt:Nat} {gh:List Tm} {ls:Option Code}
theorem ObE.obl (tm0:Tm):∀ (os:List Oper) (ds:List DI) (vs:List AV),ObE P ops tm0 V M nt gh ls os ds vs→Obl P ops V M ⟨tm0,ob,nt,gh,ls⟩ os ds vs
 |_,_,[],_=>by simp[Obl]
 |[],_,_::_,h=>by simp[ObE] at h
 |_::_,[],_::_,h=>by simp[ObE] at h
 |o::os,d::ds,v::vs,h=>⟨h.1,ObE.obl tm0 os ds vs h.2⟩
theorem Kw (D:List DI) (p:Nat→Bool) (h:∀ e,p e=false):efCount D p=0:=by
 simp only[efCount,List.length_eq_zero_iff,List.filter_eq_nil_iff];intro a ha;simp[h]
theorem zJ (hm:P.follows .mixedOrders=true) {id:Nat} {c:Code} {st':St} (D:List DI) (n1 ne:Nat) (hc:chkD ops D n1=true) (he:(efCount D fun e=>decide (e<n1))=ne) (hM:M.getD 0 []=ob) (hO:ObE P ops tm V M nt gh ls ops.toList D V) (hV:V.length=n1)
  (htm:tmD ops.toList V tm=tm') (hx:xops P ops (ops.toList.drop n1) ⟨tm',M.getD ne [],nt,gh,ls⟩ (fun s=>s=st')) (k:AW P R cx c Q st'):AW P R cx (.seq (.region id ops true) c) Q ⟨tm,ob,nt,gh,ls⟩:=by
 subst htm;subst he;exact AW.drawn hm D n1 V M st' hc hV hM (ObE.obl tm _ _ _ hO) rfl hx k
theorem zL (hm:P.follows .mixedOrders=true) {id:Nat} (D:List DI) (n1 ne:Nat) (hc:chkD ops D n1=true) (he:(efCount D fun e=>decide (e<n1))=ne) (hM:M.getD 0 []=ob) (hO:ObE P ops tm V M nt gh ls ops.toList D V) (hV:V.length=n1)
  (htm:tmD ops.toList V tm=tm') {st':St} (hx:xops P ops (ops.toList.drop n1) ⟨tm',M.getD ne [],nt,gh,ls⟩ (fun s=>s=st')) (k:Q .normal st'):AW P R cx (.region id ops true) Q ⟨tm,ob,nt,gh,ls⟩:=by
 subst htm;subst he;have hO2:Obl P ops V M ⟨tm,ob,nt,gh,ls⟩ ops.toList D V:=ObE.obl tm _ _ _ hO;have hn:n1≤ops.size:=by
  simp only[chkD,Bool.and_eq_true,decide_eq_true_eq] at hc;exact hc.1.2
 have h1':AW P R cx (.region id ops true) (fun e s=>e=.normal∧s=st') ⟨tm,ob,nt,gh,ls⟩:=by
  intro σ a w hr;refine wpIn_region_any hm ?_;have hLf:∀ j,Ls (Array.replicate ops.size false) j=false:=fun j=>by
   simp only[Ls,Array.getD_eq_getD_getElem?,Array.getElem?_replicate];split <;> rfl
  have hr':RelS cx σ ⟨tm,ob,nt,gh,ls⟩ a { w with drawn:=w.drawn+1 }:=hr.drewN 1;refine drawn1 hc hV hn hO2 ?_ ops.size _ ⟨tm,ob,nt,gh,ls⟩ σ a _ (by simp) (fun i hi h=>by rw[hLf] at h;simp at h) ?_ (fun j _ _=>hLf j) ⟨rfl,rfl,rfl,?_,fun t j _ h=>by rw[hLf] at h;simp at h,fun t _=>rfl⟩ hr'
  ·have h2:=Dw (R:=R) (cx:=cx) _ n1 _ rfl hx;simpa using h2
  ·have:((List.range n1).filter fun i=>!Ls (Array.replicate ops.size false) i).length≤n1:=by
    have:=List.length_filter_le (fun i=>!Ls (Array.replicate ops.size false) i) (List.range n1);simpa using this
   omega
  ·rw[Kw D _ fun j=>by simp[hLf]];exact hM.symm
 refine AW.mono h1' ?_;rintro e s ⟨rfl,hs⟩;subst hs;exact k
end
end Go.Proofs.Ytenemndpignaoaa
namespace Go.Proofs.Ytenemndpignaoaa
open Go Go.RowKit
theorem Weak.flip {cx:Cx} {tm:Tm} {ob:List (Option Ob)} {nt:Nat} {gh:List Tm} {ls:Option Code} (o:Nat) {x x':Ob} (ho:ob[o]?=some (some x)) (hcs:x'.cs=x.cs) (hty:x'.ty=x.ty) (hsz:x'.sz=x.sz) (hb:x.bx=false) (hb':x'.bx=false)
  (hcap:x'.row=true→x'.cap=none) (hnb:x'.row=false→x.row=false∨cx.nb≤o):Weak cx ⟨tm,ob,nt,gh,ls⟩ ⟨tm,ob.set o (some x'),nt,gh,ls⟩:=by
 intro σ a w hr;have hl:o<ob.length:=(List.getElem?_eq_some_iff.1 ho).1;have hO:=hr.h.obs o x ho;have hget:∀ (i:Nat) (y:Ob),(ob.set o (some x'))[i]?=some (some y)→(i=o∧y=x')∨(i≠o∧ob[i]?=some (some y)):=by
  intro i y hy;by_cases e:i=o
  ·subst e;rw[List.getElem?_set_self hl] at hy;simp at hy;exact .inl ⟨rfl,hy.symm⟩
  ·rw[List.getElem?_set_ne (Ne.symm e)] at hy;exact .inr ⟨e,hy⟩
 have hOc:RelO w (Xd cx w σ ob) (Xe w σ ob) σ (σ o) x':=by
  revert hO
  unfold RelO;cases σ o with
  |none=>exact id
  |some hd =>
   cases hd with
   |none=>exact fun h=>⟨hb',by rw[hcs];exact h.2.1,fun r=>.inl (hcap r)⟩
   |some bk =>
    rintro⟨vs,rest,g1,g2,g4,g5⟩;refine⟨vs,rest,by rw[hty];exact g1,by rw[hcs];exact g2,fun e=>by rw[hb'] at e;simp at e,fun _=>⟨by rw[hsz];exact (g5 hb).1,(g5 hb).2.1,fun r k' e=>by rw[hcap r] at e;simp at e⟩⟩
 have hs:Step σ ob w σ (ob.set o (some x')) w some:=by
  refine⟨Evo.refl _ _ _,fun i j h e hi=>by cases e;exact hi,?_⟩;rintro b ⟨i,y,k,hi,hb⟩;rcases hget i y hi with ⟨rfl,rfl⟩|⟨_,hy⟩
  ·exact .inl ⟨i,x,k,ho,hb⟩
  ·exact .inl ⟨i,y,k,hy,hb⟩
 refine⟨σ,RelS.step_some (st:=⟨tm,ob,nt,gh,ls⟩) hr hs (hs.relH hr.h ?_ ?_ ?_ (by have:=hr.h.nbl;simpa using this) ?_)⟩
 ·intro i y hi;rcases hget i y hi with ⟨rfl,rfl⟩|⟨_,hy⟩
  ·have:=hs.relO (cx:=cx) (fun b k e=>rfl) hOc;rwa [Ob.ren_some] at this
  ·have:=hs.relO (cx:=cx) (fun b k e=>rfl) (hr.h.obs i y hy);rwa [Ob.ren_some] at this
 ·intro i j y y' b k k' hi hj e1 e2;rcases hget i y hi with ⟨rfl,rfl⟩|⟨_,hy⟩ <;> rcases hget j y' hj with ⟨rfl,rfl⟩|⟨_,hy'⟩
  ·rfl
  ·exact hr.h.inj _ _ _ _ b k k' ho hy' e1 e2
  ·exact hr.h.inj _ _ _ _ b k k' hy ho e1 e2
  ·exact hr.h.inj _ _ _ _ b k k' hy hy' e1 e2
 ·intro i hi;exact hr.h.dom i (by simpa using hi)
 ·intro i y hi hrow hlt;rcases hget i y hi with ⟨rfl,rfl⟩|⟨_,hy⟩
  ·rcases hnb hrow with h|h
   ·exact hr.h.box i x ho h hlt
   ·omega
  ·exact hr.h.box i y hy hrow hlt
section
variable {P:Program} {R:Option Nat} {cx:Cx} {Q:Post} {c:Code} {tm:Tm} {ob ob':List (Option Ob)} {nt:Nat} {gh:List Tm} {ls:Option Code}
theorem AW.pin (o:Nat) {ty sz n:Nat} {cs:List LV} (hz:ob[o]?=some (some ⟨ty,sz,true,none,cs⟩)) (hn:cx.nb=n) (ho:n≤o) (h:ob.set o (some ⟨ty,sz,false,some 0,cs⟩)=ob') (k:AW P R cx c Q ⟨tm,ob',nt,gh,ls⟩):AW P R cx c Q ⟨tm,ob,nt,gh,ls⟩:=by
 subst h;exact AW.weak (Weak.flip o (x':=⟨ty,sz,false,some 0,cs⟩) hz rfl rfl rfl rfl rfl (fun h=>by simp at h) (fun _=>.inr (by omega))) k
theorem AW.unpin (o:Nat) {ty sz:Nat} {cs:List LV} (hz:ob[o]?=some (some ⟨ty,sz,false,some 0,cs⟩)) (h:ob.set o (some ⟨ty,sz,true,none,cs⟩)=ob') (k:AW P R cx c Q ⟨tm,ob',nt,gh,ls⟩):AW P R cx c Q ⟨tm,ob,nt,gh,ls⟩:=by
 subst h;exact AW.weak (Weak.flip o (x':=⟨ty,sz,true,none,cs⟩) hz rfl rfl rfl rfl rfl (fun _=>rfl) (fun h=>by simp at h)) k
theorem AW.label {l:Nat} {st:St} (h:Q .normal st):AW P R cx (.label l) Q st:=fun σ a w hr=>wpIn_label ⟨σ,st,hr,h⟩
theorem CY {P:Program} {b:Frame} {a:Act} {k:List Go.Item} {cs:List Frame} {w:World} {c:Code}:step P (lone (b.atR a (.code (.scope c)::k)) cs w)=.next (lone (b.atR a (.code c::.inScope c::k)) cs w) :=
 step_lone_go (by simp[stepG,stepG.exec,Frame.atR])
theorem Hb {P:Program} {b:Frame} {a:Act} {k:List Go.Item} {cs:List Frame} {w:World} {c:Code}:step P (lone (b.atR a (.inScope c::k)) cs w)=.next (lone (b.atR a k) cs w) :=
 step_lone_go (by simp[stepG,stepG.exec,Frame.atR])
theorem IO {F:Fence} {n:Nat} {P:Program} {Q:Exit→Act→World→Prop} {a:Act} {w:World} {c:Code} (h:c.wpIn F n P Q a w) (hg:∀ l a w,¬ Q (.goto l) a w):(Code.scope c).wpIn F n P Q a w:=by
 intro b k cs hro hb hr;have h0:(lone (b.atR a (.code (.scope c)::k)) cs w).fenced P F:=fenced_calm hb hr rfl;obtain⟨e,a₁,w₁,hq,harr⟩:=h b (.inScope c::k) cs hro hb hr;cases e with
 |normal=>exact⟨.normal,a₁,w₁,hq,.head h0 CY (StepsIn.trans harr (.one (fenced_calm hb hr rfl) Hb))⟩
 |exit id' =>
  have hx:exitTo id' (.inScope c::k)=exitTo id' k:=by simp[exitTo]
  exact⟨.exit id',a₁,w₁,hq,fun k' hk=>.head h0 CY (harr.1 k' (by rw[hx];exact hk)),
   fun hr' hk=>let ⟨k₁,h1,h2⟩:=harr.2 hr' (by rw[hx];exact hk);⟨k₁,h1,.head h0 CY h2⟩⟩
 |goto l=>exact absurd hq (hg l a₁ w₁)
 |ret=>exact⟨_,a₁,w₁,hq,.of_steps (.one h0 CY) harr⟩
 |panic ch=>exact⟨_,a₁,w₁,hq,.of_steps (.one h0 CY) harr⟩
 |outgrown=>exact⟨_,a₁,w₁,hq,.of_steps (.one h0 CY) harr⟩
theorem AW.scope {st:St} (hq:∀ l s,¬ Q (.goto l) s) (h:AW P R cx c Q st):AW P R cx (.scope c) Q st:=fun σ a w hr=>IO (h σ a w hr) fun l a' w' ⟨σ',s,_,hs⟩=>hq l s hs
end
end Go.Proofs.Ytenemndpignaoaa
namespace Go.Proofs.Ytenemndpignaoaa
open Go Go.RowKit
section
variable {α β γ:Type}
def lt (a:α) (k:α→Option β):Option β:=k a
theorem Ay (a:α) (k:α→Option β):lt a k=k a:=rfl
theorem ltE {a:α} {k:α→Option β} {r:β} (h:lt a k=some r):∃ x,x=a∧k x=some r:=⟨a,rfl,h⟩
def bn (m:Option α) (k:α→Option β):Option β:=m.bind k
theorem Ar (a:α) (k:α→Option β):bn (some a) k=k a:=rfl
theorem bnE {m:Option α} {k:α→Option β} {r:β} (h:bn m k=some r):∃ x,m=some x∧k x=some r:=Option.bind_eq_some_iff.1 h
def bf (m:Option (α ⊕ γ)) (k:α→Option (β ⊕ γ)):Option (β ⊕ γ):=m.bind fun|.inl a=>k a|.inr c=>some (.inr c)
def chk (b:Bool) (k:Option β):Option β:=bif b then k else none
theorem chkE {b:Bool} {k:Option β} {r:β} (h:chk b k=some r):b=true∧k=some r:=by
 cases b
 ·simp[chk] at h
 ·exact⟨rfl,h⟩
def ite' (b:Bool) (x y:Option β):Option β:=bif b then x else y
theorem iteT {b:Bool} {x y:Option β} {r:β} (hb:b=true) (h:ite' b x y=some r):x=some r:=by subst hb;exact h
theorem iteF {b:Bool} {x y:Option β} {r:β} (hb:b=false) (h:ite' b x y=some r):y=some r:=by subst hb;exact h
theorem AS (x y:Option β):ite' true x y=x:=rfl
theorem A6 (x y:Option β):ite' false x y=y:=rfl
def iter:Nat→(α→Option (α ⊕ β))→α→Option β
 |0,_,_=>none
 |n+1,f,a=>match f a with
  |some (.inl a')=>iter n f a'
  |some (.inr b)=>some b
  |none=>none
theorem JP {n:Nat} {f:α→Option (α ⊕ β)} {a a':α} (h:f a=some (.inl a')):iter (n+1) f a=iter n f a':=by rw[iter,h]
theorem JQ {n:Nat} {f:α→Option (α ⊕ β)} {a:α} {b:β} (h:f a=some (.inr b)):iter (n+1) f a=some b:=by rw[iter,h]
def nth (l:List α) (i:Int):Option α:=if 0≤i then l[i.toNat]? else none
theorem Aa {l:List α} {i:Int} {x:α} (h:nth l i=some x):0≤i∧l[i.toNat]?=some x:=by
 unfold nth at h;split at h
 ·exact⟨by assumption,h⟩
 ·simp at h
theorem Ai {l:List α} {i:Int} {x:α} (h:nth l i=some x):i.toNat<l.length∧i<(l.length:Int):=by
 have h1:=(List.getElem?_eq_some_iff.1 (Aa h).2).1;have h2:=(Aa h).1;exact⟨h1,by omega⟩
theorem Ex (l:List α) (i:Nat):nth l (i:Int)=l[i]?:=by simp[nth]
def seg (l:List α) (a b:Int):Option (List α):=if 0≤a∧a≤b∧b≤l.length then some ((l.drop a.toNat).take (b.toNat - a.toNat)) else none
def segS (s:ByteArray) (a b:Int):Option ByteArray:=if 0≤a∧a≤b∧b≤s.size then some (s.extract a.toNat b.toNat) else none
def segSl (s:ByteArray) (a:Int):Option ByteArray:=if 0≤a∧a≤s.size then some (s.extract a.toNat s.size) else none
def segSh (s:ByteArray) (b:Int):Option ByteArray:=if 0≤b∧b≤s.size then some (s.extract 0 b.toNat) else none
def segSlh (s:ByteArray) (a b:Int):Option ByteArray:=segS s a b
def atS (s:ByteArray) (i:Int):Option Int:=if 0≤i∧i.toNat<s.size then some (bAt s i.toNat) else none
theorem atS_d {s:ByteArray} {i x:Int} (h:atS s i=some x):0≤i∧i.toNat<s.size∧bAt s i.toNat=x∧i<(s.size:Int):=by
 unfold atS at h;split at h
 ·rename_i hc
  simp at h;exact⟨hc.1,hc.2,h,by omega⟩
 ·simp at h
def room (n b:Nat):Bool:=decide (n*b≤140737488355328∧n≤140737488355328)
def posN (n:Nat):Bool:=decide (0<n)
theorem Bm {n b:Nat} (h:room n b=true):n*b≤140737488355328∧n≤140737488355328:=by simpa [room] using h
end
def addI (k:IntKind) (a b:Int):Int:=k.wrap (a+b)
def subI (k:IntKind) (a b:Int):Int:=k.wrap (a - b)
def mulI (k:IntKind) (a b:Int):Int:=k.wrap (a*b)
def quoI (k:IntKind) (a b:Int):Option Int:=if b≠0 then some (k.wrap (a.tdiv b)) else none
def remI (k:IntKind) (a b:Int):Option Int:=if b≠0 then some (a.tmod b) else none
def andI (k:IntKind) (a b:Int):Int:=k.wrap (BitVec.ofInt k.bits a &&& BitVec.ofInt k.bits b).toNat
def orI (k:IntKind) (a b:Int):Int:=k.wrap (BitVec.ofInt k.bits a ||| BitVec.ofInt k.bits b).toNat
def xorI (k:IntKind) (a b:Int):Int:=k.wrap (BitVec.ofInt k.bits a ^^^ BitVec.ofInt k.bits b).toNat
def shlI (k:IntKind) (a b:Int):Option Int:=if 0≤b then some (k.wrap (a*2 ^ (min b.toNat k.bits))) else none
def shrI (k:IntKind) (a b:Int):Option Int:=if 0≤b then some (a.fdiv (2 ^ (min b.toNat k.bits))) else none
def negI (k:IntKind) (a:Int):Int:=k.wrap (0 - a)
def cvI (k:IntKind) (a:Int):Int:=k.wrap a
def minI (a b:Int):Int:=min a b
def maxI (a b:Int):Int:=max a b
def eqI (a b:Int):Bool:=decide (a=b)
def neI (a b:Int):Bool:=!decide (a=b)
def ltI (a b:Int):Bool:=decide (a<b)
def leI (a b:Int):Bool:=decide (a≤b)
def gtI (a b:Int):Bool:=decide (b<a)
def geI (a b:Int):Bool:=decide (b≤a)
def eqS (a b:ByteArray):Bool:=decide (a=b)
def neS (a b:ByteArray):Bool:=!decide (a=b)
def ltS (a b:ByteArray):Bool:=slt a b
def leS (a b:ByteArray):Bool:=!slt b a
def gtS (a b:ByteArray):Bool:=slt b a
def geS (a b:ByteArray):Bool:=!slt a b
def catS (a b:ByteArray):Option ByteArray:=if a.size+b.size≤9223372036854775807 then some (a++b) else none
def eqB (a b:Bool):Bool:=decide (a=b)
def neB (a b:Bool):Bool:=!decide (a=b)
def notB (a:Bool):Bool:=!a
@[simp] theorem notB_t:notB true=false:=rfl
@[simp] theorem notB_f:notB false=true:=rfl
def andB (a b:Bool):Bool:=a && b
def lenI {α:Type} (l:List α):Int:=(l.length:Int)
def lenS (s:ByteArray):Int:=(s.size:Int)
theorem Ao {α:Type} {l:List α} {n:Int} (h:n=lenI l):(l.length:Int)=n:=h.symm
section
variable {k:IntKind} {a b c:Int}
end
def wo {α:Type} (x:Option α) (k:α→Prop):Prop:=wh x k
section
variable {α β γ:Type} {P:Program} {R:Option Nat} {cx:Cx} {Q:Post} {c c':Code} {st st':St} {tm tm':Tm} {ob ob':List (Option Ob)} {nt:Nat} {gh gh':List Tm} {ls:Option Code}
def nP (mk:α→St) (a:α):Post:=fun e s=>e=.normal∧Weak cx s (mk a)
def xP (id:Nat) (mk:α→St) (a:α):Post:=fun e s=>e=.exit id∧Weak cx s (mk a)
def rP (fn:Func) (res:β→AV) (obs:β→List (Option Ob)) (q:β):Post:=fun e s=>e=.ret∧Left P cx fn (res q) (obs q) s
def sp (p:α→Post) (q:β→Post):α ⊕ β→Post
 |.inl a=>p a
 |.inr b=>q b
theorem sp_l {p:α→Post} {q:β→Post} {a:α}:sp p q (.inl a)=p a:=rfl
theorem sp_r {p:α→Post} {q:β→Post} {b:β}:sp p q (.inr b)=q b:=rfl
theorem nm:(∀ (α β:Type) (p:α→Post) (q:β→Post) a,sp p q (.inl a)=p a)∧(∀ (α β:Type) (p:α→Post) (q:β→Post) b,sp p q (.inr b)=q b)∧(∀ (N:St→Prop) (Q:Post) s,Post.seq N Q .normal s=N s)∧(∀ (N:St→Prop) (Q:Post) s,Post.seq N Q .ret s=Q .ret s)∧(∀ (N:St→Prop) (Q:Post) i s,Post.seq N Q (.exit i) s=Q (.exit i) s)∧(∀ i (Q:Post) s,Post.block i Q .normal s=Q .normal s)∧(∀ i (Q:Post) s,Post.block i Q .ret s=Q .ret s)∧(∀ i (Q:Post) j s,Post.block i Q (.exit j) s=if j=i then Q .normal s else Q (.exit j) s) :=
 ⟨fun _ _ _ _ _=>rfl,fun _ _ _ _ _=>rfl,fun _ _ _=>rfl,fun _ _ _=>rfl,fun _ _ _ _=>rfl,fun _ _ _=>rfl,fun _ _ _=>rfl,fun _ _ _ _=>rfl⟩
theorem oi {α:Type} {a b:α} (h:some a=some b):a=b:=Option.some.inj h
theorem nP_i {mk:α→St} {a:α} {s:St} (h:Weak cx s (mk a)):nP (cx:=cx) mk a .normal s:=⟨rfl,h⟩
theorem xP_i {id:Nat} {mk:α→St} {a:α} {s:St} (h:Weak cx s (mk a)):xP (cx:=cx) id mk a (.exit id) s:=⟨rfl,h⟩
theorem rP_i {fn:Func} {res:β→AV} {obs:β→List (Option Ob)} {q:β} {s:St} (h:Left P cx fn (res q) (obs q) s):rP (P:=P) (cx:=cx) fn res obs q .ret s:=⟨rfl,h⟩
theorem noX {id:Nat} {mk:α→St}:∀ a s,¬ xP (cx:=cx) id mk a .normal s:=fun a s h=>by simp[xP] at h
theorem noR {fn:Func} {res:β→AV} {obs:β→List (Option Ob)}:∀ q s,¬ rP (P:=P) (cx:=cx) fn res obs q .normal s:=fun a s h=>by simp[rP] at h
theorem noS {p:α→Post} {q:β→Post} (h1:∀ a s,¬ p a .normal s) (h2:∀ b s,¬ q b .normal s):∀ y s,¬ sp p q y .normal s
 |.inl a,s=>h1 a s
 |.inr b,s=>h2 b s
def sm (y:α ⊕ β) (f:α→Option γ) (g:β→Option γ):Option γ:=match y with|.inl a=>f a|.inr b=>g b
theorem Ed (a:α) (f:α→Option γ) (g:β→Option γ):sm (.inl a) f g=f a:=rfl
theorem BZ (b:β) (f:α→Option γ) (g:β→Option γ):sm (.inr b) f g=g b:=rfl
theorem smL {a:α} {f:α→Option γ} {g:β→Option γ} {r:γ} (h:sm (.inl a) f g=some r):f a=some r:=h
theorem smR {b:β} {f:α→Option γ} {g:β→Option γ} {r:γ} (h:sm (.inr b) f g=some r):g b=some r:=h
theorem AW.flowR {p:List Tm→Option Code→Post} (hc:AW P R cx c (p gh ls) ⟨tm,ob,nt,gh,ls⟩) (k:∀ e s,p gh ls e s→∃ s2,Weak cx s s2∧Q e s2):AW P R cx c Q ⟨tm,ob,nt,gh,ls⟩:=by
 intro σ a w hr;refine wpIn_mono (hc σ a w hr) ?_;rintro e a' w' ⟨σ',s,hs,hp⟩;obtain⟨s2,hw,hq⟩:=k e s hp;obtain⟨σ2,hs2⟩:=hw σ' a' w' hs;exact⟨σ2,s2,hs2,hq⟩
theorem zD {p:List Tm→Option Code→Post} (hc:AW P R cx c (p gh ls) ⟨tm,ob,nt,gh,ls⟩) (k:∀ e s,p gh ls e s→∃ s2,Weak cx s s2∧Post.seq (AW P R cx c' Q) Q e s2):AW P R cx (.seq c c') Q ⟨tm,ob,nt,gh,ls⟩ :=
 AW.seq (AW.flowR hc k)
theorem zE {n:Nat} {f:α→Option (α ⊕ β)} {a0:α} {b:β} (h:iter n f a0=some b) {mk:List Tm→Option Code→α→St} {N:List Tm→Option Code→β→Post} (h0:Weak cx ⟨tm,ob,nt,gh,ls⟩ (mk gh ls a0)) (hN:∀ b s,¬ N gh ls b .normal s)
  (body:∀ a o,f a=some o→AW P R cx c (sp (nP (cx:=cx) (mk gh ls)) (N gh ls) o) (mk gh ls a)) (k:∀ e s,N gh ls b e s→∃ s2,Weak cx s s2∧Q e s2):AW P R cx (.loop c) Q ⟨tm,ob,nt,gh,ls⟩:=by
 refine AW.flowR (p:=fun gh ls=>N gh ls b) ?_ k;refine AW.loop (fun s m=>∃ a,s=mk gh ls a∧iter m f a=some b) (n:=n) ⟨_,h0,a0,rfl,h⟩ ?_;rintro s m ⟨a,rfl,hm⟩;cases m with
 |zero=>simp[iter] at hm
 |succ m =>
  rw[iter] at hm;cases hf:f a with
  |none=>rw[hf] at hm;simp at hm
  |some o =>
   rw[hf] at hm;refine AW.mono (body a o hf) ?_;intro e s' hs;cases o with
   |inl a' =>
    obtain⟨rfl,hw⟩:=hs;exact⟨_,m,hw,⟨a',rfl,hm⟩,Nat.lt_succ_self m⟩
   |inr b' =>
    simp at hm;subst hm;have hs':N gh ls b' e s':=hs;cases e with
    |normal=>exact (hN _ _ hs').elim
    |_=>exact hs'
def tP (mk:α→St) (a:α):Post:=fun e s=>e=.ret∧Weak cx s (mk a)
theorem tP_i {mk:α→St} {a:α} {s:St} (h:Weak cx s (mk a)):tP (cx:=cx) mk a .ret s:=⟨rfl,h⟩
theorem noT {mk:α→St}:∀ a s,¬ tP (cx:=cx) mk a .normal s:=fun a s h=>by simp[tP] at h
theorem zA (nb:Nat) (ids:List (Option Nat)) (hn:cx.nb=nb) (hpre:ids.take nb=idr nb) (hnd:(ids.filterMap fun x=>x).Nodup) (htm:∀ e∈tm',(lk tm e.1).ren (inv ids)=e.2) (hob:pickOb ids ob=ob') (hgh:gh.map (Tm.ren (inv ids))=gh') :
  Weak cx ⟨tm,ob,nt,gh,ls⟩ ⟨tm',ob',nt,gh',ls⟩:=by
 subst hob;subst hgh;have key:∀ l:Tm,(∀ e∈l,(lk tm e.1).ren (inv ids)=e.2)→∀ i,lk l i=(lk tm i).ren (inv ids)∨lk l i=.l .u:=by
  intro l;induction l with
  |nil=>intro _ i;exact .inr rfl
  |cons e l ih =>
   intro h i;rw[A5];split
   ·rename_i hi
    subst hi;exact .inl (h e (by simp)).symm
   ·exact ih (fun e' he'=>h e' (by simp[he'])) i
 have hlen:nb≤ids.length:=by
  have:=congrArg List.length hpre;simp[idr] at this;omega
 refine Weak.ren (st:=⟨tm,ob,nt,gh,ls⟩) ids tm' (Gd ids hnd) (by omega) (fun i o hi ho=>?_) (key tm' htm);rw[hn] at hi;have h1:(ids.take nb)[i]?=some (some o):=by rw[List.getElem?_take_of_lt hi];exact ho
 rw[hpre,idr,List.getElem?_map,List.getElem?_range hi] at h1;simp at h1;exact h1.symm
theorem W.nilRow (i ty sz n:Nat) {s':St} (h:lk tm i=.l (.s (.slice none 0 0))) (hn:ob.length=n) (ho:ob++[some ⟨ty,sz,true,none,[]⟩]=ob') (k:Weak cx ⟨(i,.l (.r n sz 0 0))::tm,ob',nt,gh,ls⟩ s'):Weak cx ⟨tm,ob,nt,gh,ls⟩ s':=by
 subst hn;subst ho;exact Weak.trans (Weak.nilRow (st:=⟨tm,ob,nt,gh,ls⟩) i ty sz h) k
theorem W.nilCell (o j ty sz n:Nat) {z:Ob} {s':St} (hz:ob[o]?=some (some z)) (hj:z.cs[j]?=some (.s (.slice none 0 0))) (hrow:z.row=false) (hn:ob.length=n) (ho:ob.set o (some { z with cs:=z.cs.set j (.r n sz 0 0) })++[some ⟨ty,sz,true,none,[]⟩]=ob') (k:Weak cx ⟨tm,ob',nt,gh,ls⟩ s'):Weak cx ⟨tm,ob,nt,gh,ls⟩ s':=by
 subst hn;subst ho;exact Weak.trans (Weak.nilCell (z:=z) o j ty sz hz hj hrow) k
theorem W.frzRow (o:Nat) {ty sz:Nat} {cap:Option Nat} {es:List (List T)} {s':St} (hz:ob[o]?=some (some ⟨ty,sz,true,cap,lvs es⟩)) (h0:0<sz) (hes:∀ e∈es,e.length=sz)
  (hm:es.length≤140737488355328) (h1:Tm.frz o sz es tm=tm') (h2:(ob.set o none).map (Option.map (Ob.frz o sz es))=ob') (h3:gh.map (Tm.frz o sz es)=gh') (k:Weak cx ⟨tm',ob',nt,gh',ls⟩ s'):Weak cx ⟨tm,ob,nt,gh,ls⟩ s':=by
 subst h1;subst h2;subst h3;exact Weak.trans (Weak.freeze (st:=⟨tm,ob,nt,gh,ls⟩) (o:=o) (sz:=sz) (z:=⟨ty,sz,true,cap,lvs es⟩) (es:=es) (by simp[St.obj,hz]) rfl rfl h0 rfl hes hm) k
end
section
variable {P:Program} {st:St} {t e o n k:Nat} {x:AV} {z:List Value} {ag:Bool} {sz by':Nat} {acc ys:List (List T)} {d:Option Nat} {K:St→Prop}
theorem Bv {t e n k:Nat} {x:AV} {z:List Value} {ag:Bool} {sz by' o:Nat} {cap:Option Nat} {acc ys:List (List T)} {d:Option Nat} {K:St→Prop} (he:elemF P t=some e) (hti:tiF P e=some ⟨ag,sz,by',z⟩) (hz:st.obj o=some ⟨e,sz,true,cap,lvs acc⟩)
  (hq:st.src sz x=some (k,lvs ys)) (hacc:∀ e∈acc,e.length=sz) (hn:acc.length=n) (h1:z.length=sz∧0<sz∧0<by') (h4:(n+k)*by'≤140737488355328)
  (hk:K (St.put { st with ob:=st.ob.set o none++[some ⟨e,sz,true,none,lvs (acc++ys)⟩] } d (.l (.r st.ob.length sz 0 (n+k))))):xapp P t (.l (.r o sz 0 n)) x st d K:=by
 subst hn;refine JM (ti:=⟨ag,sz,by',z⟩) (q:=(k,lvs ys)) he hti h1 hq hz ⟨rfl,rfl,rfl,rfl⟩ (by simp[BJ hacc]) h4 ?_;rw[show (⟨e,sz,true,cap,lvs acc⟩:Ob).cs++(k,lvs ys).2=lvs (acc++ys) from (Eu _ _).symm];exact hk
end
@[simp] theorem lvs_nil:lvs []=[]:=rfl
theorem VwL.own' {st:St} {ids:List Nat} {o i sz lo hi hi':Nat} (h:inv (ids.map some) o=some i) (e:hi=hi'):VwL st ids (.r o sz lo hi) (.r i sz lo hi'):=by
 subst e;exact .own h
def lenB {α β:Type} (l:List α) (m:List β):Bool:=decide (l.length=m.length)
theorem La {α β:Type} {l:List α} {m:List β} (h:lenB l m=true):l.length=m.length:=of_decide_eq_true h
theorem Am {α β:Type} {l:List α} {m:List β} (h:lenB l m=true):m.length=l.length:=(La h).symm
theorem ptrV {st:St} {ids:List Nat} {o i off:Nat} (h:inv (ids.map some) o=some i):VwL st ids (.p o off) (.p i off):=by
 have:=VwL.ren (st:=st) (ids:=ids) (.p o off);simpa [h] using this
theorem Fq {C D:St→List AV→Prop} (h:∀ s a,C s a→D s a):∀ (rs:List Nat) (st:St) (avs:List AV),aliases rs st avs C→aliases rs st avs D
 |[],_,_,hc=>h _ _ hc
 |o::rs,st,avs,⟨x,h1,h2,h3⟩=>⟨x,h1,h2,Fq h rs _ _ h3⟩
theorem FN {P:Program} {f:Nat} {st:St} {dst:Option Nat} {K:St→Prop} {avs cargs:List AV} {obs:List Ob} {obs':List (Option Ob)} {res:AV} (rs ids:List Nat) {st1:St} {avs1:List AV} (hal:aliases rs st avs fun s a=>s=st1∧a=avs1)
  (he:Enters P f) (hs:Sound P f cargs obs res obs') (hnd:ids.Nodup) (hlt:ids.all (fun i=>decide (i<st1.ob.length))=true) (hids:ids.all (fun i=>decide (st.ob.length≤i))=true) (hob:pickOb (ids.map some) st1.ob=obs.map some) (hrow:obs.all (·.row)=true) (hrow':obs'.all (fun x=>match x with|some y=>y.row|none=>true)=true)
  (hna:res.na=true) (hona:obs'.all (fun x=>match x with|some x=>x.na|none=>true)=true) (hlen:ids.length≤obs'.length) (hv:All2 (Vw st1 ids) avs1 cargs)
  (hk:K (St.put { st with ob:=obAfter st1 ids obs' } dst (res.ren (outR ids st1.ob.length)))):xcall P f avs st dst K:=by
 have key:∀ i o:Nat,ids[i]?=some o→∃ z,st1.ob[o]?=some (some z)∧z.row=true:=by
  intro i o hi;have h1:(pickOb (ids.map some) st1.ob)[i]?=(obs.map some)[i]?:=by rw[hob]
  have hl:ids.length=obs.length:=by have:=congrArg List.length hob;simpa [pickOb] using this
  have hlt:=(List.getElem?_eq_some_iff.1 hi).1;have h2:obs[i]?=some obs[i]:=List.getElem?_eq_getElem (by omega);rw[List.getElem?_map,h2] at h1;obtain⟨o',y,g1,g2,g3⟩:=Bk h1;rw[List.getElem?_map,hi] at g1;simp at g1;subst g1;refine⟨y,g2,?_⟩;have h3:=List.all_eq_true.1 hrow _ (List.mem_of_getElem? h2);rw[g3] at h3;exact h3
 have hobj:∀ o z,st1.ob[o]?=some (some z)→st1.obj o=some z:=by
  intro o z h;simp[St.obj,h]
 refine .inr (.inr ⟨rs,Fq ?_ rs st avs hal⟩);rintro s a ⟨rfl,rfl⟩;refine⟨ids,obs,obs',res,cargs,he,hs,⟨hnd,?_,hob,?_,?_,hna,hona,hlen⟩,hv,?_,hk⟩
 ·intro i hi;have:=List.all_eq_true.1 hlt i hi;simpa using this
 ·intro i o z hi hz hr;obtain⟨z',hz',hr'⟩:=key i o hi;rw[hobj o z' hz'] at hz;simp at hz;subst hz;rw[hr'] at hr;simp at hr
 ·intro i o z y hi hz hy;obtain⟨z',hz',hr'⟩:=key i o hi;rw[hobj o z' hz'] at hz;simp at hz;subst hz;have:=List.all_eq_true.1 hrow' _ (List.mem_of_getElem? hy);simp only at this;rw[this,hr']
 ·intro i hi;have:=List.all_eq_true.1 hids i hi;simpa using this
@[simp] theorem lvs_frz (o sz:Nat) (fs es:List (List T)):(lvs es).map (LV.frz o sz fs)=lvs es:=by
 unfold lvs;rw[List.map_flatMap];congr 1
 funext e
 rw[List.map_map];congr 1
 funext x
 cases x <;> rfl
theorem xopsY.yield {P:Program} {cxI:Cx} {l nt:Nat} {ps:Array Tmp} {assign body:Code} {ops:Array Oper} {K:St→Prop} (hY:YCx cxI l nt ps assign body) (i n:Nat) {o:Oper} {c0:Call} {g:Operand} {st:St} {tm1:Tm} {ob1:List (Option Ob)} {nt1:Nat} {tmO:Tm} {gh:List Tm}
  (ho:ops[n]?=some o) (hop:o.op=.call c0) (hc:c0.callee=.value g) (hin:i≤n) {s1:St} (hpre:xops P ops ((ops.toList.drop i).take (n - i)) st (fun s=>s=s1)) (hs1:s1=⟨tm1,ob1,nt1,tmO::gh,none⟩)
  (hgd:match o.guard with|none=>True|some (j,want)=>yd ops ⟨tm1,ob1,nt1,tmO::gh,none⟩ j=some (some want)) (hg:St.ev ⟨tm1,ob1,nt1,tmO::gh,none⟩ g=.l (.s (.func (.yield l) #[] #[])))
  (hlen:c0.args.size=ps.size) {st2:St} (hst2:puts (ps.toList.zip (c0.args.toList.map (St.ev ⟨tm1,ob1,nt1,tmO::gh,none⟩))) ⟨tmO,ob1,nt,tm1::tmO::gh,none⟩=st2)
  (h:∀ cxR,cxR.nb=cxI.nb→AW P (some l) cxR assign (asgQ fun s1=>AW P (some l) cxR body (roundQ o.dst nt1 fun s3=>xopsY P none cxI ops (ops.toList.drop (n+1)) (n+1) s3 K) { s1 with ls:=some .skip }) st2) :
  xopsY P none cxI ops (ops.toList.drop i) i st K:=by
 subst hst2;subst hs1;have hn:n<ops.size:=(Array.getElem?_eq_some_iff.1 ho).1;have h1:ops.toList.drop n=o::ops.toList.drop (n+1):=by
  have hl:n<ops.toList.length:=by simpa using hn
  rw[List.drop_eq_getElem_cons hl];congr 1
  have:=(Array.getElem?_eq_some_iff.1 ho).2;simpa using this
 have hsplit:ops.toList.drop i=(ops.toList.drop i).take (n - i)++o::ops.toList.drop (n+1):=by
  rw[← h1];have:ops.toList.drop n=(ops.toList.drop i).drop (n - i):=by rw[List.drop_drop];congr 1;omega
  rw[this,List.take_append_drop]
 have htl:((ops.toList.drop i).take (n - i)).length=n - i:=by simp;omega
 have key:=Fn (P:=P) (R:=none) (cx:=cxI) (ops:=ops) (K:=K) (s1:=⟨tm1,ob1,nt1,tmO::gh,none⟩) (o::ops.toList.drop (n+1)) ((ops.toList.drop i).take (n - i)) i st hsplit hpre (by
  rw[htl,show i+(n - i)=n by omega];show OpG P none cxI ops n _ _;exact OpG.fam ho hgd (OpFam.yield hY hop hc hg rfl rfl hlen fun cxR hR=>h cxR hR))
 rw[← hsplit] at key;exact key
theorem AW.stepYK {P:Program} {R:Option Nat} {cx:Cx} {ops:Array Oper} {Q:Post} {st:St} {id:Nat} {c:Code} (h:xopsY P R cx ops (ops.toList.drop 0) 0 st (KK (AW P R cx c Q))):AW P R cx (.seq (.region id ops false) c) Q st :=
 AW.stepY (KK (AW P R cx c Q)) h fun s hs=>hs
theorem AW.drawnYP {P:Program} {cx:Cx} {ops:Array Oper} {V:List AV} {Q:Post} {R:Option Nat} {tm tm':Tm} {ob:List (Option Ob)} {nt:Nat} {gh:List Tm} {ls:Option Code} (hm:P.follows .mixedOrders=true) {id:Nat} {c:Code} (D:List DI) (n1:Nat) (hc:chkD ops D n1=true) (he:D.all (fun d=>!d.ef && d.ks.all (· == 0))=true) (hO:ObP P ops tm V ob nt gh ls ops.toList D V) (hV:V.length=n1)
  (htm:tmD ops.toList V tm=tm') (hx:xopsY P R cx ops (ops.toList.drop n1) n1 ⟨tm',ob,nt,gh,ls⟩ (KK (AW P R cx c Q))):AW P R cx (.seq (.region id ops true) c) Q ⟨tm,ob,nt,gh,ls⟩:=by
 subst htm;have h1:D.all (fun d=>!d.ef)=true:=List.all_eq_true.2 fun d hd=>by
  have:=List.all_eq_true.1 he d hd;simp only[Bool.and_eq_true] at this;exact this.1
 refine AW.drawnY hm D n1 V [ob] (KK (AW P R cx c Q)) hc hV rfl (ObP.obl tm _ _ _ (fun d hd=>?_) hO) (me:=ob) (by rw[Fz h1];rfl) hx fun s hs=>hs;have:=List.all_eq_true.1 he d hd;simp only[Bool.and_eq_true,List.all_eq_true] at this;exact⟨by simpa using this.1,fun k hk=>by simpa using this.2 k hk⟩
theorem KD.mkN {tm:Tm} {ob:List (Option Ob)} {nt:Nat} {gh:List Tm} {ls:Option Code}:KD none (.l .u) tm ob nt gh ls ⟨tm,ob,nt,gh,ls⟩:=⟨.l .u,fun _=>rfl,rfl,rfl,rfl,rfl,rfl⟩
theorem xopsY.run {P:Program} {R:Option Nat} {cx:Cx} {ops:Array Oper} {K:St→Prop} {st s1:St} (i n:Nat) (hin:i≤n) (hn:n≤ops.size) (hpre:xops P ops ((ops.toList.drop i).take (n - i)) st (fun s=>s=s1)) (k:xopsY P R cx ops (ops.toList.drop n) n s1 K):xopsY P R cx ops (ops.toList.drop i) i st K:=by
 have hsplit:ops.toList.drop i=(ops.toList.drop i).take (n - i)++ops.toList.drop n:=by
  have:ops.toList.drop n=(ops.toList.drop i).drop (n - i):=by rw[List.drop_drop];congr 1;omega
  rw[this,List.take_append_drop]
 have htl:((ops.toList.drop i).take (n - i)).length=n - i:=by simp;omega
 have key:=Fn (P:=P) (R:=R) (cx:=cx) (ops:=ops) (K:=K) (s1:=s1) (ops.toList.drop n) ((ops.toList.drop i).take (n - i)) i st hsplit hpre (by
  rw[htl,show i+(n - i)=n by omega];exact k)
 rw[← hsplit] at key;exact key
theorem AW.lastYK {P:Program} {R:Option Nat} {cx:Cx} {ops:Array Oper} {Q:Post} {st:St} {id:Nat} (h:xopsY P R cx ops (ops.toList.drop 0) 0 st (KK (Q .normal))):AW P R cx (.region id ops false) Q st:=by
 have key:∀ (os:List Oper) (i:Nat) (s:St),ops.toList.drop i=os→xopsY P R cx ops os i s (KK (Q .normal))→AO P R cx ops Q (List.range' i os.length) s:=by
  intro os;induction os with
  |nil=>intro i s _ hx σ a w hr;exact⟨σ,s,hr,hx⟩
  |cons o os ih =>
   intro i s hd hx σ a w hr;rw[List.length_cons,List.range'_succ,wpOpsIn_cons];refine hx _ _ σ a w (fun σ' s' a' w' hk hr'=>?_) hr;refine ih (i+1) s' ?_ hk σ' a' w' hr';have:=congrArg (List.drop 1) hd;simpa [Nat.add_comm] using this
 refine AW.region ?_;have:=key ops.toList 0 st rfl h;rw[← List.range_eq_range'] at this;simpa using this
@[simp] theorem nl_eq (a:LV):NilLe a a=True:=eq_true (Or.inl rfl)
theorem Bo {st:St} {dst:Option Nat} {e sz len:Nat} {cs:List LV} {p:Prop} {K:St→Prop} (k:K ((st.add ⟨e,sz,true,none,cs⟩).put dst (hdr st.ob.length sz len))):xrow st dst e sz len cs p K:=Or.inl ⟨cs,NilLe.refls cs,k⟩
theorem Ee {st:St} {dst:Option Nat} {e sz len:Nat} {cs:List LV} {p:Prop} {K:St→Prop} {es:List (List T)} (h:All2 NilLe cs (lvs es)) (hes:∀ x∈es,x.length=sz) (h0:0<sz) (hl:len=es.length)
  (k:K (st.put dst (.l (.d false sz es)))):xrow st dst e sz len cs p K:=Or.inr (.inl ⟨es,h,hes,h0,hl,k⟩)
def strL (xs:List Int):ByteArray:=⟨(xs.map fun x=>UInt8.ofNat x.toNat).toArray⟩
theorem lvs1 (e:List T):lvs [e]=e.map (T.lv false):=by simp[lvs]
theorem Ac {α:Type} {l m:List α} {i:Nat} {x:α} (h:m=l.set i x):l.length=m.length:=by simp[h]
theorem It {α:Type} {l m k:List α} (h:k=l++m):l.length+m.length=k.length:=by simp[h]
theorem Az {α:Type} {l k:List α} {x:α} (h:k=l++[x]):l.length+1=k.length:=by simp[h]
section
variable {α:Type} {r:α→List T} {n:Nat} {xs ys:List α} {i j k:Nat} {x x':α} {cs:List LV}
theorem g_sz (hr:∀ x,(r x).length=n):∀ e∈xs.map r,e.length=n:=by
 intro e he;obtain⟨x,_,rfl⟩:=List.mem_map.1 he;exact hr x
theorem Hq (hx:xs[i]?=some x):(xs.map r)[i]?=some (r x):=by simp[hx]
theorem Ji (hr:∀ x,(r x).length=n) (hx:xs[i]?=some x) (hj:j<n):(lvs (xs.map r))[i*n+j]?=(lvs [r x])[j]?:=HK (g_sz hr) (Hq hx) hj
theorem Iu (hr:∀ x,(r x).length=n) (h0:0<n) (hx:xs[i]?=some x):(lvs (xs.map r))[i*n]?=(lvs [r x])[0]?:=by
 have:=HK (j:=0) (g_sz hr) (Hq (r:=r) hx) h0;simpa using this
theorem Jj (hr:∀ x,(r x).length=n) (hx:xs[i]?=some x) (hk:k≤n):((lvs (xs.map r)).drop (i*n)).take k=((lvs [r x]).drop 0).take k:=by
 have:=Ku (j:=0) (k:=k) (g_sz hr) (Hq (r:=r) hx) (by omega);simpa using this
theorem Hr (hr:∀ x,(r x).length=n) (hx:xs[i]?=some x) (hy:ys=xs.set i x') (hj:j+cs.length≤n) (he:setAt (lvs [r x]) j cs=lvs [r x']):setAt (lvs (xs.map r)) (i*n+j) cs=lvs (ys.map r):=by
 rw[Kv (g_sz hr) (Hq hx) hj he,hy,List.map_set]
theorem Jk (hr:∀ x,(r x).length=n) (hx:xs[i]?=some x) (hy:ys=xs.set i x') (hj:cs.length≤n) (he:setAt (lvs [r x]) 0 cs=lvs [r x']):setAt (lvs (xs.map r)) (i*n) cs=lvs (ys.map r):=by
 have:=Hr (j:=0) hr hx hy (by omega) he;simpa using this
theorem Hs (hr:∀ x,(r x).length=n) (hx:xs[i]?=some x) {m:Nat} (hm:m≤n):i*n+m≤(lvs (xs.map r)).length:=by
 have h1:=BJ (g_sz (xs:=xs) hr);rw[h1,List.length_map];have hi:=(List.getElem?_eq_some_iff.1 hx).1;have h2:(i+1)*n≤xs.length*n:=Nat.mul_le_mul_right _ hi;rw[Nat.add_mul] at h2;omega
end
section
variable {α:Type} {l m:List α} {a b:Int}
def segl (l:List α) (a:Int):Option (List α):=if 0≤a∧a≤l.length then some (l.drop a.toNat) else none
def segh (l:List α) (b:Int):Option (List α):=if 0≤b∧b≤l.length then some (l.take b.toNat) else none
def seglh (l:List α) (a b:Int):Option (List α):=seg l a b
theorem Lb (h:segl l a=some m):0≤a∧a.toNat≤l.length∧l.drop a.toNat=m∧a≤(l.length:Int):=by
 unfold segl at h;split at h
 ·simp at h;exact⟨by omega,by omega,h,by omega⟩
 ·simp at h
theorem Lc (h:segh l b=some m):0≤b∧b.toNat≤l.length∧l.take b.toNat=m∧b≤(l.length:Int):=by
 unfold segh at h;split at h
 ·simp at h;exact⟨by omega,by omega,h,by omega⟩
 ·simp at h
variable {β:Type} {r:α→β}
theorem HM (h:segl l a=some m):0≤a∧a.toNat≤l.length∧List.take (l.length - a.toNat) (List.drop a.toNat (l.map r))=m.map r∧a≤(l.length:Int):=by
 obtain⟨h1,h2,h3,h4⟩:=Lb h;refine⟨h1,h2,?_,h4⟩;rw[← h3,List.map_drop,List.take_of_length_le];simp
theorem Ld (h:segh l b=some m):0≤b∧b.toNat≤l.length∧List.take b.toNat (l.map r)=m.map r∧b≤(l.length:Int):=by
 obtain⟨h1,h2,h3,h4⟩:=Lc h;exact⟨h1,h2,by rw[← h3,List.map_take],h4⟩
end
def mkB (n:Int) (b:Nat):Bool:=decide (0≤n∧n.toNat*b≤140737488355328∧n≤140737488355328)
section
variable {P:Program} {t e:Nat} {ti:TI} {n:Int} {k k':IntKind} {st:St} {dst:Option Nat} {K:St→Prop} {α:Type} {enc:List α→List (List T)} {r:α→List T} {z:α} {v:List α}
end
end Go.Proofs.Ytenemndpignaoaa
namespace Go.Proofs.Ytenemndpignaoaa
open Go Go.RowKit
theorem Ag {xs:List Int} {i:Nat} {x:Int} (hx:xs[i]?=some x):(lvs (encI xs))[i]?=(lvs [[.v (.int .i64 x)]])[0]?:=by have:=Iu (r:=fun x:Int=>[.v (.int .i64 x)]) (n:=1) (fun _=>rfl) (by decide) hx;rw[Nat.mul_one] at this;exact this
theorem AN {xs ys:List Int} {i:Nat} {x x':Int} {cs:List LV} (hx:xs[i]?=some x) (hy:ys=xs.set i x') (hj:cs.length≤1) (he:setAt (lvs [[.v (.int .i64 x)]]) 0 cs=lvs [[.v (.int .i64 x')]]):setAt (lvs (encI xs)) (i) cs=lvs (encI ys):=by have:=Jk (r:=fun x:Int=>[.v (.int .i64 x)]) (n:=1) (fun _=>rfl) hx hy hj he;rw[Nat.mul_one] at this;exact this
theorem Ak {xs:List Int} {i:Nat} {x:Int} (hx:xs[i]?=some x) {m:Nat} (hm:m≤1):i+m≤(lvs (encI xs)).length:=by have:=Hs (r:=fun x:Int=>[.v (.int .i64 x)]) (n:=1) (fun _=>rfl) hx hm;rw[Nat.mul_one] at this;exact this
@[simp] theorem encI_tk (l:List Int):(encI l).take l.length=encI l:=List.take_of_length_le (by simp)
theorem Jl {l m:List Int} {a:Int} (h:segl l a=some m):0≤a∧a.toNat≤l.length∧List.take (l.length - a.toNat) (List.drop a.toNat (encI l))=encI m∧a≤(l.length:Int):=HM h
theorem GX {l m:List Int} {b:Int} (h:segh l b=some m):0≤b∧b.toNat≤l.length∧List.take b.toNat (encI l)=encI m∧b≤(l.length:Int):=Ld h
theorem CO {xs:List Claim} {i k:Nat} {x:Claim} (hx:xs[i]?=some x) (hk:k≤4):((lvs (Au xs)).drop (i*4)).take k=((lvs [[.v (.int .i64 x.frm),.v (.int .i64 x.to),.v (.int .i64 x.node),.v (.int .i64 x.epoch)]]).drop 0).take k:=Jj (r:=fun x:Claim=>[.v (.int .i64 x.frm),.v (.int .i64 x.to),.v (.int .i64 x.node),.v (.int .i64 x.epoch)]) (fun _=>rfl) hx hk
theorem HN {xs ys:List Claim} {i j:Nat} {x x':Claim} {cs:List LV} (hx:xs[i]?=some x) (hy:ys=xs.set i x') (hj:j+cs.length≤4) (he:setAt (lvs [[.v (.int .i64 x.frm),.v (.int .i64 x.to),.v (.int .i64 x.node),.v (.int .i64 x.epoch)]]) j cs=lvs [[.v (.int .i64 x'.frm),.v (.int .i64 x'.to),.v (.int .i64 x'.node),.v (.int .i64 x'.epoch)]]):setAt (lvs (Au xs)) (i*4+j) cs=lvs (Au ys):=Hr (r:=fun x:Claim=>[.v (.int .i64 x.frm),.v (.int .i64 x.to),.v (.int .i64 x.node),.v (.int .i64 x.epoch)]) (fun _=>rfl) hx hy hj he
theorem Cy {xs:List Claim} {i:Nat} {x:Claim} (hx:xs[i]?=some x) {m:Nat} (hm:m≤4):i*4+m≤(lvs (Au xs)).length:=Hs (r:=fun x:Claim=>[.v (.int .i64 x.frm),.v (.int .i64 x.to),.v (.int .i64 x.node),.v (.int .i64 x.epoch)]) (fun _=>rfl) hx hm
theorem Hc {xs:List Claim} {i j:Nat} {x:Claim} (hx:xs[i]?=some x) {m:Nat} (hm:j+m≤4):i*4+j+m≤(lvs (Au xs)).length:=by rw[Nat.add_assoc];exact Cy hx hm
@[simp] theorem Lu (l:List Claim):(Au l).take l.length=Au l:=List.take_of_length_le (by simp)
theorem He {l m:List Claim} {a:Int} (h:segl l a=some m):0≤a∧a.toNat≤l.length∧List.take (l.length - a.toNat) (List.drop a.toNat (Au l))=Au m∧a≤(l.length:Int):=HM h
theorem Hf (al:Bool) (l:List Claim):lvsA al (Au l)=lvs (Au l):=by simp[lvsA,lvs,Au,List.flatMap_map]
structure ApiStep where
 slot:Int
 frm:Int
 to:Int
deriving DecidableEq,Inhabited
attribute [ext] ApiStep
def AG (l:List ApiStep):List (List T):=l.map fun x=>[.v (.int .i64 x.slot),.v (.int .i64 x.frm),.v (.int .i64 x.to)]
theorem EJ (x:ApiStep):lvs (AG [x])=[.s (.int .i64 x.slot),.s (.int .i64 x.frm),.s (.int .i64 x.to)]:=rfl
@[simp] theorem JG (l:List ApiStep):(AG l).length=l.length:=by simp[AG]
@[simp high] theorem Kx (l:List ApiStep) (i:Nat):(AG l)[i]?=(l[i]?).map fun x=>[.v (.int .i64 x.slot),.v (.int .i64 x.frm),.v (.int .i64 x.to)]:=by simp[AG]
@[simp] theorem Ky:AG []=[]:=rfl
theorem Dn (l m:List ApiStep):AG (l++m)=AG l++AG m:=by simp[AG]
theorem Fa (l:List ApiStep):∀ e∈AG l,e.length=3:=by
 intro e h;obtain⟨x,_,rfl⟩:=List.mem_map.1 h;rfl
@[simp] theorem KX (l:List ApiStep):(AG l).take l.length=AG l:=List.take_of_length_le (by simp)
def Kz (l:List Int):List (List T):=l.map fun x=>[.v (.int .u16 x)]
@[simp] theorem Lv:Kz []=[]:=rfl
structure Span where
 frm:Int
 to:Int
deriving DecidableEq,Inhabited
attribute [ext] Span
def Ah (l:List Span):List (List T):=l.map fun x=>[.v (.int .i64 x.frm),.v (.int .i64 x.to)]
theorem BF (x:Span):lvs (Ah [x])=[.s (.int .i64 x.frm),.s (.int .i64 x.to)]:=rfl
@[simp] theorem EV (l:List Span):(Ah l).length=l.length:=by simp[Ah]
@[simp high] theorem Lw (l:List Span) (i:Nat):(Ah l)[i]?=(l[i]?).map fun x=>[.v (.int .i64 x.frm),.v (.int .i64 x.to)]:=by simp[Ah]
@[simp] theorem Lx:Ah []=[]:=rfl
theorem At (l m:List Span):Ah (l++m)=Ah l++Ah m:=by simp[Ah]
theorem Bh (l:List Span):∀ e∈Ah l,e.length=2:=by
 intro e h;obtain⟨x,_,rfl⟩:=List.mem_map.1 h;rfl
theorem BG {xs:List Span} {i j:Nat} {x:Span} (hx:xs[i]?=some x) (hj:j<2):(lvs (Ah xs))[i*2+j]?=(lvs [[.v (.int .i64 x.frm),.v (.int .i64 x.to)]])[j]?:=Ji (r:=fun x:Span=>[.v (.int .i64 x.frm),.v (.int .i64 x.to)]) (fun _=>rfl) hx hj
theorem Ae {xs:List Span} {i k:Nat} {x:Span} (hx:xs[i]?=some x) (hk:k≤2):((lvs (Ah xs)).drop (i*2)).take k=((lvs [[.v (.int .i64 x.frm),.v (.int .i64 x.to)]]).drop 0).take k:=Jj (r:=fun x:Span=>[.v (.int .i64 x.frm),.v (.int .i64 x.to)]) (fun _=>rfl) hx hk
theorem FO {xs ys:List Span} {i j:Nat} {x x':Span} {cs:List LV} (hx:xs[i]?=some x) (hy:ys=xs.set i x') (hj:j+cs.length≤2) (he:setAt (lvs [[.v (.int .i64 x.frm),.v (.int .i64 x.to)]]) j cs=lvs [[.v (.int .i64 x'.frm),.v (.int .i64 x'.to)]]):setAt (lvs (Ah xs)) (i*2+j) cs=lvs (Ah ys):=Hr (r:=fun x:Span=>[.v (.int .i64 x.frm),.v (.int .i64 x.to)]) (fun _=>rfl) hx hy hj he
theorem AB {xs ys:List Span} {i:Nat} {x x':Span} {cs:List LV} (hx:xs[i]?=some x) (hy:ys=xs.set i x') (hj:cs.length≤2) (he:setAt (lvs [[.v (.int .i64 x.frm),.v (.int .i64 x.to)]]) 0 cs=lvs [[.v (.int .i64 x'.frm),.v (.int .i64 x'.to)]]):setAt (lvs (Ah xs)) (i*2) cs=lvs (Ah ys):=Jk (r:=fun x:Span=>[.v (.int .i64 x.frm),.v (.int .i64 x.to)]) (fun _=>rfl) hx hy hj he
theorem Ad {xs:List Span} {i:Nat} {x:Span} (hx:xs[i]?=some x) {m:Nat} (hm:m≤2):i*2+m≤(lvs (Ah xs)).length:=Hs (r:=fun x:Span=>[.v (.int .i64 x.frm),.v (.int .i64 x.to)]) (fun _=>rfl) hx hm
theorem DX {xs:List Span} {i j:Nat} {x:Span} (hx:xs[i]?=some x) {m:Nat} (hm:j+m≤2):i*2+j+m≤(lvs (Ah xs)).length:=by rw[Nat.add_assoc];exact Ad hx hm
@[simp] theorem LF (l:List Span):(Ah l).take l.length=Ah l:=List.take_of_length_le (by simp)
theorem DY {l m:List Span} {a:Int} (h:segl l a=some m):0≤a∧a.toNat≤l.length∧List.take (l.length - a.toNat) (List.drop a.toNat (Ah l))=Ah m∧a≤(l.length:Int):=HM h
def JR (l:List (List Span)):List (List T):=l.map fun x=>[.sl 2 (Ah x)]
@[simp] theorem Le:JR []=[]:=rfl
structure BalanceShare where
 node:Int
 own:List Span
 n:Int
deriving DecidableEq,Inhabited
attribute [ext] BalanceShare
def Ap (l:List BalanceShare):List (List T):=l.map fun x=>[.v (.int .i64 x.node),.sl 2 (Ah x.own),.v (.int .i64 x.n)]
theorem E0 (x:BalanceShare):lvs (Ap [x])=[.s (.int .i64 x.node),.d false 2 (Ah x.own),.s (.int .i64 x.n)]:=rfl
@[simp] theorem Ia (l:List BalanceShare):(Ap l).length=l.length:=by simp[Ap]
@[simp high] theorem I6 (l:List BalanceShare) (i:Nat):(Ap l)[i]?=(l[i]?).map fun x=>[.v (.int .i64 x.node),.sl 2 (Ah x.own),.v (.int .i64 x.n)]:=by simp[Ap]
@[simp] theorem I7:Ap []=[]:=rfl
theorem BW (l m:List BalanceShare):Ap (l++m)=Ap l++Ap m:=by simp[Ap]
theorem Ef (l:List BalanceShare):∀ e∈Ap l,e.length=3:=by
 intro e h;obtain⟨x,_,rfl⟩:=List.mem_map.1 h;rfl
theorem Al {xs:List BalanceShare} {i j:Nat} {x:BalanceShare} (hx:xs[i]?=some x) (hj:j<3):(lvs (Ap xs))[i*3+j]?=(lvs [[.v (.int .i64 x.node),.sl 2 (Ah x.own),.v (.int .i64 x.n)]])[j]?:=Ji (r:=fun x:BalanceShare=>[.v (.int .i64 x.node),.sl 2 (Ah x.own),.v (.int .i64 x.n)]) (fun _=>rfl) hx hj
theorem AF {xs:List BalanceShare} {i:Nat} {x:BalanceShare} (hx:xs[i]?=some x):(lvs (Ap xs))[i*3]?=(lvs [[.v (.int .i64 x.node),.sl 2 (Ah x.own),.v (.int .i64 x.n)]])[0]?:=Iu (r:=fun x:BalanceShare=>[.v (.int .i64 x.node),.sl 2 (Ah x.own),.v (.int .i64 x.n)]) (fun _=>rfl) (by decide) hx
theorem Ci {xs ys:List BalanceShare} {i j:Nat} {x x':BalanceShare} {cs:List LV} (hx:xs[i]?=some x) (hy:ys=xs.set i x') (hj:j+cs.length≤3) (he:setAt (lvs [[.v (.int .i64 x.node),.sl 2 (Ah x.own),.v (.int .i64 x.n)]]) j cs=lvs [[.v (.int .i64 x'.node),.sl 2 (Ah x'.own),.v (.int .i64 x'.n)]]):setAt (lvs (Ap xs)) (i*3+j) cs=lvs (Ap ys):=Hr (r:=fun x:BalanceShare=>[.v (.int .i64 x.node),.sl 2 (Ah x.own),.v (.int .i64 x.n)]) (fun _=>rfl) hx hy hj he
theorem Fc {xs:List BalanceShare} {i:Nat} {x:BalanceShare} (hx:xs[i]?=some x) {m:Nat} (hm:m≤3):i*3+m≤(lvs (Ap xs)).length:=Hs (r:=fun x:BalanceShare=>[.v (.int .i64 x.node),.sl 2 (Ah x.own),.v (.int .i64 x.n)]) (fun _=>rfl) hx hm
theorem Av {xs:List BalanceShare} {i j:Nat} {x:BalanceShare} (hx:xs[i]?=some x) {m:Nat} (hm:j+m≤3):i*3+j+m≤(lvs (Ap xs)).length:=by rw[Nat.add_assoc];exact Fc hx hm
structure ClaimsPiece where
 a:Claim
 b:Claim
deriving DecidableEq,Inhabited
attribute [ext] ClaimsPiece
def Gx (l:List ClaimsPiece):List (List T):=l.map fun x=>[.v (.int .i64 x.a.frm),.v (.int .i64 x.a.to),.v (.int .i64 x.a.node),.v (.int .i64 x.a.epoch),.v (.int .i64 x.b.frm),.v (.int .i64 x.b.to),.v (.int .i64 x.b.node),.v (.int .i64 x.b.epoch)]
@[simp] theorem Jm:Gx []=[]:=rfl
theorem SO {P:Program} {f:Nat} {fn:Func} {c:Code} {args:List AV} {obs:List Ob} {res:AV} {obs':List (Option Ob)} (n:Nat) (hf:P.funcs[f]?=some fn) (h:∀ cx:Cx,cx.G=[]→cx.nb=obs.length→AW P none cx c (retPost P cx fn res obs') ⟨initTm 0 args,obs.map some,n,[],none⟩) (hb:fn.body=some c:=by rfl) (hn:fn.ntmps=n:=by rfl) (hpar:args.length≤n:=by simp):Sound P f args obs res obs':=by
 subst hn;exact zO hf hb hpar fun cx h1 h2=>by
  have:=h cx h1 h2;rw[K0];exact this
theorem it:(∀ i,initTm i []=[])∧(∀ i x xs,initTm i (x::xs)=(i,x)::initTm (i+1) xs)∧(∀ (f:Ob→Option Ob),List.map f []=[])∧(∀ (f:Ob→Option Ob) a l,List.map f (a::l)=f a::List.map f l):=⟨fun _=>rfl,fun _ _ _=>rfl,fun _=>rfl,fun _ _ _=>rfl⟩
theorem LP {P:Program} {cx:Cx} {fn:Func} {s:St} {res:AV} (hn:cx.nb=0) (h:resV P s fn.results.toList=some res:=by rfl) (hp:res.plain=true:=by rfl) (hls:s.ls=none:=by rfl):Left P cx fn res [] s:=Left.plain hn h hp hls rfl
theorem WM {cx:Cx} {tm tm':Tm} {ob ob':List (Option Ob)} {nt:Nat} {gh gh':List Tm} {ls:Option Code} (ids:List Nat) (hn:cx.nb=0) (hnd:((ids.map some).filterMap fun x=>x).Nodup:=by decide) (htm:∀ e ∈ tm',(lk tm e.1).ren (inv (ids.map some))=e.2:=by first|(simp[Ab,Af,pickOb];done)|rfl) (hob:pickOb (ids.map some) ob=ob':=by first|(simp[Ab,Af,pickOb];done)|rfl) (hgh:gh.map (Tm.ren (inv (ids.map some)))=gh':=by rfl):Weak cx ⟨tm,ob,nt,gh,ls⟩ ⟨tm',ob',nt,gh',ls⟩:=zK (ids.map some) hn hnd htm hob hgh
@[simp] abbrev cA0:List LV:=[.s (.int .i64 0),.s (.int .i64 0),.s (.int .i64 0),.s (.int .i64 0)]
@[simp] abbrev iA (x:Int):LV:=.s (.int .i64 x)
@[simp] abbrev bA (x:Bool):LV:=.s (.bool x)
@[simp] abbrev dA (x:List Span):LV:=.d false 2 (Ah x)
@[simp] abbrev dB (x:List Claim):LV:=.d false 4 (Au x)
@[simp] abbrev dC (x:List Int):LV:=.d false 1 (encI x)
theorem iT {β:Type} {x y:Option β} {r:β} (h:ite' true x y=some r):x=some r:=h
theorem iF {β:Type} {x y:Option β} {r:β} (h:ite' false x y=some r):y=some r:=h
theorem CT {P:Program} {R:Option Nat} {cx:Cx} {Q:Post} {st:St} {c:Operand} {x y:Code} (h:AW P R cx x Q st) (hc:st.ev c=.l (.s (.bool true)):=by simp):AW P R cx (.cond c x y) Q st:=AW.cond_true hc h
theorem CF {P:Program} {R:Option Nat} {cx:Cx} {Q:Post} {st:St} {c:Operand} {x y:Code} (h:AW P R cx y Q st) (hc:st.ev c=.l (.s (.bool false)):=by simp):AW P R cx (.cond c x y) Q st:=AW.cond_false hc h
theorem ST {P:Program} {R:Option Nat} {cx:Cx} {Q:Post} {st:St} {id:Nat} {ops:Array Oper} {c:Code} {st':St} (k:AW P R cx c Q st') (h:xops P ops ops.toList st (fun s=>s=st'):=by simp;intros;rfl):AW P R cx (.seq (.region id ops false) c) Q st:=AW.step h k
theorem SL {P:Program} {R:Option Nat} {cx:Cx} {Q:Post} {st:St} {id:Nat} {ops:Array Oper} {st':St} (k:Q .normal st') (h:xops P ops ops.toList st (fun s=>s=st'):=by simp;intros;rfl):AW P R cx (.region id ops false) Q st:=AW.last h k
theorem FZ {P:Program} {R:Option Nat} {cx:Cx} {Q:Post} {c:Code} {tm tm':Tm} {ob ob':List (Option Ob)} {nt m b:Nat} {gh gh':List Tm} {ls:Option Code} (o ty sz:Nat) {es:List (List T)} (hes:∀ e∈es,e.length=sz) (hr:room m b=true) (k:AW P R cx c Q ⟨tm',ob',nt,gh',ls⟩) (hz:ob[o]?=some (some ⟨ty,sz,true,none,lvs es⟩):=by simp) (h0:0<sz:=by omega) (hm:es.length=m:=by simp) (h1:Tm.frz o sz es tm=tm':=by simp[Tm.frz,AV.frz,LV.frz];rfl) (h2:(ob.set o none).map (Option.map (Ob.frz o sz es))=ob':=by simp[Ob.frz,LV.frz];rfl) (h3:gh.map (Tm.frz o sz es)=gh':=by rfl):AW P R cx c Q ⟨tm,ob,nt,gh,ls⟩:=AW.frzRow o hz h0 hes (hm ▸ (Bm hr).2) h1 h2 h3 k
theorem KA {p:Prop} (h:p:=by first|exact KD.mk|exact KD.mkN):p:=h
theorem obc {α0 β:Type} {a0:Option α0} {a1:α0→Bool} {k:α0→Option β} {r:β} (h:bn a0 (fun x0=>chk (a1 x0) ((k x0)))=some r):∃ x0,a0=some x0∧(a1 x0)=true∧(k x0)=some r:=by
 obtain⟨x0,e0,h⟩:=bnE h;obtain⟨e1,h⟩:=chkE h;exact⟨x0,e0,e1,h⟩
theorem obl {α0 α1 β:Type} {a0:Option α0} {a1:α0→α1} {k:α0→α1→Option β} {r:β} (h:bn a0 (fun x0=>lt (a1 x0) (fun x1=>(k x0 x1)))=some r):∃ x0,a0=some x0∧∃ x1,x1=(a1 x0)∧(k x0 x1)=some r:=by
 obtain⟨x0,e0,h⟩:=bnE h;obtain⟨x1,e1,h⟩:=ltE h;exact⟨x0,e0,x1,e1,h⟩
theorem obll {α0 α1 α2 β:Type} {a0:Option α0} {a1:α0→α1} {a2:α0→α1→α2} {k:α0→α1→α2→Option β} {r:β} (h:bn a0 (fun x0=>lt (a1 x0) (fun x1=>lt (a2 x0 x1) (fun x2=>(k x0 x1 x2))))=some r):∃ x0,a0=some x0∧∃ x1,x1=(a1 x0)∧∃ x2,x2=(a2 x0 x1)∧(k x0 x1 x2)=some r:=by
 obtain⟨x0,e0,h⟩:=bnE h;obtain⟨x1,e1,h⟩:=ltE h;obtain⟨x2,e2,h⟩:=ltE h;exact⟨x0,e0,x1,e1,x2,e2,h⟩
theorem olb {α0 α1 β:Type} {a0:α0} {a1:α0→Option α1} {k:α0→α1→Option β} {r:β} (h:lt a0 (fun x0=>bn (a1 x0) (fun x1=>(k x0 x1)))=some r):∃ x0,x0=a0∧∃ x1,(a1 x0)=some x1∧(k x0 x1)=some r:=by
 obtain⟨x0,e0,h⟩:=ltE h;obtain⟨x1,e1,h⟩:=bnE h;exact⟨x0,e0,x1,e1,h⟩
theorem oll {α0 α1 β:Type} {a0:α0} {a1:α0→α1} {k:α0→α1→Option β} {r:β} (h:lt a0 (fun x0=>lt (a1 x0) (fun x1=>(k x0 x1)))=some r):∃ x0,x0=a0∧∃ x1,x1=(a1 x0)∧(k x0 x1)=some r:=by
 obtain⟨x0,e0,h⟩:=ltE h;obtain⟨x1,e1,h⟩:=ltE h;exact⟨x0,e0,x1,e1,h⟩
end Go.Proofs.Ytenemndpignaoaa
namespace Go.Proofs.Ytenemndpignaoaa
open Go Go.RowKit
def small {α:Type} (c:Nat) (l:List α):Bool:=decide (l.length*c≤140737488355328∧l.length≤140737488355328)
theorem Iv {α:Type} {c:Nat} {l:List α} (h:small c l=true):l.length*c≤140737488355328∧l.length≤140737488355328:=by simpa [small] using h
set_option maxRecDepth 8000 in
theorem IP (l:List Claim) (hl:l.length*32≤140737488355328∧l.length≤140737488355328):Sound Try.prog 27 [.l (.d true 4 ((Au l)))] [] (.l (.r 0 4 0 l.length)) [some ⟨31,4,true,none,lvs (Au l)⟩]:=by
 refine zO (fn:=Try.f27) (c:=_) Try.func27 rfl (by simp[Try.f27]) fun cx hG hnb=>?_;rw[show Try.f27.ntmps=8 from rfl];have hn0:cx.nb=0:=hnb;refine AW.step (by simp;rfl) ?_;refine AW.seq ?_;refine AW.stepN (fun s=>∃ b:Bool,(Au l≠[]→b=false)∧s=⟨[(4,.l (.s (.bool b))),(3,.l (.d true 4 (Au l))),(2,.l (.s (.slice none 0 0))),(0,.l (.d true 4 (Au l)))],[],8,[],none⟩) ?_ ?_
 ·simp
 rintro s ⟨b,hb,rfl⟩;refine AW.cond rfl (fun h=>?_) (fun h=>AW.skip ?_)
 ·have he:l=[]:=by
   cases l with
   |nil=>rfl
   |cons x l=>simp at hb;rw[hb] at h;simp at h
  subst he;refine AW.step (by simp;rfl) ?_;refine AW.ret (Left.of (av:=.l (.s (.slice none 0 0))) (by simp[Try.f27,resV,resC]) ?_);refine LeftV.weak (Weak.nilRow 0 31 4 rfl) ?_;refine zM hnb [some 0] (fun i j o hi hj=>?_) rfl ?_ ?_
  ·cases i <;> cases j <;> simp_all
  ·simp[pickOb,St.add,Ob.ren,lvs]
  ·rfl
 ·simp only[Post.seq];apply AW.step
  ·simp[Value.oneCell'];refine Bo ?_;try simp
   refine Fk (q:=(l.length,lvs (Au l))) (z:=⟨31,4,true,none,[]⟩) Gw Gv (by simp) (by simp[Hf]) (by simp) (by simp) (by simp) (by simp;omega) ?_;simp[St.grow,obsBut,D4];rfl
  refine AW.ret (Left.of (av:=.l (.r 0 4 0 l.length)) (by simp[Try.f27,resV,resC]) ?_);refine zM hnb [some 0] (fun i j o hi hj=>?_) rfl ?_ rfl
  ·cases i <;> cases j <;> simp_all
  ·simp[pickOb,Ob.ren,D4]
theorem Ib:Enters Try.prog 27:=enters Try.func27 (by kernel_rfl) rfl
set_option maxRecDepth 8000 in
theorem Lf (l:List Int) (hl:l.length*8≤140737488355328∧l.length≤140737488355328):Sound Try.prog 20 [.l (.d true 1 ((encI l)))] [] (.l (.r 0 1 0 l.length)) [some ⟨3,1,true,none,lvs (encI l)⟩]:=by
 refine zO (fn:=Try.f20) (c:=_) Try.func20 rfl (by simp[Try.f20]) fun cx hG hnb=>?_;rw[show Try.f20.ntmps=8 from rfl];have hn0:cx.nb=0:=hnb;refine AW.step (by simp;rfl) ?_;refine AW.seq ?_;refine AW.stepN (fun s=>∃ b:Bool,(encI l≠[]→b=false)∧s=⟨[(4,.l (.s (.bool b))),(3,.l (.d true 1 (encI l))),(2,.l (.s (.slice none 0 0))),(0,.l (.d true 1 (encI l)))],[],8,[],none⟩) ?_ ?_
 ·simp
 rintro s ⟨b,hb,rfl⟩;refine AW.cond rfl (fun h=>?_) (fun h=>AW.skip ?_)
 ·have he:l=[]:=by
   cases l with
   |nil=>rfl
   |cons x l=>simp at hb;rw[hb] at h;simp at h
  subst he;refine AW.step (by simp;rfl) ?_;refine AW.ret (Left.of (av:=.l (.s (.slice none 0 0))) (by simp[Try.f20,resV,resC]) ?_);refine LeftV.weak (Weak.nilRow 0 3 1 rfl) ?_;refine zM hnb [some 0] (fun i j o hi hj=>?_) rfl ?_ ?_
  ·cases i <;> cases j <;> simp_all
  ·simp[pickOb,St.add,Ob.ren,lvs]
  ·rfl
 ·simp only[Post.seq];apply AW.step
  ·simp[Value.oneCell'];refine Bo ?_;try simp
   refine Fk (q:=(l.length,lvs (encI l))) (z:=⟨3,1,true,none,[]⟩) FA Ge (by simp) (by simp[Jh]) (by simp) (by simp) (by simp) (by simp;omega) ?_;simp[St.grow,obsBut,D4];rfl
  refine AW.ret (Left.of (av:=.l (.r 0 1 0 l.length)) (by simp[Try.f20,resV,resC]) ?_);refine zM hnb [some 0] (fun i j o hi hj=>?_) rfl ?_ rfl
  ·cases i <;> cases j <;> simp_all
  ·simp[pickOb,Ob.ren,D4]
theorem KB:Enters Try.prog 20:=enters Try.func20 (by kernel_rfl) rfl
def insL {α:Type} (l:List α) (i:Nat) (x:α):List α:=l.take i++x::l.drop i
def delL {α:Type} (l:List α) (i:Nat):List α:=l.take i++l.drop (i+1)
def insB {α:Type} (l:List α) (i:Int):Bool:=decide (0≤i∧i≤l.length∧l.length≤1000000000)
def delB {α:Type} (l:List α) (i j:Int):Bool:=decide (0≤i∧i<l.length∧j=i+1∧l.length≤1000000000)
theorem i64_0:IntKind.i64.wrap 0=0:=by decide
def flatL {α:Type} (ss:List (List α)) (i:Nat):List α:=(ss.take i).flatten
theorem GY {α:Type} {ss:List (List α)} {i:Nat} {x:List α} (hx:ss[i]?=some x):flatL ss (i+1)=flatL ss i++x:=by unfold flatL;rw[← EH hx];simp
theorem Fr {α:Type} (ss:List (List α)) (i:Nat):(flatL ss i).length≤(flatL ss ss.length).length:=by
 have:flatL ss ss.length=flatL ss i++(ss.drop i).flatten:=by unfold flatL;rw[← List.flatten_append,List.take_append_drop,List.take_length]
 rw[this];simp
theorem Gy {α:Type} (ss:List (List α)):flatL ss 0=[]:=rfl
theorem GZ {α:Type} (ss:List (List α)):flatL ss ss.length=ss.flatten:=by unfold flatL;rw[List.take_length]
def catB {α:Type} (ss:List (List α)):Bool:=decide (ss.flatten.length≤1000000000∧ss.length≤1000000000)
def B0:List Value:=[.int .i64 0,.int .i64 0]
set_option maxRecDepth 8000 in
set_option maxHeartbeats 8000000 in
theorem Jn (n:Nat) (hn:n≤1000000000):Sound Try.prog 77 [.l (.s (.slice none 0 0)),.l (.s (.int .i64 n))] [] (.l (.r 0 2 0 0)) [some ⟨59,2,true,none,(repZ n B0).map .s⟩]:=by
 refine zO (fn:=Try.f77) (c:=_) Try.func77 rfl (by simp[Try.f77]) fun cx hG hnb=>?_;rw[show Try.f77.ntmps=27 from rfl];have hn0:cx.nb=0:=hnb;refine AW.step (by simp;rfl) ?_;refine AW.seq ?_;refine AW.step (by simp;rfl) ?_;refine AW.cond rfl (fun h1=>?_) (fun h1=>?_)
 ·simp at h1;omega
 ·try simp at h1
  refine AW.skip ?_;simp only[Post.seq,Post.block,if_true];refine AW.seq ?_;refine AW.step (by simp[i64_0,Fo (show (-9223372036854775808:Int)≤(n:Int) by omega) (show (n:Int)≤9223372036854775807 by omega)];rfl) ?_;refine AW.step (by simp;rfl) ?_;refine AW.cond rfl (fun h4=>?_) (fun h4=>?_)
  ·simp at h4;refine AW.last (by simp[h4,show n*16≤281474976710656 by omega,show n≤4611686018427387904 by omega];rfl) ?_;simp only[Post.seq,Post.block,if_true];refine AW.step (by simp;rfl) ?_;refine AW.ret ?_;refine Left.of (av:=_) (by simp[Try.f77,resV,resC,comp];rfl) ?_;exact LeftV.nowN 1 hn0 (by simp[B0,repZ]) (by simp) rfl
  ·simp at h4;subst h4;refine AW.nilRow 0 59 2 0 (by simp) rfl rfl ?_;refine AW.skip ?_;simp only[Post.seq,Post.block,if_true];refine AW.step (by simp;rfl) ?_;refine AW.ret ?_;refine Left.of (av:=_) (by simp[Try.f77,resV,resC,comp];rfl) ?_;exact LeftV.nowN 1 hn0 (by simp[B0,repZ]) (by simp) rfl
theorem IQ:Enters Try.prog 77:=enters Try.func77 (by kernel_rfl) rfl
theorem Do (m:Nat):((repZ m B0).map LV.s).length=m*2:=by
 rw[List.length_map,By];rfl
theorem C8 (l:List Span):(lvs (Ah l)).length=l.length*2:=by
 rw[BJ (Bh l),EV]
theorem Gz (A x:List Span) (m:Nat) (h:x.length≤m):setAt (lvs (Ah A)++(repZ m B0).map LV.s) (A.length*2) (lvs (Ah x))=lvs (Ah (A++x))++(repZ (m - x.length) B0).map LV.s:=by
 have hz:=Do m;have hA:=C8 A;have hx:=C8 x;have e1:repZ m B0=repZ x.length B0++repZ (m - x.length) B0:=by rw[← FU,Nat.add_sub_cancel' h]
 rw[CK _ _ _ (by rw[List.length_append,hz,hA,hx];omega),At,Eu];rw[List.take_append_of_le_length (by omega),List.take_of_length_le (by omega),hx];congr 1
 rw[← List.drop_drop,← hA,List.drop_left,e1,List.map_append];have hxz:=Do x.length;rw[← hxz,List.drop_left]
set_option maxRecDepth 8000 in
set_option maxHeartbeats 8000000 in
theorem Jo (ss:List (List Span)) (hl:(flatL ss ss.length).length≤1000000000) (hs:ss.length≤1000000000):Sound Try.prog 60 [.l (.r 0 1 0 ss.length)] [⟨43,1,true,none,ss.map fun l=>.d false 2 (Ah l)⟩] (.l (.r 1 2 0 (flatL ss ss.length).length)) [some ⟨43,1,true,none,ss.map fun l=>.d false 2 (Ah l)⟩,some ⟨59,2,true,none,lvs (Ah (flatL ss ss.length))⟩]:=by
 refine zO (fn:=Try.f60) (c:=_) Try.func60 rfl (by simp[Try.f60]) fun cx hG hnb=>?_;rw[show Try.f60.ntmps=36 from rfl];have hn0:cx.nb=1:=hnb;refine AW.step (by simp;rfl) ?_;refine AW.step (by simp;rfl) ?_;refine AW.seq ?_;refine AW.step (by simp;rfl) ?_;refine AW.block ?_;refine AW.loopF (α:=Nat) [3,5,11,12,13,14,15,16,17,18,19,20,21,22] (fun i=>[(11,.l (.s (.int .i64 i))),(3,.l (.s (.int .i64 (flatL ss i).length)))]) (fun _=>[some ⟨43,1,true,none,ss.map fun l=>.d false 2 (Ah l)⟩]) (fun i=>i≤ss.length) (fun i=>ss.length - i) 0 (by simp;rfl) (by simp[Gy]) (by simp) (Nat.zero_le _) ?_;intro i g1;refine AW.step (by simp;rfl) ?_;refine AW.seq ?_;refine AW.cond rfl (fun h3=>?_) (fun h3=>?_)
 ·simp at h3;obtain⟨x,hx⟩:=DK h3;have hx':ss[i]=x:=(List.getElem?_eq_some_iff.1 hx).2;have hf:=GY hx;have hfl:=Fr ss (i+1);rw[hf,List.length_append] at hfl;have hxl:x.length≤140737488355328:=by omega
  have hw:IntKind.i64.wrap (((flatL ss i).length:Int)+(x.length:Int))=(((flatL ss (i+1)).length:Nat):Int):=by rw[Fo (by omega) (by omega),hf,List.length_append];omega
  refine AW.skip ?_;simp only[Post.seq,Post.block,if_true];refine AW.seq ?_;refine AW.block ?_;refine AW.step (by simp[hx,hx',h3];rfl) ?_;refine AW.step (by simp[hxl,hw];rfl) ?_;refine AW.step (by simp;rfl) ?_;refine AW.cond rfl (fun h6=>?_) (fun h6=>?_)
  ·simp at h6;omega
  ·try simp at h6
   refine AW.skip ?_;simp only[Post.seq,Post.block,if_true];refine AW.last (by simp;rfl) ?_;simp only[Post.seq,Post.block,if_true];refine⟨i+1,zN 1 (by omega) (by simp[DJ (show i+1≤9223372036854775807 by omega)]) (by simp) rfl,by omega,by omega⟩
 ·try simp at h3
  refine AW.exit ?_;simp only[Post.seq,Post.block,if_true];have hi:i=ss.length:=by omega
  subst hi;apply AW.step
  ·simp;refine DQ IQ (Jn (flatL ss ss.length).length hl) rfl (by simp) ⟨.same rfl,.same rfl,trivial⟩ ?_;try simp
   rfl
  refine AW.seq ?_;refine AW.step (by simp;rfl) ?_;refine AW.block ?_;refine AW.loopF (α:=Nat) [6,8,27,28,29,30,31,32,33,34] (fun i=>[(27,.l (.s (.int .i64 i))),(6,.l (.r 1 2 0 (flatL ss i).length))]) (fun i=>[some ⟨43,1,true,none,ss.map fun l=>.d false 2 (Ah l)⟩,some ⟨59,2,true,none,lvs (Ah (flatL ss i))++(repZ ((flatL ss ss.length).length - (flatL ss i).length) B0).map LV.s⟩]) (fun i=>i≤ss.length) (fun i=>ss.length - i) 0 (by simp;rfl) (by simp[Gy]) (by simp[lvs,Gy]) (Nat.zero_le _) ?_;intro i g1;refine AW.step (by simp;rfl) ?_;refine AW.seq ?_;refine AW.cond rfl (fun h11=>?_) (fun h11=>?_)
  ·simp at h11;obtain⟨x,hx⟩:=DK h11;have hx':ss[i]=x:=(List.getElem?_eq_some_iff.1 hx).2;have hf:=GY hx;have hfl:=Fr ss (i+1);rw[hf,List.length_append] at hfl;have hput:=Gz (flatL ss i) x ((flatL ss ss.length).length - (flatL ss i).length) (by omega);have hlx:=C8 (flatL ss i);have hzx:=Do ((flatL ss ss.length).length - (flatL ss i).length);refine AW.skip ?_;simp only[Post.seq,Post.block,if_true];refine AW.seq ?_;refine AW.block ?_;refine AW.step (by simp[hx,hx',h11];rfl) ?_;apply AW.last
   ·simp;refine Kk (q:=((Ah x).length,lvs (Ah x))) (z:=⟨59,2,true,none,lvs (Ah (flatL ss i))++(repZ ((flatL ss ss.length).length - (flatL ss i).length) B0).map LV.s⟩) Dg Df (by simp) IK (by simp) (by simp) (by show ((flatL ss i).length+(Ah x).length)*2≤_;rw[List.length_append,hlx,hzx,EV];omega) ?_;simp only[hput];try simp
    rfl
   simp only[Post.seq,Post.block,if_true];refine AW.last (by simp;rfl) ?_;simp only[Post.seq,Post.block,if_true];refine⟨i+1,zN 2 (by omega) (by simp[DJ (show i+1≤9223372036854775807 by omega),hf]) (by simp[hf,Nat.sub_sub]) rfl,by omega,by omega⟩
  ·try simp at h11
   refine AW.exit ?_;simp only[Post.seq,Post.block,if_true];have hi:i=ss.length:=by omega
   subst hi;have h0:(flatL ss ss.length).length - (flatL ss ss.length).length=0:=Nat.sub_self _;refine AW.step (by simp;rfl) ?_;refine AW.ret ?_;refine Left.of (av:=_) (by simp[Try.f60,resV,resC,comp];rfl) ?_;exact LeftV.rows [some 0,some 1] (by simp;omega) (Kl (by omega)) rfl rfl (by simp[pickOb,repZ,Ob.ren,D4]) (by simp)
theorem IR:Enters Try.prog 60:=enters Try.func60 (by kernel_rfl) rfl
theorem KC (ss:List (List Span)) (h:catB ss=true):Sound Try.prog 60 [.l (.r 0 1 0 ss.length)] [⟨43,1,true,none,ss.map fun l=>.d false 2 (Ah l)⟩] (.l (.r 1 2 0 ss.flatten.length)) [some ⟨43,1,true,none,ss.map fun l=>.d false 2 (Ah l)⟩,some ⟨59,2,true,none,lvs (Ah ss.flatten)⟩]:=by
 simp[catB] at h;have:=Jo ss (by rw[GZ];simp;omega) (by omega);rwa [GZ] at this
theorem KE (ss:List (List Span)) (h:catB ss=true):Sound Try.prog 60 [.l (.r 0 1 0 ss.length)] [⟨43,1,true,none,ss.map fun l=>.d false 2 (Ah l)⟩] (.l (.d false 2 (Ah ss.flatten))) [some ⟨43,1,true,none,ss.map fun l=>.d false 2 (Ah l)⟩]:=by
 have h2:=h;simp[catB] at h2;exact (KC ss h).frz1 (by simp) (by omega) (Bh _) (by simp;omega) (by simp[Ob.frz,Ob.ren,LV.frz,LV.ren])
end Go.Proofs.Ytenemndpignaoaa
namespace Go.Proofs.Ytenemndpignaoaa
open Go Go.RowKit
def compL:List Int→List Int
 |[]=>[]
 |[a]=>[a]
 |a::b::t=>if a=b then compL (b::t) else a::compL (b::t)
theorem Gf (x y:Int):∀ l:List Int,compL (l++[y,x])=if y=x then compL (l++[y]) else compL (l++[y])++[x]
 |[]=>by
  by_cases h:y=x
  ·simp[compL,h]
  ·simp[compL,h]
 |[a]=>by
  by_cases h:y=x
  ·subst h;by_cases h2:a=y <;> simp[compL,h2]
  ·by_cases h2:a=y <;> simp[compL,h,h2]
 |a::b::t=>by
  have ih:=Gf x y (b::t);simp only[List.cons_append,compL] at ih ⊢;rw[ih];by_cases h2:a=b
  ·rw[if_pos h2,if_pos h2]
  ·rw[if_neg h2,if_neg h2];by_cases h:y=x
   ·rw[if_pos h,if_pos h]
   ·rw[if_neg h,if_neg h];rfl
def cmT (l:List Int) (i:Nat):List Int:=compL (l.take i)
def cmN (l:List Int) (i:Nat):Nat:=(cmT l i).length
theorem FX {l:List Int} {i:Nat} {x y:Int} (hy:l[i]?=some y) (hx:l[i+1]?=some x):cmT l (i+2)=if y=x then cmT l (i+1) else cmT l (i+1)++[x]:=by
 have h:=Gf x y (l.take i);have e1:=EH hy;have e2:=EH hx;unfold cmT;rw[← e2,← e1,List.append_assoc];exact h
theorem cmT_1 {l:List Int} (h:0<l.length):cmT l 1=l.take 1:=by
 cases l with
 |nil=>simp at h
 |cons a t=>rfl
theorem Iw (l:List Int):cmT l l.length=compL l:=by unfold cmT;rw[List.take_length]
def cmR (l:List Int) (i:Nat):List Int:=cmT l i++l.drop (cmN l i)
theorem Ix {l:List Int} {i j:Nat} (h:cmN l i≤j):(cmR l i)[j]?=l[j]?:=by
 unfold cmR;rw[List.getElem?_append_right h,List.getElem?_drop];congr 1
 unfold cmN at h ⊢;omega
theorem KF {l:List Int} {i:Nat} (h:cmN l i≤l.length):(cmR l i).length=l.length:=by
 unfold cmR;rw[List.length_append,List.length_drop];unfold cmN at h ⊢;omega
theorem Iy {l:List Int} {i:Nat} {x y:Int} (hy:l[i]?=some y) (hx:l[i+1]?=some x) (hne:y≠x) (hn:cmN l (i+1)<l.length):cmR l (i+2)=(cmR l (i+1)).set (cmN l (i+1)) x∧cmN l (i+2)=cmN l (i+1)+1:=by
 have e:=FX hy hx;rw[if_neg hne] at e;have en:cmN l (i+2)=cmN l (i+1)+1:=by unfold cmN;rw[e,List.length_append];rfl
 refine⟨?_,en⟩;unfold cmR;rw[en,e];have:(cmT l (i+1)).length=cmN l (i+1):=rfl;rw[List.set_append_right _ _ (by omega),this,Nat.sub_self];rw[List.drop_eq_getElem_cons hn,List.set_cons_zero,List.append_assoc];rfl
theorem FY {l:List Int} {i:Nat} {x y:Int} (hy:l[i]?=some y) (hx:l[i+1]?=some x) (he:y=x):cmR l (i+2)=cmR l (i+1)∧cmN l (i+2)=cmN l (i+1):=by
 have e:=FX hy hx;rw[if_pos he] at e;have en:cmN l (i+2)=cmN l (i+1):=by unfold cmN;rw[e]
 refine⟨?_,en⟩;unfold cmR;rw[en,e]
theorem cmR_0 {l:List Int} {i:Nat} (h:cmT l i=l.take i) (hi:i≤l.length):cmR l i=l∧cmN l i=i:=by
 have en:cmN l i=i:=by unfold cmN;rw[h,List.length_take];omega
 refine⟨?_,en⟩;unfold cmR;rw[en,h,List.take_append_drop]
set_option maxRecDepth 8000 in
set_option maxHeartbeats 8000000 in
theorem Lg (l:List Int) (hl:l.length≤1000000000):Sound Try.prog 22 [.l (.r 0 1 0 l.length)] [⟨3,1,true,none,lvs (encI l)⟩] (.l (.r 0 1 0 (compL l).length)) [some ⟨3,1,true,none,lvs (encI (compL l))⟩]:=by
 refine zO (fn:=Try.f22) (c:=_) Try.func22 rfl (by simp[Try.f22]) fun cx hG hnb=>?_;rw[show Try.f22.ntmps=61 from rfl];have hn0:cx.nb=1:=hnb;have hlv:(lvs (encI l)).length=l.length:=by rw[BJ (Cw l)];simp
 refine AW.step (by simp;rfl) ?_;refine AW.seq ?_;refine AW.step (by simp;rfl) ?_;refine AW.cond rfl (fun h1=>?_) (fun h1=>?_)
 ·simp at h1;have hc:compL l=l:=by
   rcases l with _|⟨a,_|⟨b,t⟩⟩
   ·rfl
   ·rfl
   ·simp at h1;omega
  refine AW.step (by simp[hc];rfl) ?_;refine AW.ret ?_;refine Left.of (av:=_) (by simp[Try.f22,resV,resC,comp,hc];rfl) ?_;exact LeftV.rows [some 0] (by simp;omega) (HI) rfl rfl (by simp[pickOb,hc]) (by simp[hc])
 ·simp at h1;refine AW.skip ?_;simp only[Post.seq,Post.block,if_true];refine AW.seq ?_;refine AW.step (by simp;rfl) ?_;refine AW.block ?_;refine AW.loopF (α:=Nat) [2,3,4,5,10,11,12,13,14,15,16,17,18,19,20,21,22,23,24,25,26,27,28,29,30,31,32,33,34,35,36,37,38,39,40,41,42,43,44,45,46,47,48,49,50,51,52,53,54,55,56,57,58,59] (fun k=>[(3,.l (.s (.int .i64 ((k+1:Nat):Int))))]) (fun _=>[some ⟨3,1,true,none,lvs (encI l)⟩]) (fun k=>k+1≤l.length∧cmT l (k+1)=l.take (k+1)) (fun k=>l.length - k) 0 (by rfl) (by simp) rfl ⟨by omega,cmT_1 (by omega)⟩ ?_;rintro k ⟨g1,g2⟩;have hw1:IntKind.i64.wrap ((k:Nat):Int)=((k:Nat):Int):=by rw[Fo (by omega) (by omega)]
  refine AW.seq ?_;refine AW.step (by simp;rfl) ?_;refine AW.cond rfl (fun h4=>?_) (fun h4=>?_)
  ·simp at h4;obtain⟨y,hy⟩:=DK (show k<l.length by omega);obtain⟨x,hx⟩:=DK (show k+1<l.length by omega);refine AW.skip ?_;simp only[Post.seq,Post.block,if_true];refine AW.seq ?_;refine AW.block ?_;apply zI (V:=[_,_,_,_,_,_,_,_,_]) mixed [⟨[0],[],[(0,none)],false⟩,⟨[0],[],[(3,none)],false⟩,⟨[0],[0,1],[(16,some 0),(17,some 1)],false⟩,⟨[0],[0,1,2],[(18,some 2)],false⟩,⟨[0],[],[(0,none)],false⟩,⟨[0],[],[(3,none)],false⟩,⟨[0],[5],[(21,some 5)],false⟩,⟨[0],[4,5,6],[(20,some 4),(22,some 6)],false⟩,⟨[0],[4,5,6,7],[(23,some 7)],false⟩,⟨[],[0,1,2,3,4,5,6,7,8],[],false⟩] 9 (by kernel_rfl) (by kernel_rfl)
   ·refine⟨?_,?_,?_,?_,?_,?_,?_,?_,?_,trivial⟩
    ·intro tm hr;simp[AllL,rdV] at hr;simp[hr,hy,hx,hw1,Ag hy,Ag hx,lvs1,show k<l.length by omega,show k+1<l.length by omega,show (0:Int)≤(k:Int)+1 by omega];exact KD.mk
    ·intro tm hr;simp[AllL,rdV] at hr;simp[hr,hy,hx,hw1,Ag hy,Ag hx,lvs1,show k<l.length by omega,show k+1<l.length by omega,show (0:Int)≤(k:Int)+1 by omega];exact KD.mk
    ·intro tm hr;simp[AllL,rdV] at hr;simp[hr,hy,hx,hw1,Ag hy,Ag hx,lvs1,show k<l.length by omega,show k+1<l.length by omega,show (0:Int)≤(k:Int)+1 by omega];exact KD.mk
    ·intro tm hr;simp[AllL,rdV] at hr;simp[hr,hy,hx,hw1,Ag hy,Ag hx,lvs1,show k<l.length by omega,show k+1<l.length by omega,show (0:Int)≤(k:Int)+1 by omega];exact KD.mk
    ·intro tm hr;simp[AllL,rdV] at hr;simp[hr,hy,hx,hw1,Ag hy,Ag hx,lvs1,show k<l.length by omega,show k+1<l.length by omega,show (0:Int)≤(k:Int)+1 by omega];exact KD.mk
    ·intro tm hr;simp[AllL,rdV] at hr;simp[hr,hy,hx,hw1,Ag hy,Ag hx,lvs1,show k<l.length by omega,show k+1<l.length by omega,show (0:Int)≤(k:Int)+1 by omega];exact KD.mk
    ·intro tm hr;simp[AllL,rdV] at hr;simp[hr,hy,hx,hw1,Ag hy,Ag hx,lvs1,show k<l.length by omega,show k+1<l.length by omega,show (0:Int)≤(k:Int)+1 by omega];exact KD.mk
    ·intro tm hr;simp[AllL,rdV] at hr;simp[hr,hy,hx,hw1,Ag hy,Ag hx,lvs1,show k<l.length by omega,show k+1<l.length by omega,show (0:Int)≤(k:Int)+1 by omega];exact KD.mk
    ·intro tm hr;simp[AllL,rdV] at hr;simp[hr,hy,hx,hw1,Ag hy,Ag hx,lvs1,show k<l.length by omega,show k+1<l.length by omega,show (0:Int)≤(k:Int)+1 by omega];exact KD.mk
   ·rfl
   ·simp[tmD,putD,hy,hx,hw1,Ag hy,Ag hx,lvs1,show k<l.length by omega,show k+1<l.length by omega,show (0:Int)≤(k:Int)+1 by omega];rfl
   ·simp[hy,hx,hw1,Ag hy,Ag hx,lvs1,show k<l.length by omega,show k+1<l.length by omega,show (0:Int)≤(k:Int)+1 by omega];rfl
   refine AW.cond rfl (fun h6=>?_) (fun h6=>?_)
   ·simp at h6;obtain⟨s1,s2⟩:=FY hy hx h6.symm;obtain⟨s3,s4⟩:=cmR_0 g2 (by omega);rw[s3] at s1;rw[s4] at s2;refine AW.step (by simp[hlv,show (k:Int)+1≤(l.length:Int) by omega,show (0:Int)≤(k:Int)+1 by omega];(repeat refine⟨by omega,?_⟩);rfl) ?_;refine AW.seq ?_;refine AW.step (by simp;rfl) ?_;refine AW.block ?_;refine AW.loopF (α:=Nat) [3,5,29,30,31,32,33,34,35,36,37,38,39,40,41,42,43,44,45,46,47,48,49,50,51,52,53] (fun j=>[(0,.l (.r 0 1 0 l.length)),(4,.l (.r 0 1 (k+1) l.length)),(3,.l (.s (.int .i64 (cmN l (k+j+2):Nat)))),(5,.l (.s (.int .i64 ((j+1:Nat):Int))))]) (fun j=>[some ⟨3,1,true,none,lvs (encI (cmR l (k+j+2)))⟩]) (fun j=>k+j+2≤l.length∧cmN l (k+j+2)≤k+j+1) (fun j=>l.length - j) 0 (by rfl) (by simp[s2]) (by simp[s1]) ⟨by omega,by rw[Nat.add_zero,s2];omega⟩ ?_;rintro j ⟨g3,g4⟩;have hr:(cmR l (k+j+2)).length=l.length:=KF (by omega);have hv:(lvs (encI (cmR l (k+j+2)))).length=l.length:=by rw[BJ (Cw _)];simp[hr]
    refine AW.seq ?_;refine AW.step (by simp;rfl) ?_;refine AW.cond rfl (fun h9=>?_) (fun h9=>?_)
    ·simp at h9;have h9':k+j+2<l.length:=by omega
     obtain⟨y1,hy1⟩:=DK (show k+j+1<l.length by omega);obtain⟨x1,hx1⟩:=DK (show k+j+2<l.length by omega);have hy2:=(Ix (j:=k+j+1) g4).trans hy1;have hx2:=(Ix (i:=k+j+2) (j:=k+j+2) (by omega)).trans hx1;have hwj:IntKind.i64.wrap ((j:Nat):Int)=((j:Nat):Int):=by rw[Fo (by omega) (by omega)]
     have ea:k+1+(j+1)=k+j+2:=by omega
     have eb:k+1+j=k+j+1:=by omega
     refine AW.skip ?_;simp only[Post.seq,Post.block,if_true];refine AW.seq ?_;refine AW.block ?_;apply zI (V:=[_,_,_,_,_,_,_,_,_]) mixed [⟨[0],[],[(4,none)],false⟩,⟨[0],[],[(5,none)],false⟩,⟨[0],[0,1],[(35,some 0),(36,some 1)],false⟩,⟨[0],[0,1,2],[(37,some 2)],false⟩,⟨[0],[],[(4,none)],false⟩,⟨[0],[],[(5,none)],false⟩,⟨[0],[5],[(40,some 5)],false⟩,⟨[0],[4,5,6],[(39,some 4),(41,some 6)],false⟩,⟨[0],[4,5,6,7],[(42,some 7)],false⟩,⟨[],[0,1,2,3,4,5,6,7,8],[],false⟩] 9 (by kernel_rfl) (by kernel_rfl)
     ·refine⟨?_,?_,?_,?_,?_,?_,?_,?_,?_,trivial⟩
      ·intro tm hr;simp[AllL,rdV] at hr;simp[hr,hy2,hx2,hwj,Ag hy2,Ag hx2,lvs1,ea,eb,show j<l.length - (k+1) by omega,show j+1<l.length - (k+1) by omega,show (0:Int)≤(j:Int)+1 by omega];exact KD.mk
      ·intro tm hr;simp[AllL,rdV] at hr;simp[hr,hy2,hx2,hwj,Ag hy2,Ag hx2,lvs1,ea,eb,show j<l.length - (k+1) by omega,show j+1<l.length - (k+1) by omega,show (0:Int)≤(j:Int)+1 by omega];exact KD.mk
      ·intro tm hr;simp[AllL,rdV] at hr;simp[hr,hy2,hx2,hwj,Ag hy2,Ag hx2,lvs1,ea,eb,show j<l.length - (k+1) by omega,show j+1<l.length - (k+1) by omega,show (0:Int)≤(j:Int)+1 by omega];exact KD.mk
      ·intro tm hr;simp[AllL,rdV] at hr;simp[hr,hy2,hx2,hwj,Ag hy2,Ag hx2,lvs1,ea,eb,show j<l.length - (k+1) by omega,show j+1<l.length - (k+1) by omega,show (0:Int)≤(j:Int)+1 by omega];exact KD.mk
      ·intro tm hr;simp[AllL,rdV] at hr;simp[hr,hy2,hx2,hwj,Ag hy2,Ag hx2,lvs1,ea,eb,show j<l.length - (k+1) by omega,show j+1<l.length - (k+1) by omega,show (0:Int)≤(j:Int)+1 by omega];exact KD.mk
      ·intro tm hr;simp[AllL,rdV] at hr;simp[hr,hy2,hx2,hwj,Ag hy2,Ag hx2,lvs1,ea,eb,show j<l.length - (k+1) by omega,show j+1<l.length - (k+1) by omega,show (0:Int)≤(j:Int)+1 by omega];exact KD.mk
      ·intro tm hr;simp[AllL,rdV] at hr;simp[hr,hy2,hx2,hwj,Ag hy2,Ag hx2,lvs1,ea,eb,show j<l.length - (k+1) by omega,show j+1<l.length - (k+1) by omega,show (0:Int)≤(j:Int)+1 by omega];exact KD.mk
      ·intro tm hr;simp[AllL,rdV] at hr;simp[hr,hy2,hx2,hwj,Ag hy2,Ag hx2,lvs1,ea,eb,show j<l.length - (k+1) by omega,show j+1<l.length - (k+1) by omega,show (0:Int)≤(j:Int)+1 by omega];exact KD.mk
      ·intro tm hr;simp[AllL,rdV] at hr;simp[hr,hy2,hx2,hwj,Ag hy2,Ag hx2,lvs1,ea,eb,show j<l.length - (k+1) by omega,show j+1<l.length - (k+1) by omega,show (0:Int)≤(j:Int)+1 by omega];exact KD.mk
     ·rfl
     ·simp[tmD,putD,hy2,hx2,hwj,Ag hy2,Ag hx2,lvs1,ea,eb,show j<l.length - (k+1) by omega,show j+1<l.length - (k+1) by omega,show (0:Int)≤(j:Int)+1 by omega];rfl
     ·simp[hy2,hx2,hwj,Ag hy2,Ag hx2,lvs1,ea,eb,show j<l.length - (k+1) by omega,show j+1<l.length - (k+1) by omega,show (0:Int)≤(j:Int)+1 by omega];rfl
     refine AW.cond rfl (fun h11=>?_) (fun h11=>?_)
     ·simp at h11;have q1:cmR l (k+(j+1)+2)=(cmR l (k+j+2)).set (cmN l (k+j+2)) x1:=by
       have:=(Iy (i:=k+j+1) hy1 hx1 (fun e=>h11 e.symm) (by show cmN l (k+j+2)<_;omega)).1;rwa [show k+j+1+2=k+(j+1)+2 by omega] at this
      have q2:cmN l (k+(j+1)+2)=cmN l (k+j+2)+1:=by
       have:=(Iy (i:=k+j+1) hy1 hx1 (fun e=>h11 e.symm) (by show cmN l (k+j+2)<_;omega)).2;rwa [show k+j+1+2=k+(j+1)+2 by omega] at this
      obtain⟨z,hz⟩:=DK (show cmN l (k+j+2)<(cmR l (k+j+2)).length by omega);have hput:=AN hz q1 (cs:=[.s (.int .i64 x1)]) (by simp) rfl;have hfit:=Ak hz (show 1≤1 by omega);refine AW.step (by simp[hy2,hx2,hwj,Ag hx2,lvs1,ea,show j+1<l.length - (k+1) by omega,show (0:Int)≤(j:Int)+1 by omega,show cmN l (k+j+2)<l.length by omega,hput,hfit];rfl) ?_;refine AW.last (by simp;rfl) ?_;simp only[Post.seq,Post.block,if_true];refine AW.last (by simp;rfl) ?_;simp only[Post.seq,Post.block,if_true];refine⟨j+1,zN 1 (by omega) (by have e:=DJ (show j+1+1≤9223372036854775807 by omega);simp at e;simp[DJ (show cmN l (k+j+2)+1≤9223372036854775807 by omega),e,q2]) (by simp[q1]) rfl,⟨by omega,by rw[q2];omega⟩,by omega⟩
     ·simp at h11;have q1:cmR l (k+(j+1)+2)=cmR l (k+j+2):=by
       have:=(FY (i:=k+j+1) hy1 hx1 h11.symm).1;rwa [show k+j+1+2=k+(j+1)+2 by omega] at this
      have q2:cmN l (k+(j+1)+2)=cmN l (k+j+2):=by
       have:=(FY (i:=k+j+1) hy1 hx1 h11.symm).2;rwa [show k+j+1+2=k+(j+1)+2 by omega] at this
      refine AW.skip ?_;simp only[Post.seq,Post.block,if_true];refine AW.last (by simp;rfl) ?_;simp only[Post.seq,Post.block,if_true];refine⟨j+1,zN 1 (by omega) (by have e:=DJ (show j+1+1≤9223372036854775807 by omega);simp at e;simp[DJ (show cmN l (k+j+2)+1≤9223372036854775807 by omega),e,q2]) (by simp[q1]) rfl,⟨by omega,by rw[q2];omega⟩,by omega⟩
    ·simp at h9;have ej:k+j+2=l.length:=by omega
     have hvc:(setAt (lvs (encI (cmR l (k+j+2)))) (cmN l (k+j+2)) (List.map LV.s (repZ (l.length - cmN l (k+j+2)) [Value.int .i64 0]))).length=l.length:=by
      rw[C5,hv]
     have hce:cmT l (k+j+2)=compL l:=by rw[ej];exact Iw l
     have hcn:cmN l (k+j+2)=(compL l).length:=by unfold cmN;rw[hce]
     have hcut:(setAt (lvs (encI (cmR l (k+j+2)))) (cmN l (k+j+2)) (List.map LV.s (repZ (l.length - cmN l (k+j+2)) [Value.int .i64 0]))).take (cmN l (k+j+2))=lvs (encI (compL l)):=by
      have e1:lvs (encI (cmR l (k+j+2)))=lvs (encI (compL l))++lvs (encI (l.drop (cmN l (k+j+2)))):=by
       unfold cmR;rw[hce,CX,Eu]
      have e2:(lvs (encI (compL l))).length=cmN l (k+j+2):=by rw[BJ (Cw _),hcn];simp
      rw[CK _ _ _ (by rw[hv,List.length_map,By];simp;omega),List.append_assoc,List.take_append_of_le_length (by rw[List.length_take,hv];omega),List.take_take,Nat.min_self,e1,← e2,List.take_left]
     refine AW.exit ?_;simp only[Post.seq,Post.block,if_true];refine AW.step (by simp[hv];(repeat refine⟨by omega,?_⟩);rfl) ?_;refine AW.step (by simp[hv,hvc];(repeat refine⟨by omega,?_⟩);rfl) ?_;refine AW.ret ?_;refine Left.of (av:=_) (by simp[Try.f22,resV,resC,comp,hv,hvc];rfl) ?_;refine LeftV.shrink 0 (cmN l (k+j+2)) rfl rfl rfl rfl ?_;refine LeftV.rows [some 0] (by simp;omega) HI rfl rfl ?_ (by simp[hcn]);simp[pickOb,hcut]
   ·simp at h6;refine AW.skip ?_;simp only[Post.seq,Post.block,if_true];refine AW.last (by simp;rfl) ?_;simp only[Post.seq,Post.block,if_true];refine⟨k+1,zN 1 (by omega) (by have e:=DJ (show k+1+1≤9223372036854775807 by omega);simp at e;simp[e]) (by simp) rfl,⟨by omega,?_⟩,by omega⟩;rw[FX hy hx,if_neg (fun e=>h6 e.symm),g2,EH hx]
  ·simp at h4;have hc:compL l=l:=by
    have e:=Iw l;have e2:k+1=l.length:=by omega
    rw[← e2,g2,e2,List.take_length] at e;exact e.symm
   refine AW.exit ?_;simp only[Post.seq,Post.block,if_true];refine AW.step (by simp[hc];rfl) ?_;refine AW.ret ?_;refine Left.of (av:=_) (by simp[Try.f22,resV,resC,comp,hc];rfl) ?_;exact LeftV.rows [some 0] (by simp;omega) (HI) rfl rfl (by simp[pickOb,hc]) (by simp[hc])
theorem KG:Enters Try.prog 22:=enters Try.func22 (by kernel_rfl) rfl
def cmB (l:List Int):Bool:=decide (l.length≤1000000000)
theorem sm_I (l:List Int) (h:cmB l=true):Sound Try.prog 22 [.l (.r 0 1 0 l.length)] [⟨3,1,true,none,lvs (encI l)⟩] (.l (.r 0 1 0 (compL l).length)) [some ⟨3,1,true,none,lvs (encI (compL l))⟩]:=Lg l (by simpa [cmB] using h)
end Go.Proofs.Ytenemndpignaoaa
namespace Go.Proofs.Ytenemndpignaoaa
open Go Go.RowKit
section
variable {P:Program} {d:Option Nat} {t:Nat} {st:St} {K:St→Prop} {k:IntKind} {a b:Int} {x y:ByteArray} {p q:Bool}
@[simp high] theorem xs_add:xeq P .add t (.l (.s (.int k a))) (.l (.s (.int k b))) st d K=K (st.put d (.l (.s (.int k (addI k a b))))):=by simp[xeq,bopP,bop,addI]
@[simp high] theorem xs_sub:xeq P .sub t (.l (.s (.int k a))) (.l (.s (.int k b))) st d K=K (st.put d (.l (.s (.int k (subI k a b))))):=by simp[xeq,bopP,bop,subI]
@[simp high] theorem xs_mul:xeq P .mul t (.l (.s (.int k a))) (.l (.s (.int k b))) st d K=K (st.put d (.l (.s (.int k (mulI k a b))))):=by simp[xeq,bopP,bop,mulI]
@[simp high] theorem xs_and:xeq P .and t (.l (.s (.int k a))) (.l (.s (.int k b))) st d K=K (st.put d (.l (.s (.int k (andI k a b))))):=by simp[xeq,bopP,bop,andI]
@[simp high] theorem xs_xor:xeq P .xor t (.l (.s (.int k a))) (.l (.s (.int k b))) st d K=K (st.put d (.l (.s (.int k (xorI k a b))))):=by simp[xeq,bopP,bop,xorI]
@[simp high] theorem xs_quo:xeq P .quo t (.l (.s (.int k a))) (.l (.s (.int k b))) st d K=wh (quoI k a b) fun c=>K (st.put d (.l (.s (.int k c)))):=by
 unfold quoI;split <;> simp_all [xeq,bopP,bop]
@[simp high] theorem xs_rem:xeq P .rem t (.l (.s (.int k a))) (.l (.s (.int k b))) st d K=wh (remI k a b) fun c=>K (st.put d (.l (.s (.int k c)))):=by
 unfold remI;split <;> simp_all [xeq,bopP,bop]
@[simp high] theorem xs_shl {k':IntKind}:xeq P .shl t (.l (.s (.int k a))) (.l (.s (.int k' b))) st d K=wh (shlI k a b) fun c=>K (st.put d (.l (.s (.int k c)))):=by
 unfold shlI;simp only[xeq,bopP,bop];split <;> rfl
@[simp high] theorem xs_shr {k':IntKind}:xeq P .shr t (.l (.s (.int k a))) (.l (.s (.int k' b))) st d K=wh (shrI k a b) fun c=>K (st.put d (.l (.s (.int k c)))):=by
 unfold shrI;simp only[xeq,bopP,bop];split <;> rfl
@[simp high] theorem xs_eql:xeq P .eql t (.l (.s (.int k a))) (.l (.s (.int k b))) st d K=K (st.put d (.l (.s (.bool (eqI a b))))):=by simp[xeq,bopP,bop,eqI]
@[simp high] theorem xs_neq:xeq P .neq t (.l (.s (.int k a))) (.l (.s (.int k b))) st d K=K (st.put d (.l (.s (.bool (neI a b))))):=by simp[xeq,bopP,bop,neI]
@[simp high] theorem xs_lss:xeq P .lss t (.l (.s (.int k a))) (.l (.s (.int k b))) st d K=K (st.put d (.l (.s (.bool (ltI a b))))):=by simp[xeq,bopP,bop,ltI]
@[simp high] theorem xs_leq:xeq P .leq t (.l (.s (.int k a))) (.l (.s (.int k b))) st d K=K (st.put d (.l (.s (.bool (leI a b))))):=by simp[xeq,bopP,bop,leI]
@[simp high] theorem xs_gtr:xeq P .gtr t (.l (.s (.int k a))) (.l (.s (.int k b))) st d K=K (st.put d (.l (.s (.bool (gtI a b))))):=by simp[xeq,bopP,bop,gtI]
@[simp high] theorem xs_geq:xeq P .geq t (.l (.s (.int k a))) (.l (.s (.int k b))) st d K=K (st.put d (.l (.s (.bool (geI a b))))):=by simp[xeq,bopP,bop,geI]
def andO:Option Bool→Option Bool→Option Bool
 |some b,some c=>some (andB b c)
 |_,_=>none
@[simp] theorem veqs_n:veqs [] [] []=some true:=rfl
@[simp] theorem andO_s (b c:Bool):andO (some b) (some c)=some (andB b c):=rfl
@[simp high] theorem xs_not {ty:TypeId} {pos:String} {af:Array Edge} {g:Option (Nat×Bool)} {x':Operand}:xo P ⟨d,.unOp .not t x',ty,pos,af,g⟩ st K=wb (st.ev x') fun b=>K (st.put d (.l (.s (.bool (notB b))))):=by
 rw[Kj];generalize st.ev x'=v;cases v with
 |l y =>
  cases y with
  |s z=>cases z <;> first|rfl|(simp[ws,wb,uop])
  |_=>rfl
 |_=>rfl
def wik (v:AV) (k:IntKind→Int→Prop):Prop :=
 match v with
 |.l (.s (.int kd n))=>k kd n
 |_=>False
@[congr] theorem wik_congr {x y:AV} {k:IntKind→Int→Prop} (h:x=y):wik x k=wik y k:=by rw[h]
@[simp high] theorem xs_conv (s t:Nat):xconv P s t (.l (.s (.int k a))) st d K=((P.underlying s).isSome=true∧wh (intF P t) fun k=>K (st.put d (.l (.s (.int k (cvI k a)))))):=nr rfl
@[simp high] theorem xs_max:xmm max (.l (.s (.int k a))) (.l (.s (.int k b))) st d K=K (st.put d (.l (.s (.int k (maxI a b))))):=by simp[xmm,maxI]
@[simp high] theorem xs_min:xmm min (.l (.s (.int k a))) (.l (.s (.int k b))) st d K=K (st.put d (.l (.s (.int k (minI a b))))):=by simp[xmm,minI]
end
section
variable {P:Program} {d:Option Nat} {t:Nat} {st:St} {K:St→Prop} {x:ByteArray} {ob sz lo hi:Nat} {al:Bool}
end
def idxB (a:ByteArray) (c:Int):Int:=Lib.indexByte a.data.toList c.toNat.toUInt8
def bytesI (s:ByteArray):List Int:=s.data.toList.map fun b=>(b.toNat:Int)
end Go.Proofs.Ytenemndpignaoaa
