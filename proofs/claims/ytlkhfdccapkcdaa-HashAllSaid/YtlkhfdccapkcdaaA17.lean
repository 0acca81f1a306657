/- Operations all together: what a run of operations asks of a state. -/
import Derived.Test.YtlkhfdccapkcdaaB5
namespace Go.Proofs.Ytlkhfdccapkcdaa
open Go Go.RowKit
set_option linter.unusedVariables false
set_option linter.unusedSimpArgs false

/-- A bound of a part: K of it. -/
def xbnd (st : St) (x : Option Operand) (d : Nat) (K : Nat → Prop) : Prop :=
  match x with
  | none => K d
  | some y => match st.ev y with | .l (.s (.int _ n)) => 0 ≤ n ∧ K n.toNat | _ => False
theorem xbnd_elim {st : St} {x : Option Operand} {d : Nat} {K : Nat → Prop} (h : xbnd st x d K) : ∃ l, Bnd st x d l ∧ K l := by
  unfold xbnd at h
  split at h
  · exact ⟨d, rfl, h⟩
  · rename_i y
    split at h
    · rename_i k n hy
      exact ⟨n.toNat, ⟨k, by rw [hy, Int.toNat_of_nonneg h.1]⟩, h.2⟩
    · exact h.elim

def xlen (P : Program) (t : Nat) (x : AV) (st : St) (dst : Option Nat) (K : St → Prop) : Prop :=
  match x with
  | .l (.d _ _ es) => (elemF P t).isSome = true ∧ (es.length ≤ 140737488355328 → K (st.put dst (.l (.s (.int .i64 es.length)))))
  | .l (.r _ _ lo hi) => (elemF P t).isSome = true ∧ K (st.put dst (.l (.s (.int .i64 ((hi - lo : Nat) : Int)))))
  | .l (.s (.slice none 0 0)) => (elemF P t).isSome = true ∧ K (st.put dst (.l (.s (.int .i64 0))))
  | .l (.s (.string s)) => strF P t = true ∧ K (st.put dst (.l (.s (.int .i64 s.size))))
  | _ => False
/-- append: m elements nc go behind what s is. -/
def xapp (P : Program) (t : Nat) (s x : AV) (st : St) (dst : Option Nat) (K : St → Prop) : Prop :=
  wh (elemF P t) fun e => wh (tiF P e) fun ti => ti.zero.length = ti.sz ∧ 0 < ti.sz ∧ 0 < ti.bytes ∧ wh (st.src ti.sz x) fun q =>
    match s with
    | .l (.s (.slice none 0 0)) => q.1 * ti.bytes ≤ 140737488355328 ∧ K ((st.add ⟨e, ti.sz, true, none, q.2⟩).put dst (hdr st.ob.length ti.sz q.1))
    | .l (.r ob sz lo hi) => wh (st.obj ob) fun z => (sz = ti.sz ∧ z.ty = e ∧ z.sz = ti.sz ∧ z.row = true) ∧
        ((lo = 0 ∧ z.cs.length = hi * ti.sz ∧ (hi + q.1) * ti.bytes ≤ 140737488355328 ∧
          K ((st.grow ob ⟨e, ti.sz, true, none, (z.cs ++ q.2).map (LV.ren (but ob))⟩).put dst (hdr ob ti.sz (hi + q.1)))) ∨
         ((hi + q.1) * ti.sz ≤ z.cs.length ∧ K ((st.setO ob { z with cs := setAt z.cs (hi * ti.sz) q.2 }).put dst (.l (.r ob ti.sz lo (hi + q.1))))))
    | _ => False
/-- append(s, make(n)). -/
def xmake (P : Program) (t t' : Nat) (s x : AV) (st : St) (dst : Option Nat) (K : St → Prop) : Prop :=
  wh (elemF P t) fun e => wh (tiF P e) fun ti => (intF P t').isSome = true ∧ (ti.zero.length = ti.sz ∧ ti.zero.all (·.oneCell') = true ∧ 0 < ti.sz) ∧
    match s, x with
    | .l (.s (.slice none 0 0)), .l (.s (.int _ n)) => 0 < n ∧ n.toNat * ti.bytes ≤ 281474976710656 ∧ n.toNat ≤ 4611686018427387904 ∧ K ((st.add ⟨e, ti.sz, true, none, (repZ n.toNat ti.zero).map .s⟩).put dst (hdr st.ob.length ti.sz n.toNat))
    | .l (.r ob sz lo hi), .l (.s (.int _ n)) => sz = ti.sz ∧ wh (st.obj ob) fun z => z.row = true ∧ wh z.cap fun c => wh (st.src ti.sz (.l (.r ob ti.sz lo hi))) fun q => q.1 = hi - lo ∧ 0 < n ∧ lo ≤ hi ∧ c < hi + n.toNat ∧ (hi - lo + n.toNat) * ti.bytes ≤ 140737488355328 ∧ hi - lo + n.toNat ≤ 4611686018427387904 ∧
        K ((st.add ⟨e, ti.sz, true, none, q.2 ++ (repZ n.toNat ti.zero).map .s⟩).put dst (hdr st.ob.length ti.sz (hi - lo + n.toNat)))
    | _, _ => False
def xcap (P : Program) (t : Nat) (x : AV) (st : St) (dst : Option Nat) (K : St → Prop) : Prop :=
  (elemF P t).isSome = true ∧
  match x with
  | .l (.s (.slice none 0 0)) => K (st.put dst (.l (.s (.int .i64 0))))
  | .l (.r ob _ lo hi) => wh (st.obj ob) fun z => z.row = true ∧ ∀ c, hi ≤ c → (∀ k, z.cap = some k → c = k) → z.cs.length ≤ c * z.sz → K ((st.setO ob { z with cap := some c }).put dst (.l (.s (.int .i64 ((c - lo : Nat) : Int)))))
  | _ => False
def xcopy (P : Program) (t : Nat) (d x : AV) (st : St) (dst : Option Nat) (K : St → Prop) : Prop :=
  wh (elemF P t) fun e => wh (tiF P e) fun ti =>
    match d with
    | .l (.r ob sz lo hi) => sz = ti.sz ∧ wh (st.obj ob) fun z => hi * ti.sz ≤ z.cs.length ∧
      (match x with
      | .l (.r ob2 sz2 lo2 hi2) => sz2 = ti.sz ∧ lo2 ≤ hi2 ∧ 0 < min (hi2 - lo2) (hi - lo) ∧ wh (st.src ti.sz (.l (.r ob2 ti.sz lo2 (lo2 + min (hi2 - lo2) (hi - lo))))) fun q => q.1 = min (hi2 - lo2) (hi - lo) ∧
          K ((st.setO ob { z with cs := setAt z.cs (lo * ti.sz) q.2 }).put dst (.l (.s (.int .i64 ((min (hi2 - lo2) (hi - lo) : Nat) : Int)))))
      | x => wh (st.src ti.sz x) fun q => K ((st.setO ob { z with cs := setAt z.cs (lo * ti.sz) (q.2.take (min q.1 (hi - lo) * ti.sz)) }).put dst (.l (.s (.int .i64 ((min q.1 (hi - lo) : Nat) : Int))))))
    | _ => False
def xclear (P : Program) (t : Nat) (x : AV) (st : St) (dst : Option Nat) (K : St → Prop) : Prop :=
  dst = none ∧ wh (elemF P t) fun e => wh (tiF P e) fun ti => (ti.zero.length = ti.sz ∧ ti.zero.all (·.oneCell') = true) ∧
    match x with
    | .l (.r ob sz lo hi) => sz = ti.sz ∧ wh (st.obj ob) fun z => lo ≤ hi ∧ hi * ti.sz ≤ z.cs.length ∧ K (st.setO ob { z with cs := setAt z.cs (lo * ti.sz) ((repZ (hi - lo) ti.zero).map .s) })
    | _ => False
def xslice3 (P : Program) (t : Nat) (x l h m : AV) (st : St) (dst : Option Nat) (K : St → Prop) : Prop :=
  wh (elemF P t) fun e => wh (tiF P e) fun ti =>
    match x, l, h, m with
    | .l (.r _ sz lo hi), .l (.s (.int _ l)), .l (.s (.int _ h)), .l (.s (.int _ m)) => sz = ti.sz ∧ 0 ≤ l ∧ l ≤ h ∧ h ≤ m ∧ m ≤ ((hi - lo : Nat) : Int) ∧ K (st.put dst (.l .u))
    | _, _, _, _ => False
def xmm (f : Int → Int → Int) (x y : AV) (st : St) (dst : Option Nat) (K : St → Prop) : Prop :=
  match x, y with
  | .l (.s (.int k a)), .l (.s (.int k' b)) => k = k' ∧ K (st.put dst (.l (.s (.int k (f a b)))))
  | _, _ => False
def xcallop (P : Program) (c : Call) (st : St) (dst : Option Nat) (K : St → Prop) : Prop :=
  match c.callee with
  | .value g =>
    match st.ev g with
    | .l (.s (.func (.func f) fi ca)) => (fi = #[] ∧ ca = #[]) ∧ xcall P f (c.args.toList.map st.ev) st dst K
    | .l (.f f caps) => xcall P f (c.args.toList.map st.ev ++ caps.map fun o => .l (.p o 0)) st dst K
    | _ => False
  | .builtin .len => match c.args.toList, c.argTypes.toList with | [x], [t] => xlen P t (st.ev x) st dst K | _, _ => False
  | .builtin .append => match c.args.toList, c.argTypes.toList with | [s, x], [t, t'] => if t = t' then xapp P t (st.ev s) (st.ev x) st dst K else xmake P t t' (st.ev s) (st.ev x) st dst K | _, _ => False
  | .builtin .cap => match c.args.toList, c.argTypes.toList with | [x], [t] => xcap P t (st.ev x) st dst K | _, _ => False
  | .builtin .copy => match c.args.toList, c.argTypes.toList with | [d, x], [t, _] => xcopy P t (st.ev d) (st.ev x) st dst K | _, _ => False
  | .builtin .clear => match c.args.toList, c.argTypes.toList with | [x], [t] => xclear P t (st.ev x) st dst K | _, _ => False
  | .builtin .max => match c.args.toList with | [x, y] => xmm max (st.ev x) (st.ev y) st dst K | _ => False
  | .builtin .min => match c.args.toList with | [x, y] => xmm min (st.ev x) (st.ev y) st dst K | _ => False
  | _ => False
def xslice (P : Program) (t : Nat) (x : AV) (lo hi : Option Operand) (st : St) (dst : Option Nat) (K : St → Prop) : Prop :=
  match x with
  | .l (.s (.string s)) => strF P t = true ∧ xbnd st lo 0 fun l => xbnd st hi s.size fun h => l ≤ h ∧ h ≤ s.size ∧ K (st.put dst (.l (.s (.string (s.extract l h)))))
  | .l (.d al sz es) => wh (elemF P t) fun e => wh (tiF P e) fun ti => sz = ti.sz ∧ xbnd st lo 0 fun l => xbnd st hi es.length fun h => l ≤ h ∧ h ≤ es.length ∧ K (st.put dst (.l (.d al sz ((es.drop l).take (h - l)))))
  | .l (.r ob sz l0 h0) => wh (elemF P t) fun e => wh (tiF P e) fun ti => wh (st.obj ob) fun z => (z.row = true ∧ z.sz = sz ∧ sz = ti.sz ∧ 0 < sz) ∧ xbnd st lo 0 fun l => xbnd st hi (h0 - l0) fun h => l ≤ h ∧ (l0 + h) * sz ≤ z.cs.length ∧
      K (st.put dst (.l (.r ob sz (l0 + l) (l0 + h))))
  | _ => False
def xeq (P : Program) (op : BinOp) (t : Nat) (x y : AV) (st : St) (dst : Option Nat) (K : St → Prop) : Prop :=
  match x, y with
  | .l (.s a), .l (.s b) => wh (bopP P op t a b) fun v => K (st.put dst (.l (.s v)))
  | .l (.d _ _ es), .l (.s (.slice none 0 0)) => (op = .eql ∨ op = .neq) ∧ (elemF P t).isSome = true ∧ ∀ b : Bool, (es ≠ [] → b = false) → K (st.put dst (.l (.s (.bool (if op = .eql then b else !b)))))
  | .g xs, .g ys => (op = .eql ∨ op = .neq) ∧ wh (seqF P t) fun ks => wh (veqs ks xs ys) fun b => K (st.put dst (.l (.s (.bool (if op = .eql then b else !b)))))
  | _, _ => False
def xidx (P : Program) (t : Nat) (x i : AV) (st : St) (dst : Option Nat) (K : St → Prop) : Prop :=
  match i with
  | .l (.s (.int _ n)) => 0 ≤ n ∧ wh (elemF P t) fun e => wh (tiF P e) fun ti =>
    match x with
    | .l (.d al sz es) => sz = ti.sz ∧ wh (es[n.toNat]?) fun c => K (st.put dst (.l (.q al c 0)))
    | .l (.r ob sz lo hi) => sz = ti.sz ∧ n.toNat < hi - lo ∧ K (st.put dst (.l (.p ob ((lo + n.toNat) * ti.sz))))
    | _ => False
  | _ => False
def xconv (P : Program) (src dst' : Nat) (x : AV) (st : St) (dst : Option Nat) (K : St → Prop) : Prop :=
  match x with
  | .l (.s (.int _ n)) => (P.underlying src).isSome = true ∧ wh (intF P dst') fun k => K (st.put dst (.l (.s (.int k (k.wrap n)))))
  | .l (.s (.string s)) => (P.underlying src).isSome = true ∧ strF P dst' = true ∧ K (st.put dst (.l (.s (.string s))))
  | x => wh (elemF P src) fun e => intF P e = some .u8 ∧ strF P dst' = true ∧ wh (st.src 1 x) fun q => wh (byteL q.2) fun bs => K (st.put dst (.l (.s (.string ⟨bs.toArray⟩))))
def xo (P : Program) (o : Oper) (st : St) (K : St → Prop) : Prop :=
  match o.op with
  | .move x => K (st.put o.dst (st.ev x))
  | .assign x => K (st.put o.dst (st.ev x))
  | .pick c x y => match st.ev c with | .l (.s (.bool b)) => K (st.put o.dst (bif b then st.ev x else st.ev y)) | _ => False
  | .load t x => wh (tiF P t) fun ti => wh (st.at (st.ev x)) fun c => wh (ldX ti c.1 c.2) fun v => K (st.put o.dst v)
  | .store t x y => wh (tiF P t) fun ti =>
    match st.ev x with
    | .l (.p ob off) => wh (st.obj ob) fun z => (st.ev y).ok = true ∧ (st.ev y).cells.length = ti.sz ∧ off + ti.sz ≤ z.cs.length ∧ K ((st.setO ob { z with cs := setAt z.cs off (st.ev y).cells }).put o.dst (.l .u))
    | _ => False
  | .alloc t => wh (tiF P t) fun ti => ti.zero.all (·.oneCell') = true ∧ K ((st.add ⟨t, ti.sz, false, none, ti.zero.map .s⟩).put o.dst (ptr st.ob.length))
  | .box t x => (st.ev x).ok = true ∧ K ((st.add ⟨t, (st.ev x).cells.length, false, none, (st.ev x).cells⟩).put o.dst (ptr st.ob.length))
  | .build t parts => wh (tiF P t) fun ti => wh (flds P t) fun fs => ti.zero.all (·.oneCell') = true ∧ wh (fillA (fun i => (fs[i]?).map fun x => (x.1, x.2.1)) (ti.zero.map .s) (parts.toList.map fun x => (x.1, st.ev x.2))) fun cs => K (st.put o.dst (.g cs))
  | .buildSlice t len parts => wh (elemF P t) fun e => wh (tiF P e) fun ti => (ti.zero.all (·.oneCell') = true ∧ ti.zero.length = ti.sz ∧ len * ti.sz ≤ 16777216 ∧ len ≤ 16777216) ∧
      wh (fillA (fun i => some (i * ti.sz, ti.sz)) ((repZ len ti.zero).map .s) (parts.toList.map fun x => (x.1, st.ev x.2))) fun cs => K ((st.add ⟨e, ti.sz, true, none, cs⟩).put o.dst (hdr st.ob.length ti.sz len))
  | .fieldAddr s x f => wh (flds P s) fun fs => wh (fs[f]?) fun q => q.2.1 ≠ 0 ∧ (match st.ev x with | .l p => p.isPtr = true ∧ K (st.put o.dst (.l (p.add q.1))) | _ => False)
  | .field s x f => wh (flds P s) fun fs => wh (fs[f]?) fun q => (match st.ev x with | .g cs => q.1 + q.2.1 ≤ cs.length ∧ wh (if q.2.2 = true then some (.g ((cs.drop q.1).take q.2.1)) else (cs[q.1]?).map .l) fun v => K (st.put o.dst v) | _ => False)
  | .indexAddr t x i => xidx P t (st.ev x) (st.ev i) st o.dst K
  | .index t x i => match st.ev x, st.ev i with | .l (.s (.string s)), .l (.s (.int _ n)) => strF P t = true ∧ 0 ≤ n ∧ n.toNat < s.size ∧ K (st.put o.dst (.l (.s (.int .u8 (bAt s n.toNat))))) | _, _ => False
  | .slice t x lo hi none => xslice P t (st.ev x) lo hi st o.dst K
  | .slice t x (some l) (some h) (some m) => xslice3 P t (st.ev x) (st.ev l) (st.ev h) (st.ev m) st o.dst K
  | .binOp op t x y _ => xeq P op t (st.ev x) (st.ev y) st o.dst K
  | .unOp op _ x => match st.ev x with | .l (.s a) => wh (uop op a) fun v => K (st.put o.dst (.l (.s v))) | _ => False
  | .convert src dst x => xconv P src dst (st.ev x) st o.dst K
  | .extract x i => wh (tget (st.ev x) i) fun v => K (st.put o.dst v)
  | .makeFunc (.func f) fi cs => fi = #[] ∧ wh (capt (cs.toList.map st.ev)) fun ids => K (st.put o.dst (.l (.f f ids)))
  | .nilCheck x => match st.ev x with | .l p => p.isPtr = true ∧ K (st.put o.dst (.l p)) | _ => False
  | .call c => xcallop P c st o.dst K
  | _ => False

section
variable {P : Program} {R : Option Nat} {cx : Cx} {o : Oper} {st : St} {K : St → Prop}
theorem OpFam.fact {p : Prop} (h : ∀ σ a w, RelS cx σ st a w → p) (k : p → OpFam P R cx o st K) : OpFam P R cx o st K := fun σ a w hr => k (h σ a w hr) σ a w hr
theorem xlen_sound {t : Nat} {x : Operand} (ho : o.op = .call { callee := .builtin .len, args := #[x], argTypes := #[t] }) (h : xlen P t (st.ev x) st o.dst K) : OpFam P R cx o st K := by
  have hd : ∀ c, o.op ≠ .defer c := fun c e => by rw [ho] at e; simp at e
  unfold xlen at h
  split at h
  · rename_i al sz es hx
    obtain ⟨e, he⟩ := Option.isSome_iff_exists.1 h.1
    exact .fact (fun σ a w hr => len_le hr hx) fun hl => .ok hd (.len_d ho he hx) (h.2 hl)
  · rename_i ob sz lo hi hx
    obtain ⟨e, he⟩ := Option.isSome_iff_exists.1 h.1
    exact .ok hd (.len_r ho he hx) h.2
  · rename_i hx
    obtain ⟨e, he⟩ := Option.isSome_iff_exists.1 h.1
    exact .ok hd (.len_nil ho he hx) h.2
  · rename_i s hx
    exact .ok hd (.len_s ho h.1 hx) h.2
  · exact h.elim
theorem xapp_sound {t : Nat} {s x : Operand} (ho : o.op = .call { callee := .builtin .append, args := #[s, x], argTypes := #[t, t] }) (h : xapp P t (st.ev s) (st.ev x) st o.dst K) : OpFam P R cx o st K := by
  have hd : ∀ c, o.op ≠ .defer c := fun c e => by rw [ho] at e; simp at e
  unfold xapp at h
  obtain ⟨e, he, h⟩ := wh_elim h
  obtain ⟨ti, hti, h1, h2, h3, h⟩ := wh_elim h
  obtain ⟨q, hq, h⟩ := wh_elim h
  split at h
  · rename_i hs
    exact .ok hd (.append_nil ho he hti h1 h2 h3 hs hq h.1) h.2
  · rename_i ob sz lo hi hs
    obtain ⟨z, hz, ⟨rfl, h4, h5, h6⟩, ⟨rfl, h7, h8, hk⟩ | ⟨h7, hk⟩⟩ := wh_elim h
    · exact .ok hd (.append_own ho he hti h1 h2 h3 hs hz ⟨h4, h5, h6⟩ h7 hq h8) hk
    · exact .ok hd (.append_in ho he hti h2 hs hz ⟨h5, h6⟩ hq h7) hk
  · exact h.elim
theorem xmake_sound {t t' : Nat} {s x : Operand} (ho : o.op = .call { callee := .builtin .append, args := #[s, x], argTypes := #[t, t'] }) (h : xmake P t t' (st.ev s) (st.ev x) st o.dst K) : OpFam P R cx o st K := by
  have hd : ∀ c, o.op ≠ .defer c := fun c e => by rw [ho] at e; simp at e
  unfold xmake at h
  obtain ⟨e, he, h⟩ := wh_elim h
  obtain ⟨ti, hti, h1, ⟨h2, h3, h4⟩, h⟩ := wh_elim h
  obtain ⟨k, hk'⟩ := Option.isSome_iff_exists.1 h1
  split at h
  · rename_i kq n hs hx
    obtain ⟨g1, g2, g3, hk⟩ := h
    have hx' : st.ev x = .l (.s (.int kq (n.toNat : Int))) := by rw [hx, Int.toNat_of_nonneg (by omega)]
    exact .ok hd (.append_make_nil ho he hk' hti h2 h3 h4 hs hx' (by omega) g2 g3) hk
  · rename_i ob sz lo hi kq n hs hx
    obtain ⟨rfl, h⟩ := h
    obtain ⟨z, hz, hrow, h⟩ := wh_elim h
    obtain ⟨c, hc, h⟩ := wh_elim h
    obtain ⟨q, hq, g0, g1, g2, g3, g4, g5, hk⟩ := wh_elim h
    obtain ⟨q1, q2⟩ := q
    simp only at g0 hk
    subst g0
    have hx' : st.ev x = .l (.s (.int kq (n.toNat : Int))) := by rw [hx, Int.toNat_of_nonneg (by omega)]
    exact .ok hd (.append_make_grow ho he hk' hti h2 h3 h4 hs hz hrow hc hq hx' (by omega) g2 g3 g4 g5) hk
  · exact h.elim
theorem xcap_sound {t : Nat} {x : Operand} (ho : o.op = .call { callee := .builtin .cap, args := #[x], argTypes := #[t] }) (h : xcap P t (st.ev x) st o.dst K) : OpFam P R cx o st K := by
  have hd : ∀ c, o.op ≠ .defer c := fun c e => by rw [ho] at e; simp at e
  unfold xcap at h
  obtain ⟨he, h⟩ := h
  obtain ⟨e, he⟩ := Option.isSome_iff_exists.1 he
  split at h
  · rename_i hx
    exact .ok hd (.cap_nil ho he hx) h
  · rename_i ob sz lo hi hx
    obtain ⟨z, hz, hrow, hk⟩ := wh_elim h
    exact .cap_r ho he hx hz hrow hk
  · exact h.elim
theorem xcopy_sound {t t' : Nat} {d x : Operand} (ho : o.op = .call { callee := .builtin .copy, args := #[d, x], argTypes := #[t, t'] }) (h : xcopy P t (st.ev d) (st.ev x) st o.dst K) : OpFam P R cx o st K := by
  have hd : ∀ c, o.op ≠ .defer c := fun c e => by rw [ho] at e; simp at e
  unfold xcopy at h
  obtain ⟨e, he, h⟩ := wh_elim h
  obtain ⟨ti, hti, h⟩ := wh_elim h
  split at h
  · rename_i ob sz lo hi hx
    obtain ⟨rfl, h⟩ := h
    obtain ⟨z, hz, hfit, h⟩ := wh_elim h
    split at h
    · rename_i ob2 sz2 lo2 hi2 hx2
      obtain ⟨rfl, h1, h2, h⟩ := h
      obtain ⟨q, hq, h3, hk⟩ := wh_elim h
      obtain ⟨q1, q2⟩ := q
      simp only at h3 hk
      subst h3
      exact .ok hd (.copy_part ho he hti hx hz hfit hx2 h1 hq h2) hk
    · obtain ⟨q, hq, hk⟩ := wh_elim h
      exact .ok hd (.copy_r ho he hti hx hz hfit hq) hk
  · exact h.elim
theorem xclear_sound {t : Nat} {x : Operand} (ho : o.op = .call { callee := .builtin .clear, args := #[x], argTypes := #[t] }) (h : xclear P t (st.ev x) st o.dst K) : OpFam P R cx o st K := by
  have hd : ∀ c, o.op ≠ .defer c := fun c e => by rw [ho] at e; simp at e
  obtain ⟨hdst, h⟩ := h
  obtain ⟨e, he, h⟩ := wh_elim h
  obtain ⟨ti, hti, ⟨h1, h2⟩, h⟩ := wh_elim h
  split at h
  · rename_i ob sz lo hi hx
    obtain ⟨rfl, h⟩ := h
    obtain ⟨z, hz, h3, h4, hk⟩ := wh_elim h
    exact .ok hd (.clear_r ho hdst he hti h1 h2 hx hz h3 h4) hk
  · exact h.elim
theorem xslice3_sound {t : Nat} {x l h m : Operand} (ho : o.op = .slice t x (some l) (some h) (some m)) (hh : xslice3 P t (st.ev x) (st.ev l) (st.ev h) (st.ev m) st o.dst K) : OpFam P R cx o st K := by
  have hd : ∀ c, o.op ≠ .defer c := fun c e => by rw [ho] at e; simp at e
  unfold xslice3 at hh
  obtain ⟨e, he, hh⟩ := wh_elim hh
  obtain ⟨ti, hti, hh⟩ := wh_elim hh
  split at hh
  · rename_i ob sz lo hi k1 l' k2 h' k3 m' hx hl hh' hm
    obtain ⟨rfl, g1, g2, g3, g4, hk⟩ := hh
    obtain ⟨l', rfl⟩ := Int.eq_ofNat_of_zero_le g1
    obtain ⟨h', rfl⟩ := Int.eq_ofNat_of_zero_le (show 0 ≤ h' by omega)
    obtain ⟨m', rfl⟩ := Int.eq_ofNat_of_zero_le (show 0 ≤ m' by omega)
    exact .ok hd (.slice3_r ho he hti hx hl hh' hm (by omega) (by omega) (by omega)) hk
  · exact hh.elim
theorem xslice_sound {t : Nat} {x : Operand} {lo hi : Option Operand} (ho : o.op = .slice t x lo hi none) (h : xslice P t (st.ev x) lo hi st o.dst K) : OpFam P R cx o st K := by
  have hd : ∀ c, o.op ≠ .defer c := fun c e => by rw [ho] at e; simp at e
  unfold xslice at h
  split at h
  · rename_i s hx
    obtain ⟨hs, h⟩ := h
    obtain ⟨l, hl, h⟩ := xbnd_elim h
    obtain ⟨m, hm, h1, h2, hk⟩ := xbnd_elim h
    exact .ok hd (.slice_s ho hs hx hl hm h1 h2) hk
  · rename_i al sz es hx
    obtain ⟨e, he, h⟩ := wh_elim h
    obtain ⟨ti, hti, hsz, h⟩ := wh_elim h
    obtain ⟨l, hl, h⟩ := xbnd_elim h
    obtain ⟨m, hm, h1, h2, hk⟩ := xbnd_elim h
    exact .ok hd (.slice_d ho he hti hx hsz hl hm h1 h2) hk
  · rename_i ob sz l0 h0 hx
    obtain ⟨e, he, h⟩ := wh_elim h
    obtain ⟨ti, hti, h⟩ := wh_elim h
    obtain ⟨z, hz, ⟨h1, h2, h3, h4⟩, h⟩ := wh_elim h
    obtain ⟨l, hl, h⟩ := xbnd_elim h
    obtain ⟨m, hm, h5, h6, hk⟩ := xbnd_elim h
    exact .ok hd (.slice_r ho he hti hx hz h1 h2 h3 h4 hl hm h5 h6) hk
  · exact h.elim
theorem xeq_sound {op : BinOp} {t t' : Nat} {x y : Operand} (ho : o.op = .binOp op t x y t') (h : xeq P op t (st.ev x) (st.ev y) st o.dst K) : OpFam P R cx o st K := by
  have hd : ∀ c, o.op ≠ .defer c := fun c e => by rw [ho] at e; simp at e
  unfold xeq at h
  split at h
  · rename_i a b hx hy
    obtain ⟨v, hv, hk⟩ := wh_elim h
    exact .ok hd (.binP ho hx hy hv) hk
  · rename_i al sz es hx hy
    obtain ⟨hop, he, h⟩ := h
    obtain ⟨e, he⟩ := Option.isSome_iff_exists.1 he
    intro σ a w hr next Q hn
    obtain ⟨b, hb, hrun⟩ := eql_nil ho hop he hx hy hr
    rw [Oper.semAt_eq _ _ _ hd, hrun]
    exact hn σ _ _ w (h b hb) (hr.put o.dst ⟨rfl, rfl⟩)
  · rename_i xs ys hx hy
    obtain ⟨hop, h⟩ := h
    obtain ⟨ks, hks, h⟩ := wh_elim h
    obtain ⟨b, hb, hk⟩ := wh_elim h
    exact .ok hd (.eql_g ho hop hks hx hy hb) hk
  · exact h.elim
theorem xidx_sound {t : Nat} {x i : Operand} (ho : o.op = .indexAddr t x i) (h : xidx P t (st.ev x) (st.ev i) st o.dst K) : OpFam P R cx o st K := by
  have hd : ∀ c, o.op ≠ .defer c := fun c e => by rw [ho] at e; simp at e
  unfold xidx at h
  split at h
  · rename_i k n hi
    obtain ⟨h0, h⟩ := h
    obtain ⟨e, he, h⟩ := wh_elim h
    obtain ⟨ti, hti, h⟩ := wh_elim h
    split at h
    · rename_i al sz es hx
      obtain ⟨hsz, h⟩ := h
      obtain ⟨c, hc, hk⟩ := wh_elim h
      exact .ok hd (.indexAddr_d ho he hti hx hi hsz h0 hc) hk
    · rename_i ob sz lo hi' hx
      obtain ⟨hsz, hlt, hk⟩ := h
      exact .ok hd (.indexAddr_r ho he hti hx hi hsz h0 hlt) hk
    · exact h.elim
  · exact h.elim
theorem xconv_sound {src dst : Nat} {x : Operand} (ho : o.op = .convert src dst x) (h : xconv P src dst (st.ev x) st o.dst K) : OpFam P R cx o st K := by
  have hd : ∀ c, o.op ≠ .defer c := fun c e => by rw [ho] at e; simp at e
  unfold xconv at h
  split at h
  · rename_i k n hx
    obtain ⟨hs, h⟩ := h
    obtain ⟨k', hk', hk⟩ := wh_elim h
    exact .ok hd (.conv_int ho hs hk' hx) hk
  · rename_i s hx
    exact .ok hd (.conv_str ho h.1 h.2.1 hx) h.2.2
  · obtain ⟨e, he, h1, h2, h⟩ := wh_elim h
    obtain ⟨q, hq, h⟩ := wh_elim h
    obtain ⟨bs, hb, hk⟩ := wh_elim h
    exact .ok hd (.conv_bytes ho he h1 h2 hq hb) hk
theorem xcallop_sound {c : Call} (ho : o.op = .call c) (h : xcallop P c st o.dst K) : OpFam P R cx o st K := by
  have hd : ∀ c, o.op ≠ .defer c := fun c e => by rw [ho] at e; simp at e
  obtain ⟨callee, args, argTypes⟩ := c
  unfold xcallop at h
  split at h
  · rename_i g hc
    simp at hc
    subst hc
    split at h
    · rename_i f fi ca hg
      obtain ⟨⟨rfl, rfl⟩, h⟩ := h
      exact .call ho rfl (.inl ⟨hg, rfl⟩) (by simpa using h)
    · rename_i f caps hg
      exact .call ho rfl (.inr hg) h
    · exact h.elim
  · rename_i hc
    simp at hc
    subst hc
    split at h
    · rename_i x t ha ht
      obtain rfl : args = #[x] := by rw [← Array.toArray_toList (xs := args)]; exact congrArg List.toArray ha
      obtain rfl : argTypes = #[t] := by rw [← Array.toArray_toList (xs := argTypes)]; exact congrArg List.toArray ht
      exact xlen_sound ho h
    · exact h.elim
  · rename_i hc
    simp at hc
    subst hc
    split at h
    · rename_i s x t t' ha ht
      obtain rfl : args = #[s, x] := by rw [← Array.toArray_toList (xs := args)]; exact congrArg List.toArray ha
      obtain rfl : argTypes = #[t, t'] := by rw [← Array.toArray_toList (xs := argTypes)]; exact congrArg List.toArray ht
      split at h
      · rename_i e
        subst e
        exact xapp_sound ho h
      · exact xmake_sound ho h
    · exact h.elim
  · rename_i hc
    simp at hc
    subst hc
    split at h
    · rename_i x t ha ht
      obtain rfl : args = #[x] := by rw [← Array.toArray_toList (xs := args)]; exact congrArg List.toArray ha
      obtain rfl : argTypes = #[t] := by rw [← Array.toArray_toList (xs := argTypes)]; exact congrArg List.toArray ht
      exact xcap_sound ho h
    · exact h.elim
  · rename_i hc
    simp at hc
    subst hc
    split at h
    · rename_i d x t t' ha ht
      obtain rfl : args = #[d, x] := by rw [← Array.toArray_toList (xs := args)]; exact congrArg List.toArray ha
      obtain rfl : argTypes = #[t, t'] := by rw [← Array.toArray_toList (xs := argTypes)]; exact congrArg List.toArray ht
      exact xcopy_sound ho h
    · exact h.elim
  · rename_i hc
    simp at hc
    subst hc
    split at h
    · rename_i x t ha ht
      obtain rfl : args = #[x] := by rw [← Array.toArray_toList (xs := args)]; exact congrArg List.toArray ha
      obtain rfl : argTypes = #[t] := by rw [← Array.toArray_toList (xs := argTypes)]; exact congrArg List.toArray ht
      exact xclear_sound ho h
    · exact h.elim
  · rename_i hc
    simp at hc
    subst hc
    split at h
    · rename_i x y ha
      obtain rfl : args = #[x, y] := by rw [← Array.toArray_toList (xs := args)]; exact congrArg List.toArray ha
      unfold xmm at h
      split at h
      · rename_i k a k' b hx hy
        obtain ⟨rfl, hk⟩ := h
        exact .ok hd (.max2 ho hx hy) hk
      · exact h.elim
    · exact h.elim
  · rename_i hc
    simp at hc
    subst hc
    split at h
    · rename_i x y ha
      obtain rfl : args = #[x, y] := by rw [← Array.toArray_toList (xs := args)]; exact congrArg List.toArray ha
      unfold xmm at h
      split at h
      · rename_i k a k' b hx hy
        obtain ⟨rfl, hk⟩ := h
        exact .ok hd (.min2 ho hx hy) hk
      · exact h.elim
    · exact h.elim
  · exact h.elim
theorem xo_sound (h : xo P o st K) : OpFam P R cx o st K := by
  unfold xo at h
  split at h
  all_goals (try (exact h.elim))
  all_goals
    rename_i ho
    have hd : ∀ c, o.op ≠ .defer c := fun c e => by rw [ho] at e; simp at e
  · exact .ok hd (.move (.inl ho)) h
  · exact .ok hd (.move (.inr ho)) h
  · split at h
    · rename_i b hc
      exact .ok hd (.pick ho hc) h
    · exact h.elim
  · obtain ⟨ti, hti, h⟩ := wh_elim h
    obtain ⟨c, hc, h⟩ := wh_elim h
    obtain ⟨v, hv, hk⟩ := wh_elim h
    exact .ok hd (.load ho hti hc hv) hk
  · obtain ⟨ti, hti, h⟩ := wh_elim h
    split at h
    · rename_i ob off hx
      obtain ⟨z, hz, h1, h2, h3, hk⟩ := wh_elim h
      exact .skip hd (.store ho hti hx hz h1 h2 h3) hk
    · exact h.elim
  · obtain ⟨ti, hti, h1, hk⟩ := wh_elim h
    exact .ok hd (.alloc ho hti h1) hk
  · exact .ok hd (.box ho h.1) h.2
  · obtain ⟨ti, hti, h⟩ := wh_elim h
    obtain ⟨fs, hfs, h1, h⟩ := wh_elim h
    obtain ⟨cs, hcs, hk⟩ := wh_elim h
    exact .ok hd (.build ho hti hfs h1 hcs) hk
  · obtain ⟨e, he, h⟩ := wh_elim h
    obtain ⟨ti, hti, ⟨h1, h2, h3, h4⟩, h⟩ := wh_elim h
    obtain ⟨cs, hcs, hk⟩ := wh_elim h
    exact .ok hd (.buildSlice ho he hti h1 h2 h3 h4 hcs) hk
  · obtain ⟨fs, hfs, h⟩ := wh_elim h
    obtain ⟨q, hq, h1, h⟩ := wh_elim h
    split at h
    · rename_i p hx
      exact .ok hd (.fieldAddr ho hfs hq h1 hx h.1) h.2
    · exact h.elim
  · obtain ⟨fs, hfs, h⟩ := wh_elim h
    obtain ⟨q, hq, h⟩ := wh_elim h
    split at h
    · rename_i cs hx
      obtain ⟨h1, h⟩ := h
      obtain ⟨v, hv, hk⟩ := wh_elim h
      exact .ok hd (.field ho hfs hq hx h1 hv) hk
    · exact h.elim
  · exact xidx_sound ho h
  · split at h
    · rename_i s k n hx hi
      exact .ok hd (.index_s ho h.1 hx hi h.2.1 h.2.2.1) h.2.2.2
    · exact h.elim
  · exact xslice_sound ho h
  · exact xslice3_sound ho h
  · exact xeq_sound ho h
  · split at h
    · rename_i a hx
      obtain ⟨v, hv, hk⟩ := wh_elim h
      exact .ok hd (.un ho hx hv) hk
    · exact h.elim
  · exact xconv_sound ho h
  · obtain ⟨v, hv, hk⟩ := wh_elim h
    exact .ok hd (.extract ho hv) hk
  · obtain ⟨rfl, h⟩ := h
    obtain ⟨ids, hi, hk⟩ := wh_elim h
    exact .ok hd (.makeFunc ho hi) hk
  · split at h
    · rename_i p hx
      exact .ok hd (.nilCheck ho hx h.1) h.2
    · exact h.elim
  · exact xcallop_sound ho h
end
end Go.Proofs.Ytlkhfdccapkcdaa
