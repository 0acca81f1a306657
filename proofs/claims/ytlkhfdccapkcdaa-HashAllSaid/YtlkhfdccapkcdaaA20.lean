/- Running operations on states that are written out: the rules by which a state is brought to its plain form. -/
import Derived.Test.YtlkhfdccapkcdaaA19
namespace Go.Proofs.Ytlkhfdccapkcdaa
open Go Go.RowKit
set_option linter.unusedVariables false
set_option linter.unusedSimpArgs false

/-- An equation that is used as one, not by reckoning. -/
theorem nr {α : Sort _} {a b : α} (h : a = b) : a = b := h
section
variable {P : Program} {tm : Tm} {ob : List (Option Ob)} {nt : Nat} {gh : List Tm} {ls : Option Code}
theorem enters {f : FuncId} {fn : Func} {c : Code} (hf : P.funcs[f]? = some fn) (hname : (fn.name == "runtime.NumGoroutine") = false) (hb : fn.body = some c) : Enters P f := by
  intro args w
  have h1 : fn.name ≠ "runtime.NumGoroutine" := by simpa using hname
  simp [callFunc, hf, h1, hb, mark]
@[simp] theorem st0_mk (args : List AV) (obs : List Ob) (n : Nat) : st0 args obs n = ⟨initTm 0 args, obs.map some, n, [], none⟩ := rfl
@[simp] theorem put_mk {d : Nat} (v : AV) (h : d < nt) : St.put ⟨tm, ob, nt, gh, ls⟩ (some d) v = ⟨(d, v) :: tm, ob, nt, gh, ls⟩ := by
  have : Nat.blt d nt = true := by rw [Nat.blt_eq]; exact h
  simp [St.put, this]
@[simp] theorem put_none (v : AV) (st : St) : st.put none v = st := rfl
@[simp] theorem ev_tmp (t : Nat) : St.ev ⟨tm, ob, nt, gh, ls⟩ (.tmp t) = lk tm t := rfl
@[simp] theorem ev_int (k : IntKind) (n : Int) : St.ev ⟨tm, ob, nt, gh, ls⟩ (.const (.int k n)) = .l (.s (.int k n)) := rfl
@[simp] theorem ev_bool (b : Bool) : St.ev ⟨tm, ob, nt, gh, ls⟩ (.const (.bool b)) = .l (.s (.bool b)) := rfl
@[simp] theorem ev_str (s : ByteArray) : St.ev ⟨tm, ob, nt, gh, ls⟩ (.const (.string s)) = .l (.s (.string s)) := rfl
@[simp] theorem ev_nil (c n : Nat) : St.ev ⟨tm, ob, nt, gh, ls⟩ (.const (.slice none c n)) = .l (.s (.slice none c n)) := rfl
@[simp] theorem ev_glob (g : Nat) : St.ev ⟨tm, ob, nt, gh, ls⟩ (.global g) = .l (.s (.pointer (some ⟨g, 0, none⟩))) := rfl
@[simp] theorem ev_func (f : Nat) : St.ev ⟨tm, ob, nt, gh, ls⟩ (.func f) = .l (.s (.func (.func f) #[] #[])) := rfl
@[simp] theorem add_mk (x : Ob) : St.add ⟨tm, ob, nt, gh, ls⟩ x = ⟨tm, ob ++ [some x], nt, gh, ls⟩ := rfl
@[simp] theorem setO_mk (o : Nat) (x : Ob) : St.setO ⟨tm, ob, nt, gh, ls⟩ o x = ⟨tm, ob.set o (some x), nt, gh, ls⟩ := rfl
@[simp] theorem obj_mk (o : Nat) : St.obj ⟨tm, ob, nt, gh, ls⟩ o = (ob[o]?).bind id := rfl
@[simp] theorem at_p (o off : Nat) : St.at ⟨tm, ob, nt, gh, ls⟩ (.l (.p o off)) = ((ob[o]?).bind id).map fun x => (x.cs, off) := rfl
@[simp] theorem at_q (st : St) (al : Bool) (cs : List T) (off : Nat) : St.at st (.l (.q al cs off)) = some (cs.map (T.lv al), off) := rfl
@[simp] theorem xops_nil (ops : Array Oper) (st : St) (K : St → Prop) : xops P ops [] st K = K st := nr rfl
@[simp] theorem xops_cons (ops : Array Oper) (o : Oper) (os : List Oper) (K : St → Prop) : xops P ops (o :: os) ⟨tm, ob, nt, gh, ls⟩ K = xg P ops o ⟨tm, ob, nt, gh, ls⟩ fun st' => xops P ops os st' K := nr rfl
/-- What becomes of a call with nothing handed over. -/
theorem after_nil (st : St) (obs' : List (Option Ob)) : st.after [] obs' = { st with ob := st.ob ++ obs'.map (Option.map (Ob.ren (outR [] st.ob.length))) } := by
  have hk : keptR st [] = some := by funext o; simp [keptR]
  have h1 : ∀ tm : Tm, tm.ren some = tm := fun tm => by
    unfold Tm.ren
    rw [show (fun e : Nat × AV => (e.1, e.2.ren some)) = id from funext fun e => by simp [AV.ren_some]]
    simp
  have h2 : Tm.ren some = id := funext h1
  have h3 : Ob.ren some = id := funext fun x => by
    have : LV.ren some = id := funext LV.ren_some
    simp [Ob.ren, this]
  have h4 : inv [] = fun _ => none := by funext o; simp [inv]
  simp [St.after, obAfter, hk, h2, h3, h4, h1]
  apply List.ext_getElem?
  intro i
  simp
def LV.plain : LV → Bool
  | .s _ => true
  | .d al _ _ => !al
  | .u => true
  | _ => false
def AV.arg : AV → Bool
  | .l x => x.plain
  | .g cs => cs.all LV.plain
  | .t _ => false
def AV.plain : AV → Bool
  | .l x => x.plain
  | .g cs => cs.all LV.plain
  | .t xs => xs.all fun c => c.2.all LV.plain
theorem LV.plain_ren (ρ : Ren) {x : LV} (h : x.plain = true) : x.ren ρ = x := by cases x <;> simp [LV.plain] at h <;> rfl
theorem LV.plain_na {x : LV} (h : x.plain = true) : x.na = true := by cases x <;> simp_all [LV.plain, LV.na]
theorem map_plain (ρ : Ren) : ∀ {cs : List LV}, cs.all LV.plain = true → cs.map (LV.ren ρ) = cs
  | [], _ => rfl
  | c :: cs, h => by
    simp only [List.all_cons, Bool.and_eq_true] at h
    rw [List.map_cons, LV.plain_ren ρ h.1, map_plain ρ h.2]
theorem all_plain_na : ∀ {cs : List LV}, cs.all LV.plain = true → cs.all LV.na = true
  | [], _ => rfl
  | c :: cs, h => by
    simp only [List.all_cons, Bool.and_eq_true] at h ⊢
    exact ⟨LV.plain_na h.1, all_plain_na h.2⟩
theorem AV.plain_ren (ρ : Ren) {x : AV} (h : x.plain = true) : x.ren ρ = x := by
  cases x with
  | l x => simp [AV.ren, LV.plain_ren ρ h]
  | g cs => simp [AV.ren, map_plain ρ h]
  | t xs =>
    simp only [AV.ren, AV.t.injEq]
    simp only [AV.plain, List.all_eq_true] at h
    induction xs with
    | nil => rfl
    | cons c xs ih =>
      rw [List.map_cons, ih fun x hx => h x (by simp [hx])]
      have := map_plain ρ (cs := c.2) (by simpa using h c (by simp))
      simp [CV.ren, this]
theorem AV.plain_na {x : AV} (h : x.plain = true) : x.na = true := by
  cases x with
  | l x => exact LV.plain_na h
  | g cs => exact all_plain_na h
  | t xs =>
    simp only [AV.plain, List.all_eq_true] at h
    simp only [AV.na, List.all_eq_true]
    intro c hc x hx
    exact LV.plain_na (h c hc x hx)
/-- A call with data alone, that hands back data alone. -/
theorem xcall_plain {f : Nat} {avs cargs : List AV} {st : St} {dst : Option Nat} {K : St → Prop} {res : AV} (he : Enters P f) (hs : Sound P f cargs [] res []) (hp : res.plain = true) (hv : All2 (Vw st []) avs cargs)
    (hk : K (st.put dst res)) : xcall P f avs st dst K := by
  refine .inl ⟨[], [], [], res, cargs, he, hs, CallOk.nil (AV.plain_na hp) rfl, hv, ?_⟩
  rw [after_nil, AV.plain_ren _ hp]
  simpa using hk
/-- A call with data alone, that hands back new objects. -/
theorem xcall_new {f : Nat} {avs cargs : List AV} {st : St} {dst : Option Nat} {K : St → Prop} {res : AV} {obs' : List (Option Ob)} (he : Enters P f) (hs : Sound P f cargs [] res obs') (hp : res.na = true)
    (hn : obs'.all (fun x => match x with | some x => x.na | none => true) = true) (hv : All2 (Vw st []) avs cargs)
    (hk : K ({ st with ob := st.ob ++ obs'.map (Option.map (Ob.ren (outR [] st.ob.length))) }.put dst (res.ren (outR [] st.ob.length)))) : xcall P f avs st dst K := by
  refine .inl ⟨[], [], obs', res, cargs, he, hs, CallOk.nil hp hn, hv, ?_⟩
  rw [after_nil]
  exact hk
theorem Vw.same {st : St} {x : AV} (h : x.arg = true) : Vw st [] x x := by
  cases x with
  | l x =>
    have := VwL.ren (st := st) (ids := []) x
    rw [LV.plain_ren _ h] at this
    exact .l this
  | g cs =>
    refine .g ?_
    simp only [AV.arg] at h
    induction cs with
    | nil => trivial
    | cons c cs ih =>
      simp only [List.all_cons, Bool.and_eq_true] at h
      have := VwL.ren (st := st) (ids := []) c
      rw [LV.plain_ren _ h.1] at this
      exact ⟨this, ih h.2⟩
  | t xs => simp [AV.arg] at h
theorem Vw.d {st : St} (al : Bool) (sz : Nat) (es : List (List T)) : Vw st [] (.l (.d al sz es)) (.l (.d true sz es)) := .l (.al al sz es)
theorem Vw.nil {st : St} (al : Bool) (sz : Nat) : Vw st [] (.l (.s (.slice none 0 0))) (.l (.d al sz [])) := .l (.nil al sz)
/-- Some temporaries are kept. -/
theorem Weak.keep {cx : Cx} (tm' : Tm) (h : ∀ e ∈ tm', lk tm e.1 = e.2) : Weak cx ⟨tm, ob, nt, gh, ls⟩ ⟨tm', ob, nt, gh, ls⟩ := by
  refine Weak.tm (st := ⟨tm, ob, nt, gh, ls⟩) tm' fun i => ?_
  have : ∀ l : Tm, (∀ e ∈ l, lk tm e.1 = e.2) → lk l i = lk tm i ∨ lk l i = .l .u := by
    intro l
    induction l with
    | nil => intro _; exact .inr rfl
    | cons e l ih =>
      intro hl
      rw [lk_cons e.1 e.2]
      split
      · rename_i hi
        subst hi
        exact .inl (hl e (by simp)).symm
      · exact ih fun e' he' => hl e' (by simp [he'])
  exact this tm' h
end
section
variable (ob off n sz lo hi : Nat) (al : Bool) (cs : List T) (es : List (List T)) (x : Value) (l : List LV) (t : List (Bool × List LV)) (y : LV)
@[simp] theorem lk_nil (i : Nat) : lk [] i = .l .u := rfl
@[simp] theorem isPtr_p : (LV.p ob off).isPtr = true := rfl
@[simp] theorem isPtr_q : (LV.q al cs off).isPtr = true := rfl
@[simp] theorem add_p : (LV.p ob off).add n = .p ob (off + n) := rfl
@[simp] theorem add_q : (LV.q al cs off).add n = .q al cs (off + n) := rfl
@[simp] theorem ok_s : (LV.s x).ok = true := rfl
@[simp] theorem ok_d : (LV.d al sz es).ok = true := rfl
@[simp] theorem ok_r : (LV.r ob sz lo hi).ok = true := rfl
@[simp] theorem ok_p : (LV.p ob off).ok = true := rfl
@[simp] theorem ok_f (fn : Nat) (c : List Nat) : (LV.f fn c).ok = true := rfl
@[simp] theorem okV_l : (AV.l y).ok = y.ok := rfl
@[simp] theorem okV_g : (AV.g l).ok = l.all LV.ok := rfl
@[simp] theorem cells_l : (AV.l y).cells = [y] := rfl
@[simp] theorem cells_g : (AV.g l).cells = l := rfl
@[simp] theorem lv_v : (T.v x).lv al = .s x := rfl
@[simp] theorem lv_sl : (T.sl sz es).lv al = .d al sz es := rfl
@[simp] theorem setAt_nil {α : Type} (l : List α) (i : Nat) : setAt l i [] = l := by cases l <;> rfl
@[simp] theorem setAt_cons {α : Type} (l : List α) (i : Nat) (c : α) (cs : List α) : setAt l i (c :: cs) = setAt (l.set i c) (i + 1) cs := by cases l <;> rfl
end
/-! ### Running an operation: first what it looks at, then what follows -/
def wl (v : AV) (k : LV → Prop) : Prop :=
  match v with
  | .l p => k p
  | _ => False
def ws (v : AV) (k : Value → Prop) : Prop :=
  match v with
  | .l (.s a) => k a
  | _ => False
def wb (v : AV) (k : Bool → Prop) : Prop :=
  match v with
  | .l (.s (.bool b)) => k b
  | _ => False
def wi (v : AV) (k : Int → Prop) : Prop :=
  match v with
  | .l (.s (.int _ n)) => k n
  | _ => False
def wst (v : AV) (k : ByteArray → Prop) : Prop :=
  match v with
  | .l (.s (.string n)) => k n
  | _ => False
def wg (v : AV) (k : List LV → Prop) : Prop :=
  match v with
  | .g cs => k cs
  | _ => False
def wp (v : AV) (k : Nat → Nat → Prop) : Prop :=
  match v with
  | .l (.p ob off) => k ob off
  | _ => False
def wf (v : AV) (k : Nat → List Nat → Prop) : Prop :=
  match v with
  | .l (.s (.func (.func f) fi ca)) => (fi = #[] ∧ ca = #[]) ∧ k f []
  | .l (.f f caps) => k f caps
  | _ => False
@[congr] theorem wh_congr {α : Type} {x y : Option α} {k : α → Prop} (h : x = y) : wh x k = wh y k := by rw [h]
@[congr] theorem wl_congr {x y : AV} {k : LV → Prop} (h : x = y) : wl x k = wl y k := by rw [h]
@[congr] theorem ws_congr {x y : AV} {k : Value → Prop} (h : x = y) : ws x k = ws y k := by rw [h]
@[congr] theorem wb_congr {x y : AV} {k : Bool → Prop} (h : x = y) : wb x k = wb y k := by rw [h]
@[congr] theorem wi_congr {x y : AV} {k : Int → Prop} (h : x = y) : wi x k = wi y k := by rw [h]
@[congr] theorem wst_congr {x y : AV} {k : ByteArray → Prop} (h : x = y) : wst x k = wst y k := by rw [h]
@[congr] theorem wg_congr {x y : AV} {k : List LV → Prop} (h : x = y) : wg x k = wg y k := by rw [h]
@[congr] theorem wp_congr {x y : AV} {k : Nat → Nat → Prop} (h : x = y) : wp x k = wp y k := by rw [h]
@[congr] theorem wf_congr {x y : AV} {k : Nat → List Nat → Prop} (h : x = y) : wf x k = wf y k := by rw [h]
section
variable {P : Program} {d : Option Nat} {ty : Nat} {pos : String} {af : Array Edge} {g : Option (Nat × Bool)} {st : St} {K : St → Prop}
@[simp] theorem wh_s {α : Type} (a : α) (k : α → Prop) : wh (some a) k = k a := nr rfl
@[simp] theorem wh_n {α : Type} (k : α → Prop) : wh (none : Option α) k = False := nr rfl
@[simp] theorem wl_l (p : LV) (k : LV → Prop) : wl (.l p) k = k p := nr rfl
@[simp] theorem ws_s (a : Value) (k : Value → Prop) : ws (.l (.s a)) k = k a := nr rfl
@[simp] theorem wb_b (a : Bool) (k : Bool → Prop) : wb (.l (.s (.bool a))) k = k a := nr rfl
@[simp] theorem wi_i (kd : IntKind) (n : Int) (k : Int → Prop) : wi (.l (.s (.int kd n))) k = k n := nr rfl
@[simp] theorem wst_s (s : ByteArray) (k : ByteArray → Prop) : wst (.l (.s (.string s))) k = k s := nr rfl
@[simp] theorem wg_g (l : List LV) (k : List LV → Prop) : wg (.g l) k = k l := nr rfl
@[simp] theorem wp_p (ob off : Nat) (k : Nat → Nat → Prop) : wp (.l (.p ob off)) k = k ob off := nr rfl
@[simp] theorem wf_s (f : Nat) (k : Nat → List Nat → Prop) : wf (.l (.s (.func (.func f) #[] #[]))) k = k f [] := by simp [wf]
@[simp] theorem wf_f (f : Nat) (caps : List Nat) (k : Nat → List Nat → Prop) : wf (.l (.f f caps)) k = k f caps := nr rfl
@[simp] theorem xg_none (ops : Array Oper) (op : Op) : xg P ops ⟨d, op, ty, pos, af, none⟩ st K = xo P ⟨d, op, ty, pos, af, none⟩ st K := nr rfl
@[simp] theorem xg_yes (ops : Array Oper) (op : Op) (j : Nat) (want : Bool) (h : yd ops st j = some (some want)) : xg P ops ⟨d, op, ty, pos, af, some (j, want)⟩ st K = xo P ⟨d, op, ty, pos, af, some (j, want)⟩ st K := by
  simp [xg, h]
@[simp] theorem xg_no (ops : Array Oper) (op : Op) (j : Nat) (want : Bool) (h : yd ops st j = some (some (!want))) : xg P ops ⟨d, op, ty, pos, af, some (j, want)⟩ st K = K (st.put d (.t [])) := by
  simp [xg, h]
@[simp] theorem xg_skip (ops : Array Oper) (op : Op) (j : Nat) (want : Bool) (h : yd ops st j = some none) : xg P ops ⟨d, op, ty, pos, af, some (j, want)⟩ st K = K (st.put d (.t [])) := by
  simp [xg, h]
@[simp] theorem yd_eq (ops : Array Oper) (j : Nat) : yd ops st j = match (ops[j]?).bind (·.dst) with | some d => (match lk st.tm d with | .l (.s (.bool b)) => some (some b) | .t [] => some none | _ => none) | none => none := nr rfl
@[simp] theorem xo_move (x : Operand) : xo P ⟨d, .move x, ty, pos, af, g⟩ st K = K (st.put d (st.ev x)) := nr rfl
@[simp] theorem xo_assign (x : Operand) : xo P ⟨d, .assign x, ty, pos, af, g⟩ st K = K (st.put d (st.ev x)) := nr rfl
@[simp] theorem xo_pick (c x y : Operand) : xo P ⟨d, .pick c x y, ty, pos, af, g⟩ st K = wb (st.ev c) fun b => K (st.put d (bif b then st.ev x else st.ev y)) := nr rfl
@[simp] theorem xo_load (t : Nat) (x : Operand) : xo P ⟨d, .load t x, ty, pos, af, g⟩ st K = wh (tiF P t) fun ti => wh (st.at (st.ev x)) fun c => wh (ldX ti c.1 c.2) fun v => K (st.put d v) := nr rfl
@[simp] theorem xo_store (t : Nat) (x y : Operand) : xo P ⟨d, .store t x y, ty, pos, af, g⟩ st K = wh (tiF P t) fun ti => wp (st.ev x) fun ob off => wh (st.obj ob) fun z =>
    (st.ev y).ok = true ∧ (st.ev y).cells.length = ti.sz ∧ off + ti.sz ≤ z.cs.length ∧ K ((st.setO ob { z with cs := setAt z.cs off (st.ev y).cells }).put d (.l .u)) := nr rfl
@[simp] theorem xo_alloc (t : Nat) : xo P ⟨d, .alloc t, ty, pos, af, g⟩ st K = wh (tiF P t) fun ti => ti.zero.all (·.oneCell') = true ∧ K ((st.add ⟨t, ti.sz, false, none, ti.zero.map .s⟩).put d (ptr st.ob.length)) := nr rfl
@[simp] theorem xo_box (t : Nat) (x : Operand) : xo P ⟨d, .box t x, ty, pos, af, g⟩ st K = ((st.ev x).ok = true ∧ K ((st.add ⟨t, (st.ev x).cells.length, false, none, (st.ev x).cells⟩).put d (ptr st.ob.length))) := nr rfl
@[simp] theorem xo_build (t : Nat) (parts : Array (Nat × Operand)) : xo P ⟨d, .build t parts, ty, pos, af, g⟩ st K = wh (tiF P t) fun ti => wh (flds P t) fun fs => ti.zero.all (·.oneCell') = true ∧
    wh (fillA (fun i => (fs[i]?).map fun x => (x.1, x.2.1)) (ti.zero.map .s) (parts.toList.map fun x => (x.1, st.ev x.2))) fun cs => K (st.put d (.g cs)) := nr rfl
@[simp] theorem xo_buildSlice (t len : Nat) (parts : Array (Nat × Operand)) : xo P ⟨d, .buildSlice t len parts, ty, pos, af, g⟩ st K = wh (elemF P t) fun e => wh (tiF P e) fun ti =>
    (ti.zero.all (·.oneCell') = true ∧ ti.zero.length = ti.sz ∧ len * ti.sz ≤ 16777216 ∧ len ≤ 16777216) ∧
      wh (fillA (fun i => some (i * ti.sz, ti.sz)) ((repZ len ti.zero).map .s) (parts.toList.map fun x => (x.1, st.ev x.2))) fun cs => K ((st.add ⟨e, ti.sz, true, none, cs⟩).put d (hdr st.ob.length ti.sz len)) := nr rfl
@[simp] theorem xo_fieldAddr (s : Nat) (x : Operand) (f : Nat) : xo P ⟨d, .fieldAddr s x f, ty, pos, af, g⟩ st K = wh (flds P s) fun fs => wh (fs[f]?) fun q => q.2.1 ≠ 0 ∧ wl (st.ev x) fun p => p.isPtr = true ∧ K (st.put d (.l (p.add q.1))) := nr rfl
@[simp] theorem xo_field (s : Nat) (x : Operand) (f : Nat) : xo P ⟨d, .field s x f, ty, pos, af, g⟩ st K = wh (flds P s) fun fs => wh (fs[f]?) fun q => wg (st.ev x) fun cs => q.1 + q.2.1 ≤ cs.length ∧
    wh (if q.2.2 = true then some (.g ((cs.drop q.1).take q.2.1)) else (cs[q.1]?).map .l) fun v => K (st.put d v) := nr rfl
@[simp] theorem xo_indexAddr (t : Nat) (x i : Operand) : xo P ⟨d, .indexAddr t x i, ty, pos, af, g⟩ st K = xidx P t (st.ev x) (st.ev i) st d K := nr rfl
@[simp] theorem xo_slice (t : Nat) (x : Operand) (lo hi : Option Operand) : xo P ⟨d, .slice t x lo hi none, ty, pos, af, g⟩ st K = xslice P t (st.ev x) lo hi st d K := nr rfl
@[simp] theorem xo_binOp (op : BinOp) (t t' : Nat) (x y : Operand) : xo P ⟨d, .binOp op t x y t', ty, pos, af, g⟩ st K = xeq P op t (st.ev x) (st.ev y) st d K := nr rfl
@[simp] theorem xo_unOp (op : UnOp) (t : Nat) (x : Operand) : xo P ⟨d, .unOp op t x, ty, pos, af, g⟩ st K = ws (st.ev x) fun a => wh (uop op a) fun v => K (st.put d (.l (.s v))) := nr rfl
@[simp] theorem xo_convert (s t : Nat) (x : Operand) : xo P ⟨d, .convert s t x, ty, pos, af, g⟩ st K = xconv P s t (st.ev x) st d K := nr rfl
@[simp] theorem xo_extract (x : Operand) (i : Nat) : xo P ⟨d, .extract x i, ty, pos, af, g⟩ st K = wh (tget (st.ev x) i) fun v => K (st.put d v) := nr rfl
@[simp] theorem xo_makeFunc (f : Nat) (cs : Array Operand) : xo P ⟨d, .makeFunc (.func f) #[] cs, ty, pos, af, g⟩ st K = wh (capt (cs.toList.map st.ev)) fun ids => K (st.put d (.l (.f f ids))) := by simp [xo]
@[simp] theorem xo_nilCheck (x : Operand) : xo P ⟨d, .nilCheck x, ty, pos, af, g⟩ st K = wl (st.ev x) fun p => p.isPtr = true ∧ K (st.put d (.l p)) := nr rfl
@[simp] theorem xo_callV (f : Operand) (args : Array Operand) (tys : Array Nat) : xo P ⟨d, .call ⟨.value f, args, tys⟩, ty, pos, af, g⟩ st K = wf (st.ev f) fun f caps => xcall P f (args.toList.map st.ev ++ caps.map fun o => .l (.p o 0)) st d K := by
  simp only [xo, xcallop]
  generalize st.ev f = v
  cases v with
  | l y =>
    cases y with
    | s a =>
      cases a with
      | func fn fi ca => cases fn <;> simp [wf]
      | _ => rfl
    | f fn caps => rfl
    | _ => rfl
  | _ => rfl
@[simp] theorem xo_len (x : Operand) (t : Nat) : xo P ⟨d, .call ⟨.builtin .len, #[x], #[t]⟩, ty, pos, af, g⟩ st K = xlen P t (st.ev x) st d K := nr rfl
@[simp] theorem xo_append (x y : Operand) (t : Nat) : xo P ⟨d, .call ⟨.builtin .append, #[x, y], #[t, t]⟩, ty, pos, af, g⟩ st K = xapp P t (st.ev x) (st.ev y) st d K := by simp [xo, xcallop]
@[simp] theorem xo_make (x y : Operand) (t t' : Nat) (h : t ≠ t') : xo P ⟨d, .call ⟨.builtin .append, #[x, y], #[t, t']⟩, ty, pos, af, g⟩ st K = xmake P t t' (st.ev x) (st.ev y) st d K := by simp [xo, xcallop, h]
@[simp] theorem xo_cap (x : Operand) (t : Nat) : xo P ⟨d, .call ⟨.builtin .cap, #[x], #[t]⟩, ty, pos, af, g⟩ st K = xcap P t (st.ev x) st d K := nr rfl
@[simp] theorem xo_copy (x y : Operand) (t t' : Nat) : xo P ⟨d, .call ⟨.builtin .copy, #[x, y], #[t, t']⟩, ty, pos, af, g⟩ st K = xcopy P t (st.ev x) (st.ev y) st d K := nr rfl
@[simp] theorem xo_clear (x : Operand) (t : Nat) : xo P ⟨d, .call ⟨.builtin .clear, #[x], #[t]⟩, ty, pos, af, g⟩ st K = xclear P t (st.ev x) st d K := nr rfl
@[simp] theorem xo_slice3 (t : Nat) (x l h m : Operand) : xo P ⟨d, .slice t x (some l) (some h) (some m), ty, pos, af, g⟩ st K = xslice3 P t (st.ev x) (st.ev l) (st.ev h) (st.ev m) st d K := nr rfl
@[simp] theorem xo_max (x y : Operand) (t t' : Nat) : xo P ⟨d, .call ⟨.builtin .max, #[x, y], #[t, t']⟩, ty, pos, af, g⟩ st K = xmm max (st.ev x) (st.ev y) st d K := nr rfl
@[simp] theorem xo_min (x y : Operand) (t t' : Nat) : xo P ⟨d, .call ⟨.builtin .min, #[x, y], #[t, t']⟩, ty, pos, af, g⟩ st K = xmm min (st.ev x) (st.ev y) st d K := nr rfl
@[simp] theorem xo_index (t : Nat) (x i : Operand) : xo P ⟨d, .index t x i, ty, pos, af, g⟩ st K = wst (st.ev x) fun s => wi (st.ev i) fun n => strF P t = true ∧ 0 ≤ n ∧ n.toNat < s.size ∧ K (st.put d (.l (.s (.int .u8 (bAt s n.toNat))))) := by
  simp only [xo]
  generalize st.ev x = X
  generalize st.ev i = I
  cases X with
  | l y =>
    cases y with
    | s a =>
      cases a <;> first
        | rfl
        | (cases I with
          | l z =>
            cases z with
            | s b => cases b <;> rfl
            | _ => rfl
          | _ => rfl)
    | _ => rfl
  | _ => rfl
end
section
variable {P : Program} {d : Option Nat} {t : Nat} {st : St} {K : St → Prop} {al : Bool} {sz : Nat} {es : List (List T)} {ob lo hi : Nat}
@[simp] theorem xlen_d' : xlen P t (.l (.d al sz es)) st d K = ((elemF P t).isSome = true ∧ (es.length ≤ 140737488355328 → K (st.put d (.l (.s (.int .i64 es.length)))))) := nr rfl
@[simp] theorem xlen_r' : xlen P t (.l (.r ob sz lo hi)) st d K = ((elemF P t).isSome = true ∧ K (st.put d (.l (.s (.int .i64 ((hi - lo : Nat) : Int)))))) := nr rfl
@[simp] theorem xlen_n' : xlen P t (.l (.s (.slice none 0 0))) st d K = ((elemF P t).isSome = true ∧ K (st.put d (.l (.s (.int .i64 0))))) := nr rfl
@[simp] theorem xlen_s' (s : ByteArray) : xlen P t (.l (.s (.string s))) st d K = (strF P t = true ∧ K (st.put d (.l (.s (.int .i64 s.size))))) := nr rfl
@[simp] theorem xapp_n' (x : AV) : xapp P t (.l (.s (.slice none 0 0))) x st d K = wh (elemF P t) fun e => wh (tiF P e) fun ti => ti.zero.length = ti.sz ∧ 0 < ti.sz ∧ 0 < ti.bytes ∧ wh (st.src ti.sz x) fun q =>
    q.1 * ti.bytes ≤ 140737488355328 ∧ K ((st.add ⟨e, ti.sz, true, none, q.2⟩).put d (hdr st.ob.length ti.sz q.1)) := nr rfl
/-- append to an own row that is full: it grows (where it lies, or elsewhere). -/
theorem xapp_grow {e n : Nat} {x : AV} {ti : TI} {q : Nat × List LV} {z : Ob} (he : elemF P t = some e) (hti : tiF P e = some ti) (h1 : ti.zero.length = ti.sz ∧ 0 < ti.sz ∧ 0 < ti.bytes) (hq : st.src ti.sz x = some q) (hz : st.obj ob = some z)
    (h2 : sz = ti.sz ∧ z.ty = e ∧ z.sz = ti.sz ∧ z.row = true) (h3 : z.cs.length = n * ti.sz) (h4 : (n + q.1) * ti.bytes ≤ 140737488355328)
    (hk : K ((st.grow ob ⟨e, ti.sz, true, none, (z.cs ++ q.2).map (LV.ren (but ob))⟩).put d (hdr ob ti.sz (n + q.1)))) : xapp P t (.l (.r ob sz 0 n)) x st d K := by
  simp only [xapp, he, hti, wh_some, hq, hz]
  exact ⟨h1.1, h1.2.1, h1.2.2, h2, .inl ⟨trivial, h3, h4, hk⟩⟩
/-- append to the head of an own row, where there is room. -/
theorem xapp_in {e : Nat} {x : AV} {ti : TI} {q : Nat × List LV} {z : Ob} (he : elemF P t = some e) (hti : tiF P e = some ti) (h1 : ti.zero.length = ti.sz ∧ 0 < ti.sz ∧ 0 < ti.bytes) (hq : st.src ti.sz x = some q) (hz : st.obj ob = some z)
    (h2 : sz = ti.sz ∧ z.ty = e ∧ z.sz = ti.sz ∧ z.row = true) (h3 : (hi + q.1) * ti.sz ≤ z.cs.length)
    (hk : K ((st.setO ob { z with cs := setAt z.cs (hi * ti.sz) q.2 }).put d (.l (.r ob ti.sz lo (hi + q.1))))) : xapp P t (.l (.r ob sz lo hi)) x st d K := by
  simp only [xapp, he, hti, wh_some, hq, hz]
  exact ⟨h1.1, h1.2.1, h1.2.2, h2, .inr ⟨h3, hk⟩⟩
@[simp] theorem xmake_n (t' : Nat) (k : IntKind) (n : Int) : xmake P t t' (.l (.s (.slice none 0 0))) (.l (.s (.int k n))) st d K = wh (elemF P t) fun e => wh (tiF P e) fun ti => (intF P t').isSome = true ∧ (ti.zero.length = ti.sz ∧ ti.zero.all (·.oneCell') = true ∧ 0 < ti.sz) ∧
    (0 < n ∧ n.toNat * ti.bytes ≤ 281474976710656 ∧ n.toNat ≤ 4611686018427387904 ∧ K ((st.add ⟨e, ti.sz, true, none, (repZ n.toNat ti.zero).map .s⟩).put d (hdr st.ob.length ti.sz n.toNat))) := nr rfl
@[simp] theorem xcap_n : xcap P t (.l (.s (.slice none 0 0))) st d K = ((elemF P t).isSome = true ∧ K (st.put d (.l (.s (.int .i64 0))))) := nr rfl
theorem xmake_r (t' : Nat) (k : IntKind) (n : Int) : xmake P t t' (.l (.r ob sz lo hi)) (.l (.s (.int k n))) st d K = wh (elemF P t) fun e => wh (tiF P e) fun ti => (intF P t').isSome = true ∧ (ti.zero.length = ti.sz ∧ ti.zero.all (·.oneCell') = true ∧ 0 < ti.sz) ∧
    (sz = ti.sz ∧ wh (st.obj ob) fun z => z.row = true ∧ wh z.cap fun c => wh (st.src ti.sz (.l (.r ob ti.sz lo hi))) fun q => q.1 = hi - lo ∧ 0 < n ∧ lo ≤ hi ∧ c < hi + n.toNat ∧ (hi - lo + n.toNat) * ti.bytes ≤ 140737488355328 ∧ hi - lo + n.toNat ≤ 4611686018427387904 ∧
        K ((st.add ⟨e, ti.sz, true, none, q.2 ++ (repZ n.toNat ti.zero).map .s⟩).put d (hdr st.ob.length ti.sz (hi - lo + n.toNat)))) := nr rfl
theorem xcopy_rr (ob2 sz2 lo2 hi2 : Nat) : xcopy P t (.l (.r ob sz lo hi)) (.l (.r ob2 sz2 lo2 hi2)) st d K = wh (elemF P t) fun e => wh (tiF P e) fun ti => sz = ti.sz ∧ wh (st.obj ob) fun z => hi * ti.sz ≤ z.cs.length ∧
    (sz2 = ti.sz ∧ lo2 ≤ hi2 ∧ 0 < min (hi2 - lo2) (hi - lo) ∧ wh (st.src ti.sz (.l (.r ob2 ti.sz lo2 (lo2 + min (hi2 - lo2) (hi - lo))))) fun q => q.1 = min (hi2 - lo2) (hi - lo) ∧
      K ((st.setO ob { z with cs := setAt z.cs (lo * ti.sz) q.2 }).put d (.l (.s (.int .i64 ((min (hi2 - lo2) (hi - lo) : Nat) : Int)))))) := nr rfl
@[simp] theorem xcopy_rd (al : Bool) (sz2 : Nat) (es : List (List T)) : xcopy P t (.l (.r ob sz lo hi)) (.l (.d al sz2 es)) st d K = wh (elemF P t) fun e => wh (tiF P e) fun ti => sz = ti.sz ∧ wh (st.obj ob) fun z => hi * ti.sz ≤ z.cs.length ∧ wh (st.src ti.sz (.l (.d al sz2 es))) fun q =>
    K ((st.setO ob { z with cs := setAt z.cs (lo * ti.sz) (q.2.take (min q.1 (hi - lo) * ti.sz)) }).put d (.l (.s (.int .i64 ((min q.1 (hi - lo) : Nat) : Int))))) := nr rfl
@[simp] theorem xclear_r : xclear P t (.l (.r ob sz lo hi)) st d K = (d = none ∧ wh (elemF P t) fun e => wh (tiF P e) fun ti => (ti.zero.length = ti.sz ∧ ti.zero.all (·.oneCell') = true) ∧ (sz = ti.sz ∧ wh (st.obj ob) fun z => lo ≤ hi ∧ hi * ti.sz ≤ z.cs.length ∧ K (st.setO ob { z with cs := setAt z.cs (lo * ti.sz) ((repZ (hi - lo) ti.zero).map .s) }))) := nr rfl
@[simp] theorem xslice3_r (k1 k2 k3 : IntKind) (l h m : Int) : xslice3 P t (.l (.r ob sz lo hi)) (.l (.s (.int k1 l))) (.l (.s (.int k2 h))) (.l (.s (.int k3 m))) st d K = wh (elemF P t) fun e => wh (tiF P e) fun ti => sz = ti.sz ∧ 0 ≤ l ∧ l ≤ h ∧ h ≤ m ∧ m ≤ ((hi - lo : Nat) : Int) ∧ K (st.put d (.l .u)) := nr rfl
@[simp] theorem xconv_r' (s t : Nat) : xconv P s t (.l (.r ob sz lo hi)) st d K = wh (elemF P s) fun e => intF P e = some .u8 ∧ strF P t = true ∧ wh (st.src 1 (.l (.r ob sz lo hi))) fun q => wh (byteL q.2) fun bs => K (st.put d (.l (.s (.string ⟨bs.toArray⟩)))) := nr rfl
@[simp] theorem xconv_d' (s t : Nat) : xconv P s t (.l (.d al sz es)) st d K = wh (elemF P s) fun e => intF P e = some .u8 ∧ strF P t = true ∧ wh (st.src 1 (.l (.d al sz es))) fun q => wh (byteL q.2) fun bs => K (st.put d (.l (.s (.string ⟨bs.toArray⟩)))) := nr rfl
@[simp] theorem xmm_i (f : Int → Int → Int) (k : IntKind) (a b : Int) : xmm f (.l (.s (.int k a))) (.l (.s (.int k b))) st d K = K (st.put d (.l (.s (.int k (f a b))))) := by simp [xmm]
@[simp] theorem xslice_s' (s : ByteArray) (l h : Option Operand) : xslice P t (.l (.s (.string s))) l h st d K = (strF P t = true ∧ xbnd st l 0 fun l => xbnd st h s.size fun h => l ≤ h ∧ h ≤ s.size ∧ K (st.put d (.l (.s (.string (s.extract l h)))))) := nr rfl
@[simp] theorem xslice_d' (l h : Option Operand) : xslice P t (.l (.d al sz es)) l h st d K = wh (elemF P t) fun e => wh (tiF P e) fun ti => sz = ti.sz ∧ xbnd st l 0 fun l => xbnd st h es.length fun h => l ≤ h ∧ h ≤ es.length ∧ K (st.put d (.l (.d al sz ((es.drop l).take (h - l))))) := nr rfl
@[simp] theorem xslice_r' (l h : Option Operand) : xslice P t (.l (.r ob sz lo hi)) l h st d K = wh (elemF P t) fun e => wh (tiF P e) fun ti => wh (st.obj ob) fun z => (z.row = true ∧ z.sz = sz ∧ sz = ti.sz ∧ 0 < sz) ∧ xbnd st l 0 fun l => xbnd st h (hi - lo) fun h => l ≤ h ∧ (lo + h) * sz ≤ z.cs.length ∧
      K (st.put d (.l (.r ob sz (lo + l) (lo + h)))) := nr rfl
@[simp] theorem xbnd_none (n : Nat) (k : Nat → Prop) : xbnd st none n k = k n := nr rfl
@[simp] theorem xbnd_some (y : Operand) (n : Nat) (k : Nat → Prop) : xbnd st (some y) n k = wi (st.ev y) fun n => 0 ≤ n ∧ k n.toNat := nr rfl
@[congr] theorem xbnd_congr {st' : St} {x y : Option Operand} {n m : Nat} {k : Nat → Prop} (h0 : st = st') (h : x = y) (h' : n = m) : xbnd st x n k = xbnd st' y m k := by rw [h0, h, h']
@[simp] theorem xeq_s' (op : BinOp) (a b : Value) : xeq P op t (.l (.s a)) (.l (.s b)) st d K = wh (bopP P op t a b) fun v => K (st.put d (.l (.s v))) := nr rfl
@[simp] theorem bopP_i (op : BinOp) (k k' : IntKind) (a b : Int) : bopP P op t (.int k a) (.int k' b) = bop op (.int k a) (.int k' b) := rfl
@[simp] theorem bopP_s (op : BinOp) (a b : ByteArray) : bopP P op t (.string a) (.string b) = bop op (.string a) (.string b) := rfl
@[simp] theorem bopP_b (op : BinOp) (a b : Bool) : bopP P op t (.bool a) (.bool b) = if sk P t = some 2 then (match op with | .eql => some (.bool (decide (a = b))) | .neq => some (.bool (!decide (a = b))) | _ => none) else none := rfl
@[simp] theorem xeq_n' (op : BinOp) : xeq P op t (.l (.d al sz es)) (.l (.s (.slice none 0 0))) st d K = ((op = .eql ∨ op = .neq) ∧ (elemF P t).isSome = true ∧ ∀ b : Bool, (es ≠ [] → b = false) → K (st.put d (.l (.s (.bool (if op = .eql then b else !b)))))) := nr rfl
@[simp] theorem xeq_g' (op : BinOp) (xs ys : List LV) : xeq P op t (.g xs) (.g ys) st d K = ((op = .eql ∨ op = .neq) ∧ wh (seqF P t) fun ks => wh (veqs ks xs ys) fun b => K (st.put d (.l (.s (.bool (if op = .eql then b else !b)))))) := nr rfl
@[simp] theorem xidx_d' (k : IntKind) (n : Int) : xidx P t (.l (.d al sz es)) (.l (.s (.int k n))) st d K = (0 ≤ n ∧ wh (elemF P t) fun e => wh (tiF P e) fun ti => sz = ti.sz ∧ wh (es[n.toNat]?) fun c => K (st.put d (.l (.q al c 0)))) := nr rfl
@[simp] theorem xidx_r' (k : IntKind) (n : Int) : xidx P t (.l (.r ob sz lo hi)) (.l (.s (.int k n))) st d K = (0 ≤ n ∧ wh (elemF P t) fun e => wh (tiF P e) fun ti => sz = ti.sz ∧ n.toNat < hi - lo ∧ K (st.put d (.l (.p ob ((lo + n.toNat) * ti.sz))))) := nr rfl
@[simp] theorem xconv_i' (s t : Nat) (k : IntKind) (n : Int) : xconv P s t (.l (.s (.int k n))) st d K = ((P.underlying s).isSome = true ∧ wh (intF P t) fun k => K (st.put d (.l (.s (.int k (k.wrap n)))))) := nr rfl
@[simp] theorem xconv_s' (s t : Nat) (x : ByteArray) : xconv P s t (.l (.s (.string x))) st d K = ((P.underlying s).isSome = true ∧ strF P t = true ∧ K (st.put d (.l (.s (.string x))))) := nr rfl
end
attribute [simp] byteL lk_cons initTm hdr ptr ldX bop uop tget capt Post.seq Post.block fillA repZ St.src
theorem AW.stepN {P : Program} {R : Option Nat} {cx : Cx} {Q : Post} {st : St} {id : Nat} {ops : Array Oper} {c : Code} (N : St → Prop) (h : xops P ops ops.toList st N) (k : ∀ s, N s → AW P R cx c Q s) : AW P R cx (.seq (.region id ops false) c) Q st := by
  refine AW.seq (AW.mono (AW.xregion (Q := fun e s => e = .normal ∧ N s) ?_) ?_)
  · simpa using h
  · rintro e s ⟨rfl, hs⟩
    exact k s hs
theorem AW.step {P : Program} {R : Option Nat} {cx : Cx} {Q : Post} {st : St} {id : Nat} {ops : Array Oper} {c : Code} {st' : St} (h : xops P ops ops.toList st (fun s => s = st')) (k : AW P R cx c Q st') : AW P R cx (.seq (.region id ops false) c) Q st :=
  AW.stepN _ h fun s hs => by subst hs; exact k
/-- The last region of a part of the code. -/
theorem AW.last {P : Program} {R : Option Nat} {cx : Cx} {Q : Post} {st : St} {id : Nat} {ops : Array Oper} {st' : St} (h : xops P ops ops.toList st (fun s => s = st')) (k : Q .normal st') : AW P R cx (.region id ops false) Q st := by
  refine AW.mono (AW.xregion (Q := fun e s => e = .normal ∧ s = st') ?_) ?_
  · simpa using h
  · rintro e s ⟨rfl, hs⟩
    subst hs
    exact k
theorem AW.condT {P : Program} {R : Option Nat} {cx : Cx} {Q : Post} {st : St} {c : Operand} {x y z : Code} (hc : st.ev c = .l (.s (.bool true))) (h : AW P R cx x (Post.seq (AW P R cx z Q) Q) st) : AW P R cx (.seq (.cond c x y) z) Q st := AW.seq (AW.cond_true hc h)
theorem AW.condF {P : Program} {R : Option Nat} {cx : Cx} {Q : Post} {st : St} {c : Operand} {x y z : Code} (hc : st.ev c = .l (.s (.bool false))) (h : AW P R cx y (Post.seq (AW P R cx z Q) Q) st) : AW P R cx (.seq (.cond c x y) z) Q st := AW.seq (AW.cond_false hc h)
/-! ### What goes out of a frame -/
def LeftV (cx : Cx) (res : AV) (obs' : List (Option Ob)) (s : St) : Prop := ∃ s', Weak cx s s' ∧ s'.ob = obs' ∧ s'.ls = none ∧ lk s'.tm 0 = res
section
variable {P : Program} {cx : Cx} {fn : Func} {res : AV} {obs' : List (Option Ob)} {s : St}
theorem Left.of {av : AV} (h : resV P s fn.results.toList = some av) (k : LeftV cx res obs' ⟨[(0, av)], s.ob, 1, s.gh, s.ls⟩) : Left P cx fn res obs' s := by
  obtain ⟨s', h1, h2, h3, h4⟩ := k
  exact ⟨av, s', h, h1, h2, h3, h4⟩
theorem LeftV.weak {s' : St} (hw : Weak cx s s') (k : LeftV cx res obs' s') : LeftV cx res obs' s := by
  obtain ⟨s2, h1, h2⟩ := k
  exact ⟨s2, hw.trans h1, h2⟩
theorem LeftV.now (h : cx.nb = 0) (ids : List (Option Nat)) (hnd : ∀ (i j o : Nat), ids[i]? = some (some o) → ids[j]? = some (some o) → i = j) (hls : s.ls = none) (hob : pickOb ids s.ob = obs') (hr : (lk s.tm 0).ren (inv ids) = res) : LeftV cx res obs' s :=
  ⟨_, Weak.ren ids (s.tm.ren (inv ids)) hnd (by omega) (fun i o hi => by omega) (fun i => .inl (lk_ren _ _ _)), hob, hls, by rw [lk_ren, hr]⟩
/-- Data alone goes out. -/
theorem Left.plain {av : AV} (hn : cx.nb = 0) (h : resV P s fn.results.toList = some av) (hp : av.plain = true) (hls : s.ls = none) (he : av = res) : Left P cx fn res [] s :=
  Left.of h (LeftV.now hn [] (by simp) hls rfl (by rw [lk_cons, if_pos rfl, AV.plain_ren _ hp, he]))
end
end Go.Proofs.Ytlkhfdccapkcdaa
