/- Rows that grow: append. Rows of data. -/
import Derived.Test.YtlkhfdccapkcdaaA8
import Derived.Maps.AppendAt
import Derived.Laws.AppendOwnNone
namespace Go.Proofs.Ytlkhfdccapkcdaa
open Go Go.RowKit
set_option linter.unusedVariables false
set_option linter.unusedSimpArgs false

def but (o : Nat) : Ren := fun i => if i = o then none else some i
theorem but_some {o i j : Nat} (h : but o i = some j) : j = i ∧ i ≠ o := by
  unfold but at h
  split at h
  · simp at h
  · simp at h; exact ⟨h.symm, ‹_›⟩

/-! ### Cells of rows of data -/
def lvs (es : List (List T)) : List LV := es.flatMap fun e => e.map (T.lv false)
def lvsA (al : Bool) (es : List (List T)) : List LV := es.flatMap fun e => e.map (T.lv al)
theorem lvs_eq (es : List (List T)) : lvs es = lvsA false es := rfl
theorem lvs_append (a b : List (List T)) : lvs (a ++ b) = lvs a ++ lvs b := by simp [lvs]
theorem lv_ren (ρ : Ren) (al : Bool) (t : T) : (t.lv al).ren ρ = t.lv al := by cases t <;> rfl
theorem lvsA_ren (ρ : Ren) (al : Bool) (es : List (List T)) : (lvsA al es).map (LV.ren ρ) = lvsA al es := by
  have h : LV.ren ρ ∘ T.lv al = T.lv al := funext fun t => lv_ren ρ al t
  simp [lvsA, List.map_flatMap, h]
theorem lvs_ren (ρ : Ren) (es : List (List T)) : (lvs es).map (LV.ren ρ) = lvs es := lvsA_ren ρ false es
theorem lv_ok (al : Bool) (t : T) : (t.lv al).ok = true := by cases t <;> rfl
theorem lvsA_ok (al : Bool) (es : List (List T)) : (lvsA al es).all LV.ok = true := by
  simp only [List.all_eq_true, lvsA, List.mem_flatMap, List.mem_map]
  rintro x ⟨e, _, t, _, rfl⟩
  exact lv_ok al t
theorem lvs_length {sz : Nat} : ∀ {es : List (List T)}, (∀ e ∈ es, e.length = sz) → (lvs es).length = es.length * sz
  | [], _ => by simp [lvs]
  | e :: es, h => by
    have h1 := h e (by simp)
    have h2 := lvs_length (es := es) fun x hx => h x (by simp [hx])
    simp only [lvs, List.flatMap_cons, List.length_append, List.length_map] at h2 ⊢
    rw [h2, h1, List.length_cons, Nat.add_mul]
    omega
theorem lvsA_length {sz : Nat} {al : Bool} : ∀ {es : List (List T)}, (∀ e ∈ es, e.length = sz) → (lvsA al es).length = es.length * sz
  | [], _ => by simp [lvsA]
  | e :: es, h => by
    have h1 := h e (by simp)
    have h2 := lvsA_length (al := al) (es := es) fun x hx => h x (by simp [hx])
    simp only [lvsA, List.flatMap_cons, List.length_append, List.length_map] at h2 ⊢
    rw [h2, h1, List.length_cons, Nat.add_mul]
    omega
theorem lvs_drop {sz : Nat} : ∀ {es : List (List T)} (i : Nat), (∀ e ∈ es, e.length = sz) → (lvs es).drop (i * sz) = lvs (es.drop i)
  | es, 0, _ => by simp
  | [], i + 1, _ => by simp [lvs]
  | e :: es, i + 1, h => by
    have h1 := h e (by simp)
    have h2 := lvs_drop (es := es) i fun x hx => h x (by simp [hx])
    have : (lvs (e :: es)) = e.map (T.lv false) ++ lvs es := by simp [lvs]
    rw [this, List.drop_append, List.drop_succ_cons, ← h2, List.length_map, h1, Nat.add_mul, List.drop_of_length_le (by simp [h1])]
    simp
theorem lvs_get {sz i : Nat} {es : List (List T)} {e : List T} (h : ∀ e ∈ es, e.length = sz) (he : es[i]? = some e) (j : Nat) (hj : j < sz) : (lvs es)[i * sz + j]? = (e[j]?).map (T.lv false) := by
  have h1 := lvs_drop i h
  have h2 : es.drop i = e :: es.drop (i + 1) := by
    have hlt := (List.getElem?_eq_some_iff.1 he).1
    rw [List.drop_eq_getElem_cons hlt]
    congr 1
    exact (List.getElem?_eq_some_iff.1 he).2
  rw [← List.getElem?_drop, h1, h2]
  have hl := h e (List.mem_of_getElem? he)
  have : lvs (e :: es.drop (i + 1)) = e.map (T.lv false) ++ lvs (es.drop (i + 1)) := by simp [lvs]
  rw [this, List.getElem?_append_left (by simp [hl, hj]), List.getElem?_map]
theorem ldX_lvs {ti : TI} {i : Nat} {es : List (List T)} {e : List T} (ha : ti.agg = true) (h : ∀ e ∈ es, e.length = ti.sz) (he : es[i]? = some e) : ldX ti (lvs es) (i * ti.sz) = some (.g (e.map (T.lv false))) := by
  have hl := h e (List.mem_of_getElem? he)
  have hlt := (List.getElem?_eq_some_iff.1 he).1
  have hlen := lvs_length h
  have hle : i * ti.sz + ti.sz ≤ (lvs es).length := by
    rw [hlen, ← Nat.succ_mul]
    exact Nat.mul_le_mul_right _ hlt
  simp only [ldX, ha, if_true, if_pos hle, Option.some.injEq, AV.g.injEq]
  rw [lvs_drop i h, List.drop_eq_getElem_cons hlt]
  have : es[i] = e := (List.getElem?_eq_some_iff.1 he).2
  rw [this]
  have e2 : lvs (e :: es.drop (i + 1)) = e.map (T.lv false) ++ lvs (es.drop (i + 1)) := by simp [lvs]
  rw [e2, List.take_append_of_le_length (by simp [hl]), List.take_of_length_le (by simp [hl])]
theorem setAt_lvs {sz : Nat} : ∀ {es : List (List T)} (i : Nat) {e e' : List T} {off : Nat} {cs : List LV}, (∀ e ∈ es, e.length = sz) → es[i]? = some e → setAt (e.map (T.lv false)) off cs = e'.map (T.lv false) → off + cs.length ≤ sz → setAt (lvs es) (i * sz + off) cs = lvs (es.set i e')
  | [], i, e, e', off, cs, h, he, hs, hf => by simp at he
  | x :: es, 0, e, e', off, cs, h, he, hs, hf => by
    simp at he
    subst he
    have e2 : ∀ y, lvs (y :: es) = y.map (T.lv false) ++ lvs es := fun y => by simp [lvs]
    rw [Nat.zero_mul, Nat.zero_add, e2, setAt_append _ _ _ _ (by simp [h x (by simp)]; omega), hs, List.set_cons_zero, e2]
  | x :: es, i + 1, e, e', off, cs, h, he, hs, hf => by
    have e2 : ∀ y (l : List (List T)), lvs (y :: l) = y.map (T.lv false) ++ lvs l := fun y l => by simp [lvs]
    have ih := setAt_lvs (es := es) i (fun y hy => h y (by simp [hy])) (by simpa using he) hs hf
    have hx := h x (by simp)
    have key : ∀ (cs : List LV) (l r : List LV) (k : Nat), setAt (l ++ r) (l.length + k) cs = l ++ setAt r k cs := by
      intro cs
      induction cs with
      | nil => intro l r k; rfl
      | cons c cs ih => intro l r k; rw [setAt, setAt, List.set_append_right _ _ (by omega), Nat.add_sub_cancel_left, Nat.add_assoc, ih]
    rw [e2, List.set_cons_succ, e2, ← ih]
    have e3 : (i + 1) * sz + off = (x.map (T.lv false)).length + (i * sz + off) := by rw [List.length_map, hx, Nat.add_mul]; omega
    rw [e3, key]

section
variable {P : Program} {cx : Cx} {o : Oper} {st : St}
def obsBut (st : St) (o : Nat) : List (Option Ob) := st.ob.map (Option.map (Ob.ren (but o)))
/-- Row o has grown (it may lie elsewhere now): what led to it before leads nowhere. -/
def St.grow (st : St) (o : Nat) (x : Ob) : St := { st with tm := st.tm.ren (but o), ob := (obsBut st o).set o (some x), gh := st.gh.map (Tm.ren (but o)) }
theorem obsBut_get {o' i : Nat} {y : Ob} (h : (obsBut st o')[i]? = some (some y)) : ∃ z, st.ob[i]? = some (some z) ∧ y = z.ren (but o') := by
  unfold obsBut at h
  rw [List.getElem?_map] at h
  obtain ⟨z, hz, h⟩ := Option.map_eq_some_iff.1 h
  obtain ⟨u, rfl, rfl⟩ := Option.map_eq_some_iff.1 h
  exact ⟨u, hz, rfl⟩
theorem RelS.regrow {σ : Nat → Hd} {a : Act} {w w' : World} (h : RelS cx σ st a w) {o : Nat} {x x' : Ob} (ho : st.ob[o]? = some (some x)) (hd : Option (Nat × Nat))
    (hsz : w.heap.size ≤ w'.heap.size) (hsame : ∀ b, b < w.heap.size → (∀ k, σ o ≠ some (some (b, k))) → w'.heap[b]? = w.heap[b]?) (hos : w'.os = w.os) (htp : w'.tape = w.tape) (hout : w'.output = w.output)
    (hnew : ∀ b k, hd = some (b, k) → (∃ k0, σ o = some (some (b, k0))) ∨ w.heap.size ≤ b)
    (hx : ∀ b k, hd = some (b, k) → ∃ (vs rest : List Value) (cs : List LV), w'.heap[b]? = some (.cells (vs ++ rest).toArray x'.ty (0, 0)) ∧ All2 (RelL w (Xd cx w σ st.ob) (Xe w σ st.ob) σ) vs cs ∧ x'.cs = cs.map (LV.ren (but o)) ∧
      (x'.row = false → rest = []) ∧ (x'.row = true → vs.length + rest.length = k * x'.sz ∧ k ≤ maxLen ∧ ∀ k', x'.cap = some k' → k' = k))
    (hx0 : hd = none → x'.row = true ∧ x'.cs = [] ∧ (x'.cap = none ∨ x'.cap = some 0)) (hrw : x'.row = true) :
    RelS cx (upd σ o (some hd)) (st.grow o x') a w' := by
  have hl : o < st.ob.length := (List.getElem?_eq_some_iff.1 ho).1
  have hlen : (obsBut st o).length = st.ob.length := by simp [obsBut]
  have hget : ∀ (i : Nat) (y : Ob), ((obsBut st o).set o (some x'))[i]? = some (some y) → (i = o ∧ y = x') ∨ (i ≠ o ∧ ∃ z, st.ob[i]? = some (some z) ∧ y = z.ren (but o)) := by
    intro i y hy
    by_cases e : i = o
    · subst e
      rw [List.getElem?_set_self (by omega)] at hy
      simp at hy
      exact .inl ⟨rfl, hy.symm⟩
    · rw [List.getElem?_set_ne (Ne.symm e)] at hy
      exact .inr ⟨e, obsBut_get hy⟩
  have hs : Step σ st.ob w (upd σ o (some hd)) ((obsBut st o).set o (some x')) w' (but o) := by
    refine ⟨⟨hsz, fun b hb hn => hsame b hb fun k e => hn ⟨o, x, k, ho, e⟩, hos, htp, hout⟩, ?_, ?_⟩
    · intro i j hh e hi
      obtain ⟨rfl, hne⟩ := but_some e
      rw [upd_other _ _ hne]
      exact hi
    · rintro b ⟨i, y, k, hi, hb⟩
      rcases hget i y hi with ⟨rfl, rfl⟩ | ⟨hne, z, hz, rfl⟩
      · rw [upd_same] at hb
        simp at hb
        rcases hnew b k hb with ⟨k0, h0⟩ | h0
        · exact .inl ⟨i, x, k0, ho, h0⟩
        · exact .inr h0
      · rw [upd_other _ _ hne] at hb
        exact .inl ⟨i, z, k, hz, hb⟩
  refine h.step hs (hs.relH h.h ?_ ?_ ?_ (by have := h.h.nbl; simp [hlen]; omega) ?_)
  · intro i y hi
    rcases hget i y hi with ⟨rfl, rfl⟩ | ⟨hne, z, hz, rfl⟩
    · rw [upd_same]
      match hd, hx, hx0 with
      | none, _, hx0 => exact hx0 rfl
      | some (b, k), hx, _ =>
        obtain ⟨vs, rest, cs, h1, h2, h3, h4, h5⟩ := hx b k rfl
        refine ⟨vs, rest, h1, ?_, h4, h5⟩
        rw [h3]
        exact All2.map _ (fun v c _ hc => hs.relL (cx := cx) hc) h2
    · rw [upd_other _ _ hne]
      exact hs.relO (cx := cx) (fun b k e => hsame b (h.h.lt ⟨i, z, k, hz, e⟩) fun k' e' => hne (h.h.inj i o z x b k k' hz ho e e')) (h.h.obs i z hz)
  · intro i j y y' b k k' hi hj hb hb'
    have key : ∀ (i : Nat) (y : Ob) (k : Nat), ((obsBut st o).set o (some x'))[i]? = some (some y) → upd σ o (some hd) i = some (some (b, k)) → (i = o ∧ hd = some (b, k)) ∨ (i ≠ o ∧ ∃ z, st.ob[i]? = some (some z) ∧ σ i = some (some (b, k))) := by
      intro i y k hi hb
      rcases hget i y hi with ⟨rfl, rfl⟩ | ⟨hne, z, hz, rfl⟩
      · rw [upd_same] at hb; simp at hb; exact .inl ⟨rfl, hb⟩
      · rw [upd_other _ _ hne] at hb; exact .inr ⟨hne, z, hz, hb⟩
    rcases key i y k hi hb with ⟨e1, e2⟩ | ⟨e1, z, e2, e3⟩ <;> rcases key j y' k' hj hb' with ⟨f1, f2⟩ | ⟨f1, z', f2, f3⟩
    · rw [e1, f1]
    · rcases hnew b k e2 with ⟨k0, h0⟩ | h0
      · exact absurd (h.h.inj j o z' x b k' k0 f2 ho f3 h0) f1
      · have := h.h.lt (b := b) ⟨j, z', k', f2, f3⟩; omega
    · rcases hnew b k' f2 with ⟨k0, h0⟩ | h0
      · exact absurd (h.h.inj i o z x b k k0 e2 ho e3 h0) e1
      · have := h.h.lt (b := b) ⟨i, z, k, e2, e3⟩; omega
    · exact h.h.inj i j z z' b k k' e2 f2 e3 f3
  · intro i hi
    have : st.ob.length ≤ i := by simpa [hlen] using hi
    rw [upd_other _ _ (by omega)]
    exact h.h.dom i this
  · intro i y hi hrow hnb
    rcases hget i y hi with ⟨rfl, rfl⟩ | ⟨hne, z, hz, rfl⟩
    · rw [hrw] at hrow; simp at hrow
    · rw [upd_other _ _ hne]
      exact h.h.box i z hz hrow hnb
end
end Go.Proofs.Ytlkhfdccapkcdaa
