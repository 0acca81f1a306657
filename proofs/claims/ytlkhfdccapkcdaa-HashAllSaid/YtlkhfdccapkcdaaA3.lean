/- What one operation does to an abstract state, for every program: values, memory, structs, slices. -/
import Derived.Test.YtlkhfdccapkcdaaA2
import Derived.Laws.Tables
import Derived.Laws.IdiomCopy
import Derived.WalkKit
namespace Go.Proofs.Ytlkhfdccapkcdaa
open Go Go.RowKit
set_option linter.unusedVariables false
set_option linter.unusedSimpArgs false

def upd (σ : Nat → Hd) (o : Nat) (h : Hd) : Nat → Hd := fun i => if i = o then h else σ i
theorem upd_same (σ : Nat → Hd) (o : Nat) (h : Hd) : upd σ o h o = h := by simp [upd]
theorem upd_other (σ : Nat → Hd) {o i : Nat} (h : Hd) (hi : i ≠ o) : upd σ o h i = σ i := by simp [upd, hi]

theorem Ob.ren_some (x : Ob) : x.ren some = x := by
  have h : LV.ren some = id := funext LV.ren_some
  simp [Ob.ren, h]
theorem Tm.ren_some (tm : Tm) : tm.ren some = tm := by
  have h : (fun e : Nat × AV => (e.1, e.2.ren some)) = id := funext fun e => by simp [AV.ren_some]
  simp [Tm.ren, h]
theorem gh_ren_some (gh : List Tm) : gh.map (Tm.ren some) = gh := by
  have h : Tm.ren some = id := funext Tm.ren_some
  simp [h]

section
variable {cx : Cx} {σ σ' : Nat → Hd} {st : St} {a : Act} {w w' : World}
theorem RelS.step {ob' : List (Option Ob)} {ρ : Ren} (h : RelS cx σ st a w) (hs : Step σ st.ob w σ' ob' w' ρ) (hH : RelH cx w' σ' ob' st.ls) :
    RelS cx σ' { st with tm := st.tm.ren ρ, ob := ob', gh := st.gh.map (Tm.ren ρ) } a w' :=
  ⟨hH, hs.relT h.tm, h.nt, hs.gh h.gh, h.dm.step hs h.h⟩
theorem RelS.step_some {ob' : List (Option Ob)} (h : RelS cx σ st a w) (hs : Step σ st.ob w σ' ob' w' some) (hH : RelH cx w' σ' ob' st.ls) :
    RelS cx σ' { st with ob := ob' } a w' := by
  have := h.step hs hH
  rwa [Tm.ren_some, gh_ren_some] at this
theorem RelS.drewN (h : RelS cx σ st a w) (n : Nat) : RelS cx σ st a (w.drewN n) := by
  have hs : Step σ st.ob w σ st.ob (w.drewN n) some := ⟨Evo.drewN _ _ _ _, fun o o' x e hx => by cases e; exact hx, fun b hb => .inl hb⟩
  refine h.step_some hs (hs.relH h.h (fun o x ho => ?_) h.h.inj h.h.dom h.h.nbl h.h.box)
  have := hs.relO (cx := cx) (fun _ _ _ => rfl) (h.h.obs o x ho)
  rwa [Ob.ren_some] at this
theorem RelS.live (h : RelS cx σ st a w) {o : Nat} {x : Ob} (ho : st.ob[o]? = some (some x)) {b k : Nat} (hb : σ o = some (some (b, k))) : lvb σ st.ob b := ⟨o, x, k, ho, hb⟩

/-- A new object. -/
theorem RelS.new (h : RelS cx σ st a w) (n k : Nat) (x : Ob) (vs rest : List Value) (hv : All2 (RelL w (Xd cx w σ st.ob) (Xe w σ st.ob) σ) vs x.cs)
    (h2 : x.row = false → rest = []) (h3 : x.row = true → vs.length + rest.length = k * x.sz ∧ k ≤ maxLen ∧ ∀ k', x.cap = some k' → k' = k) :
    RelS cx (upd σ st.ob.length (some (some (w.heap.size, k)))) { st with ob := st.ob ++ [some x] } a ((w.drewN n).alloc (.cells (vs ++ rest).toArray x.ty)) := by
  have hnew : ∀ o h', σ o = some h' → upd σ st.ob.length (some (some (w.heap.size, k))) o = some h' := by
    intro o h' ho
    rw [upd_other]
    · exact ho
    · intro e
      rw [h.h.dom o (by omega)] at ho
      exact absurd ho (by simp)
  have hs : Step σ st.ob w (upd σ st.ob.length (some (some (w.heap.size, k)))) (st.ob ++ [some x]) ((w.drewN n).alloc (.cells (vs ++ rest).toArray x.ty)) some := by
    refine ⟨(Evo.drewN _ _ _ n).trans (Evo.alloc _ _ _ _), fun o o' h' e hh => by cases e; exact hnew o h' hh, ?_⟩
    rintro b ⟨o, y, k', ho, hb⟩
    by_cases e : o = st.ob.length
    · subst e
      rw [upd_same] at hb
      simp at hb
      exact .inr (by omega)
    · rw [upd_other _ _ e] at hb
      refine .inl ⟨o, y, k', ?_, hb⟩
      rcases Nat.lt_or_ge o st.ob.length with hlt | hge
      · rwa [List.getElem?_append_left hlt] at ho
      · rw [List.getElem?_eq_none (by simp; omega)] at ho
        exact absurd ho (by simp)
  refine h.step_some hs (hs.relH h.h ?_ ?_ ?_ (by have := h.h.nbl; simp; omega) ?_)
  · intro o y ho
    rcases Nat.lt_or_ge o st.ob.length with hlt | hge
    · rw [List.getElem?_append_left hlt] at ho
      rw [upd_other _ _ (by omega)]
      have := hs.relO (cx := cx) (fun b k e => ?_) (h.h.obs o y ho)
      · rwa [Ob.ren_some] at this
      · exact Below.heap_alloc _ _ _ (h.h.lt ⟨o, y, k, ho, e⟩)
    · rw [List.getElem?_append_right hge] at ho
      have e : o = st.ob.length := by
        rcases Nat.eq_or_lt_of_le hge with e | e
        · exact e.symm
        · rw [List.getElem?_eq_none (by simp; omega)] at ho; exact absurd ho (by simp)
      subst e
      simp at ho
      subst ho
      rw [upd_same]
      refine ⟨vs, rest, heap_alloc_new (w.drewN n) _, ?_, h2, h3⟩
      exact hv.mono fun v y _ hy => by
        have := hs.relL (cx := cx) hy
        rwa [LV.ren_some] at this
  · intro o o' y y' b k1 k2 ho ho' hb hb'
    have key : ∀ o y k1, (st.ob ++ [some x])[o]? = some (some y) → upd σ st.ob.length (some (some (w.heap.size, k))) o = some (some (b, k1)) → (o = st.ob.length ∧ b = w.heap.size) ∨ (st.ob[o]? = some (some y) ∧ σ o = some (some (b, k1))) := by
      intro o y k1 ho hb
      by_cases e : o = st.ob.length
      · subst e
        rw [upd_same] at hb
        simp at hb
        exact .inl ⟨rfl, hb.1.symm⟩
      · rw [upd_other _ _ e] at hb
        refine .inr ⟨?_, hb⟩
        rcases Nat.lt_or_ge o st.ob.length with hlt | hge
        · rwa [List.getElem?_append_left hlt] at ho
        · rw [List.getElem?_eq_none (by simp; omega)] at ho
          exact absurd ho (by simp)
    rcases key o y k1 ho hb with ⟨e1, e2⟩ | ⟨e1, e2⟩ <;> rcases key o' y' k2 ho' hb' with ⟨e3, e4⟩ | ⟨e3, e4⟩
    · omega
    · have := h.h.lt (b := b) ⟨o', y', k2, e3, e4⟩; omega
    · have := h.h.lt (b := b) ⟨o, y, k1, e1, e2⟩; omega
    · exact h.h.inj o o' y y' b k1 k2 e1 e3 e2 e4
  · intro o ho
    rw [upd_other _ _ (by simp at ho; omega)]
    exact h.h.dom o (by simp at ho; omega)
  · intro o y ho hrow hnb
    have hlt : o < st.ob.length := Nat.lt_of_lt_of_le hnb h.h.nbl
    rw [List.getElem?_append_left hlt] at ho
    rw [upd_other _ _ (by omega)]
    exact h.h.box o y ho hrow hnb

/-- New cells in an object of one's own. -/
theorem RelS.write (h : RelS cx σ st a w) {o : Nat} {x x' : Ob} (ho : st.ob[o]? = some (some x)) {b k : Nat} (hb : σ o = some (some (b, k))) (vs rest : List Value)
    (hv : All2 (RelL w (Xd cx w σ st.ob) (Xe w σ st.ob) σ) vs x'.cs) (hty : x'.ty = x.ty) (hrw : x'.row = x.row)
    (h2 : x'.row = false → rest = []) (h3 : x'.row = true → vs.length + rest.length = k * x'.sz ∧ k ≤ maxLen ∧ ∀ k', x'.cap = some k' → k' = k) :
    RelS cx σ { st with ob := st.ob.set o (some x') } a (w.setRow b (vs ++ rest).toArray) := by
  have hl : o < st.ob.length := (List.getElem?_eq_some_iff.1 ho).1
  have hlive : ∀ (o' : Nat) (y : Ob), (st.ob.set o (some x'))[o']? = some (some y) → ∃ z : Ob, st.ob[o']? = some (some z) := by
    intro o' y hy
    by_cases e : o' = o
    · subst e; exact ⟨x, ho⟩
    · rw [List.getElem?_set_ne (Ne.symm e)] at hy; exact ⟨y, hy⟩
  have hs : Step σ st.ob w σ (st.ob.set o (some x')) (w.setRow b (vs ++ rest).toArray) some := by
    refine ⟨⟨by simp, fun b' hb' hn => setRow_other w b b' _ (fun e => hn ⟨o, x, k, ho, by rw [hb, e]⟩), rfl, rfl, rfl⟩, fun o o' h' e hh => by cases e; exact hh, ?_⟩
    rintro b' ⟨o', y, k', ho', hb'⟩
    obtain ⟨z, hz⟩ := hlive o' y ho'
    exact .inl ⟨o', z, k', hz, hb'⟩
  have hx := h.h.obs o x ho
  rw [hb] at hx
  obtain ⟨ws, wr, hw, _⟩ := hx
  refine h.step_some hs (hs.relH h.h ?_ ?_ ?_ (by have := h.h.nbl; simpa using this) ?_)
  · intro o' y ho'
    by_cases e : o' = o
    · subst e
      rw [List.getElem?_set_self hl] at ho'
      simp at ho'
      subst ho'
      rw [hb]
      refine ⟨vs, rest, by rw [hty]; exact setRow_heap w b _ _ _ _ hw, ?_, h2, h3⟩
      exact hv.mono fun v y _ hy => by
        have := hs.relL (cx := cx) hy
        rwa [LV.ren_some] at this
    · rw [List.getElem?_set_ne (Ne.symm e)] at ho'
      have := hs.relO (cx := cx) (fun b' k' e' => ?_) (h.h.obs o' y ho')
      · rwa [Ob.ren_some] at this
      · exact setRow_other w b b' _ fun e2 => e (h.h.inj o' o y x b k' k ho' ho (by rw [e', e2]) hb)
  · intro o1 o2 y y' b' k1 k2 h11 h12 h13 h14
    obtain ⟨z, hz⟩ := hlive o1 y h11
    obtain ⟨z', hz'⟩ := hlive o2 y' h12
    exact h.h.inj o1 o2 z z' b' k1 k2 hz hz' h13 h14
  · intro o' ho'
    exact h.h.dom o' (by simpa using ho')
  · intro o' y ho' hrow hnb
    by_cases e : o' = o
    · subst e
      rw [List.getElem?_set_self hl] at ho'
      simp at ho'
      subst ho'
      exact h.h.box o' x ho (hrw ▸ hrow) hnb
    · rw [List.getElem?_set_ne (Ne.symm e)] at ho'
      exact h.h.box o' y ho' hrow hnb
end

/-! ### The program's tables -/
structure TI where
  agg : Bool
  sz : Nat
  bytes : Nat
  zero : List Value
def tiF (P : Program) (t : Nat) : Option TI :=
  match P.info? t, P.underlying t with
  | some i, some d =>
    match i.zero with
    | some z => some { agg := (match d with | .struct _ | .array _ _ => true | _ => false), sz := i.size, bytes := i.bytes, zero := z.cells.toList }
    | none => none
  | _, _ => none
def elemF (P : Program) (t : Nat) : Option Nat :=
  match P.underlying t with
  | some (.slice e) => some e
  | _ => none
theorem elemF_some {P : Program} {t e : Nat} (h : elemF P t = some e) : P.underlying t = some (.slice e) := by
  unfold elemF at h
  split at h
  · simp at h; subst h; assumption
  · simp at h
/-- A struct's fields: where they begin, how many cells they have. -/
def flds (P : Program) (t : Nat) : Option (List (Nat × Nat × Bool)) :=
  match P.underlying t with
  | some (.struct fs) => fs.toList.mapM fun f => (tiF P f.type).map fun i => (f.offset, i.sz, i.agg)
  | _ => none
section ti
variable {P : Program} {w : World} {t : Nat} {ti : TI}
theorem tiF_some (h : tiF P t = some ti) : ∃ i d z, P.info? t = some i ∧ P.underlying t = some d ∧ i.zero = some z ∧
    ti = { agg := (match d with | .struct _ | .array _ _ => true | _ => false), sz := i.size, bytes := i.bytes, zero := z.cells.toList } := by
  unfold tiF at h
  split at h
  · rename_i i d h1 h2
    split at h
    · rename_i z h3
      simp at h
      exact ⟨i, d, z, h1, h2, h3, h.symm⟩
    · simp at h
  · simp at h
theorem run_sizeOf' (h : tiF P t = some ti) : (sizeOf t).run P w = .ok ti.sz w := by
  obtain ⟨i, d, z, h1, h2, h3, rfl⟩ := tiF_some h
  simp [sizeOf, typeInfo, h1]
theorem run_isAgg' (h : tiF P t = some ti) : (isAgg t).run P w = .ok ti.agg w := by
  obtain ⟨i, d, z, h1, h2, h3, rfl⟩ := tiF_some h
  simp only [isAgg, Sem.run_bind, run_underlying h2, Result.andThen_ok]
  cases d <;> rfl
theorem run_zero' (h : tiF P t = some ti) : ∃ z, (zeroValue t).run P w = .ok z w ∧ z.cells.toList = ti.zero := by
  obtain ⟨i, d, z, h1, h2, h3, rfl⟩ := tiF_some h
  exact ⟨z, by simp [zeroValue, typeInfo, h1, h3], rfl⟩
theorem run_loadVar_agg (h : tiF P t = some ti) (ha : ti.agg = true) (ad : Addr) (cs : List Value) (hl : cs.length = ti.sz) (hc : ∀ j v, cs[j]? = some v → w.cell? (ad.add j) = some v) :
    (loadVar t ad).run P w = .ok (.agg cs.toArray) w := by
  simp [loadVar, run_isAgg' h, ha, run_sizeOf' h, ← hl, run_loadCells_list w ad cs hc]
theorem run_loadVar_leaf (h : tiF P t = some ti) (ha : ti.agg = false) (ad : Addr) {v : Value} (hc : w.cell? ad = some v) :
    (loadVar t ad).run P w = .ok v w := by
  simp [loadVar, run_isAgg' h, ha, hc]
end ti
theorem addr_add (b off j : Nat) : (⟨b, off, none⟩ : Addr).add j = ⟨b, off + j, none⟩ := by unfold Addr.add; split <;> simp_all

/-! ### Cells of a value -/
def LV.ok : LV → Bool
  | .u => false
  | _ => true
def AV.ok : AV → Bool
  | .l x => x.ok
  | .g cs => cs.all LV.ok
  | .t _ => false
def AV.cells : AV → List LV
  | .l x => [x]
  | .g cs => cs
  | .t _ => []
section
variable {w : World} {X Xa : Nat → Prop} {σ : Nat → Hd}
theorem RelL.one {v : Value} {x : LV} (h : RelL w X Xa σ v x) (hx : x.ok = true) : v.oneCell' = true := by
  cases x with
  | u => simp [LV.ok] at hx
  | s x => obtain ⟨rfl, h1⟩ := h; exact h1
  | d al sz es => exact Rd.one h
  | p o off => obtain ⟨b, c, _, rfl⟩ := h; rfl
  | q al cs off => obtain ⟨b, base, cv, _, rfl, _⟩ := h; rfl
  | r o sz lo hi => rcases h with ⟨_, _, _, rfl⟩ | ⟨b, k, off, _, _, _, rfl, _⟩ <;> rfl
  | f fn cs => obtain ⟨vs, rfl, _⟩ := h; rfl
theorem cells_of_one {v : Value} (h : v.oneCell' = true) : v.cells = #[v] := by
  cases v <;> first | rfl | simp [Value.oneCell'] at h
theorem RelV.cells {v : Value} {x : AV} (h : RelV w X Xa σ v x) (hx : x.ok = true) : All2 (RelL w X Xa σ) v.cells.toList x.cells ∧ ∀ u ∈ v.cells.toList, u.oneCell' = true := by
  cases x with
  | l x =>
    have h1 := RelL.one h (show x.ok = true from hx)
    rw [cells_of_one h1]
    exact ⟨⟨h, trivial⟩, fun u hu => by simp at hu; subst hu; exact h1⟩
  | g cs =>
    obtain ⟨vs, rfl, hvs⟩ := h
    refine ⟨by simpa [Value.cells, AV.cells] using hvs, fun u hu => ?_⟩
    have hu' : u ∈ vs := by simpa [Value.cells] using hu
    obtain ⟨i, hi⟩ := List.getElem?_of_mem hu'
    have hl : i < cs.length := by rw [← hvs.length]; exact (List.getElem?_eq_some_iff.1 hi).1
    have hc := List.getElem?_eq_getElem hl
    exact (hvs.get i hi hc).one (List.all_eq_true.1 hx _ (List.mem_of_getElem? hc))
  | t xs => simp [AV.ok] at hx
end

def setAt {α : Type} : List α → Nat → List α → List α
  | l, _, [] => l
  | l, i, c :: cs => setAt (l.set i c) (i + 1) cs
theorem setAt_length {α : Type} : ∀ (cs : List α) (l : List α) (i : Nat), (setAt l i cs).length = l.length
  | [], _, _ => rfl
  | c :: cs, l, i => by rw [setAt, setAt_length cs]; simp
theorem setAt_eq {α : Type} : ∀ (cs : List α) (l : List α) (i : Nat), i + cs.length ≤ l.length → setAt l i cs = l.take i ++ cs ++ l.drop (i + cs.length)
  | [], l, i, _ => by simp [setAt]
  | c :: cs, l, i, h => by
    rw [setAt, setAt_eq cs (l.set i c) (i + 1) (by simp at h ⊢; omega)]
    have hi : i < l.length := by simp at h; omega
    have e1 : (l.set i c).take (i + 1) = l.take i ++ [c] := by
      rw [List.take_succ_eq_append_getElem (by simpa using hi), List.take_set_of_le (Nat.le_refl _)]
      simp
    have e2 : (l.set i c).drop (i + 1 + cs.length) = l.drop (i + (c :: cs).length) := by
      rw [List.drop_set_of_lt (by omega)]
      congr 1
      simp
      omega
    rw [e1, e2]
    simp
theorem All2.setAt {α β : Type} {R : α → β → Prop} : ∀ {cs : List α} {ds : List β} {as : List α} {bs : List β} (i : Nat), All2 R as bs → All2 R cs ds → All2 R (Go.Proofs.Ytlkhfdccapkcdaa.setAt as i cs) (Go.Proofs.Ytlkhfdccapkcdaa.setAt bs i ds)
  | [], [], _, _, _, h, _ => h
  | c :: cs, d :: ds, as, bs, i, h, h' => All2.setAt (i + 1) (h.set i h'.1) h'.2
  | [], _ :: _, _, _, _, _, h' => h'.elim
  | _ :: _, [], _, _, _, _, h' => h'.elim
theorem mem_setAt {α : Type} {x : α} : ∀ (cs : List α) (l : List α) (i : Nat), x ∈ setAt l i cs → x ∈ l ∨ x ∈ cs
  | [], _, _, h => .inl h
  | c :: cs, l, i, h => by
    rcases mem_setAt cs _ _ h with h1 | h1
    · rcases List.mem_or_eq_of_mem_set h1 with h2 | h2
      · exact .inl h2
      · exact .inr (by simp [h2])
    · exact .inr (by simp [h1])
theorem setAt_append {α : Type} : ∀ (cs : List α) (l r : List α) (i : Nat), i + cs.length ≤ l.length → setAt (l ++ r) i cs = setAt l i cs ++ r
  | [], _, _, _, _ => rfl
  | c :: cs, l, r, i, h => by
    simp only [List.length_cons] at h
    rw [setAt, setAt, List.set_append_left _ _ (by omega), setAt_append cs _ _ _ (by simp; omega)]
end Go.Proofs.Ytlkhfdccapkcdaa
