/- Rows that grow: the append of the language. -/
import Derived.Test.YtlkhfdccapkcdaaA9
namespace Go.Proofs.Ytlkhfdccapkcdaa
open Go Go.RowKit
set_option linter.unusedVariables false
set_option linter.unusedSimpArgs false

/-- What an operand of an append (or a copy) brings: how many elements, which cells. -/
def St.src (st : St) (sz : Nat) : AV → Option (Nat × List LV)
  | .l (.d al sz' es) => if sz' = sz then some (es.length, lvsA al es) else none
  | .l (.r ob sz' lo hi) =>
    match st.obj ob with
    | some z => if sz' = sz ∧ z.sz = sz ∧ z.row = true ∧ hi * sz ≤ z.cs.length ∧ lo ≤ hi ∧ ((z.cs.drop (lo * sz)).take ((hi - lo) * sz)).all LV.ok = true then some (hi - lo, (z.cs.drop (lo * sz)).take ((hi - lo) * sz)) else none
    | none => none
  | .l (.s (.slice none 0 0)) => some (0, [])
  | _ => none

section
variable {P : Program} {cx : Cx} {o : Oper} {st : St}
theorem flat_get {sz : Nat} {α : Type} : ∀ {es : List (List α)} (i j : Nat) {e : List α}, (∀ e ∈ es, e.length = sz) → es[i]? = some e → j < sz → es.flatten[i * sz + j]? = e[j]?
  | [], i, j, e, _, he, _ => by simp at he
  | x :: es, 0, j, e, h, he, hj => by
    simp at he
    subst he
    simp [List.getElem?_append_left (show j < x.length by rw [h x (by simp)]; exact hj)]
  | x :: es, i + 1, j, e, h, he, hj => by
    have hx := h x (by simp)
    rw [List.flatten_cons, List.getElem?_append_right (by rw [hx, Nat.add_mul]; omega), ← flat_get (es := es) i j (e := e) (fun y hy => h y (by simp [hy])) (by simpa using he) hj]
    congr 1
    rw [hx, Nat.add_mul]
    omega
theorem RelS.src {σ : Nat → Hd} {a : Act} {w : World} (hr : RelS cx σ st a w) {v : Value} {x : AV} (hv : RelV w (Xd cx w σ st.ob) (Xe w σ st.ob) σ v x) {sz m : Nat} {cs : List LV} (hs : st.src sz x = some (m, cs)) :
    (v = .slice none 0 0 ∧ m = 0 ∧ cs = []) ∨ ∃ ad c news, v = .slice (some ad) m c ∧ news.length = m * sz ∧ (∀ j u, news[j]? = some u → w.cell? (ad.add j) = some u) ∧ (∀ u ∈ news, u.oneCell' = true) ∧
      All2 (RelL w (Xd cx w σ st.ob) (Xe w σ st.ob) σ) news cs := by
  unfold St.src at hs
  split at hs
  · rename_i al sz' es
    split at hs
    · rename_i e
      subst e
      simp at hs
      obtain ⟨rfl, rfl⟩ := hs
      have hv' : Rd w (if al = true then Xe w σ st.ob else Xd cx w σ st.ob) v (.sl sz' es) := hv
      cases hv' with
      | sl ad m cp _ _ b off cv hm hcp hmm hs ha hz hcell hrd =>
        rcases Nat.eq_zero_or_pos m with h0 | h0
        · subst h0
          have he : es = [] := List.eq_nil_of_length_eq_zero hm
          subst he
          cases ad with
          | none => rw [hz rfl]; exact .inl ⟨rfl, rfl, rfl⟩
          | some ad => exact .inr ⟨ad, cp, [], rfl, by simp, by simp, by simp, trivial⟩
        · obtain ⟨rfl, hX⟩ := ha h0
          have hmul : ∀ j, j < m * sz' → 0 < sz' ∧ j / sz' < m ∧ j % sz' < sz' ∧ (j / sz') * sz' + j % sz' = j := by
            intro j hj
            have hp : 0 < sz' := by
              rcases Nat.eq_zero_or_pos sz' with e | e
              · subst e; simp at hj
              · exact e
            exact ⟨hp, (Nat.div_lt_iff_lt_mul hp).2 hj, Nat.mod_lt _ hp, by rw [Nat.mul_comm]; exact Nat.div_add_mod j sz'⟩
          refine .inr ⟨⟨b, off, none⟩, cp, (List.range (m * sz')).map fun j => cv (j / sz') (j % sz'), by rw [hm], by simp [hm], ?_, ?_, ?_⟩
          · intro j u hj
            have hlt : j < m * sz' := by have := (List.getElem?_eq_some_iff.1 hj).1; simpa using this
            rw [List.getElem?_map, List.getElem?_range hlt] at hj
            simp at hj
            subst hj
            obtain ⟨h1, h2, h3, h4⟩ := hmul j hlt
            rw [addr_add]
            have := hcell (j / sz') (j % sz') h2 h3
            rwa [h4] at this
          · intro u hu
            obtain ⟨j, hj, rfl⟩ := List.mem_map.1 hu
            obtain ⟨h1, h2, h3, h4⟩ := hmul j (List.mem_range.1 hj)
            have he := List.getElem?_eq_getElem (l := es) (i := j / sz') (by omega)
            have ht := List.getElem?_eq_getElem (l := es[j / sz']) (i := j % sz') (by rw [hs _ (List.getElem_mem _)]; exact h3)
            exact (hrd _ _ _ _ he ht).one
          · refine All2.of_get (by rw [lvsA_length hs]; simp [hm]) fun i u c hu hc => ?_
            have hlt : i < m * sz' := by have := (List.getElem?_eq_some_iff.1 hu).1; simpa using this
            rw [List.getElem?_map, List.getElem?_range hlt] at hu
            simp at hu
            subst hu
            obtain ⟨h1, h2, h3, h4⟩ := hmul i hlt
            obtain ⟨e, he⟩ : ∃ e, es[i / sz']? = some e := ⟨_, List.getElem?_eq_getElem (by omega)⟩
            have hel := hs e (List.mem_of_getElem? he)
            obtain ⟨t, ht⟩ : ∃ t, e[i % sz']? = some t := ⟨_, List.getElem?_eq_getElem (by omega)⟩
            have hc2 : (lvsA al es)[i]? = some (t.lv al) := by
              have hf : lvsA al es = (es.map (·.map (T.lv al))).flatten := by simp [lvsA, List.flatMap_def]
              have := flat_get (sz := sz') (es := es.map (·.map (T.lv al))) (i / sz') (i % sz') (e := e.map (T.lv al)) (by
                intro e he
                obtain ⟨e', he', rfl⟩ := List.mem_map.1 he
                simp [hs e' he']) (by rw [List.getElem?_map, he]; rfl) h3
              rw [h4, ← hf, List.getElem?_map, ht] at this
              exact this
            rw [hc2] at hc
            simp at hc
            subst hc
            exact RelL.lv (hrd _ _ _ _ he ht)
    · simp at hs
  · rename_i ob sz' lo hi
    split at hs
    · rename_i z hz
      split at hs
      · rename_i hc
        obtain ⟨rfl, hzs, hrow, hle, hlh, hok⟩ := hc
        simp at hs
        obtain ⟨rfl, rfl⟩ := hs
        have hO := hr.h.obs ob z (obj_some hz)
        rcases hv with ⟨hb, rfl, rfl, hv⟩ | ⟨b, k, off, hb, h3, h4, hv, hoff⟩
        · exact .inl ⟨hv, rfl, by simp⟩
        · rw [hb] at hO
          obtain ⟨vs, rest, g1, g2, g4, g5⟩ := hO
          have hvl := g2.length
          have hall := (g2.drop (lo * sz')).take ((hi - lo) * sz')
          have hlen : (hi - lo) * sz' + lo * sz' = hi * sz' := by rw [← Nat.add_mul]; congr 1; omega
          refine .inr ⟨⟨b, off, none⟩, k - lo, (vs.drop (lo * sz')).take ((hi - lo) * sz'), hv, ?_, ?_, ?_, hall⟩
          · simp
            omega
          · intro j u hj
            have hlt : j < (hi - lo) * sz' := by have := (List.getElem?_eq_some_iff.1 hj).1; simp at this; omega
            rw [List.getElem?_take_of_lt hlt, List.getElem?_drop] at hj
            have hlo : off = lo * sz' := hoff (by
              rcases Nat.lt_or_ge lo k with h | h
              · exact .inl h
              · have : hi - lo = 0 := by omega
                rw [this] at hlt; simp at hlt)
            rw [addr_add, hlo, cell_of_row w b _ _ _ _ g1]
            have : lo * sz' + j < vs.length := by omega
            simp [List.getElem?_append_left this, hj]
          · intro u hu
            obtain ⟨i, hi'⟩ := List.getElem?_of_mem hu
            have hl := (List.getElem?_eq_some_iff.1 hi').1
            rw [hall.length] at hl
            have hc := List.getElem?_eq_getElem hl
            exact (hall.get i hi' hc).one (List.all_eq_true.1 hok _ (List.mem_of_getElem? hc))
      · simp at hs
    · simp at hs
  · simp at hs
    obtain ⟨rfl, rfl⟩ := hs
    exact .inl ⟨hv.1, rfl, rfl⟩
  · simp at hs

/-- A nil row. -/
theorem RelS.newNil {σ : Nat → Hd} {a : Act} {w : World} (h : RelS cx σ st a w) (x : Ob) (hx : x.row = true ∧ x.cs = [] ∧ (x.cap = none ∨ x.cap = some 0)) : RelS cx (upd σ st.ob.length (some none)) (st.add x) a w := by
  have hnew : ∀ o h', σ o = some h' → upd σ st.ob.length (some none) o = some h' := by
    intro o h' ho
    rw [upd_other]
    · exact ho
    · intro e
      rw [h.h.dom o (by omega)] at ho
      exact absurd ho (by simp)
  have key : ∀ (o : Nat) (y : Ob), (st.ob ++ [some x])[o]? = some (some y) → (o = st.ob.length ∧ y = x) ∨ (o ≠ st.ob.length ∧ st.ob[o]? = some (some y)) := by
    intro o y ho
    rcases Nat.lt_trichotomy o st.ob.length with hlt | rfl | hgt
    · rw [List.getElem?_append_left hlt] at ho; exact .inr ⟨by omega, ho⟩
    · simp at ho; exact .inl ⟨rfl, ho.symm⟩
    · rw [List.getElem?_eq_none (by simp; omega)] at ho; exact absurd ho (by simp)
  have hs : Step σ st.ob w (upd σ st.ob.length (some none)) (st.ob ++ [some x]) w some := by
    refine ⟨Evo.refl _ _ _, fun o o' h' e hh => by cases e; exact hnew o h' hh, ?_⟩
    rintro b ⟨o, y, k', ho, hb⟩
    rcases key o y ho with ⟨rfl, rfl⟩ | ⟨hne, hy⟩
    · rw [upd_same] at hb; simp at hb
    · rw [upd_other _ _ hne] at hb; exact .inl ⟨o, y, k', hy, hb⟩
  refine h.step_some hs (hs.relH h.h ?_ ?_ ?_ (by have := h.h.nbl; simp; omega) ?_)
  · intro o y ho
    rcases key o y ho with ⟨rfl, rfl⟩ | ⟨hne, hy⟩
    · rw [upd_same]; exact hx
    · rw [upd_other _ _ hne]
      have := hs.relO (cx := cx) (fun b k e => rfl) (h.h.obs o y hy)
      rwa [Ob.ren_some] at this
  · intro o o' y y' b k k' ho ho' hb hb'
    rcases key o y ho with ⟨rfl, rfl⟩ | ⟨hne, hy⟩
    · rw [upd_same] at hb; simp at hb
    · rcases key o' y' ho' with ⟨rfl, rfl⟩ | ⟨hne', hy'⟩
      · rw [upd_same] at hb'; simp at hb'
      · rw [upd_other _ _ hne] at hb
        rw [upd_other _ _ hne'] at hb'
        exact h.h.inj o o' y y' b k k' hy hy' hb hb'
  · intro o ho
    rw [upd_other _ _ (by simp at ho; omega)]
    exact h.h.dom o (by simp at ho; omega)
  · intro o y ho hrow hnb
    rcases key o y ho with ⟨rfl, rfl⟩ | ⟨hne, hy⟩
    · have := h.h.nbl; omega
    · rw [upd_other _ _ hne]; exact h.h.box o y hy hrow hnb

theorem run_append_core {w : World} {t ty e : Nat} {ti : TI} (he : elemF P t = some e) (hti : tiF P e = some ti) (hzl : ti.zero.length = ti.sz) (h0 : 0 < ti.sz) (hb0 : 0 < ti.bytes) (v : Value) (n : Nat) (xs : List Value)
    (hown : w.ownsRow 0 e ti.sz v n xs) (x : Value) (m : Nat) (news : List Value)
    (hx : (x = .slice none 0 0 ∧ m = 0 ∧ news = []) ∨ ∃ ad c, x = .slice (some ad) m c ∧ news.length = m * ti.sz ∧ (∀ j u, news[j]? = some u → w.cell? (ad.add j) = some u) ∧ ∀ u ∈ news, u.oneCell' = true)
    (hbytes : (n + m) * ti.bytes ≤ 140737488355328) :
    ∃ v' w', (Builtin.append_ #[t, t] ty #[v, x]).run P w = .ok v' w' ∧ w'.ownsRow 0 e ti.sz v' (n + m) (xs ++ news) ∧ w.grownBy w' v.ownBlock ∧ (v'.ownBlock = v.ownBlock ∨ v'.ownBlock = some w.heap.size) := by
  obtain ⟨i, d, z, h1, h2, h3, rfl⟩ := tiF_some hti
  simp only at hzl h0 hb0 hbytes hown hx ⊢
  rcases hx with ⟨rfl, rfl, rfl⟩ | ⟨ad, c, rfl, hl, hc, h1'⟩
  · exact ⟨v, w, run_append_owned_none w 0 t ty e i i.size (elemF_some he) h1 v n xs hown, by simpa using hown, ⟨rfl, rfl, rfl, Nat.le_refl _, fun _ _ _ => rfl⟩, .inl rfl⟩
  · have hm : n + m ≤ maxLen := by
      have : n + m ≤ (n + m) * i.bytes := Nat.le_mul_of_pos_right _ hb0
      unfold maxLen
      omega
    obtain ⟨v', w', g1, g2, g3, _, g5⟩ := run_append_own_at w 0 t ty e i z i.size i.bytes (elemF_some he) h1 h3 rfl rfl (by simpa using hzl) h0 v n xs hown ad m c news hl hc h1' hm hbytes (Nat.zero_le _)
    exact ⟨v', w', g1, g2, g3, g5⟩
end
end Go.Proofs.Ytlkhfdccapkcdaa
