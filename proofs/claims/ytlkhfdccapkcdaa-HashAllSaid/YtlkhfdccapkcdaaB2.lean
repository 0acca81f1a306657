/- More operations (2): writing many cells of an own row. -/
import Derived.Test.YtlkhfdccapkcdaaB1
namespace Go.Proofs.Ytlkhfdccapkcdaa
open Go Go.RowKit
set_option linter.unusedVariables false
set_option linter.unusedSimpArgs false

section
variable {P : Program} {R : Option Nat} {cx : Cx} {o : Oper} {st : St} {K : St → Prop}
theorem RelS.putCells {σ : Nat → Hd} {a : Act} {w : World} (hr : RelS cx σ st a w) {ob : Nat} {z : Ob} (hz : st.obj ob = some z) {b k : Nat} (hb : σ ob = some (some (b, k))) (off : Nat) {news : List Value} {nc : List LV}
    (hn : All2 (RelL w (Xd cx w σ st.ob) (Xe w σ st.ob) σ) news nc) (h1 : ∀ u ∈ news, u.oneCell' = true) (hfit : off + nc.length ≤ z.cs.length) :
    ∃ w', (storeCells ⟨b, off, none⟩ news).run P w = .ok () w' ∧ RelS cx σ (st.setO ob { z with cs := setAt z.cs off nc }) a w' := by
  have hO := hr.h.obs ob z (obj_some hz)
  rw [hb] at hO
  obtain ⟨vs, rest, g1, g2, g4, g5⟩ := hO
  have hvl := g2.length
  have hnl := hn.length
  have hst := run_storeCells_at (P := P) b off z.ty news 0 (vs ++ rest).toArray w g1 (by simp only [List.size_toArray, List.length_append]; omega) h1
  have e : (vs ++ rest).toArray.toList.take (off + 0) ++ news ++ (vs ++ rest).toArray.toList.drop (off + 0 + news.length) = setAt vs off news ++ rest := by
    rw [← setAt_append _ _ _ _ (by omega), setAt_eq _ _ _ (by simp only [List.length_append]; omega)]
    simp
  rw [e] at hst
  refine ⟨_, hst, hr.write (x' := { z with cs := setAt z.cs off nc }) (obj_some hz) hb (setAt vs off news) rest (All2.setAt off g2 hn) rfl rfl g4 ?_⟩
  rw [setAt_length]
  exact g5
theorem All2.memL {α β : Type} {R : α → β → Prop} {as : List α} {bs : List β} (h : All2 R as bs) {a : α} (ha : a ∈ as) : ∃ b ∈ bs, R a b := by
  obtain ⟨i, hi⟩ := List.getElem?_of_mem ha
  have hl := (List.getElem?_eq_some_iff.1 hi).1
  rw [h.length] at hl
  exact ⟨bs[i], List.getElem_mem _, h.get i hi (List.getElem?_eq_getElem hl)⟩
/-- copy into an own row. -/
theorem OpOk.copy_r {t t' e ob lo hi m : Nat} {d x : Operand} {ti : TI} {nc : List LV} {z : Ob} (ho : o.op = .call { callee := .builtin .copy, args := #[d, x], argTypes := #[t, t'] }) (he : elemF P t = some e) (hti : tiF P e = some ti)
    (hd : st.ev d = .l (.r ob ti.sz lo hi)) (hz : st.obj ob = some z) (hfit : hi * ti.sz ≤ z.cs.length) (hx : st.src ti.sz (st.ev x) = some (m, nc)) :
    OpOk P cx o st ((st.setO ob { z with cs := setAt z.cs (lo * ti.sz) (nc.take (min m (hi - lo) * ti.sz)) }).put o.dst (.l (.s (.int .i64 ((min m (hi - lo) : Nat) : Int))))) := by
  intro σ a w hr
  have hv := hr.ev d
  rw [hd] at hv
  -- what is read
  have hsrc : ∃ news : List Value, (Builtin.lenOf (a.eval x)).run P w = .ok m w ∧ (Builtin.firstCells ti.sz (min m (hi - lo)) (a.eval x)).run P w = .ok news.toArray w ∧
      All2 (RelL w (Xd cx w σ st.ob) (Xe w σ st.ob) σ) news (nc.take (min m (hi - lo) * ti.sz)) ∧ ∀ u ∈ news, u.oneCell' = true := by
    rcases hr.src (hr.ev x) hx with ⟨hv', rfl, rfl⟩ | ⟨ad, c, news, hv', hl, hc, h1, hall⟩
    · refine ⟨[], ?_, ?_, ?_, by simp⟩
      · simp [hv', Builtin.lenOf]
      · simp [hv', Builtin.firstCells]
      · simp [All2]
    · have hmul : min m (hi - lo) * ti.sz ≤ m * ti.sz := Nat.mul_le_mul_right _ (Nat.min_le_left _ _)
      refine ⟨news.take (min m (hi - lo) * ti.sz), ?_, ?_, hall.take _, fun u hu => h1 u (List.mem_of_mem_take hu)⟩
      · simp [hv', Builtin.lenOf]
      · have := run_loadCells_list (P := P) w ad (news.take (min m (hi - lo) * ti.sz)) (fun j u hj => hc j u (by
          have hlt := (List.getElem?_eq_some_iff.1 hj).1
          rw [List.getElem?_take_of_lt (by simp at hlt; omega)] at hj
          exact hj))
        rw [show (news.take (min m (hi - lo) * ti.sz)).length = min m (hi - lo) * ti.sz by simp; omega] at this
        simp [hv', Builtin.firstCells, this]
  obtain ⟨news, hlen, hfirst, hall, h1⟩ := hsrc
  have hncl : (nc.take (min m (hi - lo) * ti.sz)).length ≤ min m (hi - lo) * ti.sz := by simp; omega
  have hmn : Nat.min m (hi - lo) = min m (hi - lo) := rfl
  have hself : nc.take (min m (hi - lo) * ti.sz) = [] → st.setO ob { z with cs := setAt z.cs (lo * ti.sz) (nc.take (min m (hi - lo) * ti.sz)) } = st := by
    intro h5
    have h6 : setAt z.cs (lo * ti.sz) [] = z.cs := by cases z.cs <;> rfl
    rw [h5, h6]
    unfold St.setO
    have : st.ob.set ob (some z) = st.ob := by
      apply List.ext_getElem?
      intro i
      by_cases e : i = ob
      · subst e
        rw [List.getElem?_set_self (List.getElem?_eq_some_iff.1 (obj_some hz)).1, obj_some hz]
      · rw [List.getElem?_set_ne (Ne.symm e)]
    rw [this]
  have hnone : nc.take (min m (hi - lo) * ti.sz) = [] → news = [] := fun h5 => by
    rw [h5] at hall
    exact List.eq_nil_of_length_eq_zero hall.length
  have hz0 : hi - lo = 0 → nc.take (min m (hi - lo) * ti.sz) = [] := fun h5 => by simp [h5]
  rcases hv with ⟨hb, rfl, rfl, hv⟩ | ⟨b, k, off, hb, h3, h4, hv, hoff⟩
  · rw [hself (hz0 rfl)]
    have hnews := hnone (hz0 rfl)
    subst hnews
    refine ⟨.int .i64 ((min m (0 - 0) : Nat) : Int), w, σ, ?_, hr.put o.dst ⟨rfl, rfl⟩⟩
    have hf0 : (Builtin.firstCells ti.sz 0 (a.eval x)).run P w = .ok #[] w := by simpa using hfirst
    simp only [execOp, ho, resolve, Sem.run_bind, Sem.run_pure, Result.andThen_ok, invoke]
    simp [builtin, Builtin.copy_, run_underlying (elemF_some he), hv, hlen, run_sizeOf' hti, goInt, hf0]
  · have hrun : ∀ w' : World, (storeCells ⟨b, off, none⟩ news).run P w = .ok () w' → (execOp a.eval o).run P w = .ok (.value (.int .i64 ((min m (hi - lo) : Nat) : Int))) w' := by
      intro w' hst
      rw [← hmn] at hfirst
      simp only [execOp, ho, resolve, Sem.run_bind, Sem.run_pure, Result.andThen_ok, invoke]
      simp [builtin, Builtin.copy_, run_underlying (elemF_some he), hv, hlen, run_sizeOf' hti, goInt, hfirst, hst]
    by_cases hlt : lo < k ∨ lo = 0
    · have hoff' := hoff hlt
      obtain ⟨w', hst, hr'⟩ := hr.putCells (P := P) hz hb off hall h1 (by
        have h5 : min m (hi - lo) * ti.sz ≤ (hi - lo) * ti.sz := Nat.mul_le_mul_right _ (Nat.min_le_right _ _)
        have h6 : (hi - lo) * ti.sz + lo * ti.sz = hi * ti.sz := by rw [← Nat.add_mul]; congr 1; omega
        omega)
      rw [hoff'] at hr'
      exact ⟨_, w', σ, hrun w' hst, hr'.put o.dst ⟨rfl, rfl⟩⟩
    · have h0 : hi - lo = 0 := by omega
      rw [hself (hz0 h0)]
      have hnews := hnone (hz0 h0)
      subst hnews
      exact ⟨_, w, σ, hrun w (by simp [storeCells]), hr.put o.dst ⟨rfl, rfl⟩⟩
end
end Go.Proofs.Ytlkhfdccapkcdaa
