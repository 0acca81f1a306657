/- More operations (3): append where there is room, clear. -/
import Derived.Test.YtlkhfdccapkcdaaB2
namespace Go.Proofs.Ytlkhfdccapkcdaa
open Go Go.RowKit
set_option linter.unusedVariables false
set_option linter.unusedSimpArgs false

section
variable {P : Program} {R : Option Nat} {cx : Cx} {o : Oper} {st : St} {K : St → Prop}
theorem St.setO_self {ob : Nat} {z : Ob} (hz : st.obj ob = some z) (p : Nat) : st.setO ob { z with cs := setAt z.cs p [] } = st := by
  have h6 : setAt z.cs p [] = z.cs := by cases z.cs <;> rfl
  rw [h6]
  unfold St.setO
  have : st.ob.set ob (some z) = st.ob := by
    apply List.ext_getElem?
    intro i
    by_cases e : i = ob
    · subst e
      rw [List.getElem?_set_self (List.getElem?_eq_some_iff.1 (obj_some hz)).1, obj_some hz]
    · rw [List.getElem?_set_ne (Ne.symm e)]
  rw [this]
theorem src_run {σ : Nat → Hd} {a : Act} {w : World} (hr : RelS cx σ st a w) {x : Operand} {sz m : Nat} {nc : List LV} (hx : st.src sz (st.ev x) = some (m, nc)) :
    ∃ news : List Value, (Builtin.lenOf (a.eval x)).run P w = .ok m w ∧ (Builtin.firstCells sz m (a.eval x)).run P w = .ok news.toArray w ∧ All2 (RelL w (Xd cx w σ st.ob) (Xe w σ st.ob) σ) news nc ∧ (∀ u ∈ news, u.oneCell' = true) ∧ nc.length = m * sz := by
  rcases hr.src (hr.ev x) hx with ⟨hv', rfl, rfl⟩ | ⟨ad, c, news, hv', hl, hc, h1, hall⟩
  · exact ⟨[], by simp [hv', Builtin.lenOf], by simp [hv', Builtin.firstCells], trivial, by simp, by simp⟩
  · have := run_loadCells_list (P := P) w ad news hc
    rw [hl] at this
    exact ⟨news, by simp [hv', Builtin.lenOf], by simp [hv', Builtin.firstCells, this], hall, h1, by rw [← hall.length, hl]⟩
/-- append(row's head, ..) where the row has room that is known. -/
theorem OpOk.append_in {t e m lo hi ob : Nat} {s x : Operand} {ti : TI} {nc : List LV} {z : Ob} (ho : o.op = .call { callee := .builtin .append, args := #[s, x], argTypes := #[t, t] }) (he : elemF P t = some e) (hti : tiF P e = some ti)
    (h0 : 0 < ti.sz) (hs : st.ev s = .l (.r ob ti.sz lo hi)) (hz : st.obj ob = some z) (hzt : z.sz = ti.sz ∧ z.row = true) (hx : st.src ti.sz (st.ev x) = some (m, nc)) (hfit : (hi + m) * ti.sz ≤ z.cs.length) :
    OpOk P cx o st ((st.setO ob { z with cs := setAt z.cs (hi * ti.sz) nc }).put o.dst (.l (.r ob ti.sz lo (hi + m)))) := by
  intro σ a w hr
  have hv := hr.ev s
  rw [hs] at hv
  obtain ⟨news, hlen, hfirst, hall, h1, hncl⟩ := src_run (P := P) hr hx
  have hO := hr.h.obs ob z (obj_some hz)
  rcases hv with ⟨hb, rfl, rfl, hv⟩ | ⟨b, k, off, hb, h3, h4, hv, hoff⟩
  · rw [hb] at hO
    have hm : m = 0 := by
      have h5 : (0 + m) * ti.sz = 0 := by
        rw [hO.2.1] at hfit
        simpa using hfit
      rcases Nat.mul_eq_zero.1 h5 with h | h <;> omega
    subst hm
    have hnc : nc = [] := List.eq_nil_of_length_eq_zero (by omega)
    subst hnc
    have hnews : news = [] := List.eq_nil_of_length_eq_zero hall.length
    subst hnews
    rw [St.setO_self hz]
    refine ⟨.slice none 0 0, w, σ, ?_, hr.put o.dst (.inl ⟨hb, rfl, rfl, rfl⟩)⟩
    simp only [execOp, ho, resolve, Sem.run_bind, Sem.run_pure, Result.andThen_ok, invoke]
    simp [builtin, Builtin.append_, run_underlying (elemF_some he), hv, hlen, run_sizeOf' hti, hfirst]
  · rw [hb] at hO
    obtain ⟨vs, rest, g1, g2, g4, g5⟩ := hO
    have hkk := (g5 hzt.2).1
    rw [hzt.1] at hkk
    have hcs := g2.length
    have hle : (hi + m) * ti.sz ≤ k * ti.sz := by omega
    have hik : hi + m ≤ k := Nat.le_of_mul_le_mul_right hle h0
    have hrun : ∀ w' : World, (storeCells ⟨b, off + (hi - lo) * ti.sz, none⟩ news).run P w = .ok () w' → (execOp a.eval o).run P w = .ok (.value (.slice (some ⟨b, off, none⟩) (hi - lo + m) (k - lo))) w' := by
      intro w' hst
      have hneed : hi - lo + m ≤ k - lo := by omega
      simp only [execOp, ho, resolve, Sem.run_bind, Sem.run_pure, Result.andThen_ok, invoke]
      simp [builtin, Builtin.append_, run_underlying (elemF_some he), hv, hlen, run_sizeOf' hti, hfirst, hneed, addr_add, hst]
    have hres : ∀ (w' : World) (ob' : List (Option Ob)), RelV w' (Xd cx w' σ ob') (Xe w' σ ob') σ (.slice (some ⟨b, off, none⟩) (hi - lo + m) (k - lo)) (.l (.r ob ti.sz lo (hi + m))) := by
      intro w' ob'
      refine .inr ⟨b, k, off, hb, by omega, hik, ?_, hoff⟩
      rw [show hi + m - lo = hi - lo + m by omega]
    by_cases hlt : lo < k ∨ lo = 0
    · have hoff' := hoff hlt
      have hpos : off + (hi - lo) * ti.sz = hi * ti.sz := by
        rw [hoff', ← Nat.add_mul]
        congr 1
        omega
      obtain ⟨w', hst, hr'⟩ := hr.putCells (P := P) hz hb (hi * ti.sz) hall h1 (by rw [hncl, ← Nat.add_mul]; exact hfit)
      refine ⟨_, w', σ, hrun w' (by rw [hpos]; exact hst), hr'.put o.dst (hres w' _)⟩
    · have hm : m = 0 := by omega
      subst hm
      have hnc : nc = [] := List.eq_nil_of_length_eq_zero (by omega)
      subst hnc
      have hnews : news = [] := List.eq_nil_of_length_eq_zero hall.length
      subst hnews
      rw [St.setO_self hz]
      exact ⟨_, w, σ, hrun w (by simp [storeCells]), hr.put o.dst (hres w _)⟩
end
end Go.Proofs.Ytlkhfdccapkcdaa
