/- Append on abstract states. -/
import Derived.Test.YtlkhfdccapkcdaaA10
namespace Go.Proofs.Ytlkhfdccapkcdaa
open Go Go.RowKit
set_option linter.unusedVariables false
set_option linter.unusedSimpArgs false

section
variable {P : Program} {cx : Cx} {o : Oper} {st : St}
theorem owned_block {w : World} {e sz n : Nat} {v : Value} {xs : List Value} (h : w.ownsRow 0 e sz v n xs) : (v = .slice none 0 0 ∧ n = 0 ∧ xs = []) ∨
    ∃ g cap rest, v = .slice (some ⟨g, 0, none⟩) n cap ∧ w.heap[g]? = some (.cells (xs ++ rest).toArray e (0, 0)) ∧ n ≤ cap ∧ cap ≤ maxLen ∧ xs.length + rest.length = cap * sz := by
  rcases h.2 with ⟨rfl, rfl⟩ | ⟨g, cap, cur, rfl, _, hg, h1, h2, h3, h4⟩
  · have := h.1
    simp at this
    exact .inl ⟨rfl, rfl, this⟩
  · have e : xs ++ cur.toList.drop (n * sz) = cur.toList := by rw [← h4]; exact List.take_append_drop _ _
    refine .inr ⟨g, cap, cur.toList.drop (n * sz), rfl, by rw [e]; exact hg, h1, h2, ?_⟩
    rw [← List.length_append, e]
    simpa using h3
/-- A new object in memory that has grown. -/
theorem RelS.newAt {σ : Nat → Hd} {a : Act} {w w' : World} (h : RelS cx σ st a w) (x : Ob) (hd : Option (Nat × Nat)) (hgr : w.grownBy w' none) (hnew : ∀ b k, hd = some (b, k) → w.heap.size ≤ b)
    (hx : ∀ b k, hd = some (b, k) → ∃ vs rest : List Value, w'.heap[b]? = some (.cells (vs ++ rest).toArray x.ty (0, 0)) ∧ All2 (RelL w (Xd cx w σ st.ob) (Xe w σ st.ob) σ) vs x.cs ∧
      (x.row = false → rest = []) ∧ (x.row = true → vs.length + rest.length = k * x.sz ∧ k ≤ maxLen ∧ ∀ k', x.cap = some k' → k' = k))
    (hx0 : hd = none → x.row = true ∧ x.cs = [] ∧ (x.cap = none ∨ x.cap = some 0)) :
    RelS cx (upd σ st.ob.length (some hd)) (st.add x) a w' := by
  have hold : ∀ o h', σ o = some h' → upd σ st.ob.length (some hd) o = some h' := by
    intro o h' ho
    rw [upd_other]
    · exact ho
    · intro e
      rw [h.h.dom o (by omega)] at ho
      exact absurd ho (by simp)
  have key : ∀ (o : Nat) (y : Ob), (st.ob ++ [some x])[o]? = some (some y) → (o = st.ob.length ∧ y = x) ∨ (o ≠ st.ob.length ∧ st.ob[o]? = some (some y)) := by
    intro o y ho
    rcases Nat.lt_trichotomy o st.ob.length with hlt | rfl | hgt
    · rw [List.getElem?_append_left hlt] at ho; exact .inr ⟨by omega, ho⟩
    · simp at ho; exact .inl ⟨rfl, ho.symm⟩
    · rw [List.getElem?_eq_none (by simp; omega)] at ho; exact absurd ho (by simp)
  have hs : Step σ st.ob w (upd σ st.ob.length (some hd)) (st.ob ++ [some x]) w' some := by
    refine ⟨⟨hgr.size, fun b hb _ => hgr.block b hb (by simp), hgr.os, hgr.tape, hgr.output⟩, fun o o' h' e hh => by cases e; exact hold o h' hh, ?_⟩
    rintro b ⟨o, y, k', ho, hb⟩
    rcases key o y ho with ⟨rfl, rfl⟩ | ⟨hne, hy⟩
    · rw [upd_same] at hb
      simp at hb
      exact .inr (hnew b k' hb)
    · rw [upd_other _ _ hne] at hb; exact .inl ⟨o, y, k', hy, hb⟩
  refine h.step_some hs (hs.relH h.h ?_ ?_ ?_ (by have := h.h.nbl; simp; omega) ?_)
  · intro o y ho
    rcases key o y ho with ⟨rfl, rfl⟩ | ⟨hne, hy⟩
    · rw [upd_same]
      match hd, hx, hx0 with
      | none, _, hx0 => exact hx0 rfl
      | some (b, k), hx, _ =>
        obtain ⟨vs, rest, h1, h2, h4, h5⟩ := hx b k rfl
        refine ⟨vs, rest, h1, h2.mono fun v c _ hc => ?_, h4, h5⟩
        have := hs.relL (cx := cx) hc
        rwa [LV.ren_some] at this
    · rw [upd_other _ _ hne]
      have := hs.relO (cx := cx) (fun b k e => hgr.block b (h.h.lt ⟨o, y, k, hy, e⟩) (by simp)) (h.h.obs o y hy)
      rwa [Ob.ren_some] at this
  · intro o o' y y' b k k' ho ho' hb hb'
    rcases key o y ho with ⟨rfl, rfl⟩ | ⟨hne, hy⟩ <;> rcases key o' y' ho' with ⟨rfl, rfl⟩ | ⟨hne', hy'⟩
    · rfl
    · rw [upd_same] at hb
      rw [upd_other _ _ hne'] at hb'
      simp at hb
      have := hnew b k hb
      have := h.h.lt (b := b) ⟨o', y', k', hy', hb'⟩
      omega
    · rw [upd_same] at hb'
      rw [upd_other _ _ hne] at hb
      simp at hb'
      have := hnew b k' hb'
      have := h.h.lt (b := b) ⟨o, y, k, hy, hb⟩
      omega
    · rw [upd_other _ _ hne] at hb
      rw [upd_other _ _ hne'] at hb'
      exact h.h.inj o o' y y' b k k' hy hy' hb hb'
  · intro o ho
    rw [upd_other _ _ (by simp at ho; omega)]
    exact h.h.dom o (by simp at ho; omega)
  · intro o y ho hrow hnb
    rcases key o y ho with ⟨rfl, rfl⟩ | ⟨hne, hy⟩
    · have := h.h.nbl; omega
    · rw [upd_other _ _ hne]; exact h.h.box o y hy hrow hnb

theorem src_news {σ : Nat → Hd} {a : Act} {w : World} (hr : RelS cx σ st a w) {x : Operand} {sz m : Nat} {nc : List LV} (hx : st.src sz (st.ev x) = some (m, nc)) :
    ∃ news : List Value, ((a.eval x = .slice none 0 0 ∧ m = 0 ∧ news = []) ∨ ∃ ad c, a.eval x = .slice (some ad) m c ∧ news.length = m * sz ∧ (∀ j u, news[j]? = some u → w.cell? (ad.add j) = some u) ∧ ∀ u ∈ news, u.oneCell' = true) ∧
      All2 (RelL w (Xd cx w σ st.ob) (Xe w σ st.ob) σ) news nc := by
  rcases hr.src (hr.ev x) hx with ⟨h1, h2, rfl⟩ | ⟨ad, c, news, h1, h2, h3, h4, h5⟩
  · exact ⟨[], .inl ⟨h1, h2, rfl⟩, trivial⟩
  · exact ⟨news, .inr ⟨ad, c, h1, h2, h3, h4⟩, h5⟩
/-- append(nil, ..) -/
theorem OpOk.append_nil {t e m : Nat} {s x : Operand} {ti : TI} {nc : List LV} (ho : o.op = .call { callee := .builtin .append, args := #[s, x], argTypes := #[t, t] }) (he : elemF P t = some e) (hti : tiF P e = some ti)
    (hzl : ti.zero.length = ti.sz) (h0 : 0 < ti.sz) (hb0 : 0 < ti.bytes) (hs : st.ev s = .l (.s (.slice none 0 0))) (hx : st.src ti.sz (st.ev x) = some (m, nc)) (hbytes : m * ti.bytes ≤ 140737488355328) :
    OpOk P cx o st ((st.add ⟨e, ti.sz, true, none, nc⟩).put o.dst (hdr st.ob.length ti.sz m)) := by
  intro σ a w hr
  have hv := hr.ev s
  rw [hs] at hv
  have hv' : a.eval s = .slice none 0 0 := hv.1
  obtain ⟨news, hnews⟩ := src_news hr hx
  obtain ⟨v', w', hrun, hown, hgr, hblk⟩ := run_append_core (P := P) (ty := o.type) he hti hzl h0 hb0 (.slice none 0 0) 0 [] (World.ownsRow_nil w 0 e ti.sz) (a.eval x) m news hnews.1 (by simpa using hbytes)
  rw [Nat.zero_add, List.nil_append] at hown
  have hrun' : (execOp a.eval o).run P w = .ok (.value v') w' := by
    simp [execOp, ho, resolve, invoke, builtin, hv', hrun]
  have hgr' : w.grownBy w' none := hgr
  rcases owned_block hown with ⟨rfl, rfl, rfl⟩ | ⟨g, cap, rest, rfl, hg, h1, h2, h3⟩
  · -- nothing was appended
    have hnc : nc = [] := List.eq_nil_of_length_eq_zero hnews.2.length.symm
    subst hnc
    have hn := hr.newAt ⟨e, ti.sz, true, none, []⟩ none hgr' (fun b k h => by simp at h) (fun b k h => by simp at h) (fun _ => ⟨rfl, rfl, .inl rfl⟩)
    exact ⟨_, _, _, hrun', hn.put o.dst (.inl ⟨upd_same _ _ _, rfl, rfl, rfl⟩)⟩
  · have hge : w.heap.size ≤ g := by
      rcases hblk with h | h
      · simp [Value.ownBlock] at h
      · simp [Value.ownBlock] at h; omega
    have hn := hr.newAt ⟨e, ti.sz, true, none, nc⟩ (some (g, cap)) hgr' (fun b k h => by simp at h; omega) (fun b k h => by
      simp at h
      obtain ⟨rfl, rfl⟩ := h
      exact ⟨news, rest, hg, hnews.2, fun h => by simp at h, fun _ => ⟨h3, h2, fun k' h => by simp at h⟩⟩) (fun h => by simp at h)
    exact ⟨_, _, _, hrun', hn.put o.dst (.inr ⟨g, cap, 0, upd_same _ _ _, Nat.zero_le _, h1, by simp, fun _ => by simp⟩)⟩
/-- append(row, ..): the row may move. -/
theorem OpOk.append_own {t e m n ob : Nat} {s x : Operand} {ti : TI} {nc : List LV} {z : Ob} (ho : o.op = .call { callee := .builtin .append, args := #[s, x], argTypes := #[t, t] }) (he : elemF P t = some e) (hti : tiF P e = some ti)
    (hzl : ti.zero.length = ti.sz) (h0 : 0 < ti.sz) (hb0 : 0 < ti.bytes) (hs : st.ev s = .l (.r ob ti.sz 0 n)) (hz : st.obj ob = some z) (hzt : z.ty = e ∧ z.sz = ti.sz ∧ z.row = true) (hfull : z.cs.length = n * ti.sz)
    (hx : st.src ti.sz (st.ev x) = some (m, nc)) (hbytes : (n + m) * ti.bytes ≤ 140737488355328) :
    OpOk P cx o st ((st.grow ob ⟨e, ti.sz, true, none, (z.cs ++ nc).map (LV.ren (but ob))⟩).put o.dst (hdr ob ti.sz (n + m))) := by
  obtain ⟨hzty, hzsz, hzrow⟩ := hzt
  intro σ a w hr
  have hv := hr.ev s
  rw [hs] at hv
  have hO := hr.h.obs ob z (obj_some hz)
  obtain ⟨news, hnews⟩ := src_news hr hx
  -- what is owned
  have hown0 : ∃ xs, w.ownsRow 0 e ti.sz (a.eval s) n xs ∧ All2 (RelL w (Xd cx w σ st.ob) (Xe w σ st.ob) σ) xs z.cs ∧ ∀ b, (a.eval s).ownBlock = some b → ∃ k, σ ob = some (some (b, k)) := by
    rcases hv with ⟨hb, _, rfl, hv⟩ | ⟨b, k, off, hb, h3, h4, hv, hoff⟩
    · rw [hb] at hO
      rw [hv]
      refine ⟨[], World.ownsRow_nil w 0 e ti.sz, ?_, fun b h => by simp [Value.ownBlock] at h⟩
      rw [hO.2.1]; trivial
    · rw [hb] at hO
      obtain ⟨vs, rest, g1, g2, g4, g5⟩ := hO
      have hoff' : off = 0 := by rw [hoff (.inr rfl)]; simp
      subst hoff'
      have hvl : vs.length = n * ti.sz := by rw [g2.length, hfull]
      obtain ⟨g6, g7, _⟩ := g5 hzrow
      refine ⟨vs, ⟨hvl, .inr ⟨b, k, (vs ++ rest).toArray, by simpa using hv, Nat.zero_le _, by rw [← hzty]; exact g1, h4, g7, by rw [← hzsz, ← g6]; simp, ?_⟩⟩, g2, fun b' h => ?_⟩
      · simp [← hvl]
      · rw [hv] at h
        simp [Value.ownBlock] at h
        subst h
        exact ⟨k, hb⟩
  obtain ⟨xs, hown0, hxs, hblk0⟩ := hown0
  obtain ⟨v', w', hrun, hown, hgr, hblk⟩ := run_append_core (P := P) (ty := o.type) he hti hzl h0 hb0 (a.eval s) n xs hown0 (a.eval x) m news hnews.1 hbytes
  have hrun' : (execOp a.eval o).run P w = .ok (.value v') w' := by
    simp [execOp, ho, resolve, invoke, builtin, hrun]
  have hall := hxs.append hnews.2
  have hsame : ∀ b, b < w.heap.size → (∀ k, σ ob ≠ some (some (b, k))) → w'.heap[b]? = w.heap[b]? := fun b hb hn => hgr.block b hb fun e => by
    obtain ⟨k, hk⟩ := hblk0 b e.symm
    exact hn k hk
  rcases owned_block hown with ⟨rfl, hnm, hnil⟩ | ⟨g, cap, rest, rfl, hg, h1, h2, h3⟩
  · have hcs : z.cs ++ nc = [] := by
      have := hall.length
      rw [hnil] at this
      exact List.eq_nil_of_length_eq_zero this.symm
    have hn := hr.regrow (x' := ⟨e, ti.sz, true, none, (z.cs ++ nc).map (LV.ren (but ob))⟩) (obj_some hz) none hgr.size hsame hgr.os hgr.tape hgr.output (fun b k h => by simp at h) (fun b k h => by simp at h) (fun _ => ⟨rfl, by simp [hcs], .inl rfl⟩) rfl
    exact ⟨_, _, _, hrun', hn.put o.dst (.inl ⟨upd_same _ _ _, rfl, by omega, rfl⟩)⟩
  · have hn := hr.regrow (x' := ⟨e, ti.sz, true, none, (z.cs ++ nc).map (LV.ren (but ob))⟩) (obj_some hz) (some (g, cap)) hgr.size hsame hgr.os hgr.tape hgr.output (fun b k h => by
      simp at h
      obtain ⟨rfl, rfl⟩ := h
      rcases hblk with hb | hb
      · obtain ⟨k0, hk0⟩ := hblk0 g (by rw [← hb]; rfl)
        exact .inl ⟨k0, hk0⟩
      · simp [Value.ownBlock] at hb
        exact .inr (by omega)) (fun b k h => by
      simp at h
      obtain ⟨rfl, rfl⟩ := h
      exact ⟨xs ++ news, rest, z.cs ++ nc, hg, hall, rfl, fun h => by simp at h, fun _ => ⟨h3, h2, fun k' h => by simp at h⟩⟩) (fun h => by simp at h) rfl
    exact ⟨_, _, _, hrun', hn.put o.dst (.inr ⟨g, cap, 0, upd_same _ _ _, Nat.zero_le _, h1, by simp, fun _ => by simp⟩)⟩
end
end Go.Proofs.Ytlkhfdccapkcdaa
