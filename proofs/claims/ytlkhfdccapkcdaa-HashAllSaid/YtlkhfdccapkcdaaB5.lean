/- More operations (5): append(row, make(n)) into new memory, part of a row copied, clear, a slice of three bounds. -/
import Derived.Test.YtlkhfdccapkcdaaB4
import Derived.Room.Entries
import Derived.Lib.Overlaps
import Derived.Laws.CopyRow
namespace Go.Proofs.Ytlkhfdccapkcdaa
open Go Go.RowKit
set_option linter.unusedVariables false
set_option linter.unusedSimpArgs false

section
variable {P : Program} {R : Option Nat} {cx : Cx} {o : Oper} {st : St} {K : St → Prop}
/-- append(row, make(n)) where the row has no room for it: a new row. -/
theorem OpOk.append_make_grow {t t' e n ob lo hi c : Nat} {s x : Operand} {ti : TI} {k kq : IntKind} {z : Ob} {nc : List LV} (ho : o.op = .call { callee := .builtin .append, args := #[s, x], argTypes := #[t, t'] }) (he : elemF P t = some e) (ht' : intF P t' = some k) (hti : tiF P e = some ti)
    (hzl : ti.zero.length = ti.sz) (hz1 : ti.zero.all (·.oneCell') = true) (h0 : 0 < ti.sz) (hs : st.ev s = .l (.r ob ti.sz lo hi)) (hz : st.obj ob = some z) (hrow : z.row = true) (hcap : z.cap = some c) (hsrc : st.src ti.sz (.l (.r ob ti.sz lo hi)) = some (hi - lo, nc))
    (hx : st.ev x = .l (.s (.int kq n))) (hn : 0 < n) (hlh : lo ≤ hi) (hg : c < hi + n) (hb : (hi - lo + n) * ti.bytes ≤ 140737488355328) (hn63 : hi - lo + n ≤ 4611686018427387904) :
    OpOk P cx o st ((st.add ⟨e, ti.sz, true, none, nc ++ (repZ n ti.zero).map .s⟩).put o.dst (hdr st.ob.length ti.sz (hi - lo + n))) := by
  intro σ a w hr
  have hsv := hr.ev s
  rw [hs] at hsv
  have hxv := hr.ev x
  rw [hx] at hxv
  have hx' : a.eval x = .int kq n := hxv.1
  have hO := hr.h.obs ob z (obj_some hz)
  obtain ⟨i, d, zz, g1, g2, g3, rfl⟩ := tiF_some hti
  simp only at hzl hz1 h0 hb hsv hsrc ⊢
  -- the row's header, and what it holds
  have hold : ∃ (base : Option Addr) (sc : Nat) (olds : List Value), a.eval s = .slice base (hi - lo) sc ∧ sc < hi - lo + n ∧ (Builtin.firstCells i.size (hi - lo) (.slice base (hi - lo) sc)).run P w.drew = .ok olds.toArray w.drew ∧
      All2 (RelL w (Xd cx w σ st.ob) (Xe w σ st.ob) σ) olds nc ∧ olds.length = (hi - lo) * i.size := by
    have hs2 : RelV w (Xd cx w σ st.ob) (Xe w σ st.ob) σ (a.eval s) (.l (.r ob i.size lo hi)) := hsv
    rcases hr.src hs2 hsrc with ⟨hv', hm0, rfl⟩ | ⟨ad, c', news, hv', hl, hc, h1, hall⟩
    · refine ⟨none, 0, [], by rw [hv', hm0], by omega, by simp [Builtin.firstCells], trivial, by simp [hm0]⟩
    · have hsc : c' < hi - lo + n := by
        rcases hs2 with ⟨hb', rfl, rfl, hv⟩ | ⟨b, k', off, hb', h3, h4, hv, hoff⟩
        · rw [hv] at hv'; simp at hv'
        · rw [hb'] at hO
          obtain ⟨vs, rest, f1, f2, f4, f5⟩ := hO
          have := (f5 hrow).2.2 c hcap
          rw [hv] at hv'
          simp at hv'
          omega
      have hld := run_loadCells_list (P := P) w.drew ad news (fun j u hj => hc j u hj)
      rw [hl] at hld
      exact ⟨some ad, c', news, hv', hsc, by simp [Builtin.firstCells, hld], hall, hl⟩
  obtain ⟨base, sc, olds, hs', hsc, hold, hall, hol⟩ := hold
  have hfit : Builtin.nextslicecap (hi - lo + n) sc * i.bytes ≤ 281474976710656 := by
    have h1 : Builtin.nextslicecap (hi - lo + n) sc * i.bytes ≤ 2 * (hi - lo + n) * i.bytes := Nat.mul_le_mul_right _ (Go.Room.nextslicecap_le' hsc)
    have h2 : 2 * (hi - lo + n) * i.bytes = 2 * ((hi - lo + n) * i.bytes) := Nat.mul_assoc _ _ _
    omega
  have h48 : n * i.bytes ≤ 281474976710656 := by
    have : n * i.bytes ≤ (hi - lo + n) * i.bytes := Nat.mul_le_mul_right _ (by omega)
    omega
  have hrun := Lib.run_append_grow_zeros (P := P) w t t' o.type e i zz kq k (elemF_some he) (intF_some ht') g1 g3 base (hi - lo) sc olds hold n hn h0 hsc (by omega) h48 hfit
  obtain ⟨cc, hcc⟩ : ∃ cc, cc = grownCap w (hi - lo + n) sc e := ⟨_, rfl⟩
  rw [← hcc] at hrun
  have hcap2 : hi - lo + n ≤ cc ∧ cc ≤ maxLen := by
    rw [hcc]
    exact ⟨grownCap_ge w _ sc e, grownCap_le_maxLen w _ sc e (by unfold maxLen; omega)⟩
  have hrun' : (execOp a.eval o).run P w = .ok (.value (.slice (some ⟨w.heap.size, 0, none⟩) (hi - lo + n) cc)) ((w.drewN 1).alloc (.cells ((olds ++ repZ n zz.cells.toList) ++ repZ (cc - (hi - lo + n)) zz.cells.toList).toArray e)) := by
    have e1 : (olds.toArray ++ Builtin.zeroCells zz.cells n ++ Builtin.zeroCells zz.cells (cc - (hi - lo + n))) = ((olds ++ repZ n zz.cells.toList) ++ repZ (cc - (hi - lo + n)) zz.cells.toList).toArray := by
      apply Array.ext'
      simp [zeroCells_repZ]
    rw [e1] at hrun
    simp [execOp, ho, resolve, invoke, builtin, hs', hx', hrun]
    rfl
  have hz2 : ∀ m, (repZ m zz.cells.toList).all (·.oneCell') = true := fun m => List.all_eq_true.2 fun u hu => List.all_eq_true.1 hz1 u (mem_repZ m hu)
  have hnew := hr.new 1 cc ⟨e, i.size, true, none, nc ++ (repZ n zz.cells.toList).map .s⟩ (olds ++ repZ n zz.cells.toList) (repZ (cc - (hi - lo + n)) zz.cells.toList) (hall.append (zero_cells _ (hz2 n))) (fun h => by simp at h) (fun _ => ⟨by
    rw [List.length_append, repZ_length, repZ_length, hzl, hol, ← Nat.add_mul, ← Nat.add_mul]
    congr 1
    omega, hcap2.2, fun k' h => by simp at h⟩)
  exact ⟨_, _, _, hrun', hnew.put o.dst (.inr ⟨w.heap.size, cc, 0, upd_same _ _ _, Nat.zero_le _, hcap2.1, by simp, fun _ => by simp⟩)⟩
/-- copy of a row's part into an own row: only what is copied must be known. -/
theorem OpOk.copy_part {t t' e ob lo hi ob2 lo2 hi2 : Nat} {d x : Operand} {ti : TI} {nc : List LV} {z : Ob} (ho : o.op = .call { callee := .builtin .copy, args := #[d, x], argTypes := #[t, t'] }) (he : elemF P t = some e) (hti : tiF P e = some ti)
    (hd : st.ev d = .l (.r ob ti.sz lo hi)) (hz : st.obj ob = some z) (hfit : hi * ti.sz ≤ z.cs.length) (hx : st.ev x = .l (.r ob2 ti.sz lo2 hi2)) (hlh : lo2 ≤ hi2) (hsrc : st.src ti.sz (.l (.r ob2 ti.sz lo2 (lo2 + min (hi2 - lo2) (hi - lo)))) = some (min (hi2 - lo2) (hi - lo), nc)) (hpos : 0 < min (hi2 - lo2) (hi - lo)) :
    OpOk P cx o st ((st.setO ob { z with cs := setAt z.cs (lo * ti.sz) nc }).put o.dst (.l (.s (.int .i64 ((min (hi2 - lo2) (hi - lo) : Nat) : Int))))) := by
  intro σ a w hr
  have hv := hr.ev d
  rw [hd] at hv
  have hxv := hr.ev x
  rw [hx] at hxv
  obtain ⟨n, hn⟩ : ∃ n, n = min (hi2 - lo2) (hi - lo) := ⟨_, rfl⟩
  rw [← hn] at hsrc hpos ⊢
  have hmn : Nat.min (hi2 - lo2) (hi - lo) = n := hn.symm
  -- what is read
  rcases hxv with ⟨hb2, rfl, rfl, hv2⟩ | ⟨b2, k2, off2, hb2, h32, h42, hv2, hoff2⟩
  · omega
  · have hx2 : RelV w (Xd cx w σ st.ob) (Xe w σ st.ob) σ (.slice (some ⟨b2, off2, none⟩) n (k2 - lo2)) (.l (.r ob2 ti.sz lo2 (lo2 + n))) :=
      .inr ⟨b2, k2, off2, hb2, by omega, by omega, by rw [show lo2 + n - lo2 = n by omega], hoff2⟩
    rcases hr.src hx2 hsrc with ⟨hv', _, _⟩ | ⟨ad, c, news, hv', hl, hc, h1, hall⟩
    · simp at hv'
    · simp at hv'
      obtain ⟨rfl, rfl⟩ := hv'
      have hld := run_loadCells_list (P := P) w _ news hc
      rw [hl] at hld
      have hlen : (Builtin.lenOf (a.eval x)).run P w = .ok (hi2 - lo2) w := by rw [hv2]; rfl
      have hfirst : (Builtin.firstCells ti.sz n (a.eval x)).run P w = .ok news.toArray w := by rw [hv2]; simpa [Builtin.firstCells] using hld
      rcases hv with ⟨hb, rfl, rfl, hv⟩ | ⟨b, k, off, hb, h3, h4, hv, hoff⟩
      · omega
      · have hncl := hall.length
        have h5 : n * ti.sz ≤ (hi - lo) * ti.sz := Nat.mul_le_mul_right _ (by omega)
        have h6 : (hi - lo) * ti.sz + lo * ti.sz = hi * ti.sz := by rw [← Nat.add_mul]; congr 1; omega
        have hoff' := hoff (by omega)
        obtain ⟨w', hst, hr'⟩ := hr.putCells (P := P) hz hb off hall h1 (by omega)
        rw [hoff'] at hr'
        refine ⟨.int .i64 (n : Int), w', σ, ?_, hr'.put o.dst ⟨rfl, rfl⟩⟩
        simp only [execOp, ho, resolve, Sem.run_bind, Sem.run_pure, Result.andThen_ok, invoke]
        simp [builtin, Builtin.copy_, run_underlying (elemF_some he), hv, hlen, run_sizeOf' hti, goInt, hmn, hfirst, hst]
/-- clear of a part of an own row. -/
theorem OpOk.clear_r {t e ob lo hi : Nat} {x : Operand} {ti : TI} {z : Ob} (ho : o.op = .call { callee := .builtin .clear, args := #[x], argTypes := #[t] }) (hdst : o.dst = none) (he : elemF P t = some e) (hti : tiF P e = some ti) (hzl : ti.zero.length = ti.sz) (hz1 : ti.zero.all (·.oneCell') = true)
    (hx : st.ev x = .l (.r ob ti.sz lo hi)) (hz : st.obj ob = some z) (hlh : lo ≤ hi) (hfit : hi * ti.sz ≤ z.cs.length) :
    OpOk P cx o st (st.setO ob { z with cs := setAt z.cs (lo * ti.sz) ((repZ (hi - lo) ti.zero).map .s) }) := by
  intro σ a w hr
  have hxv := hr.ev x
  rw [hx] at hxv
  obtain ⟨i, d, zz, g1, g2, g3, rfl⟩ := tiF_some hti
  simp only at hzl hz1 hfit hxv ⊢
  have hself : hi - lo = 0 → st.setO ob { z with cs := setAt z.cs (lo * i.size) ((repZ (hi - lo) zz.cells.toList).map .s) } = st := by
    intro h5
    rw [h5]
    exact St.setO_self hz _
  have hrun0 : hi - lo = 0 → (execOp a.eval o).run P w = .ok (.value (.tuple #[])) w := by
    intro h5
    have : a.eval x = .slice none 0 0 ∨ ∃ ad c, a.eval x = .slice (some ad) 0 c := by
      rcases hxv with ⟨_, _, _, hv⟩ | ⟨b, k, off, _, _, _, hv, _⟩
      · exact .inl hv
      · exact .inr ⟨_, _, by rw [hv, h5]⟩
    simp only [execOp, ho, resolve, Sem.run_bind, Sem.run_pure, Result.andThen_ok, invoke]
    rcases this with h | ⟨ad, c, h⟩ <;> simp [builtin, Builtin.clear_, run_underlying (elemF_some he), h]
  by_cases h5 : hi - lo = 0
  · rw [hself h5]
    refine ⟨_, w, σ, hrun0 h5, ?_⟩
    rw [hdst]
    exact hr
  · rcases hxv with ⟨_, rfl, rfl, _⟩ | ⟨b, k, off, hb, h3, h4, hv, hoff⟩
    · omega
    · have hoff' := hoff (by omega)
      have hz2 : ∀ m, (repZ m zz.cells.toList).all (·.oneCell') = true := fun m => List.all_eq_true.2 fun u hu => List.all_eq_true.1 hz1 u (mem_repZ m hu)
      have h6 : (hi - lo) * i.size + lo * i.size = hi * i.size := by rw [← Nat.add_mul]; congr 1; omega
      obtain ⟨w', hst, hr'⟩ := hr.putCells (P := P) hz hb off (news := repZ (hi - lo) zz.cells.toList) (nc := (repZ (hi - lo) zz.cells.toList).map .s) (zero_cells _ (hz2 _)) (fun u hu => List.all_eq_true.1 (hz2 _) u hu) (by rw [List.length_map, repZ_length, hzl]; omega)
      rw [hoff'] at hr'
      refine ⟨.tuple #[], w', σ, ?_, by rw [hdst]; exact hr'⟩
      simp only [execOp, ho, resolve, Sem.run_bind, Sem.run_pure, Result.andThen_ok, invoke]
      have hzv : (zeroValue e).run P w = .ok zz w := by simp [zeroValue, typeInfo, g1, g3]
      cases hn : hi - lo with
      | zero => exact absurd hn h5
      | succ m =>
        rw [hn] at hst hv
        simp [builtin, Builtin.clear_, run_underlying (elemF_some he), hv, hzv, zeroCells_repZ, hst]
/-- s[l:h:m] of an own row: only that it may be. -/
theorem OpOk.slice3_r {t e : Nat} {x lq hq mq : Operand} {ti : TI} {ob lo hi : Nat} {l h m : Nat} {k1 k2 k3 : IntKind} (ho : o.op = .slice t x (some lq) (some hq) (some mq)) (he : elemF P t = some e) (hti : tiF P e = some ti)
    (hx : st.ev x = .l (.r ob ti.sz lo hi)) (hl : st.ev lq = .l (.s (.int k1 l))) (hh : st.ev hq = .l (.s (.int k2 h))) (hm : st.ev mq = .l (.s (.int k3 m))) (h1 : l ≤ h) (h2 : h ≤ m) (h3 : m ≤ hi - lo) :
    OpOk P cx o st (st.put o.dst (.l .u)) := by
  refine .calm fun σ a w hr => ?_
  have hv := hr.ev x
  rw [hx] at hv
  have hlv := hr.ev lq
  rw [hl] at hlv
  have hhv := hr.ev hq
  rw [hh] at hhv
  have hmv := hr.ev mq
  rw [hm] at hmv
  have gl : a.eval lq = .int k1 l := hlv.1
  have gh : a.eval hq = .int k2 h := hhv.1
  have gm : a.eval mq = .int k3 m := hmv.1
  have key : ∀ (base : Option Addr) (cap : Nat), a.eval x = .slice base (hi - lo) cap → m ≤ cap → ∃ v, (execOp a.eval o).run P w = .ok (.value v) (w.drewN 0) := by
    intro base cap hvx hmc
    have hb := run_bounds3 (P := P) (w := w) true (hi - lo) cap l h m (some (.int k1 l)) k2 k3 (.inr ⟨k1, rfl⟩) h1 h2 hmc
    simp only [execOp, ho, Instr.sliceAt, run_underlying (elemF_some he), Instr.slice, hvx, gl, gh, gm, Option.map_some, run_sizeOf' hti, Sem.run_bind, Result.andThen_ok, Sem.run_pure, hb]
    exact ⟨_, rfl⟩
  rcases hv with ⟨_, rfl, rfl, hv⟩ | ⟨b, k, off, _, h3', h4', hv, _⟩
  · obtain ⟨v, hrun⟩ := key none 0 hv (by omega)
    exact ⟨v, 0, hrun, trivial⟩
  · obtain ⟨v, hrun⟩ := key _ _ hv (by omega)
    exact ⟨v, 0, hrun, trivial⟩
/-- More of an own row is told of: what it is, nobody knows. -/
theorem Weak.room {ob : Nat} {z : Ob} {c : Nat} (hz : st.obj ob = some z) (hrow : z.row = true) (hcap : z.cap = some c) {n : Nat} (hn : z.cs.length + n ≤ c * z.sz) : Weak cx st (st.setO ob { z with cs := z.cs ++ List.replicate n .u }) := by
  intro σ a w hr
  have hO := hr.h.obs ob z (obj_some hz)
  match hb : σ ob with
  | none => rw [hb] at hO; exact hO.elim
  | some none =>
    rw [hb] at hO
    obtain ⟨_, h1, h2⟩ := hO
    rw [hcap] at h2
    have hc0 : c = 0 := by simpa using h2
    have hn0 : n = 0 := by rw [hc0] at hn; omega
    subst hn0
    have e : st.setO ob { z with cs := z.cs ++ List.replicate 0 .u } = st := by
      have := St.setO_self hz 0
      have h6 : setAt z.cs 0 [] = z.cs := by cases z.cs <;> rfl
      rw [h6] at this
      simpa using this
    rw [e]
    exact ⟨σ, hr⟩
  | some (some (b, k)) =>
    rw [hb] at hO
    obtain ⟨vs, rest, g1, g2, g4, g5⟩ := hO
    obtain ⟨f1, f2, f3⟩ := g5 hrow
    have hkc := f3 c hcap
    subst hkc
    have hvl := g2.length
    have hall : All2 (RelL w (Xd cx w σ st.ob) (Xe w σ st.ob) σ) (vs ++ rest.take n) (z.cs ++ List.replicate n .u) := by
      refine g2.append (All2.of_get (by simp; omega) fun i u x hu hx => ?_)
      rw [List.getElem?_replicate] at hx
      split at hx
      · simp at hx; subst hx; trivial
      · simp at hx
    have hwr := hr.write (x' := { z with cs := z.cs ++ List.replicate n .u }) (obj_some hz) hb (vs ++ rest.take n) (rest.drop n) hall rfl rfl (fun h => by rw [hrow] at h; simp at h) (fun _ => ⟨by
      have : (vs ++ rest.take n).length + (rest.drop n).length = vs.length + rest.length := by simp; omega
      rw [this]; exact f1, f2, f3⟩)
    refine ⟨σ, ?_⟩
    have e : w.setRow b (vs ++ rest.take n ++ rest.drop n).toArray = w := by
      rw [List.append_assoc, List.take_append_drop]
      exact setRow_self _ _ _ _ _ g1
    rw [e] at hwr
    exact hwr
/-- Less of an own row is told of. -/
theorem Weak.trunc {ob : Nat} {z : Ob} (hz : st.obj ob = some z) (hrow : z.row = true) (n : Nat) : Weak cx st (st.setO ob { z with cs := z.cs.take n }) := by
  intro σ a w hr
  have hO := hr.h.obs ob z (obj_some hz)
  match hb : σ ob with
  | none => rw [hb] at hO; exact hO.elim
  | some none =>
    rw [hb] at hO
    obtain ⟨_, h1, h2⟩ := hO
    have e : st.setO ob { z with cs := z.cs.take n } = st := by
      have := St.setO_self hz 0
      have h6 : setAt z.cs 0 [] = z.cs := by cases z.cs <;> rfl
      rw [h6] at this
      rw [h1, List.take_nil, ← h1]
      exact this
    rw [e]
    exact ⟨σ, hr⟩
  | some (some (b, k)) =>
    rw [hb] at hO
    obtain ⟨vs, rest, g1, g2, g4, g5⟩ := hO
    obtain ⟨f1, f2, f3⟩ := g5 hrow
    have hwr := hr.write (x' := { z with cs := z.cs.take n }) (obj_some hz) hb (vs.take n) (vs.drop n ++ rest) (g2.take n) rfl rfl (fun h => by rw [hrow] at h; simp at h) (fun _ => ⟨by
      have : (vs.take n).length + (vs.drop n ++ rest).length = vs.length + rest.length := by simp; omega
      rw [this]; exact f1, f2, f3⟩)
    refine ⟨σ, ?_⟩
    have e : w.setRow b (vs.take n ++ (vs.drop n ++ rest)).toArray = w := by
      rw [← List.append_assoc, List.take_append_drop]
      exact setRow_self _ _ _ _ _ g1
    rw [e] at hwr
    exact hwr
end
end Go.Proofs.Ytlkhfdccapkcdaa
