/- More operations (4): append(.., make(n)). -/
import Derived.Test.YtlkhfdccapkcdaaB3
import Derived.Lib.AppendZerosOnto
namespace Go.Proofs.Ytlkhfdccapkcdaa
open Go Go.RowKit
set_option linter.unusedVariables false
set_option linter.unusedSimpArgs false

section
variable {P : Program} {R : Option Nat} {cx : Cx} {o : Oper} {st : St} {K : St → Prop}
theorem zeroCells_repZ (z : Array Value) (n : Nat) : (Builtin.zeroCells z n).toList = repZ n z.toList := range_repZ z n
/-- append(nil, make(n)): a row of zeros. -/
theorem OpOk.append_make_nil {t t' e n : Nat} {s x : Operand} {ti : TI} {k kq : IntKind} (ho : o.op = .call { callee := .builtin .append, args := #[s, x], argTypes := #[t, t'] }) (he : elemF P t = some e) (ht' : intF P t' = some k) (hti : tiF P e = some ti)
    (hzl : ti.zero.length = ti.sz) (hz1 : ti.zero.all (·.oneCell') = true) (h0 : 0 < ti.sz) (hs : st.ev s = .l (.s (.slice none 0 0))) (hx : st.ev x = .l (.s (.int kq n))) (hn : 0 < n) (hb : n * ti.bytes ≤ 281474976710656) (hn63 : n ≤ 4611686018427387904) :
    OpOk P cx o st ((st.add ⟨e, ti.sz, true, none, (repZ n ti.zero).map .s⟩).put o.dst (hdr st.ob.length ti.sz n)) := by
  intro σ a w hr
  have hv := hr.ev s
  rw [hs] at hv
  have hv' : a.eval s = .slice none 0 0 := hv.1
  have hxv := hr.ev x
  rw [hx] at hxv
  have hx' : a.eval x = .int kq n := hxv.1
  obtain ⟨i, d, z, g1, g2, g3, rfl⟩ := tiF_some hti
  simp only at hzl hz1 h0 hb ⊢
  have hrun := Lib.run_append_nil_zeros (P := P) w t t' o.type e i z kq k (elemF_some he) (intF_some ht') g1 g3 n hn h0 (by omega) hb
  obtain ⟨c, hc⟩ : ∃ c, c = grownCap w n 0 e := ⟨_, rfl⟩
  rw [← hc] at hrun
  have hcap : n ≤ c ∧ c ≤ maxLen := by
    rw [hc]
    exact ⟨grownCap_ge w n 0 e, grownCap_le_maxLen w n 0 e (by unfold maxLen; omega)⟩
  have hrun' : (execOp a.eval o).run P w = .ok (.value (.slice (some ⟨w.heap.size, 0, none⟩) n c)) ((w.drewN 1).alloc (.cells (repZ n z.cells.toList ++ repZ (c - n) z.cells.toList).toArray e)) := by
    have e1 : (Builtin.zeroCells z.cells n ++ Builtin.zeroCells z.cells (c - n)) = (repZ n z.cells.toList ++ repZ (c - n) z.cells.toList).toArray := by
      apply Array.ext'
      simp [zeroCells_repZ]
    rw [e1] at hrun
    simp [execOp, ho, resolve, invoke, builtin, hv', hx', hrun]
    rfl
  have hz2 : ∀ m, (repZ m z.cells.toList).all (·.oneCell') = true := fun m => List.all_eq_true.2 fun u hu => List.all_eq_true.1 hz1 u (mem_repZ m hu)
  have hnew := hr.new 1 c ⟨e, i.size, true, none, (repZ n z.cells.toList).map .s⟩ (repZ n z.cells.toList) (repZ (c - n) z.cells.toList) (zero_cells _ (hz2 n)) (fun h => by simp at h) (fun _ => ⟨by
    rw [repZ_length, repZ_length, hzl, ← Nat.add_mul]
    congr 1
    omega, hcap.2, fun k' h => by simp at h⟩)
  exact ⟨_, _, _, hrun', hnew.put o.dst (.inr ⟨w.heap.size, c, 0, upd_same _ _ _, Nat.zero_le _, hcap.1, by simp, fun _ => by simp⟩)⟩
theorem OpOk.cap_nil {t e : Nat} {x : Operand} (ho : o.op = .call { callee := .builtin .cap, args := #[x], argTypes := #[t] }) (he : elemF P t = some e) (hx : st.ev x = .l (.s (.slice none 0 0))) :
    OpOk P cx o st (st.put o.dst (.l (.s (.int .i64 0)))) := by
  refine .calm fun σ a w hr => ?_
  have hv := hr.ev x
  rw [hx] at hv
  have hv' : a.eval x = .slice none 0 0 := hv.1
  exact ⟨.int .i64 0, 0, by simp [execOp, ho, resolve, invoke, builtin, Builtin.cap_, run_underlying (elemF_some he), hv', goInt, World.drewN], rfl, rfl⟩
end
end Go.Proofs.Ytlkhfdccapkcdaa
