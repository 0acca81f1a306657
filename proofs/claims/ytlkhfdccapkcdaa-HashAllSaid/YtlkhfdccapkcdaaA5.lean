/- Operations on abstract states, one by one (2): struct and slice values, addresses of fields and elements, parts of strings and slices. -/
import Derived.Test.YtlkhfdccapkcdaaA4
namespace Go.Proofs.Ytlkhfdccapkcdaa
open Go Go.RowKit
set_option linter.unusedVariables false
set_option linter.unusedSimpArgs false

def fillA (place : Nat → Option (Nat × Nat)) : List LV → List (Nat × AV) → Option (List LV)
  | cells, [] => some cells
  | cells, (i, v) :: rest =>
    match place i with
    | none => none
    | some (off, size) => if v.ok = true ∧ v.cells.length = size ∧ off + size ≤ cells.length then fillA place (setAt cells off v.cells) rest else none

theorem fold_setAt (off : Nat) : ∀ (l : List Value) (k : Nat) (cells : Array Value), ((l.zipIdx k).foldl (fun cs (x : Value × Nat) => cs.setIfInBounds (off + x.2) x.1) cells).toList = setAt cells.toList (off + k) l
  | [], _, _ => rfl
  | c :: l, k, cells => by
    rw [List.zipIdx_cons, List.foldl_cons, fold_setAt off l (k + 1), setAt, Array.toList_setIfInBounds]
    rfl
theorem fill_rel {w : World} {X Xa : Nat → Prop} {σ : Nat → Hd} (place : Nat → Option (Nat × Nat)) : ∀ (parts : List (Nat × Value)) (partsA : List (Nat × AV)) (cells : Array Value) (cellsA cs : List LV),
    All2 (fun p q => p.1 = q.1 ∧ RelV w X Xa σ p.2 q.2) parts partsA → All2 (RelL w X Xa σ) cells.toList cellsA → fillA place cellsA partsA = some cs →
    ∃ arr, Instr.fill place cells parts = some arr ∧ All2 (RelL w X Xa σ) arr.toList cs
  | [], [], cells, cellsA, cs, _, hc, h => by
    simp [fillA] at h
    subst h
    exact ⟨cells, rfl, hc⟩
  | (i, v) :: parts, (j, av) :: partsA, cells, cellsA, cs, hp, hc, h => by
    obtain ⟨⟨e, hv⟩, hp'⟩ := hp
    simp only at e hv
    subst e
    unfold fillA at h
    cases hpl : place i with
    | none => rw [hpl] at h; simp at h
    | some os =>
      obtain ⟨off, size⟩ := os
      rw [hpl] at h
      simp only at h
      split at h
      · rename_i hcond
        obtain ⟨hok, hl, hfit⟩ := hcond
        obtain ⟨hvc, hv1⟩ := hv.cells hok
        have hsz : v.cells.size = size := by have := hvc.length; simpa [hl] using this
        have hcl : cells.size = cellsA.length := by simpa using hc.length
        have e := fold_setAt off v.cells.toList 0 cells
        rw [Nat.add_zero] at e
        obtain ⟨arr, ha, hr⟩ := fill_rel place parts partsA (v.cells.zipIdx.foldl (fun cs (c, j) => cs.setIfInBounds (off + j) c) cells) _ cs hp' (by
          rw [← Array.foldl_toList, Array.toList_zipIdx, e]
          exact All2.setAt off hc hvc) h
        refine ⟨arr, ?_, hr⟩
        unfold Instr.fill
        rw [hpl]
        simp only
        rw [if_neg]
        · exact ha
        · simp only [Bool.or_eq_true, decide_eq_true_eq, not_or]
          omega
      · simp at h
  | [], _ :: _, _, _, _, hp, _, _ => hp.elim
  | _ :: _, [], _, _, _, hp, _, _ => hp.elim

theorem flds_places {P : Program} : ∀ (fs : List Field) (out : List (Nat × Nat × Bool)), (fs.mapM fun f => (tiF P f.type).map fun i => (f.offset, i.sz, i.agg)) = some out →
    (fs.mapM fun f => (P.info? f.type).map fun i => (f.offset, i.size)) = some (out.map fun x => (x.1, x.2.1))
  | [], out, h => by simp at h; subst h; rfl
  | f :: fs, out, h => by
    rw [List.mapM_cons] at h ⊢
    cases ht : tiF P f.type with
    | none => rw [ht] at h; simp at h
    | some ti =>
      cases hr : (fs.mapM fun f => (tiF P f.type).map fun i => (f.offset, i.sz, i.agg)) with
      | none => rw [ht, hr] at h; simp at h
      | some rest =>
        rw [ht, hr] at h
        simp at h
        subst h
        obtain ⟨i, d, z, h1, _, _, rfl⟩ := tiF_some ht
        rw [flds_places fs rest hr, h1]
        simp
theorem flds_get {P : Program} : ∀ (fs : List Field) (out : List (Nat × Nat × Bool)) (j : Nat) (x : Nat × Nat × Bool), (fs.mapM fun f => (tiF P f.type).map fun i => (f.offset, i.sz, i.agg)) = some out → out[j]? = some x →
    ∃ f ti, fs[j]? = some f ∧ tiF P f.type = some ti ∧ x = (f.offset, ti.sz, ti.agg)
  | [], out, j, x, h, hx => by simp at h; subst h; simp at hx
  | f :: fs, out, j, x, h, hx => by
    rw [List.mapM_cons] at h
    cases ht : tiF P f.type with
    | none => rw [ht] at h; simp at h
    | some ti =>
      cases hr : (fs.mapM fun f => (tiF P f.type).map fun i => (f.offset, i.sz, i.agg)) with
      | none => rw [ht, hr] at h; simp at h
      | some rest =>
        rw [ht, hr] at h
        simp at h
        subst h
        cases j with
        | zero => simp at hx; exact ⟨f, ti, rfl, ht, hx.symm⟩
        | succ j => exact flds_get fs rest j x hr (by simpa using hx)

section
variable {P : Program} {cx : Cx} {o : Oper} {st : St}
theorem parts_rel {σ : Nat → Hd} {a : Act} {w : World} (hr : RelS cx σ st a w) : ∀ l : List (Nat × Operand),
    All2 (fun (p : Nat × Value) (q : Nat × AV) => p.1 = q.1 ∧ RelV w (Xd cx w σ st.ob) (Xe w σ st.ob) σ p.2 q.2) (l.map fun x => (x.1, a.eval x.2)) (l.map fun x => (x.1, st.ev x.2))
  | [] => trivial
  | (i, x) :: l => ⟨⟨rfl, hr.ev x⟩, parts_rel hr l⟩
theorem OpOk.build {t : Nat} {parts : Array (Nat × Operand)} {ti : TI} {fs : List (Nat × Nat × Bool)} {cs : List LV} (ho : o.op = .build t parts) (hti : tiF P t = some ti) (hfs : flds P t = some fs)
    (hz : ti.zero.all (·.oneCell') = true) (hc : fillA (fun i => (fs[i]?).map fun x => (x.1, x.2.1)) (ti.zero.map .s) (parts.toList.map fun x => (x.1, st.ev x.2)) = some cs) :
    OpOk P cx o st (st.put o.dst (.g cs)) := by
  obtain ⟨i, d, z, h1, h2, h3, rfl⟩ := tiF_some hti
  unfold flds at hfs
  rw [h2] at hfs
  split at hfs
  · rename_i fields hd
    simp at hd
    subst hd
    refine .calm fun σ a w hr => ?_
    obtain ⟨arr, ha, hrel⟩ := fill_rel (w := w) (fun i => (fs[i]?).map fun x => (x.1, x.2.1)) (parts.toList.map fun x => (x.1, a.eval x.2)) _ z.cells _ cs (parts_rel hr _) (zero_cells _ hz) hc
    have hb : P.built t (parts.map fun (i, x) => (i, a.eval x)).toList = some arr := by
      unfold Program.built
      rw [h1, h2]
      simp only [h3, flds_places _ _ hfs]
      rw [← ha]
      simp
    exact ⟨.agg arr, 0, by simp [execOp, ho, run_build w t _ arr hb, World.drewN], arr.toList, rfl, hrel⟩
  · simp at hfs

/-! ### A literal of a slice -/
def repZ : Nat → List Value → List Value
  | 0, _ => []
  | n + 1, z => z ++ repZ n z
theorem repZ_length (z : List Value) : ∀ n, (repZ n z).length = n * z.length
  | 0 => by simp [repZ]
  | n + 1 => by simp [repZ, repZ_length z n, Nat.add_mul]; omega
theorem mem_repZ {z : List Value} {u : Value} : ∀ n, u ∈ repZ n z → u ∈ z
  | 0, h => by simp [repZ] at h
  | n + 1, h => by
    simp only [repZ, List.mem_append] at h
    rcases h with h | h
    · exact h
    · exact mem_repZ n h
theorem range_repZ (z : Array Value) : ∀ n, ((Array.range (n * z.size)).map fun i => z[i % z.size]!).toList = repZ n z.toList
  | 0 => by simp [repZ]
  | n + 1 => by
    have ih := range_repZ z n
    rw [repZ, ← ih]
    rcases Nat.eq_zero_or_pos z.size with h0 | h0
    · have : z = #[] := Array.eq_empty_of_size_eq_zero h0
      subst this
      simp
    · have e : (n + 1) * z.size = z.size + n * z.size := by rw [Nat.add_mul]; omega
      simp only [Array.toList_map, Array.toList_range, e, List.range_add, List.map_append, List.map_map]
      congr 1
      · apply List.ext_getElem
        · simp
        · intro i hi1 hi2
          simp at hi1 ⊢
          rw [Nat.mod_eq_of_lt hi1]
          simp [hi1]
      · apply List.map_congr_left
        intro i _
        simp
theorem OpOk.buildSlice {t e len : Nat} {parts : Array (Nat × Operand)} {ti : TI} {cs : List LV} (ho : o.op = .buildSlice t len parts) (he : elemF P t = some e) (hti : tiF P e = some ti)
    (hz : ti.zero.all (·.oneCell') = true) (hzl : ti.zero.length = ti.sz) (hbig : len * ti.sz ≤ 16777216) (hbig2 : len ≤ 16777216)
    (hc : fillA (fun i => some (i * ti.sz, ti.sz)) ((repZ len ti.zero).map .s) (parts.toList.map fun x => (x.1, st.ev x.2)) = some cs) :
    OpOk P cx o st ((st.add ⟨e, ti.sz, true, none, cs⟩).put o.dst (hdr st.ob.length ti.sz len)) := by
  intro σ a w hr
  obtain ⟨z, hzr, hzl2⟩ := run_zero' (w := w) hti
  have hz0 : (if len * ti.sz = 0 then (pure #[] : Sem (Array Value)) else do pure (← zeroValue e).cells).run P w = .ok (if len * ti.sz = 0 then #[] else z.cells) w := by
    split
    · rfl
    · simp [hzr]
  have hzs : z.cells.size = ti.sz := by rw [← hzl, ← hzl2]; simp
  have hrange : ((Array.range (len * ti.sz)).map fun i => (if len * ti.sz = 0 then #[] else z.cells)[i % (if len * ti.sz = 0 then #[] else z.cells).size]!).toList = repZ len ti.zero := by
    split
    · rename_i h0
      have : (repZ len ti.zero).length = 0 := by rw [repZ_length, hzl]; exact h0
      rw [List.eq_nil_of_length_eq_zero this, h0]
      simp
    · rw [← hzl2, ← range_repZ, hzs]
  obtain ⟨arr, ha, hrel⟩ := fill_rel (w := w) (fun i => some (i * ti.sz, ti.sz)) (parts.toList.map fun x => (x.1, a.eval x.2)) _
    ((Array.range (len * ti.sz)).map fun i => (if len * ti.sz = 0 then #[] else z.cells)[i % (if len * ti.sz = 0 then #[] else z.cells).size]!) _ cs (parts_rel hr _) (by rw [hrange]; exact zero_cells _ (List.all_eq_true.2 fun u hu => List.all_eq_true.1 hz u (mem_repZ _ hu))) hc
  have hfl : ∀ (l : List (Nat × AV)) (c c' : List LV), fillA (fun i => some (i * ti.sz, ti.sz)) c l = some c' → c'.length = c.length := by
    intro l
    induction l with
    | nil => intro c c' h; simp [fillA] at h; rw [h]
    | cons x l ih =>
      intro c c' h
      unfold fillA at h
      simp only at h
      split at h
      · rw [ih _ _ h, setAt_length]
      · simp at h
  have hlen : cs.length = len * ti.sz := by rw [hfl _ _ _ hc, List.length_map, repZ_length, hzl]
  have hal : arr.toList.length = len * ti.sz := by rw [hrel.length, hlen]
  have hn := hr.new 0 len ⟨e, ti.sz, true, none, cs⟩ arr.toList [] hrel (fun h => by simp at h) (fun _ => ⟨by simpa using hal, by unfold maxLen; omega, fun k' h => by simp at h⟩)
  rw [List.append_nil] at hn
  refine ⟨.slice (some ⟨w.heap.size, 0, none⟩) len len, _, _, ?_, hn.put o.dst ?_⟩
  · have hbig' : ¬ len * ti.sz > 2 ^ 24 := by omega
    have hps : (parts.map fun (i, x) => (i, a.eval x)).toList = parts.toList.map fun x => (x.1, a.eval x.2) := by simp
    by_cases h0 : len * ti.sz = 0
    · simp only [h0, if_true] at ha
      have h0' : ¬ (0 > 2 ^ 24) := by omega
      simp [execOp, ho, Instr.buildSlice, run_underlying (elemF_some he), run_sizeOf' hti, h0, hps, newRow, World.drewN]
      simp at ha
      rw [ha]
      simp
    · simp only [if_neg h0] at ha
      simp [execOp, ho, Instr.buildSlice, run_underlying (elemF_some he), run_sizeOf' hti, h0, hbig', hzr, hps, newRow, World.drewN, ha]
  · refine .inr ⟨w.heap.size, len, 0, upd_same _ _ _, Nat.zero_le _, Nat.le_refl _, by simp, fun _ => by simp⟩
end
end Go.Proofs.Ytlkhfdccapkcdaa
