/- Operations on abstract states, one by one (3): addresses of fields and elements, parts of strings and slices. -/
import Derived.Test.YtlkhfdccapkcdaaA5
import Derived.Laws.Slices
namespace Go.Proofs.Ytlkhfdccapkcdaa
open Go Go.RowKit
set_option linter.unusedVariables false
set_option linter.unusedSimpArgs false

section
variable {P : Program} {cx : Cx} {o : Oper} {st : St}
/-- An address that an operation moves on by some cells. -/
def LV.add : LV → Nat → LV
  | .p ob off, n => .p ob (off + n)
  | .q al cs off, n => .q al cs (off + n)
  | _, _ => .u
theorem RelL.add {w : World} {X Xa : Nat → Prop} {σ : Nat → Hd} {b off : Nat} {x : LV} (h : RelL w X Xa σ (.pointer (some ⟨b, off, none⟩)) x) (n : Nat) : RelL w X Xa σ (.pointer (some ⟨b, off + n, none⟩)) (x.add n) := by
  cases x with
  | p ob off' =>
    obtain ⟨b', c, hb, he⟩ := h
    simp at he
    obtain ⟨rfl, rfl⟩ := he
    exact ⟨b, c, hb, rfl⟩
  | q al cs off' =>
    obtain ⟨b', base, cv, hb, he, hc⟩ := h
    simp at he
    obtain ⟨rfl, rfl⟩ := he
    exact ⟨b, base, cv, hb, by simp [Nat.add_assoc], hc⟩
  | _ => trivial
theorem ptr_form {w : World} {X Xa : Nat → Prop} {σ : Nat → Hd} {v : Value} {x : LV} (h : RelL w X Xa σ v x) (hx : x.add 0 ≠ .u) : ∃ b off, v = .pointer (some ⟨b, off, none⟩) := by
  cases x with
  | p ob off' => obtain ⟨b, c, _, rfl⟩ := h; exact ⟨_, _, rfl⟩
  | q al cs off' => obtain ⟨b, base, cv, _, rfl, _⟩ := h; exact ⟨_, _, rfl⟩
  | _ => exact absurd rfl hx
def LV.isPtr : LV → Bool
  | .p _ _ => true
  | .q _ _ _ => true
  | _ => false
theorem LV.isPtr_add {x : LV} (h : x.isPtr = true) : x.add 0 ≠ .u := by
  cases x <;> simp [LV.isPtr] at h <;> simp [LV.add]
theorem OpOk.fieldAddr {s f : Nat} {x : Operand} {fs : List (Nat × Nat × Bool)} {off sz : Nat} {ag : Bool} {p : LV} (ho : o.op = .fieldAddr s x f) (hfs : flds P s = some fs) (hf : fs[f]? = some (off, sz, ag)) (hsz : sz ≠ 0)
    (hx : st.ev x = .l p) (hp : p.isPtr = true) : OpOk P cx o st (st.put o.dst (.l (p.add off))) := by
  unfold flds at hfs
  split at hfs
  · rename_i fields hd
    obtain ⟨g, ti, hg, hti, he⟩ := flds_get _ _ f _ hfs hf
    simp at he
    obtain ⟨rfl, rfl, rfl⟩ := he
    refine .calm fun σ a w hr => ?_
    have hv := hr.ev x
    rw [hx] at hv
    obtain ⟨b, off', hb⟩ := ptr_form hv (LV.isPtr_add hp)
    have hv' : RelL w (Xd cx w σ st.ob) (Xe w σ st.ob) σ (a.eval x) p := hv
    rw [hb] at hv'
    have hg' : fields[f]? = some g := by rw [← Array.getElem?_toList]; exact hg
    refine ⟨.pointer (some ⟨b, off' + g.offset, none⟩), 0, ?_, hv'.add g.offset⟩
    simp [execOp, ho, Instr.fieldAt, run_underlying hd, hg', hb, Instr.sureAddr, fieldPlace, run_sizeOf' hti, hsz, addr_add, World.drewN]
  · simp at hfs
theorem OpOk.field {s f : Nat} {x : Operand} {fs : List (Nat × Nat × Bool)} {off sz : Nat} {ag : Bool} {cs : List LV} {av : AV} (ho : o.op = .field s x f) (hfs : flds P s = some fs) (hf : fs[f]? = some (off, sz, ag))
    (hx : st.ev x = .g cs) (hle : off + sz ≤ cs.length) (hav : (if ag = true then some (.g ((cs.drop off).take sz)) else (cs[off]?).map .l) = some av) : OpOk P cx o st (st.put o.dst av) := by
  unfold flds at hfs
  split at hfs
  · rename_i fields hd
    obtain ⟨g, ti, hg, hti, he⟩ := flds_get _ _ f _ hfs hf
    simp at he
    obtain ⟨rfl, rfl, rfl⟩ := he
    refine .calm fun σ a w hr => ?_
    have hv := hr.ev x
    rw [hx] at hv
    obtain ⟨vs, hvs, hrel⟩ := hv
    have hg' : fields[f]? = some g := by rw [← Array.getElem?_toList]; exact hg
    cases ha : ti.agg
    · rw [ha] at hav
      simp only [Bool.false_eq_true, if_false] at hav
      obtain ⟨c, hc, rfl⟩ := Option.map_eq_some_iff.1 hav
      obtain ⟨u, hu, hur⟩ := hrel.at _ hc
      refine ⟨u, 0, ?_, hur⟩
      simp [execOp, ho, Instr.field, run_underlying hd, hg', hvs, asAgg, part, run_isAgg' hti, ha, hu, World.drewN]
    · rw [ha] at hav
      simp at hav
      subst hav
      refine ⟨.agg ((vs.drop g.offset).take ti.sz).toArray, 0, ?_, (vs.drop g.offset).take ti.sz, rfl, (hrel.drop _).take _⟩
      have he : vs.toArray.extract g.offset (g.offset + ti.sz) = ((vs.drop g.offset).take ti.sz).toArray := by
        rw [List.extract_toArray]
        simp [List.extract, List.drop_take]
      simp only [execOp, ho, Instr.field, Sem.run_bind, run_underlying hd, hg', hvs, asAgg, part, run_isAgg' hti, ha, run_sizeOf' hti, Result.andThen_ok, Sem.run_pure, if_true, he]
      rfl
  · simp at hfs

/-! ### Elements -/
theorem run_indexAt' {w : World} {t e : Nat} {ti : TI} (he : elemF P t = some e) (hti : tiF P e = some ti) (b off len cap : Nat) (k : IntKind) (n : Int) (h0 : 0 ≤ n) (h1 : n.toNat < len) :
    (Instr.indexAt t (.slice (some ⟨b, off, none⟩) len cap) (.int k n)).run P w = .ok (.pointer (some ⟨b, off + n.toNat * ti.sz, none⟩)) w := by
  have : 0 ≤ n ∧ n < (len : Int) := by omega
  simp only [Instr.indexAt, asIntOf, Sem.run_bind, Sem.run_pure, Result.andThen_ok, run_underlying (elemF_some he), if_pos this, run_sizeOf' hti, addr_add]
theorem OpOk.indexAddr_d {t e : Nat} {x i : Operand} {ti : TI} {al : Bool} {sz : Nat} {es : List (List T)} {k : IntKind} {n : Int} {c : List T} (ho : o.op = .indexAddr t x i) (he : elemF P t = some e) (hti : tiF P e = some ti)
    (hx : st.ev x = .l (.d al sz es)) (hi : st.ev i = .l (.s (.int k n))) (hsz : sz = ti.sz) (h0 : 0 ≤ n) (hc : es[n.toNat]? = some c) : OpOk P cx o st (st.put o.dst (.l (.q al c 0))) := by
  subst hsz
  refine .calm fun σ a w hr => ?_
  have hv := hr.ev x
  have hn := hr.ev i
  rw [hx] at hv
  rw [hi] at hn
  have hn' : a.eval i = .int k n := hn.1
  have hv' : Rd w (if al = true then Xe w σ st.ob else Xd cx w σ st.ob) (a.eval x) (.sl ti.sz es) := hv
  generalize hvx : a.eval x = v at hv'
  cases hv' with
  | sl ad m cp _ _ b off cv hm hcp hmm hs ha hz hcell hrd =>
    have hlt : n.toNat < m := by rw [← hm]; exact (List.getElem?_eq_some_iff.1 hc).1
    obtain ⟨had, hX⟩ := ha (by omega)
    refine ⟨.pointer (some ⟨b, off + n.toNat * ti.sz, none⟩), 0, ?_, b, off + n.toNat * ti.sz, cv n.toNat, hX, by simp, fun j t hj => ⟨?_, hrd _ _ _ _ hc hj⟩⟩
    · simp only [execOp, ho, hvx, hn', had, Sem.run_bind, run_indexAt' he hti b off m cp k n h0 hlt, Result.andThen_ok, Sem.run_pure]
      rfl
    · have hj' : j < ti.sz := by
        have := (List.getElem?_eq_some_iff.1 hj).1
        rwa [hs c (List.mem_of_getElem? hc)] at this
      rw [Nat.add_assoc]
      exact hcell n.toNat j hlt hj'
theorem OpOk.indexAddr_r {t e : Nat} {x i : Operand} {ti : TI} {ob sz lo hi : Nat} {k : IntKind} {n : Int} (ho : o.op = .indexAddr t x i) (he : elemF P t = some e) (hti : tiF P e = some ti)
    (hx : st.ev x = .l (.r ob sz lo hi)) (hi' : st.ev i = .l (.s (.int k n))) (hsz : sz = ti.sz) (h0 : 0 ≤ n) (hlt : n.toNat < hi - lo) : OpOk P cx o st (st.put o.dst (.l (.p ob ((lo + n.toNat) * ti.sz)))) := by
  subst hsz
  refine .calm fun σ a w hr => ?_
  have hv := hr.ev x
  have hn := hr.ev i
  rw [hx] at hv
  rw [hi'] at hn
  have hn' : a.eval i = .int k n := hn.1
  rcases hv with ⟨_, rfl, rfl, _⟩ | ⟨b, kk, off, hb, h1, h2, hv, hoff⟩
  · omega
  · have ho2 := hoff (.inl (by omega))
    refine ⟨.pointer (some ⟨b, off + n.toNat * ti.sz, none⟩), 0, ?_, b, kk, hb, by rw [ho2, Nat.add_mul]⟩
    simp only [execOp, ho, hv, hn', Sem.run_bind, run_indexAt' he hti b off _ _ k n h0 hlt, Result.andThen_ok, Sem.run_pure]
    rfl

/-! ### A byte of a string -/
def strF (P : Program) (t : Nat) : Bool :=
  match P.underlying t with
  | some .string => true
  | _ => false
theorem strF_some {t : Nat} (h : strF P t = true) : P.underlying t = some .string := by
  unfold strF at h
  split at h
  · assumption
  · simp at h
def bAt (s : ByteArray) (i : Nat) : Int := if h : i < s.size then ((s[i]'h).toNat : Int) else 0
theorem OpOk.index_s {t : Nat} {x i : Operand} {s : ByteArray} {k : IntKind} {n : Int} (ho : o.op = .index t x i) (hs : strF P t = true)
    (hx : st.ev x = .l (.s (.string s))) (hi : st.ev i = .l (.s (.int k n))) (h0 : 0 ≤ n) (hlt : n.toNat < s.size) : OpOk P cx o st (st.put o.dst (.l (.s (.int .u8 (bAt s n.toNat))))) := by
  refine .calm fun σ a w hr => ?_
  have hv := hr.ev x
  have hn := hr.ev i
  rw [hx] at hv
  rw [hi] at hn
  have hv' : a.eval x = .string s := hv.1
  have hn' : a.eval i = .int k n := hn.1
  refine ⟨.int .u8 (bAt s n.toNat), 0, ?_, rfl, rfl⟩
  have hb : s[n.toNat]? = some (s[n.toNat]'hlt) := by simp [hlt]
  simp only [execOp, ho, hv', hn', Instr.index, asIntOf, Sem.run_bind, Sem.run_pure, Result.andThen_ok, run_underlying (strF_some hs), if_pos h0, hb, bAt, dif_pos hlt]
  rfl

/-! ### Parts -/
/-- A bound of a part: it is not said, or it is a number. -/
def Bnd (st : St) (x : Option Operand) (d l : Nat) : Prop :=
  match x with
  | none => l = d
  | some y => ∃ k, st.ev y = .l (.s (.int k (l : Int)))
theorem Bnd.val {σ : Nat → Hd} {a : Act} {w : World} (hr : RelS cx σ st a w) {x : Option Operand} {d l : Nat} (h : Bnd st x d l) : (x.map a.eval = none ∧ l = d) ∨ ∃ k, x.map a.eval = some (.int k (l : Int)) := by
  cases x with
  | none => exact .inl ⟨rfl, h⟩
  | some y =>
    obtain ⟨k, hk⟩ := h
    have := hr.ev y
    rw [hk] at this
    exact .inr ⟨k, by simp; exact this.1⟩
theorem run_sliceBound' {w : World} (k : IntKind) (l y : Nat) (c : BoundsCode) (h : l ≤ y) : (Instr.sliceBound (.int k (l : Int)) y c).run P w = .ok l w := by
  have : (0 : Int) ≤ l ∧ (l : Int) ≤ y := by omega
  simp only [Instr.sliceBound, asIntOf, Sem.run_bind, Sem.run_pure, Result.andThen_ok, if_pos this, Int.toNat_natCast]
theorem run_bounds {w : World} (isSlice : Bool) (len cap l h : Nat) (lo hi : Option Value) (hl : (lo = none ∧ l = 0) ∨ ∃ k, lo = some (.int k (l : Int))) (hh : (hi = none ∧ h = len) ∨ ∃ k, hi = some (.int k (h : Int)))
    (h1 : l ≤ h) (h2 : h ≤ cap) : (Instr.sliceBounds isSlice len cap lo hi none).run P w = .ok (l, h, cap) w := by
  rcases hl with ⟨rfl, rfl⟩ | ⟨k, rfl⟩ <;> rcases hh with ⟨rfl, rfl⟩ | ⟨k', rfl⟩ <;>
    simp [Instr.sliceBounds, run_sliceBound' _ _ _ _ h1, run_sliceBound' _ _ _ _ h2]
theorem run_bounds3 {w : World} (isSlice : Bool) (len cap l h m : Nat) (lo : Option Value) (k' k'' : IntKind) (hl : (lo = none ∧ l = 0) ∨ ∃ k, lo = some (.int k (l : Int)))
    (h1 : l ≤ h) (h2 : h ≤ m) (h3 : m ≤ cap) : (Instr.sliceBounds isSlice len cap lo (some (.int k' (h : Int))) (some (.int k'' (m : Int)))).run P w = .ok (l, h, m) w := by
  rcases hl with ⟨rfl, rfl⟩ | ⟨k, rfl⟩ <;>
    simp [Instr.sliceBounds, run_sliceBound' _ _ _ _ h1, run_sliceBound' _ _ _ _ h2, run_sliceBound' _ _ _ _ h3]
theorem OpOk.slice_s {t : Nat} {x : Operand} {lo hi : Option Operand} {s : ByteArray} {l h : Nat} (ho : o.op = .slice t x lo hi none) (hs : strF P t = true) (hx : st.ev x = .l (.s (.string s)))
    (hl : Bnd st lo 0 l) (hh : Bnd st hi s.size h) (h1 : l ≤ h) (h2 : h ≤ s.size) : OpOk P cx o st (st.put o.dst (.l (.s (.string (s.extract l h))))) := by
  refine .calm fun σ a w hr => ?_
  have hv := hr.ev x
  rw [hx] at hv
  have hv' : a.eval x = .string s := hv.1
  have hb := run_bounds (P := P) (w := w) false s.size s.size l h (lo.map a.eval) (hi.map a.eval) (hl.val hr) (hh.val hr) h1 h2
  refine ⟨.string (s.extract l h), 0, ?_, rfl, rfl⟩
  simp [execOp, ho, Instr.sliceAt, run_underlying (strF_some hs), Instr.slice, hv', hb, World.drewN]
theorem OpOk.slice_d {t e : Nat} {x : Operand} {lo hi : Option Operand} {ti : TI} {al : Bool} {sz : Nat} {es : List (List T)} {l h : Nat} (ho : o.op = .slice t x lo hi none) (he : elemF P t = some e) (hti : tiF P e = some ti)
    (hx : st.ev x = .l (.d al sz es)) (hsz : sz = ti.sz) (hl : Bnd st lo 0 l) (hh : Bnd st hi es.length h) (h1 : l ≤ h) (h2 : h ≤ es.length) :
    OpOk P cx o st (st.put o.dst (.l (.d al sz ((es.drop l).take (h - l))))) := by
  subst hsz
  refine .calm fun σ a w hr => ?_
  have hv := hr.ev x
  rw [hx] at hv
  have hv' : Rd w (if al = true then Xe w σ st.ob else Xd cx w σ st.ob) (a.eval x) (.sl ti.sz es) := hv
  generalize hvx : a.eval x = v at hv'
  cases hv' with
  | sl ad m cp _ _ b off cv hm hcp hmm hs ha hz hcell hrd =>
    have hb := run_bounds (P := P) (w := w) true m cp l h (lo.map a.eval) (hi.map a.eval) (hl.val hr) (by rw [← hm]; exact hh.val hr) h1 (by omega)
    refine ⟨.slice (if cp = l then ad else ad.map (·.add (l * ti.sz))) (h - l) (cp - l), 0, ?_, ?_⟩
    · simp [execOp, ho, Instr.sliceAt, run_underlying (elemF_some he), Instr.slice, hvx, hb, run_sizeOf' hti, World.drewN]
    · refine .sl _ _ _ _ _ b (off + l * ti.sz) (fun i j => cv (l + i) j) (by simp; omega) (by omega) (by omega) (fun e he => hs e (List.mem_of_mem_drop (List.mem_of_mem_take he))) ?_ ?_ ?_ ?_
      · intro hpos
        obtain ⟨had, hX⟩ := ha (by omega)
        rw [if_neg (by omega), had]
        exact ⟨by simp [addr_add], hX⟩
      · intro hn
        split at hn
        · omega
        · have := hz (by simpa using hn)
          omega
      · intro i j hi hj
        have := hcell (l + i) j (by omega) hj
        rw [show off + l * ti.sz + (i * ti.sz + j) = off + ((l + i) * ti.sz + j) by rw [Nat.add_mul]; omega]
        exact this
      · intro i j e t hi hj
        refine hrd (l + i) j e t ?_ hj
        have hlt : i < h - l := by have := (List.getElem?_eq_some_iff.1 hi).1; simp at this; omega
        rwa [List.getElem?_take_of_lt hlt, List.getElem?_drop] at hi
end
end Go.Proofs.Ytlkhfdccapkcdaa
