/- Operations on abstract states, one by one (1): moves, memory, structs, slices. -/
import Derived.Test.YtlkhfdccapkcdaaA3
namespace Go.Proofs.Ytlkhfdccapkcdaa
open Go Go.RowKit
set_option linter.unusedVariables false
set_option linter.unusedSimpArgs false

def wh {α : Type} : Option α → (α → Prop) → Prop
  | some a, k => k a
  | none, _ => False
theorem wh_some {α : Type} (a : α) (k : α → Prop) : wh (some a) k = k a := rfl
theorem wh_none {α : Type} (k : α → Prop) : wh (none : Option α) k = False := rfl
theorem wh_elim {α : Type} {o : Option α} {k : α → Prop} (h : wh o k) : ∃ a, o = some a ∧ k a := by
  cases o with
  | none => exact h.elim
  | some a => exact ⟨a, rfl, h⟩

def St.add (st : St) (x : Ob) : St := { st with ob := st.ob ++ [some x] }
def St.setO (st : St) (o : Nat) (x : Ob) : St := { st with ob := st.ob.set o (some x) }
def hdr (o sz n : Nat) : AV := .l (.r o sz 0 n)
def ptr (o : Nat) : AV := .l (.p o 0)
/-- Operation o, run in whatever memory fits st, yields a value and leaves memory that fits st'. -/
def OpOk (P : Program) (cx : Cx) (o : Oper) (st st' : St) : Prop :=
  ∀ σ a w, RelS cx σ st a w → ∃ v w' σ', (execOp a.eval o).run P w = .ok (.value v) w' ∧ RelS cx σ' st' (a.put o.dst v) w'
def OpSkip (P : Program) (cx : Cx) (o : Oper) (st st' : St) : Prop :=
  ∀ σ a w, RelS cx σ st a w → ∃ w' σ', (execOp a.eval o).run P w = .ok .skip w' ∧ RelS cx σ' st' (a.put o.dst undef) w'

theorem RelV.mono_u {w : World} {X Xa : Nat → Prop} {σ : Nat → Hd} (v : Value) : RelV w X Xa σ v (.l .u) := trivial

def ldX (ti : TI) (cs : List LV) (off : Nat) : Option AV :=
  if ti.agg = true then (if off + ti.sz ≤ cs.length then some (.g ((cs.drop off).take ti.sz)) else none) else (cs[off]?).map .l
def St.obj (st : St) (o : Nat) : Option Ob := (st.ob[o]?).bind id
theorem obj_some {st : St} {o : Nat} {x : Ob} (h : st.obj o = some x) : st.ob[o]? = some (some x) := by
  unfold St.obj at h
  cases ho : st.ob[o]? with
  | none => rw [ho] at h; simp at h
  | some y => rw [ho] at h; simp at h; subst h; rfl
/-- The cells to which a pointer leads. -/
def St.at (st : St) : AV → Option (List LV × Nat)
  | .l (.q al cs off) => some (cs.map (T.lv al), off)
  | .l (.p o off) => (st.obj o).map fun x => (x.cs, off)
  | _ => none

section
variable {P : Program} {cx : Cx} {o : Oper} {st : St} {σ : Nat → Hd} {a : Act} {w : World}
theorem RelL.lv {X Xa : Nat → Prop} {al : Bool} {v : Value} {t : T} (h : Rd w (if al = true then Xa else X) v t) : RelL w X Xa σ v (t.lv al) := by
  cases t with
  | v x => cases h with | v _ h1 => exact ⟨rfl, h1⟩
  | sl sz es => exact h
/-- What a pointer leads to, cell by cell. -/
theorem RelS.at (h : RelS cx σ st a w) {v : Value} {x : AV} (hv : RelV w (Xd cx w σ st.ob) (Xe w σ st.ob) σ v x) {cs : List LV} {off : Nat} (hx : st.at x = some (cs, off)) :
    ∃ b base, v = .pointer (some ⟨b, base + off, none⟩) ∧ ∀ j c, cs[j]? = some c → ∃ u, w.cell? ⟨b, base + j, none⟩ = some u ∧ RelL w (Xd cx w σ st.ob) (Xe w σ st.ob) σ u c := by
  unfold St.at at hx
  split at hx
  · rename_i al ts off'
    simp at hx
    obtain ⟨rfl, rfl⟩ := hx
    obtain ⟨b, base, cv, hb, rfl, hc⟩ := hv
    refine ⟨b, base, rfl, fun j c hj => ?_⟩
    rw [List.getElem?_map] at hj
    obtain ⟨t, ht, rfl⟩ := Option.map_eq_some_iff.1 hj
    exact ⟨cv j, (hc j t ht).1, RelL.lv (hc j t ht).2⟩
  · rename_i o' off'
    obtain ⟨y, hy, hxy⟩ := Option.map_eq_some_iff.1 hx
    simp at hxy
    obtain ⟨rfl, rfl⟩ := hxy
    obtain ⟨b, k, hb, rfl⟩ := hv
    have hO := h.h.obs o' y (obj_some hy)
    rw [hb] at hO
    obtain ⟨vs, rest, h1, h2, _⟩ := hO
    refine ⟨b, 0, by simp, fun j c hj => ?_⟩
    obtain ⟨u, hu, hr⟩ := h2.at j hj
    refine ⟨u, ?_, hr⟩
    rw [cell_of_row w b (0 + j) _ _ _ h1]
    have hlt : j < vs.length := (List.getElem?_eq_some_iff.1 hu).1
    simp [List.getElem?_append_left hlt, hu]
  · simp at hx

theorem OpOk.calm {av : AV} (h : ∀ σ a w, RelS cx σ st a w → ∃ v n, (execOp a.eval o).run P w = .ok (.value v) (w.drewN n) ∧ RelV w (Xd cx w σ st.ob) (Xe w σ st.ob) σ v av) :
    OpOk P cx o st (st.put o.dst av) := by
  intro σ a w hr
  obtain ⟨v, n, hrun, hv⟩ := h σ a w hr
  exact ⟨v, w.drewN n, σ, hrun, (hr.put o.dst hv).drewN n⟩
theorem OpOk.move {x : Operand} (ho : o.op = .move x ∨ o.op = .assign x) : OpOk P cx o st (st.put o.dst (st.ev x)) :=
  .calm fun σ a w hr => ⟨a.eval x, 0, by rcases ho with ho | ho <;> simp [execOp, ho, World.drewN], hr.ev x⟩
theorem OpOk.pick {c x y : Operand} {b : Bool} (ho : o.op = .pick c x y) (hc : st.ev c = .l (.s (.bool b))) : OpOk P cx o st (st.put o.dst (bif b then st.ev x else st.ev y)) :=
  .calm fun σ a w hr => by
    have h := hr.ev c
    rw [hc] at h
    have h' : a.eval c = .bool b := h.1
    refine ⟨if b then a.eval x else a.eval y, 0, ?_, ?_⟩
    · simp [execOp, ho, h', asBool, World.drewN]
    · cases b
      · exact hr.ev y
      · exact hr.ev x
theorem RelS.load {t : Nat} {x : AV} {v0 : Value} {ti : TI} {cs : List LV} {off : Nat} {v : AV} (hr : RelS cx σ st a w) (hv0 : RelV w (Xd cx w σ st.ob) (Xe w σ st.ob) σ v0 x) (hti : tiF P t = some ti) (hx : st.at x = some (cs, off)) (hv : ldX ti cs off = some v) :
    ∃ ad u, v0 = .pointer (some ad) ∧ (loadVar t ad).run P w = .ok u w ∧ RelV w (Xd cx w σ st.ob) (Xe w σ st.ob) σ u v := by
    obtain ⟨b, base, he, hc⟩ := hr.at hv0 hx
    unfold ldX at hv
    cases ha : ti.agg
    · rw [ha] at hv
      simp only [Bool.false_eq_true, if_false] at hv
      obtain ⟨c, hcc, rfl⟩ := Option.map_eq_some_iff.1 hv
      obtain ⟨u, hu, hrel⟩ := hc off c hcc
      exact ⟨_, u, he, run_loadVar_leaf hti ha _ hu, hrel⟩
    · rw [ha] at hv
      simp only [if_true] at hv
      split at hv
      · rename_i hle
        simp at hv
        subst hv
        have hall : ∀ j, j < ti.sz → ∃ u, w.cell? ⟨b, base + (off + j), none⟩ = some u ∧ (∀ c, cs[off + j]? = some c → RelL w (Xd cx w σ st.ob) (Xe w σ st.ob) σ u c) := by
          intro j hj
          have hlt : off + j < cs.length := by omega
          obtain ⟨u, h1, h2⟩ := hc (off + j) _ (List.getElem?_eq_getElem hlt)
          exact ⟨u, h1, fun c hcc => by rw [List.getElem?_eq_getElem hlt] at hcc; simp at hcc; subst hcc; exact h2⟩
        have hch : ∃ f : Nat → Value, ∀ j, j < ti.sz → w.cell? ⟨b, base + (off + j), none⟩ = some (f j) ∧ (∀ c, cs[off + j]? = some c → RelL w (Xd cx w σ st.ob) (Xe w σ st.ob) σ (f j) c) :=
          ⟨fun j => if h : j < ti.sz then (hall j h).choose else undef, fun j hj => by simp only [hj, dif_pos]; exact (hall j hj).choose_spec⟩
        obtain ⟨f, hf⟩ := hch
        have hlen : ((List.range ti.sz).map f).length = ti.sz := by simp
        refine ⟨_, .agg ((List.range ti.sz).map f).toArray, he, ?_, (List.range ti.sz).map f, rfl, ?_⟩
        · exact run_loadVar_agg (w := w) hti ha ⟨b, base + off, none⟩ ((List.range ti.sz).map f) hlen (fun j v hj => by
            rw [addr_add]
            have hlt : j < ti.sz := by have := (List.getElem?_eq_some_iff.1 hj).1; simpa using this
            rw [List.getElem?_map, List.getElem?_range hlt] at hj
            simp at hj
            subst hj
            rw [Nat.add_assoc]; exact (hf j hlt).1)
        · refine All2.of_get (by simp; omega) fun i v c hi hcc => ?_
          have hlt : i < ti.sz := by have := (List.getElem?_eq_some_iff.1 hi).1; simpa using this
          rw [List.getElem?_map, List.getElem?_range hlt] at hi
          simp at hi
          subst hi
          refine (hf i hlt).2 c ?_
          rw [List.getElem?_take_of_lt hlt, List.getElem?_drop] at hcc
          exact hcc
      · simp at hv
theorem OpOk.load {t : Nat} {x : Operand} {ti : TI} {cs : List LV} {off : Nat} {v : AV} (ho : o.op = .load t x) (hti : tiF P t = some ti) (hx : st.at (st.ev x) = some (cs, off)) (hv : ldX ti cs off = some v) :
    OpOk P cx o st (st.put o.dst v) :=
  .calm fun σ a w hr => by
    obtain ⟨ad, u, he, hl, hrel⟩ := hr.load (hr.ev x) hti hx hv
    exact ⟨u, 0, by simp [execOp, ho, Instr.loadAt, he, Instr.sureAddr, hl, World.drewN], hrel⟩
end

/-! ### Stores -/
section
variable {P : Program} {cx : Cx} {o : Oper} {st : St}
theorem OpSkip.store {t : Nat} {x y : Operand} {ti : TI} {ob off : Nat} {z : Ob} (ho : o.op = .store t x y) (hti : tiF P t = some ti) (hx : st.ev x = .l (.p ob off)) (hz : st.obj ob = some z)
    (hok : (st.ev y).ok = true) (hsz : (st.ev y).cells.length = ti.sz) (hfit : off + ti.sz ≤ z.cs.length) :
    OpSkip P cx o st ((st.setO ob { z with cs := setAt z.cs off (st.ev y).cells }).put o.dst (.l .u)) := by
  intro σ a w hr
  have hp := hr.ev x
  rw [hx] at hp
  obtain ⟨b, k, hb, he⟩ := hp
  have hO := hr.h.obs ob z (obj_some hz)
  rw [hb] at hO
  obtain ⟨vs, rest, h1, h2, h4, h5⟩ := hO
  obtain ⟨hc, hone⟩ := (hr.ev y).cells hok
  have hl : (a.eval y).cells.toList.length = ti.sz := by rw [hc.length, hsz]
  have hn : (a.eval y).cells.size = ti.sz := by simpa using hl
  have hvl : vs.length = z.cs.length := h2.length
  have hrun : (storeVar t ⟨b, off, none⟩ (a.eval y)).run P w = .ok () (w.setRow b (setAt vs off (a.eval y).cells.toList ++ rest).toArray) := by
    have hst := run_storeCells_at P b off z.ty (a.eval y).cells.toList 0 (vs ++ rest).toArray w h1 (by simp only [List.size_toArray, List.length_append]; omega) hone
    have e : (vs ++ rest).toArray.toList.take (off + 0) ++ (a.eval y).cells.toList ++ (vs ++ rest).toArray.toList.drop (off + 0 + (a.eval y).cells.toList.length) = setAt vs off (a.eval y).cells.toList ++ rest := by
      rw [← setAt_append _ _ _ _ (by omega), setAt_eq _ _ _ (by simp only [List.length_append]; omega)]
      simp
    rw [e] at hst
    simp [storeVar, run_sizeOf' hti, hn, hst]
  refine ⟨w.setRow b (setAt vs off (a.eval y).cells.toList ++ rest).toArray, σ, ?_, ?_⟩
  · simp only [execOp, ho, Instr.storeAt, he, Sem.run_bind, Result.andThen_ok, Instr.sureAddr, Sem.run_pure, hrun]
  · refine (hr.write (x' := { z with cs := setAt z.cs off (st.ev y).cells }) (obj_some hz) hb (setAt vs off (a.eval y).cells.toList) rest (All2.setAt off h2 hc) rfl rfl h4 ?_).put o.dst trivial
    rw [setAt_length]; exact h5

/-! ### New objects -/
theorem OpOk.new {av : AV} {x : Ob} (hav : ∀ w X Xa σ v b k, σ st.ob.length = some (some (b, k)) → v = Value.pointer (some ⟨b, 0, none⟩) → k = 1 → RelV w X Xa σ v av) (hrow : x.row = false)
    (h : ∀ σ a w, RelS cx σ st a w → ∃ vs : List Value, (execOp a.eval o).run P w = .ok (.value (.pointer (some ⟨w.heap.size, 0, none⟩))) (w.alloc (.cells vs.toArray x.ty)) ∧
      All2 (RelL w (Xd cx w σ st.ob) (Xe w σ st.ob) σ) vs x.cs) :
    OpOk P cx o st ((st.add x).put o.dst av) := by
  intro σ a w hr
  obtain ⟨vs, hrun, hv⟩ := h σ a w hr
  have hn := hr.new 0 1 x vs [] hv (fun _ => rfl) (fun e => by rw [hrow] at e; simp at e)
  rw [List.append_nil] at hn
  exact ⟨_, _, _, hrun, hn.put o.dst (hav _ _ _ _ _ w.heap.size 1 (upd_same _ _ _) rfl rfl)⟩
theorem zero_cells {w : World} {X Xa : Nat → Prop} {σ : Nat → Hd} : ∀ vs : List Value, vs.all (·.oneCell') = true → All2 (RelL w X Xa σ) vs (vs.map .s)
  | [], _ => trivial
  | v :: vs, h => by simp at h; exact ⟨⟨rfl, h.1⟩, zero_cells vs (by simpa using h.2)⟩
theorem OpOk.alloc {t : Nat} {ti : TI} (ho : o.op = .alloc t) (hti : tiF P t = some ti) (hz : ti.zero.all (·.oneCell') = true) :
    OpOk P cx o st ((st.add ⟨t, ti.sz, false, none, ti.zero.map .s⟩).put o.dst (ptr st.ob.length)) := by
  refine OpOk.new (av := ptr st.ob.length) (fun w X Xa σ v b k hk hv _ => (show RelL w X Xa σ v (.p st.ob.length 0) from ⟨b, k, hk, hv⟩)) rfl fun σ a w hr => ⟨ti.zero, ?_, zero_cells _ hz⟩
  obtain ⟨z, hzr, hzl⟩ := run_zero' (w := w) hti
  have hz2 : z.cells = ti.zero.toArray := by rw [← hzl]
  simp [execOp, ho, Instr.alloc, hzr, newVar, newRow, hz2]
theorem OpOk.box {t : Nat} {x : Operand} (ho : o.op = .box t x) (hok : (st.ev x).ok = true) :
    OpOk P cx o st ((st.add ⟨t, (st.ev x).cells.length, false, none, (st.ev x).cells⟩).put o.dst (ptr st.ob.length)) := by
  refine OpOk.new (av := ptr st.ob.length) (fun w X Xa σ v b k hk hv _ => (show RelL w X Xa σ v (.p st.ob.length 0) from ⟨b, k, hk, hv⟩)) rfl fun σ a w hr => ?_
  obtain ⟨hc, h1⟩ := (hr.ev x).cells hok
  exact ⟨(a.eval x).cells.toList, by simp [execOp, ho, Instr.box, newVar, newRow], hc⟩
end
end Go.Proofs.Ytlkhfdccapkcdaa
