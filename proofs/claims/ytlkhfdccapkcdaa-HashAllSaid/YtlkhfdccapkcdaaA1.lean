/- Abstract states and how they stand to the machine's memory: definitions, and that what is read stays readable. No program in sight. -/
import Derived.Below
import Derived.Deep.Draws
import Derived.CallsIn
import Derived.OrdersIn
import Derived.RangeFuncLeaves
import Derived.RangeFuncRecord
import Derived.RangeFuncIn
import Derived.Laws.AppendOwn
import Derived.Laws.OwnMore
import Derived.KernelRfl
namespace Go.Proofs.Ytlkhfdccapkcdaa
open Go Go.RowKit
set_option linter.unusedVariables false
set_option linter.unusedSimpArgs false

/-- Data that nobody changes: a value without memory, or a slice: its elements, each a row of cells. -/
inductive T where
  | v (x : Value)
  | sl (sz : Nat) (es : List (List T))

/-- A value reads as data; it leans on blocks of X alone. -/
inductive Rd (w : World) (X : Nat → Prop) : Value → T → Prop
  | v (x : Value) (h1 : x.oneCell' = true) : Rd w X x (.v x)
  | sl (a : Option Addr) (n c sz : Nat) (es : List (List T)) (b off : Nat) (cv : Nat → Nat → Value)
      (hn : es.length = n) (hc : n ≤ c) (hm : n ≤ 140737488355328) (hs : ∀ e, e ∈ es → e.length = sz)
      (ha : 0 < n → a = some ⟨b, off, none⟩ ∧ X b) (hz : a = none → c = 0)
      (hcell : ∀ i j, i < n → j < sz → w.cell? ⟨b, off + (i * sz + j), none⟩ = some (cv i j))
      (hrd : ∀ i j e t, es[i]? = some e → e[j]? = some t → Rd w X (cv i j) t) :
      Rd w X (.slice a n c) (.sl sz es)

theorem cell_same {w w' : World} {b off : Nat} (h : w'.heap[b]? = w.heap[b]?) : w'.cell? ⟨b, off, none⟩ = w.cell? ⟨b, off, none⟩ :=
  World.cell?_of_block (a := ⟨b, off, none⟩) h

theorem Rd.mono {w w' : World} {X X' : Nat → Prop} (h : ∀ b, X b → X' b ∧ w'.heap[b]? = w.heap[b]?) {v : Value} {t : T} (hr : Rd w X v t) : Rd w' X' v t := by
  induction hr with
  | v x h1 => exact .v x h1
  | sl a n c sz es b off cv hn hc hm hs ha hz hcell hrd ih =>
    refine .sl a n c sz es b off cv hn hc hm hs (fun h0 => ⟨(ha h0).1, (h b (ha h0).2).1⟩) hz (fun i j hi hj => ?_) ih
    rw [cell_same (h b (ha (by omega)).2).2]
    exact hcell i j hi hj

/-- A leaf of an abstract value: unknown, a value itself, a slice of data (`al`: of memory that others may own), a pointer to a cell of one of the call's own objects, a pointer into data, (a part of) an own row's header, a function with its captured variables. -/
inductive LV where
  | u
  | s (x : Value)
  | d (al : Bool) (sz : Nat) (es : List (List T))
  | p (o off : Nat)
  | q (al : Bool) (cs : List T) (off : Nat)
  | r (o sz lo hi : Nat)
  | f (fn : Nat) (cs : List Nat)

inductive AV where
  | l (x : LV)
  | g (cs : List LV)
  | t (xs : List (Bool × List LV))

def T.lv (al : Bool) : T → LV
  | .v x => .s x
  | .sl sz es => .d al sz es

/-- Where an object lies: not yet laid; nowhere (a nil row); a block, with how many elements it has room for. -/
abbrev Hd := Option (Option (Nat × Nat))
theorem Rd.one {w : World} {X : Nat → Prop} {v : Value} {t : T} (h : Rd w X v t) : v.oneCell' = true := by
  cases h with
  | v _ h1 => exact h1
  | sl => rfl

def All2 {α β : Type} (R : α → β → Prop) : List α → List β → Prop
  | [], [] => True
  | a :: as, b :: bs => R a b ∧ All2 R as bs
  | _, _ => False

section All2
variable {α β : Type} {R R' : α → β → Prop}
theorem All2.mono : ∀ {as : List α} {bs : List β}, (∀ a b, b ∈ bs → R a b → R' a b) → All2 R as bs → All2 R' as bs
  | [], [], _, _ => trivial
  | a :: as, b :: bs, h, hr => ⟨h a b (by simp) hr.1, All2.mono (fun a b hb => h a b (by simp [hb])) hr.2⟩
  | [], _ :: _, _, hr => hr.elim
  | _ :: _, [], _, hr => hr.elim
theorem All2.map {γ : Type} {S : α → γ → Prop} (f : β → γ) : ∀ {as : List α} {bs : List β}, (∀ a b, b ∈ bs → R a b → S a (f b)) → All2 R as bs → All2 S as (bs.map f)
  | [], [], _, _ => trivial
  | a :: as, b :: bs, h, hr => ⟨h a b (by simp) hr.1, All2.map f (fun a b hb => h a b (by simp [hb])) hr.2⟩
  | [], _ :: _, _, hr => hr.elim
  | _ :: _, [], _, hr => hr.elim
theorem All2.length : ∀ {as : List α} {bs : List β}, All2 R as bs → as.length = bs.length
  | [], [], _ => rfl
  | a :: as, b :: bs, hr => by simp [All2.length hr.2]
  | [], _ :: _, hr => hr.elim
  | _ :: _, [], hr => hr.elim
theorem All2.get : ∀ {as : List α} {bs : List β} (i : Nat) {a : α} {b : β}, All2 R as bs → as[i]? = some a → bs[i]? = some b → R a b
  | a :: as, b :: bs, 0, _, _, hr, ha, hb => by simp at ha hb; subst ha; subst hb; exact hr.1
  | a :: as, b :: bs, i + 1, _, _, hr, ha, hb => All2.get i hr.2 (by simpa using ha) (by simpa using hb)
  | [], [], _, _, _, _, ha, _ => by simp at ha
  | [], _ :: _, _, _, _, hr, _, _ => hr.elim
  | _ :: _, [], _, _, _, hr, _, _ => hr.elim
theorem All2.at : ∀ {as : List α} {bs : List β} (i : Nat) {b : β}, All2 R as bs → bs[i]? = some b → ∃ a, as[i]? = some a ∧ R a b := by
  intro as bs i b hr hb
  have hi : i < bs.length := (List.getElem?_eq_some_iff.1 hb).1
  have hi' : i < as.length := by rw [hr.length]; exact hi
  exact ⟨as[i], List.getElem?_eq_getElem hi', hr.get i (List.getElem?_eq_getElem hi') hb⟩
theorem All2.of_get : ∀ {as : List α} {bs : List β}, as.length = bs.length → (∀ (i : Nat) (a : α) (b : β), as[i]? = some a → bs[i]? = some b → R a b) → All2 R as bs
  | [], [], _, _ => trivial
  | a :: as, b :: bs, hl, h => ⟨h 0 a b rfl rfl, All2.of_get (by simpa using hl) fun i a b ha hb => h (i + 1) a b (by simpa using ha) (by simpa using hb)⟩
  | [], _ :: _, hl, _ => by simp at hl
  | _ :: _, [], hl, _ => by simp at hl
theorem All2.append : ∀ {as as' : List α} {bs bs' : List β}, All2 R as bs → All2 R as' bs' → All2 R (as ++ as') (bs ++ bs')
  | [], _, [], _, _, h' => h'
  | a :: as, _, b :: bs, _, h, h' => ⟨h.1, All2.append h.2 h'⟩
  | [], _, _ :: _, _, h, _ => h.elim
  | _ :: _, _, [], _, h, _ => h.elim
theorem All2.set : ∀ {as : List α} {bs : List β} (i : Nat) {a : α} {b : β}, All2 R as bs → R a b → All2 R (as.set i a) (bs.set i b)
  | [], [], _, _, _, _, _ => trivial
  | a :: as, b :: bs, 0, _, _, h, h' => ⟨h', h.2⟩
  | a :: as, b :: bs, i + 1, _, _, h, h' => ⟨h.1, All2.set i h.2 h'⟩
  | [], _ :: _, _, _, _, h, _ => h.elim
  | _ :: _, [], _, _, _, h, _ => h.elim
theorem All2.take : ∀ {as : List α} {bs : List β} (n : Nat), All2 R as bs → All2 R (as.take n) (bs.take n)
  | [], [], n, _ => by simp [All2]
  | a :: as, b :: bs, 0, _ => trivial
  | a :: as, b :: bs, n + 1, h => ⟨h.1, All2.take n h.2⟩
  | [], _ :: _, _, h => h.elim
  | _ :: _, [], _, h => h.elim
theorem All2.drop : ∀ {as : List α} {bs : List β} (n : Nat), All2 R as bs → All2 R (as.drop n) (bs.drop n)
  | [], [], n, _ => by simp [All2]
  | a :: as, b :: bs, 0, h => h
  | a :: as, b :: bs, n + 1, h => All2.drop n h.2
  | [], _ :: _, _, h => h.elim
  | _ :: _, [], _, h => h.elim
end All2

section rel
variable (w : World) (X Xa : Nat → Prop) (σ : Nat → Hd)
def RelL (v : Value) : LV → Prop
  | .u => True
  | .s x => v = x ∧ x.oneCell' = true
  | .d al sz es => Rd w (if al = true then Xa else X) v (.sl sz es)
  | .p o off => ∃ b c, σ o = some (some (b, c)) ∧ v = .pointer (some ⟨b, off, none⟩)
  | .q al cs off => ∃ (b base : Nat) (cv : Nat → Value), (if al = true then Xa else X) b ∧ v = .pointer (some ⟨b, base + off, none⟩) ∧
      ∀ j t, cs[j]? = some t → w.cell? ⟨b, base + j, none⟩ = some (cv j) ∧ Rd w (if al = true then Xa else X) (cv j) t
  | .r o sz lo hi => (σ o = some none ∧ lo = 0 ∧ hi = 0 ∧ v = .slice none 0 0) ∨
      ∃ b k off, σ o = some (some (b, k)) ∧ lo ≤ hi ∧ hi ≤ k ∧ v = .slice (some ⟨b, off, none⟩) (hi - lo) (k - lo) ∧ (lo < k ∨ lo = 0 → off = lo * sz)
  | .f fn cs => ∃ vs : List Value, v = .func (.func fn) #[] vs.toArray ∧ All2 (fun v o => ∃ b c, σ o = some (some (b, c)) ∧ v = .pointer (some ⟨b, 0, none⟩)) vs cs

def RelC (v : Value) : Bool × List LV → Prop
  | (true, cs) => ∃ vs : List Value, v = .agg vs.toArray ∧ All2 (RelL w X Xa σ) vs cs
  | (false, cs) => ∃ x, cs = [x] ∧ RelL w X Xa σ v x

def RelV (v : Value) : AV → Prop
  | .l x => RelL w X Xa σ v x
  | .g cs => ∃ vs : List Value, v = .agg vs.toArray ∧ All2 (RelL w X Xa σ) vs cs
  | .t xs => ∃ vs : List Value, v = .tuple vs.toArray ∧ All2 (RelC w X Xa σ) vs xs
end rel

/-! ### Renaming of objects -/
abbrev Ren := Nat → Option Nat
def LV.ren (ρ : Ren) : LV → LV
  | .p o off => match ρ o with | some o' => .p o' off | none => .u
  | .r o sz lo hi => match ρ o with | some o' => .r o' sz lo hi | none => .u
  | .f fn cs => match cs.mapM ρ with | some cs' => .f fn cs' | none => .u
  | x => x
def CV.ren (ρ : Ren) (c : Bool × List LV) : Bool × List LV := (c.1, c.2.map (LV.ren ρ))
def AV.ren (ρ : Ren) : AV → AV
  | .l x => .l (x.ren ρ)
  | .g cs => .g (cs.map (LV.ren ρ))
  | .t xs => .t (xs.map (CV.ren ρ))

section mono
variable {w w' : World} {X X' Xa Xa' : Nat → Prop} {σ σ' : Nat → Hd}
theorem mapM_all2 {ρ : Ren} {R R' : Value → Nat → Prop} (h : ∀ v o o', ρ o = some o' → R v o → R' v o') : ∀ {vs : List Value} {cs cs' : List Nat}, cs.mapM ρ = some cs' → All2 R vs cs → All2 R' vs cs'
  | [], [], cs', hm, _ => by simp at hm; subst hm; trivial
  | v :: vs, c :: cs, cs', hm, hr => by
    rw [List.mapM_cons] at hm
    cases hc : ρ c with
    | none => rw [hc] at hm; simp at hm
    | some c' =>
      rw [hc] at hm
      cases hcs : cs.mapM ρ with
      | none => rw [hcs] at hm; simp at hm
      | some cs2 =>
        rw [hcs] at hm
        simp at hm
        subst hm
        exact ⟨h v c c' hc hr.1, mapM_all2 h hcs hr.2⟩
  | [], _ :: _, _, _, hr => hr.elim
  | _ :: _, [], _, _, hr => hr.elim
theorem RelL.ren (hX : ∀ b, X b → X' b ∧ w'.heap[b]? = w.heap[b]?) (hXa : ∀ b, Xa b → Xa' b ∧ w'.heap[b]? = w.heap[b]?)
    {ρ : Ren} (hσ : ∀ o o' h, ρ o = some o' → σ o = some h → σ' o' = some h) {v : Value} {x : LV} (h : RelL w X Xa σ v x) : RelL w' X' Xa' σ' v (x.ren ρ) := by
  have hXX : ∀ (al : Bool) b, (if al = true then Xa else X) b → (if al = true then Xa' else X') b ∧ w'.heap[b]? = w.heap[b]? := by
    intro al b hb
    cases al
    · exact hX b hb
    · exact hXa b hb
  cases x with
  | u => trivial
  | s x => exact h
  | d al sz es => exact Rd.mono (hXX al) h
  | p o off =>
    obtain ⟨b, c, hb, rfl⟩ := h
    simp only [LV.ren]
    cases ho : ρ o with
    | none => trivial
    | some o' => exact ⟨b, c, hσ o o' _ ho hb, rfl⟩
  | q al cs off =>
    obtain ⟨b, base, cv, hb, rfl, hc⟩ := h
    exact ⟨b, base, cv, (hXX al b hb).1, rfl, fun j t hj => ⟨by rw [cell_same (hXX al b hb).2]; exact (hc j t hj).1, Rd.mono (hXX al) (hc j t hj).2⟩⟩
  | r o sz lo hi =>
    simp only [LV.ren]
    cases ho : ρ o with
    | none => trivial
    | some o' =>
      rcases h with ⟨h1, h2⟩ | ⟨b, k, off, h1, h2⟩
      · exact .inl ⟨hσ o o' _ ho h1, h2⟩
      · exact .inr ⟨b, k, off, hσ o o' _ ho h1, h2⟩
  | f fn cs =>
    obtain ⟨vs, rfl, hvs⟩ := h
    simp only [LV.ren]
    cases hm : cs.mapM ρ with
    | none => trivial
    | some cs' => exact ⟨vs, rfl, mapM_all2 (fun v o o' ho ⟨b, c, hb, hv⟩ => ⟨b, c, hσ o o' _ ho hb, hv⟩) hm hvs⟩
theorem RelC.ren (hX : ∀ b, X b → X' b ∧ w'.heap[b]? = w.heap[b]?) (hXa : ∀ b, Xa b → Xa' b ∧ w'.heap[b]? = w.heap[b]?)
    {ρ : Ren} (hσ : ∀ o o' h, ρ o = some o' → σ o = some h → σ' o' = some h) {v : Value} {x : Bool × List LV} (h : RelC w X Xa σ v x) : RelC w' X' Xa' σ' v (CV.ren ρ x) := by
  obtain ⟨b, cs⟩ := x
  cases b
  · obtain ⟨x, rfl, hx⟩ := h
    exact ⟨_, rfl, hx.ren hX hXa hσ⟩
  · obtain ⟨vs, rfl, hvs⟩ := h
    exact ⟨vs, rfl, All2.map _ (fun a b _ hab => hab.ren hX hXa hσ) hvs⟩
theorem RelV.ren (hX : ∀ b, X b → X' b ∧ w'.heap[b]? = w.heap[b]?) (hXa : ∀ b, Xa b → Xa' b ∧ w'.heap[b]? = w.heap[b]?)
    {ρ : Ren} (hσ : ∀ o o' h, ρ o = some o' → σ o = some h → σ' o' = some h) {v : Value} {x : AV} (h : RelV w X Xa σ v x) : RelV w' X' Xa' σ' v (x.ren ρ) := by
  cases x with
  | l x => exact RelL.ren hX hXa hσ h
  | g cs =>
    obtain ⟨vs, rfl, hvs⟩ := h
    exact ⟨vs, rfl, All2.map _ (fun a b _ hab => hab.ren hX hXa hσ) hvs⟩
  | t xs =>
    obtain ⟨vs, rfl, hvs⟩ := h
    exact ⟨vs, rfl, All2.map _ (fun a b _ hab => hab.ren hX hXa hσ) hvs⟩
theorem mapM_some' : ∀ cs : List Nat, cs.mapM some = some cs
  | [] => rfl
  | c :: cs => by rw [List.mapM_cons, mapM_some' cs]; rfl
theorem LV.ren_some (x : LV) : x.ren some = x := by
  cases x <;> simp [LV.ren, mapM_some']
theorem AV.ren_some (x : AV) : x.ren some = x := by
  have h : LV.ren some = id := funext LV.ren_some
  have h' : CV.ren some = id := funext fun c => by simp [CV.ren, h]
  cases x <;> simp [AV.ren, h, h', LV.ren_some]
theorem RelL.mono (hX : ∀ b, X b → X' b ∧ w'.heap[b]? = w.heap[b]?) (hXa : ∀ b, Xa b → Xa' b ∧ w'.heap[b]? = w.heap[b]?)
    (hσ : ∀ o h, σ o = some h → σ' o = some h) {v : Value} {x : LV} (h : RelL w X Xa σ v x) : RelL w' X' Xa' σ' v x := by
  have := RelL.ren hX hXa (ρ := some) (σ' := σ') (fun o o' h e => by cases e; exact hσ o h) h
  rwa [LV.ren_some] at this
theorem RelV.mono (hX : ∀ b, X b → X' b ∧ w'.heap[b]? = w.heap[b]?) (hXa : ∀ b, Xa b → Xa' b ∧ w'.heap[b]? = w.heap[b]?)
    (hσ : ∀ o h, σ o = some h → σ' o = some h) {v : Value} {x : AV} (h : RelV w X Xa σ v x) : RelV w' X' Xa' σ' v x := by
  have := RelV.ren hX hXa (ρ := some) (σ' := σ') (fun o o' h e => by cases e; exact hσ o h) h
  rwa [AV.ren_some] at this
end mono

/-! ### Objects of the call's own -/
structure Ob where
  ty : Nat
  sz : Nat
  row : Bool
  cap : Option Nat
  cs : List LV
def Ob.ren (ρ : Ren) (x : Ob) : Ob := { x with cs := x.cs.map (LV.ren ρ) }

/-- Object x lies where h says. -/
def RelO (w : World) (X Xa : Nat → Prop) (σ : Nat → Hd) (h : Hd) (x : Ob) : Prop :=
  match h with
  | none => False
  | some none => x.row = true ∧ x.cs = [] ∧ (x.cap = none ∨ x.cap = some 0)
  | some (some (b, k)) => ∃ vs rest : List Value, w.heap[b]? = some (.cells (vs ++ rest).toArray x.ty (0, 0)) ∧ All2 (RelL w X Xa σ) vs x.cs ∧
      (x.row = false → rest = []) ∧ (x.row = true → vs.length + rest.length = k * x.sz ∧ k ≤ maxLen ∧ ∀ k', x.cap = some k' → k' = k)

theorem RelO.ren {w w' : World} {X X' Xa Xa' : Nat → Prop} {σ σ' : Nat → Hd} (hX : ∀ b, X b → X' b ∧ w'.heap[b]? = w.heap[b]?) (hXa : ∀ b, Xa b → Xa' b ∧ w'.heap[b]? = w.heap[b]?)
    {ρ : Ren} (hσ : ∀ o o' h, ρ o = some o' → σ o = some h → σ' o' = some h) {h : Hd} {x : Ob} (hb : ∀ b k, h = some (some (b, k)) → w'.heap[b]? = w.heap[b]?) (hx : RelO w X Xa σ h x) : RelO w' X' Xa' σ' h (x.ren ρ) := by
  match h with
  | none => exact hx.elim
  | some none => exact ⟨hx.1, by simp [Ob.ren, hx.2.1], hx.2.2⟩
  | some (some (b, k)) =>
    obtain ⟨vs, rest, h1, h2, h3⟩ := hx
    exact ⟨vs, rest, (hb b k rfl).trans h1, All2.map _ (fun a b _ hab => hab.ren hX hXa hσ) h2, h3⟩

/-! ### States -/
abbrev Tm := List (Nat × AV)
def lk : Tm → Nat → AV
  | [], _ => .l .u
  | (j, v) :: r, i => bif Nat.beq i j then v else lk r i
def Tm.ren (ρ : Ren) (tm : Tm) : Tm := tm.map fun e => (e.1, e.2.ren ρ)
theorem lk_ren (ρ : Ren) (i : Nat) : ∀ tm : Tm, lk (tm.ren ρ) i = (lk tm i).ren ρ
  | [] => by simp [Tm.ren, lk, AV.ren, LV.ren]
  | (j, v) :: r => by
    have ih := lk_ren ρ i r
    simp only [Tm.ren, List.map_cons, lk] at ih ⊢
    cases Nat.beq i j
    · exact ih
    · rfl
end Go.Proofs.Ytlkhfdccapkcdaa
