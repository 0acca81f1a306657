/- Abstract states and the machine: the relation of a state to a frame and its memory, how it survives a step, and the judgements on code. -/
import Derived.Test.YtlkhfdccapkcdaaA1
namespace Go.Proofs.Ytlkhfdccapkcdaa
open Go Go.RowKit
set_option linter.unusedVariables false
set_option linter.unusedSimpArgs false

/-- What stays as it is while a frame runs: the world at its entry, the blocks that were handed over to it, those that others own, the saved temporaries of the frames that wait for it, what is known of the loop that it serves. -/
structure Cx where
  w0 : World
  own : Nat → Prop
  Z : Nat → Prop
  G : List (Array Value)
  E : Option Code → World → Prop
  nb : Nat
  σ0 : Nat → Hd
  zlt : ∀ b, Z b → b < w0.heap.size ∧ ¬ own b
  m : Nat
  hm : w0.heap.size ≤ m
  hM : ∀ c w b o, m ≤ b → E c w → E c (w.putObj b o)
  hE : ∀ c w w', E c w → (∀ b, b < w.heap.size → (∀ cs t fr, w.heap[b]? ≠ some (.cells cs t fr)) → w'.heap[b]? = w.heap[b]?) → E c w'

structure St where
  tm : Tm
  ob : List (Option Ob)
  nt : Nat
  gh : List Tm := []
  ls : Option Code := none

/-- Block b holds one of the live objects. -/
def lvb (σ : Nat → Hd) (ob : List (Option Ob)) (b : Nat) : Prop := ∃ o x k, ob[o]? = some (some x) ∧ σ o = some (some (b, k))
def isC (w : World) (b : Nat) : Prop := ∃ c t fr, w.heap[b]? = some (.cells c t fr)
def Xd (cx : Cx) (w : World) (σ : Nat → Hd) (ob : List (Option Ob)) (b : Nat) : Prop := b < w.heap.size ∧ ¬ lvb σ ob b ∧ ¬ cx.Z b ∧ isC w b
def Xe (w : World) (σ : Nat → Hd) (ob : List (Option Ob)) (b : Nat) : Prop := b < w.heap.size ∧ ¬ lvb σ ob b ∧ isC w b

structure RelH (cx : Cx) (w : World) (σ : Nat → Hd) (ob : List (Option Ob)) (ls : Option Code) : Prop where
  obs : ∀ o x, ob[o]? = some (some x) → RelO w (Xd cx w σ ob) (Xe w σ ob) σ (σ o) x
  inj : ∀ o o' x x' b k k', ob[o]? = some (some x) → ob[o']? = some (some x') → σ o = some (some (b, k)) → σ o' = some (some (b, k')) → o = o'
  dom : ∀ o, ob.length ≤ o → σ o = none
  nbl : cx.nb ≤ ob.length
  box : ∀ o x, ob[o]? = some (some x) → x.row = false → o < cx.nb → σ o = cx.σ0 o
  loc : ∀ b, lvb σ ob b → cx.w0.heap.size ≤ b ∨ cx.own b
  msize : cx.m ≤ w.heap.size
  frame : ∀ b, b < cx.w0.heap.size → ¬ cx.own b → w.heap[b]? = cx.w0.heap[b]?
  os : w.os = cx.w0.os
  tape : w.tape = cx.w0.tape
  output : w.output = cx.w0.output
  ext : cx.E ls w

theorem RelH.size {cx : Cx} {w : World} {σ : Nat → Hd} {ob : List (Option Ob)} {ls : Option Code} (h : RelH cx w σ ob ls) : cx.w0.heap.size ≤ w.heap.size := Nat.le_trans cx.hm h.msize

def Marks (cx : Cx) (ds : List Deferred) (w : World) : Prop :=
  ∃ Ds : List Nat, ds = Ds.map (fun D => { target := .collected D, args := #[] }) ∧ Ds.Nodup ∧ ∀ D ∈ Ds, w.heap[D]? = some (.deferred (some [])) ∧ cx.m ≤ D

abbrev RelT (cx : Cx) (w : World) (σ : Nat → Hd) (ob : List (Option Ob)) (S : Array Value) (tm : Tm) : Prop :=
  ∀ i, RelV w (Xd cx w σ ob) (Xe w σ ob) σ (S.getD i undef) (lk tm i)

structure RelS (cx : Cx) (σ : Nat → Hd) (st : St) (a : Act) (w : World) : Prop where
  h : RelH cx w σ st.ob st.ls
  tm : RelT cx w σ st.ob a.tmps st.tm
  nt : a.tmps.size = st.nt
  gh : All2 (RelT cx w σ st.ob) cx.G st.gh
  dm : Marks cx a.defers w

theorem RelO.block {w : World} {X Xa : Nat → Prop} {σ : Nat → Hd} {b k : Nat} {x : Ob} (h : RelO w X Xa σ (some (some (b, k))) x) : ∃ c t fr, w.heap[b]? = some (.cells c t fr) := by
  obtain ⟨vs, rest, h1, _⟩ := h
  exact ⟨_, _, _, h1⟩
theorem RelH.cells {cx : Cx} {w : World} {σ : Nat → Hd} {ob : List (Option Ob)} {ls : Option Code} (h : RelH cx w σ ob ls) {b : Nat} (hb : lvb σ ob b) : ∃ c t fr, w.heap[b]? = some (.cells c t fr) := by
  obtain ⟨o, x, k, ho, hk⟩ := hb
  have := h.obs o x ho
  rw [hk] at this
  exact this.block
theorem RelH.lt {cx : Cx} {w : World} {σ : Nat → Hd} {ob : List (Option Ob)} {ls : Option Code} (h : RelH cx w σ ob ls) {b : Nat} (hb : lvb σ ob b) : b < w.heap.size := by
  obtain ⟨c, t, fr, hc⟩ := h.cells hb
  exact (Array.getElem?_eq_some_iff.1 hc).1
theorem RelH.notZ {cx : Cx} {w : World} {σ : Nat → Hd} {ob : List (Option Ob)} {ls : Option Code} (h : RelH cx w σ ob ls) {b : Nat} (hb : lvb σ ob b) : ¬ cx.Z b := by
  intro hz
  rcases h.loc b hb with h1 | h1
  · have := (cx.zlt b hz).1; omega
  · exact (cx.zlt b hz).2 h1

/-- From one world to another one: what turns is the call's own. -/
structure Evo (σ : Nat → Hd) (ob : List (Option Ob)) (w w' : World) : Prop where
  size : w.heap.size ≤ w'.heap.size
  same : ∀ b, b < w.heap.size → ¬ lvb σ ob b → w'.heap[b]? = w.heap[b]?
  os : w'.os = w.os
  tape : w'.tape = w.tape
  output : w'.output = w.output

theorem Evo.refl (σ : Nat → Hd) (ob : List (Option Ob)) (w : World) : Evo σ ob w w := ⟨Nat.le_refl _, fun _ _ _ => rfl, rfl, rfl, rfl⟩
theorem Evo.drewN (σ : Nat → Hd) (ob : List (Option Ob)) (w : World) (n : Nat) : Evo σ ob w (w.drewN n) := ⟨Nat.le_refl _, fun _ _ _ => rfl, rfl, rfl, rfl⟩
theorem Evo.alloc (σ : Nat → Hd) (ob : List (Option Ob)) (w : World) (o : Obj) : Evo σ ob w (w.alloc o) := ⟨by simp, fun b hb _ => Below.heap_alloc w o b hb, rfl, rfl, rfl⟩
theorem Evo.trans {σ : Nat → Hd} {ob : List (Option Ob)} {a b c : World} (h : Evo σ ob a b) (k : Evo σ ob b c) : Evo σ ob a c :=
  ⟨Nat.le_trans h.size k.size, fun i hi hn => (k.same i (Nat.lt_of_lt_of_le hi h.size) hn).trans (h.same i hi hn), k.os.trans h.os, k.tape.trans h.tape, k.output.trans h.output⟩

/-- A step of a state: objects are renamed by ρ; live blocks are the elder ones or new. -/
structure Step (σ : Nat → Hd) (ob : List (Option Ob)) (w : World) (σ' : Nat → Hd) (ob' : List (Option Ob)) (w' : World) (ρ : Ren) : Prop where
  evo : Evo σ ob w w'
  ren : ∀ o o' h, ρ o = some o' → σ o = some h → σ' o' = some h
  live : ∀ b, lvb σ' ob' b → lvb σ ob b ∨ w.heap.size ≤ b

section step
variable {cx : Cx} {σ σ' : Nat → Hd} {ob ob' : List (Option Ob)} {w w' : World} {ρ : Ren} {ls : Option Code}
theorem Step.Xd (hs : Step σ ob w σ' ob' w' ρ) : ∀ b, Xd cx w σ ob b → Xd cx w' σ' ob' b ∧ w'.heap[b]? = w.heap[b]? := by
  intro b ⟨h1, h2, h3, h4⟩
  refine ⟨⟨Nat.lt_of_lt_of_le h1 hs.evo.size, fun hl => ?_, h3, by unfold isC; rw [hs.evo.same b h1 h2]; exact h4⟩, hs.evo.same b h1 h2⟩
  rcases hs.live b hl with h | h
  · exact h2 h
  · omega
theorem Step.Xe (hs : Step σ ob w σ' ob' w' ρ) : ∀ b, Xe w σ ob b → Xe w' σ' ob' b ∧ w'.heap[b]? = w.heap[b]? := by
  intro b ⟨h1, h2, h4⟩
  refine ⟨⟨Nat.lt_of_lt_of_le h1 hs.evo.size, fun hl => ?_, by unfold isC; rw [hs.evo.same b h1 h2]; exact h4⟩, hs.evo.same b h1 h2⟩
  rcases hs.live b hl with h | h
  · exact h2 h
  · omega
theorem Step.relV (hs : Step σ ob w σ' ob' w' ρ) {v : Value} {x : AV} (h : RelV w (Go.Proofs.Ytlkhfdccapkcdaa.Xd cx w σ ob) (Go.Proofs.Ytlkhfdccapkcdaa.Xe w σ ob) σ v x) :
    RelV w' (Go.Proofs.Ytlkhfdccapkcdaa.Xd cx w' σ' ob') (Go.Proofs.Ytlkhfdccapkcdaa.Xe w' σ' ob') σ' v (x.ren ρ) := RelV.ren hs.Xd hs.Xe hs.ren h
theorem Step.relL (hs : Step σ ob w σ' ob' w' ρ) {v : Value} {x : LV} (h : RelL w (Go.Proofs.Ytlkhfdccapkcdaa.Xd cx w σ ob) (Go.Proofs.Ytlkhfdccapkcdaa.Xe w σ ob) σ v x) :
    RelL w' (Go.Proofs.Ytlkhfdccapkcdaa.Xd cx w' σ' ob') (Go.Proofs.Ytlkhfdccapkcdaa.Xe w' σ' ob') σ' v (x.ren ρ) := RelL.ren hs.Xd hs.Xe hs.ren h
theorem Step.relT (hs : Step σ ob w σ' ob' w' ρ) {S : Array Value} {tm : Tm} (h : RelT cx w σ ob S tm) : RelT cx w' σ' ob' S (tm.ren ρ) := by
  intro i
  rw [lk_ren]
  exact hs.relV (h i)
theorem Step.gh (hs : Step σ ob w σ' ob' w' ρ) {G : List (Array Value)} {gh : List Tm} (h : All2 (RelT cx w σ ob) G gh) : All2 (RelT cx w' σ' ob') G (gh.map (Tm.ren ρ)) :=
  All2.map _ (fun a b _ hab => hs.relT hab) h
/-- The object did not turn. -/
theorem Step.relO (hs : Step σ ob w σ' ob' w' ρ) {h : Hd} {x : Ob} (hb : ∀ b k, h = some (some (b, k)) → w'.heap[b]? = w.heap[b]?) (hx : RelO w (Go.Proofs.Ytlkhfdccapkcdaa.Xd cx w σ ob) (Go.Proofs.Ytlkhfdccapkcdaa.Xe w σ ob) σ h x) :
    RelO w' (Go.Proofs.Ytlkhfdccapkcdaa.Xd cx w' σ' ob') (Go.Proofs.Ytlkhfdccapkcdaa.Xe w' σ' ob') σ' h (x.ren ρ) := RelO.ren hs.Xd hs.Xe hs.ren hb hx
theorem Step.relH (hs : Step σ ob w σ' ob' w' ρ) (h : RelH cx w σ ob ls)
    (obs : ∀ o x, ob'[o]? = some (some x) → RelO w' (Go.Proofs.Ytlkhfdccapkcdaa.Xd cx w' σ' ob') (Go.Proofs.Ytlkhfdccapkcdaa.Xe w' σ' ob') σ' (σ' o) x)
    (inj : ∀ o o' x x' b k k', ob'[o]? = some (some x) → ob'[o']? = some (some x') → σ' o = some (some (b, k)) → σ' o' = some (some (b, k')) → o = o') (dom : ∀ o, ob'.length ≤ o → σ' o = none) (nbl : cx.nb ≤ ob'.length)
    (box : ∀ o x, ob'[o]? = some (some x) → x.row = false → o < cx.nb → σ' o = cx.σ0 o) : RelH cx w' σ' ob' ls where
  obs := obs
  inj := inj
  dom := dom
  nbl := nbl
  box := box
  loc := fun b hb => by
    rcases hs.live b hb with h1 | h1
    · exact h.loc b h1
    · exact .inl (Nat.le_trans h.size h1)
  msize := Nat.le_trans h.msize hs.evo.size
  frame := fun b hb ho => by
    rw [hs.evo.same b (Nat.lt_of_lt_of_le hb h.size) ?_]
    · exact h.frame b hb ho
    · intro hl
      rcases h.loc b hl with h1 | h1
      · omega
      · exact ho h1
  os := hs.evo.os.trans h.os
  tape := hs.evo.tape.trans h.tape
  output := hs.evo.output.trans h.output
  ext := cx.hE ls w w' h.ext fun b hb hn => hs.evo.same b hb fun hl => by
    obtain ⟨c, t, fr, hc⟩ := h.cells hl
    exact hn c t fr hc
theorem Marks.step (hs : Step σ ob w σ' ob' w' ρ) (h : RelH cx w σ ob ls) {ds : List Deferred} (hm : Marks cx ds w) : Marks cx ds w' := by
  obtain ⟨Ds, rfl, hn, hD⟩ := hm
  refine ⟨Ds, rfl, hn, fun D hD' => ⟨?_, (hD D hD').2⟩⟩
  have h1 := (hD D hD').1
  rw [hs.evo.same D (Array.getElem?_eq_some_iff.1 h1).1 ?_]
  · exact h1
  · intro hl
    obtain ⟨c, t, fr, hc⟩ := h.cells hl
    rw [h1] at hc
    simp at hc
end step

/-! ### Writing a temporary -/
def St.put (st : St) (dst : Option Nat) (v : AV) : St :=
  match dst with
  | some d => { st with tm := bif Nat.blt d st.nt then (d, v) :: st.tm else st.tm }
  | none => st
theorem lk_cons (j : Nat) (v : AV) (tm : Tm) (i : Nat) : lk ((j, v) :: tm) i = if i = j then v else lk tm i := by
  simp only [lk]
  by_cases h : i = j
  · subst h; simp
  · have : Nat.beq i j = false := by rw [← Bool.not_eq_true, Nat.beq_eq]; exact h
    rw [this, if_neg h]; rfl
theorem RelT.put {cx : Cx} {w : World} {σ : Nat → Hd} {ob : List (Option Ob)} {S : Array Value} {tm : Tm} (h : RelT cx w σ ob S tm) {d : Nat} (hd : d < S.size) {v : Value} {x : AV}
    (hv : RelV w (Xd cx w σ ob) (Xe w σ ob) σ v x) : RelT cx w σ ob (S.setIfInBounds d v) ((d, x) :: tm) := by
  intro i
  rw [lk_cons]
  by_cases hi : i = d
  · subst hi
    rw [if_pos rfl]
    simpa [Array.getD_eq_getD_getElem?, hd] using hv
  · rw [if_neg hi]
    have := h i
    simpa [Array.getD_eq_getD_getElem?, Array.getElem?_setIfInBounds_ne (Ne.symm hi)] using this
theorem RelS.put {cx : Cx} {σ : Nat → Hd} {st : St} {a : Act} {w : World} (h : RelS cx σ st a w) (dst : Option Nat) {v : Value} {x : AV}
    (hv : RelV w (Xd cx w σ st.ob) (Xe w σ st.ob) σ v x) : RelS cx σ (st.put dst x) (a.put dst v) w := by
  cases dst with
  | none => exact h
  | some d =>
    unfold St.put Act.put
    simp only
    cases hb : Nat.blt d st.nt
    · have hd : ¬ d < a.tmps.size := by rw [h.nt, ← Nat.blt_eq, hb]; simp
      refine ⟨h.h, ?_, by simp [h.nt], h.gh, h.dm⟩
      rw [Array.setIfInBounds_eq_of_size_le (by omega)]
      exact h.tm
    · have hd : d < a.tmps.size := by rw [h.nt]; rw [← Nat.blt_eq]; exact hb
      exact ⟨h.h, h.tm.put hd hv, by simp [h.nt], h.gh, h.dm⟩

/-! ### Judgements -/
def fR : Option Nat → Fence
  | none => Fence.wide
  | some l => Fence.wide.inRound l
theorem fR_fn (R : Option Nat) (f : Nat) : (fR R).fn f := by cases R <;> trivial
theorem fR_round (R : Option Nat) : (fR R).round = R := by cases R <;> rfl
theorem fR_depth (R : Option Nat) : (fR R).depth = none := by cases R <;> rfl

abbrev Post := Exit → St → Prop
def post (cx : Cx) (Q : Post) : Exit → Act → World → Prop := fun e a w => ∃ σ st, RelS cx σ st a w ∧ Q e st

section judge
variable (P : Program) (R : Option Nat) (cx : Cx)
def AW (c : Code) (Q : Post) (st : St) : Prop := ∀ σ a w, RelS cx σ st a w → c.wpIn (fR R) 0 P (post cx Q) a w
def AO (ops : Array Oper) (Q : Post) (l : List Nat) (st : St) : Prop := ∀ σ a w, RelS cx σ st a w → wpOpsIn (fR R) 0 P ops (post cx Q) l a w
/-- st' says less than st. -/
def Weak (st st' : St) : Prop := ∀ σ a w, RelS cx σ st a w → ∃ σ', RelS cx σ' st' a w
end judge

section rules
variable {P : Program} {R : Option Nat} {cx : Cx} {Q : Post} {st st' : St}
theorem Weak.refl (st : St) : Weak cx st st := fun σ a w h => ⟨σ, h⟩
theorem Weak.trans {st'' : St} (h : Weak cx st st') (k : Weak cx st' st'') : Weak cx st st'' := fun σ a w hr => let ⟨σ', h'⟩ := h σ a w hr; k σ' a w h'
theorem AW.weak {c : Code} (hw : Weak cx st st') (h : AW P R cx c Q st') : AW P R cx c Q st := fun σ a w hr => let ⟨σ', h'⟩ := hw σ a w hr; h σ' a w h'
theorem AO.weak {ops : Array Oper} {l : List Nat} (hw : Weak cx st st') (h : AO P R cx ops Q l st') : AO P R cx ops Q l st := fun σ a w hr => let ⟨σ', h'⟩ := hw σ a w hr; h σ' a w h'
theorem post_mono {Q Q' : Post} (h : ∀ e s, Q e s → Q' e s) : ∀ e a w, post cx Q e a w → post cx Q' e a w := fun e a w ⟨σ, s, hr, hq⟩ => ⟨σ, s, hr, h e s hq⟩
theorem AW.mono {c : Code} {Q' : Post} (h : AW P R cx c Q st) (hq : ∀ e s, Q e s → Q' e s) : AW P R cx c Q' st := fun σ a w hr => wpIn_mono (h σ a w hr) (post_mono hq)
theorem AW.skip (h : Q .normal st) : AW P R cx .skip Q st := fun σ a w hr => wpIn_skip ⟨σ, st, hr, h⟩
theorem AW.ret (h : Q .ret st) : AW P R cx .ret Q st := fun σ a w hr => wpIn_ret ⟨σ, st, hr, h⟩
theorem AW.exit {id : Nat} (h : Q (.exit id) st) : AW P R cx (.exit id) Q st := fun σ a w hr => wpIn_exit ⟨σ, st, hr, h⟩
/-- Where code goes on. -/
def Post.seq (N : St → Prop) (Q : Post) : Post
  | .normal, s => N s
  | e, s => Q e s
theorem AW.seq {c c' : Code} (h : AW P R cx c (Post.seq (AW P R cx c' Q) Q) st) : AW P R cx (.seq c c') Q st := by
  intro σ a w hr
  refine wpIn_seq (wpIn_mono (h σ a w hr) ?_)
  rintro e a' w' ⟨σ', s', hr', hq⟩
  cases e with
  | normal => exact hq σ' a' w' hr'
  | _ => exact ⟨σ', s', hr', hq⟩
def Post.block (id : Nat) (Q : Post) : Post
  | .exit id', s => if id' = id then Q .normal s else Q (.exit id') s
  | e, s => Q e s
theorem AW.block {id : Nat} {c : Code} (h : AW P R cx c (Post.block id Q) st) : AW P R cx (.block id c) Q st := by
  intro σ a w hr
  refine wpIn_block (wpIn_mono (h σ a w hr) ?_)
  rintro e a' w' ⟨σ', s', hr', hq⟩
  cases e with
  | exit id' =>
    simp only [Exit.inBlock, Post.block] at hq ⊢
    split
    · rw [if_pos ‹_›] at hq; exact ⟨σ', s', hr', hq⟩
    · rw [if_neg ‹_›] at hq; exact ⟨σ', s', hr', hq⟩
  | _ => exact ⟨σ', s', hr', hq⟩
/-- What an operand is. -/
def St.ev (st : St) : Operand → AV
  | .tmp t => lk st.tm t
  | .const v => bif v.oneCell' then .l (.s v) else .l .u
  | .global g => .l (.s (.pointer (some ⟨g, 0, none⟩)))
  | .func f => .l (.s (.func (.func f) #[] #[]))
theorem RelS.ev {σ : Nat → Hd} {a : Act} {w : World} (h : RelS cx σ st a w) (x : Operand) : RelV w (Xd cx w σ st.ob) (Xe w σ st.ob) σ (a.eval x) (st.ev x) := by
  cases x with
  | tmp t => exact h.tm t
  | const v =>
    simp only [St.ev]
    cases h1 : v.oneCell'
    · trivial
    · exact ⟨rfl, h1⟩
  | global g => exact ⟨rfl, rfl⟩
  | func f => exact ⟨rfl, rfl⟩
theorem AW.cond_true {c : Operand} {x y : Code} (hc : st.ev c = .l (.s (.bool true))) (h : AW P R cx x Q st) : AW P R cx (.cond c x y) Q st := by
  intro σ a w hr
  have := hr.ev c
  rw [hc] at this
  exact wpIn_cond_true this.1 (h σ a w hr)
theorem AW.cond_false {c : Operand} {x y : Code} (hc : st.ev c = .l (.s (.bool false))) (h : AW P R cx y Q st) : AW P R cx (.cond c x y) Q st := by
  intro σ a w hr
  have := hr.ev c
  rw [hc] at this
  exact wpIn_cond_false this.1 (h σ a w hr)
theorem AW.cond {c : Operand} {x y : Code} {b : Bool} (hc : st.ev c = .l (.s (.bool b))) (ht : b = true → AW P R cx x Q st) (hf : b = false → AW P R cx y Q st) : AW P R cx (.cond c x y) Q st := by
  cases b
  · exact AW.cond_false hc (hf rfl)
  · exact AW.cond_true hc (ht rfl)
/-- A loop: an invariant on states with a measure. -/
theorem AW.loop {c : Code} (I : St → Nat → Prop) {n : Nat} (h0 : ∃ s, Weak cx st s ∧ I s n)
    (round : ∀ s n, I s n → AW P R cx c (Post.seq (fun s' => ∃ s'' n', Weak cx s' s'' ∧ I s'' n' ∧ n' < n) Q) s) : AW P R cx (.loop c) Q st := by
  intro σ a w hr
  obtain ⟨s, hw, hI⟩ := h0
  obtain ⟨σ0, hr0⟩ := hw σ a w hr
  have key : ∀ k (a : Act) (w : World) (σ : Nat → Hd) (s : St), RelS cx σ s a w → I s k → ∀ (b : Frame) (kk : List Item) (cs : List Frame), b.roundOf = (fR R).round → (fR R).fn b.fn → (fR R).room (cs.length + 1 + 0) →
      ∃ e a' w', post cx Q e a' w' ∧ ArrivesIn (Machine.fenced P (fR R)) P (lone (b.atR a (.code c :: .inLoop c :: kk)) cs w) b kk cs e a' w' := by
    intro k
    induction k using Nat.strongRecOn with
    | _ k ih =>
      intro a w σ s hr hI b kk cs hro hb hroom
      obtain ⟨e, a₁, w₁, ⟨σ₁, s₁, hr₁, hq⟩, harr⟩ := round s k hI σ a w hr b (.inLoop c :: kk) cs hro hb hroom
      cases e with
      | normal =>
        obtain ⟨s2, n', hw2, hI2, hlt⟩ := hq
        obtain ⟨σ2, hr2⟩ := hw2 σ₁ a₁ w₁ hr₁
        obtain ⟨e₂, a₂, w₂, hq₂, harr₂⟩ := ih n' hlt a₁ w₁ σ2 s2 hr2 hI2 b kk cs hro hb hroom
        exact ⟨e₂, a₂, w₂, hq₂, .of_steps (StepsIn.trans harr (.one (fenced_calm hb hroom rfl) stepR_inLoop)) harr₂⟩
      | exit id => exact ⟨_, a₁, w₁, ⟨σ₁, s₁, hr₁, hq⟩, .pass (x := .inLoop c) rfl (fun _ _ => .inl (by simp)) harr⟩
      | goto l => exact ⟨_, a₁, w₁, ⟨σ₁, s₁, hr₁, hq⟩, .pass (x := .inLoop c) rfl (fun _ _ => .inl (by simp)) harr⟩
      | ret => exact ⟨_, a₁, w₁, ⟨σ₁, s₁, hr₁, hq⟩, .pass (x := .inLoop c) rfl (fun _ _ => .inl (by simp)) harr⟩
      | panic ch => exact ⟨_, a₁, w₁, ⟨σ₁, s₁, hr₁, hq⟩, .pass (x := .inLoop c) rfl (fun _ _ => .inl (by simp)) harr⟩
      | outgrown => exact ⟨_, a₁, w₁, ⟨σ₁, s₁, hr₁, hq⟩, .pass (x := .inLoop c) rfl (fun _ _ => .inl (by simp)) harr⟩
  intro b kk cs hro hb hroom
  obtain ⟨e, a', w', hq, harr⟩ := key n a w σ0 s hr0 hI b kk cs hro hb hroom
  exact ⟨e, a', w', hq, .of_steps (.one (fenced_calm hb hroom rfl) stepR_loop) harr⟩
theorem AW.region {id : Nat} {ops : Array Oper} (h : AO P R cx ops Q (List.range ops.size) st) : AW P R cx (.region id ops false) Q st :=
  fun σ a w hr => wpIn_region (h σ a w hr)
theorem AO.nil {ops : Array Oper} (h : Q .normal st) : AO P R cx ops Q [] st := fun σ a w hr => ⟨σ, st, hr, h⟩
/-- An operation that yields a value. -/
theorem AO.value {ops : Array Oper} {i : Nat} {rest : List Nat} {o : Oper} (ho : ops[i]? = some o) (hg : o.guard = none) (hd : ∀ c, o.op ≠ .defer c)
    (h : ∀ σ a w, RelS cx σ st a w → ∃ v w' σ', (execOp a.eval o).run P w = .ok (.value v) w' ∧ RelS cx σ' st' (a.put o.dst v) w') (hk : AO P R cx ops Q rest st') : AO P R cx ops Q (i :: rest) st := by
  intro σ a w hr
  obtain ⟨v, w', σ', hrun, hr'⟩ := h σ a w hr
  simp only [wpOpsIn, ho, Region.wanted, hg, if_true]
  refine ⟨fun f _ => fR_fn R f, ?_⟩
  rw [Oper.semAt_eq _ _ _ hd, hrun]
  exact hk σ' _ w' hr'
theorem AO.skip {ops : Array Oper} {i : Nat} {rest : List Nat} {o : Oper} (ho : ops[i]? = some o) (hg : o.guard = none) (hd : ∀ c, o.op ≠ .defer c)
    (h : ∀ σ a w, RelS cx σ st a w → ∃ w' σ', (execOp a.eval o).run P w = .ok .skip w' ∧ RelS cx σ' st' (a.put o.dst undef) w') (hk : AO P R cx ops Q rest st') : AO P R cx ops Q (i :: rest) st := by
  intro σ a w hr
  obtain ⟨w', σ', hrun, hr'⟩ := h σ a w hr
  simp only [wpOpsIn, ho, Region.wanted, hg, if_true]
  refine ⟨fun f _ => fR_fn R f, ?_⟩
  rw [Oper.semAt_eq _ _ _ hd, hrun]
  exact hk σ' _ w' hr'
end rules
end Go.Proofs.Ytlkhfdccapkcdaa
