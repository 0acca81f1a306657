/- A range over a function: the statement, and a round. -/
import Derived.Test.YtlkhfdccapkcdaaA22
namespace Go.Proofs.Ytlkhfdccapkcdaa
open Go Go.RowKit
set_option linter.unusedVariables false
set_option linter.unusedSimpArgs false

/-- The same frame's memory, seen by another frame. -/
structure EOk (m : Nat) (E : Option Code → World → Prop) : Prop where
  M : ∀ c w b o, m ≤ b → E c w → E c (w.putObj b o)
  E : ∀ c w w', E c w → (∀ b, b < w.heap.size → (∀ cs t fr, w.heap[b]? ≠ some (.cells cs t fr)) → w'.heap[b]? = w.heap[b]?) → E c w'
def Cx.sw (cx : Cx) (G : List (Array Value)) (m : Nat) (E : Option Code → World → Prop) (hm : cx.m ≤ m) (hE : EOk m E) : Cx :=
  { w0 := cx.w0, own := cx.own, Z := cx.Z, G := G, E := E, nb := cx.nb, σ0 := cx.σ0, zlt := cx.zlt, m := m, hm := Nat.le_trans cx.hm hm, hM := hE.M, hE := hE.E }
theorem RelH.sw {cx : Cx} {w : World} {σ : Nat → Hd} {ob : List (Option Ob)} {ls ls' : Option Code} {G : List (Array Value)} {m : Nat} {E : Option Code → World → Prop} {hm : cx.m ≤ m}
    {hE : EOk m E} (h : RelH cx w σ ob ls) (hs : m ≤ w.heap.size) (he : E ls' w) : RelH (cx.sw G m E hm hE) w σ ob ls' :=
  ⟨h.obs, h.inj, h.dom, h.nbl, h.box, h.loc, hs, h.frame, h.os, h.tape, h.output, he⟩
theorem RelH.back {cx : Cx} {w : World} {σ : Nat → Hd} {ob : List (Option Ob)} {ls ls' : Option Code} {G : List (Array Value)} {m : Nat} {E : Option Code → World → Prop} {hm : cx.m ≤ m}
    {hE : EOk m E} (h : RelH (cx.sw G m E hm hE) w σ ob ls) (he : cx.E ls' w) : RelH cx w σ ob ls' :=
  ⟨h.obs, h.inj, h.dom, h.nbl, h.box, h.loc, Nat.le_trans hm h.msize, h.frame, h.os, h.tape, h.output, he⟩

theorem same_loop {w w' : World} (h : ∀ b, b < w.heap.size → (∀ cs t fr, w.heap[b]? ≠ some (.cells cs t fr)) → w'.heap[b]? = w.heap[b]?) {b : Nat} {o : Obj} (hb : w.heap[b]? = some o) (ho : ∀ c t fr, o ≠ .cells c t fr) : w'.heap[b]? = some o := by
  rw [h b (Array.getElem?_eq_some_iff.1 hb).1 fun c t fr e => by rw [hb] at e; simp at e; exact ho c t fr e, hb]
/-- Marks that were there before block m. -/
def MarksB (lo m : Nat) (ds : List Deferred) (w : World) : Prop :=
  ∃ Ds : List Nat, ds = Ds.map (fun D => { target := .collected D, args := #[] }) ∧ Ds.Nodup ∧ ∀ D ∈ Ds, w.heap[D]? = some (.deferred (some [])) ∧ lo ≤ D ∧ D < m
theorem MarksB.same {lo m : Nat} {w w' : World} (h : ∀ b, b < w.heap.size → (∀ cs t fr, w.heap[b]? ≠ some (.cells cs t fr)) → w'.heap[b]? = w.heap[b]?) {ds : List Deferred} (hm : MarksB lo m ds w) : MarksB lo m ds w' := by
  obtain ⟨Ds, h1, h2, h3⟩ := hm
  exact ⟨Ds, h1, h2, fun D hD => ⟨same_loop h (h3 D hD).1 (fun c t fr e => by simp at e), (h3 D hD).2⟩⟩
theorem MarksB.put {lo m b : Nat} {w : World} {o : Obj} (hb : m ≤ b) {ds : List Deferred} (hm : MarksB lo m ds w) : MarksB lo m ds (w.putObj b o) := by
  obtain ⟨Ds, h1, h2, h3⟩ := hm
  exact ⟨Ds, h1, h2, fun D hD => ⟨by rw [World.putObj_heap_other (by have := (h3 D hD).2.2; omega)]; exact (h3 D hD).1, (h3 D hD).2⟩⟩
theorem MarksB.putL {lo m b : Nat} {w : World} {o o' : Obj} (hb : w.heap[b]? = some o') (ho : ∀ d, o' ≠ .deferred d) {ds : List Deferred} (hm : MarksB lo m ds w) : MarksB lo m ds (w.putObj b o) := by
  obtain ⟨Ds, h1, h2, h3⟩ := hm
  exact ⟨Ds, h1, h2, fun D hD => ⟨by rw [World.putObj_heap_other (fun e => by have := (h3 D hD).1; rw [e, hb] at this; simp at this; exact ho _ this)]; exact (h3 D hD).1, (h3 D hD).2⟩⟩
theorem Marks.toB {cx : Cx} {ds : List Deferred} {w : World} (h : Marks cx ds w) : MarksB cx.m w.heap.size ds w := by
  obtain ⟨Ds, h1, h2, h3⟩ := h
  exact ⟨Ds, h1, h2, fun D hD => ⟨(h3 D hD).1, (h3 D hD).2, (Array.getElem?_eq_some_iff.1 (h3 D hD).1).1⟩⟩
theorem MarksB.of {cx : Cx} {m : Nat} {ds : List Deferred} {w : World} (h : MarksB cx.m m ds w) : Marks cx ds w := by
  obtain ⟨Ds, h1, h2, h3⟩ := h
  exact ⟨Ds, h1, h2, fun D hD => ⟨(h3 D hD).1, (h3 D hD).2.1⟩⟩
theorem MarksB.mono {lo m m' : Nat} {ds : List Deferred} {w : World} (h : MarksB lo m ds w) (hm : m ≤ m') : MarksB lo m' ds w := by
  obtain ⟨Ds, h1, h2, h3⟩ := h
  exact ⟨Ds, h1, h2, fun D hD => ⟨(h3 D hD).1, (h3 D hD).2.1, by have := (h3 D hD).2.2; omega⟩⟩

/-- What the loop's record is, by what has become of the loop. -/
def recI (fn : Nat) (S : Array Value) (ps : Array Tmp) (assign body : Code) (D : Nat) (c : Option Code) : Loop :=
  { state := if c.isNone then .ready else .done, pending := c, fn := fn, tmps := S, params := ps, assign := assign, body := body, defers := D }
def recR (fn : Nat) (S : Array Value) (ps : Array Tmp) (assign body : Code) (D : Nat) (c : Option Code) : Loop :=
  { state := if c.isNone then .ready else .busy, pending := none, fn := fn, tmps := S, params := ps, assign := assign, body := body, defers := D }
/-- What the frame of the function that is ranged over keeps in mind: cx is the outer frame's context. -/
def EI (cx : Cx) (ls0 : Option Code) (l m : Nat) (r : Option Code → Loop) (ds : List Deferred) (c : Option Code) (w : World) : Prop :=
  cx.E ls0 w ∧ w.heap[l]? = some (.loop (r c)) ∧ MarksB cx.m m ds w
theorem EI.ok {cx : Cx} {ls0 : Option Code} {l m : Nat} {r : Option Code → Loop} {ds : List Deferred} (hl : l < m) (hm : cx.m ≤ m) : EOk m (EI cx ls0 l m r ds) where
  M := fun c w b o hb ⟨h1, h2, h3⟩ => ⟨cx.hM _ _ _ _ (Nat.le_trans hm hb) h1, by rw [World.putObj_heap_other (by omega)]; exact h2, h3.put hb⟩
  E := fun c w w' ⟨h1, h2, h3⟩ h => ⟨cx.hE _ w w' h1 h, same_loop h h2 (fun c t fr e => by simp at e), h3.same h⟩
/-- What a round's frame keeps in mind: cxI is the context of the function that is ranged over. -/
def ER (cx : Cx) (ls0 : Option Code) (l m m2 : Nat) (r : Option Code → Loop) (ds ds2 : List Deferred) (c : Option Code) (w : World) : Prop := EI cx ls0 l m r ds c w ∧ MarksB m m2 ds2 w
theorem ER.ok {cx : Cx} {ls0 : Option Code} {l m m2 : Nat} {r : Option Code → Loop} {ds ds2 : List Deferred} (hl : l < m) (hm : cx.m ≤ m) (hm2 : m ≤ m2) : EOk m2 (ER cx ls0 l m m2 r ds ds2) where
  M := fun c w b o hb ⟨h1, h2⟩ => ⟨(EI.ok hl hm).M c w b o (Nat.le_trans hm2 hb) h1, h2.put hb⟩
  E := fun c w w' ⟨h1, h2⟩ h => ⟨(EI.ok hl hm).E c w w' h1 h, h2.same h⟩

def puts : List (Nat × AV) → St → St
  | [], st => st
  | (t, x) :: r, st => puts r (st.put (some t) x)
theorem RelS.puts {cx : Cx} {σ : Nat → Hd} {w : World} : ∀ (ps : List Tmp) (vs : List Value) (xs : List AV) (st : St) (a : Act), RelS cx σ st a w → All2 (RelV w (Xd cx w σ st.ob) (Xe w σ st.ob) σ) vs xs →
    RelS cx σ (Go.Proofs.Ytlkhfdccapkcdaa.puts (ps.zip xs) st) { a with tmps := (ps.zip vs).foldl (fun tmps (x : Tmp × Value) => tmps.setIfInBounds x.1 x.2) a.tmps } w
  | [], _, _, st, a, h, _ => by simpa [Go.Proofs.Ytlkhfdccapkcdaa.puts] using h
  | p :: ps, [], [], st, a, h, _ => by simpa [Go.Proofs.Ytlkhfdccapkcdaa.puts] using h
  | p :: ps, v :: vs, x :: xs, st, a, h, hv => RelS.puts ps vs xs (st.put (some p) x) (a.put (some p) v) (h.put (some p) hv.1) hv.2
  | p :: ps, [], _ :: _, st, a, h, hv => hv.elim
  | p :: ps, _ :: _, [], st, a, h, hv => hv.elim

section
variable {P : Program} {cx : Cx} {σ : Nat → Hd} {st : St} {a : Act} {w : World}
/-- Blocks that hold no cells come in. -/
theorem RelS.alloc (h : RelS cx σ st a w) (o : Obj) : RelS cx σ st a (w.alloc o) := by
  have hs : Step σ st.ob w σ st.ob (w.alloc o) some := ⟨Evo.alloc _ _ _ _, fun o o' x e hx => by cases e; exact hx, fun b hb => .inl hb⟩
  refine h.step_some hs (hs.relH h.h (fun i x hi => ?_) h.h.inj h.h.dom h.h.nbl h.h.box)
  have := hs.relO (cx := cx) (fun b k e => Below.heap_alloc w o b (h.h.lt ⟨i, x, k, hi, e⟩)) (h.h.obs i x hi)
  rwa [Ob.ren_some] at this
/-- The context of a function that is ranged over. -/
structure YCx (cxI : Cx) (l nt : Nat) (ps : Array Tmp) (assign body : Code) : Prop where
  ex : ∃ (cx : Cx) (ls0 : Option Code) (fn D m : Nat) (S : Array Value) (ds : List Deferred) (hl : l < m) (hm : cx.m ≤ m), cxI = cx.sw (S :: cx.G) m (EI cx ls0 l m (recI fn S ps assign body D) ds) hm (EI.ok hl hm) ∧ S.size = nt ∧ cx.m ≤ l

/-- What follows behind the function that is ranged over. -/
def backQ (P : Program) (R : Option Nat) (cx : Cx) (nt : Nat) (ls0 : Option Code) (Q : Post) (s : St) : Prop :=
  ∃ tm gh, s.gh = tm :: gh ∧ match s.ls with
    | none => Q .normal ⟨tm, s.ob, nt, gh, ls0⟩
    | some c => AW P R cx c Q ⟨tm, s.ob, nt, gh, ls0⟩
def iterPost (P : Program) (cx : Cx) (nt : Nat) (ls0 : Option Code) (Q : Post) : Post
  | .normal, s => backQ P none cx nt ls0 Q s
  | .ret, s => backQ P none cx nt ls0 Q s
  | _, _ => False

theorem AW.rangeFunc {Q : Post} {g : Operand} {ps : Array Tmp} {assign body : Code} {f : Nat} {fn : Func} {c : Code} {caps : List Nat} (hg : st.ev g = .l (.f f caps)) (hf : P.funcs[f]? = some fn) (hname : (fn.name == "runtime.NumGoroutine") = false) (hb : fn.body = some c) (hnt : 1 + caps.length ≤ fn.ntmps) (hres : fn.results.toList = [])
    (h : ∀ cxI l, cxI.nb = cx.nb → YCx cxI l st.nt ps assign body →
      AW P none cxI c (iterPost P cx st.nt st.ls Q) ⟨initTm 0 (.l (.s (.func (.yield l) #[] #[])) :: caps.map fun o => .l (.p o 0)), st.ob, fn.ntmps, st.tm :: st.gh, none⟩) :
    AW P none cx (.rangeFunc g ps assign body) Q st := by
  intro σ a w hr
  refine wpIn_rangeFunc fun fn0 _ => ?_
  have hgv := hr.ev g
  rw [hg] at hgv
  obtain ⟨cvs, hgv', hcv⟩ := hgv
  obtain ⟨w1, hw1⟩ : ∃ w1, w1 = (w.alloc (.deferred (some []))).alloc (.loop (recI fn0 a.tmps ps assign body w.heap.size none)) := ⟨_, rfl⟩
  have hrun : (Instr.enterLoop fn0 a.tmps ps assign body (fR none).round).run P w = .ok (w.heap.size + 1, [{ target := .collected w.heap.size, args := #[] }]) w1 := by
    rw [hw1]
    exact run_enterLoop_outer fn0 a.tmps ps assign body
  have hw1s : w1.heap.size = w.heap.size + 2 := by rw [hw1]; simp
  have hl : w1.heap[w.heap.size + 1]? = some (.loop (recI fn0 a.tmps ps assign body w.heap.size none)) := by
    rw [hw1]
    have := World.alloc_heap_new (w.alloc (.deferred (some []))) (.loop (recI fn0 a.tmps ps assign body w.heap.size none))
    simpa using this
  have hD : w1.heap[w.heap.size]? = some (.deferred (some [])) := by
    rw [hw1, Below.heap_alloc _ _ _ (by simp)]
    exact World.alloc_heap_new _ _
  have hr1 : RelS cx σ st a w1 := by rw [hw1]; exact (hr.alloc _).alloc _
  refine ⟨w.heap.size + 1, [{ target := .collected w.heap.size, args := #[] }], w1, { target := .fn (.func f) cvs.toArray, args := #[Value.func (.yield (w.heap.size + 1)) #[] #[]] }, w1, f, #[Value.func (.yield (w.heap.size + 1)) #[] #[]] ++ cvs.toArray, w1, hrun, ?_, ?_, ?_, fun h => by rw [fR_depth] at h; simp at h, ?_⟩
  · simp only [resolve, rangeCall, hgv', Deferred.ofValue]
    simp [Sem.run_pure]
    rfl
  · exact fun f' _ => fR_fn none f'
  · have := enters hf hname hb (#[Value.func (.yield (w.heap.size + 1)) #[] #[]] ++ cvs.toArray) w1
    simpa [invoke] using this
  · -- the context of the function that is ranged over
    have hlm : w.heap.size + 1 < w.heap.size + 2 := by omega
    have hmx : cx.m ≤ w.heap.size + 2 := by have := hr.h.msize; omega
    obtain ⟨cxI, hcxI⟩ : ∃ cxI, cxI = cx.sw (a.tmps :: cx.G) (w.heap.size + 2) (EI cx st.ls (w.heap.size + 1) (w.heap.size + 2) (recI fn0 a.tmps ps assign body w.heap.size) ([{ target := .collected w.heap.size, args := #[] }] ++ a.defers)) hmx (EI.ok hlm hmx) := ⟨_, rfl⟩
    have hY : YCx cxI (w.heap.size + 1) st.nt ps assign body := ⟨cx, st.ls, fn0, w.heap.size, _, a.tmps, _, hlm, hmx, hcxI, hr.nt, by have := hr.h.msize; omega⟩
    have hm1 : MarksB cx.m (w.heap.size + 2) ([{ target := .collected w.heap.size, args := #[] }] ++ a.defers) w1 := by
      obtain ⟨Ds, h1, h2, h3⟩ := hr.dm
      refine ⟨w.heap.size :: Ds, by rw [h1]; rfl, List.nodup_cons.2 ⟨fun hx => ?_, h2⟩, fun D hx => ?_⟩
      · have := (Array.getElem?_eq_some_iff.1 (h3 _ hx).1).1
        omega
      · rcases List.mem_cons.1 hx with rfl | hx
        · exact ⟨hD, hr.h.msize, by omega⟩
        · have h4 := (Array.getElem?_eq_some_iff.1 (h3 _ hx).1).1
          refine ⟨?_, (h3 _ hx).2, by omega⟩
          rw [hw1, Below.heap_alloc _ _ _ (by simp; omega), Below.heap_alloc _ _ _ h4]
          exact (h3 _ hx).1
    have hAW := h cxI (w.heap.size + 1) (by rw [hcxI]; rfl) hY
    have hlen := hcv.length
    have hrI : RelS cxI σ ⟨initTm 0 (.l (.s (.func (.yield (w.heap.size + 1)) #[] #[])) :: caps.map fun o => .l (.p o 0)), st.ob, fn.ntmps, st.tm :: st.gh, none⟩
        { tmps := (#[Value.func (.yield (w.heap.size + 1)) #[] #[]] ++ cvs.toArray) ++ Array.replicate (fn.ntmps - (#[Value.func (.yield (w.heap.size + 1)) #[] #[]] ++ cvs.toArray).size) undef, defers := [] } w1 := by
      subst hcxI
      refine ⟨hr1.h.sw (by omega) ⟨hr1.h.ext, hl, hm1⟩, fun i => ?_, by simp; omega, ⟨hr1.tm, hr1.gh⟩, [], rfl, List.nodup_nil, fun D hD => by simp at hD⟩
      have e := lk_init (.l (.s (.func (.yield (w.heap.size + 1)) #[] #[])) :: caps.map fun o => .l (.p o 0)) 0 i
      rw [Nat.zero_add] at e
      show RelV _ _ _ _ _ (lk (initTm 0 _) i)
      rw [e]
      have hall : All2 (RelV w1 (Xd cx w1 σ st.ob) (Xe w1 σ st.ob) σ) (Value.func (.yield (w.heap.size + 1)) #[] #[] :: cvs) (.l (.s (.func (.yield (w.heap.size + 1)) #[] #[])) :: caps.map fun o => .l (.p o 0)) :=
        ⟨⟨rfl, rfl⟩, All2.map _ (fun v o _ ⟨b, k, hb, hv⟩ => ⟨b, k, hb, hv⟩) hcv⟩
      cases ha : (AV.l (.s (.func (.yield (w.heap.size + 1)) #[] #[])) :: caps.map fun o => AV.l (.p o 0))[i]? with
      | none => trivial
      | some x =>
        obtain ⟨v, hv, hrel⟩ := hall.at i ha
        have hlt := (List.getElem?_eq_some_iff.1 hv).1
        have : ((#[Value.func (.yield (w.heap.size + 1)) #[] #[]] ++ cvs.toArray) ++ Array.replicate (fn.ntmps - (#[Value.func (.yield (w.heap.size + 1)) #[] #[]] ++ cvs.toArray).size) undef).getD i undef = v := by
          rw [Array.getD_eq_getD_getElem?, Array.getElem?_append_left (by simp at hlt ⊢; omega)]
          have e2 : (#[Value.func (.yield (w.heap.size + 1)) #[] #[]] ++ cvs.toArray) = (Value.func (.yield (w.heap.size + 1)) #[] #[] :: cvs).toArray := by simp
          rw [e2]
          simp [hv]
        rw [this]
        exact hrel
    refine callsIn_of_wp_marks hf hb trivial (wpIn_mono (hAW σ _ w1 hrI) ?_) rfl
    rintro e a' w' ⟨σ', s, hs, hq⟩
    have fin : backQ P none cx st.nt st.ls Q s → LeavesInM (fR none) 0 P fn a'.tmps (rangePost (fR none) 0 P (w.heap.size + 1) (post cx Q) { a with defers := [{ target := .collected w.heap.size, args := #[] }] ++ a.defers }) a'.defers .returning w' := by
      rintro ⟨tm, gh, hgh, hq⟩
      obtain ⟨Ds, hd, hn, hDs⟩ := hs.dm
      refine leaves_marks (av := .t []) (by rw [hres]; rfl) (fun σ3 a3 v w3 hr3 _ => ?_) Ds a' w' σ' hs hd hn hDs
      subst hcxI
      obtain ⟨e1, e2, e3⟩ := hr3.h.ext
      have hst : (recI fn0 a.tmps ps assign body w.heap.size s.ls).state ≠ .busy := by
        simp only [recI]
        split <;> simp
      refine ⟨_, _, run_endLoop e2 hst, ?_⟩
      have hg3 := hr3.gh
      rw [hgh] at hg3
      -- the outer frame again
      have hput : RelS cx σ3 ⟨tm, s.ob, st.nt, gh, st.ls⟩ { a with defers := [{ target := .collected w.heap.size, args := #[] }] ++ a.defers } (w3.putObj (w.heap.size + 1) (.loop { recI fn0 a.tmps ps assign body w.heap.size s.ls with state := .exhausted })) := by
        have h0 : RelS cx σ3 ⟨tm, s.ob, st.nt, gh, st.ls⟩ { a with defers := [{ target := .collected w.heap.size, args := #[] }] ++ a.defers } w3 :=
          ⟨hr3.h.back e1, hg3.1, hr.nt, hg3.2, MarksB.of e3⟩
        refine h0.putObj e2 (fun c t fr e => by simp at e) (by have := hr.h.size; omega) (cx.hM _ _ _ _ (by have := hr.h.msize; omega) e1) (MarksB.of (e3.putL e2 fun d e => by simp at e))
      have hp : (recI fn0 a.tmps ps assign body w.heap.size s.ls).pending = s.ls := rfl
      rw [hp]
      cases hls : s.ls with
      | none =>
        rw [hls] at hq hput
        exact ⟨σ3, _, hput, hq⟩
      | some c =>
        rw [hls] at hq hput
        exact hq σ3 _ _ hput
    cases e with
    | normal => exact fin hq
    | ret => exact fin hq
    | exit id => exact hq.elim
    | goto l => exact hq.elim
    | panic ch => exact hq.elim
    | outgrown => exact hq.elim
end
end Go.Proofs.Ytlkhfdccapkcdaa
