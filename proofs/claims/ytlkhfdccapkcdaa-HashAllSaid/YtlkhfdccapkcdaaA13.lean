/- A function's contract out of its body. -/
import Derived.Test.YtlkhfdccapkcdaaA12
namespace Go.Proofs.Ytlkhfdccapkcdaa
open Go Go.RowKit
set_option linter.unusedVariables false
set_option linter.unusedSimpArgs false

section
variable {P : Program} {cx : Cx} {σ : Nat → Hd} {st : St} {a : Act} {w : World}
/-- Book-keeping of loops: a block that holds no cells turns. -/
theorem RelH.putObj {ob : List (Option Ob)} {ls ls' : Option Code} (h : RelH cx w σ ob ls) {b : Nat} {o o' : Obj} (hb : w.heap[b]? = some o) (ho : ∀ c t fr, o ≠ .cells c t fr) (hge : cx.w0.heap.size ≤ b) (hE : cx.E ls' (w.putObj b o')) :
    RelH cx (w.putObj b o') σ ob ls' ∧ (∀ x, Xd cx w σ ob x → Xd cx (w.putObj b o') σ ob x ∧ (w.putObj b o').heap[x]? = w.heap[x]?) ∧ (∀ x, Xe w σ ob x → Xe (w.putObj b o') σ ob x ∧ (w.putObj b o').heap[x]? = w.heap[x]?) := by
  have hne : ∀ x, isC w x → x ≠ b := by
    rintro x ⟨c, t, fr, hc⟩ rfl
    rw [hb] at hc
    simp at hc
    exact ho c t fr hc
  have hx1 : ∀ x, Xd cx w σ ob x → Xd cx (w.putObj b o') σ ob x ∧ (w.putObj b o').heap[x]? = w.heap[x]? := by
    rintro x ⟨h1, h2, h3, h4⟩
    have e := World.putObj_heap_other (w := w) (o := o') (hne x h4)
    exact ⟨⟨by simpa using h1, h2, h3, by unfold isC; rw [e]; exact h4⟩, e⟩
  have hx2 : ∀ x, Xe w σ ob x → Xe (w.putObj b o') σ ob x ∧ (w.putObj b o').heap[x]? = w.heap[x]? := by
    rintro x ⟨h1, h2, h4⟩
    have e := World.putObj_heap_other (w := w) (o := o') (hne x h4)
    exact ⟨⟨by simpa using h1, h2, by unfold isC; rw [e]; exact h4⟩, e⟩
  refine ⟨⟨fun i x hi => ?_, h.inj, h.dom, h.nbl, h.box, h.loc, by simpa using h.msize, fun x hx hn => ?_, h.os, h.tape, h.output, hE⟩, hx1, hx2⟩
  · have := RelO.ren hx1 hx2 (ρ := some) (σ' := σ) (fun o o' hh e hh' => by cases e; exact hh') (fun c k e => World.putObj_heap_other (hne c (h.cells ⟨i, x, k, hi, e⟩))) (h.obs i x hi)
    rwa [Ob.ren_some] at this
  · rw [World.putObj_heap_other (by omega)]
    exact h.frame x hx hn
theorem RelT.putX {w' : World} {ob : List (Option Ob)} (hx1 : ∀ x, Xd cx w σ ob x → Xd cx w' σ ob x ∧ w'.heap[x]? = w.heap[x]?) (hx2 : ∀ x, Xe w σ ob x → Xe w' σ ob x ∧ w'.heap[x]? = w.heap[x]?) {S : Array Value} {tm : Tm} (h : RelT cx w σ ob S tm) : RelT cx w' σ ob S tm :=
  fun i => RelV.mono hx1 hx2 (fun _ _ e => e) (h i)
theorem RelS.putObj (h : RelS cx σ st a w) {b : Nat} {o o' : Obj} {ls' : Option Code} {ds : List Deferred} (hb : w.heap[b]? = some o) (ho : ∀ c t fr, o ≠ .cells c t fr) (hge : cx.w0.heap.size ≤ b) (hE : cx.E ls' (w.putObj b o')) (hd : Marks cx ds (w.putObj b o')) :
    RelS cx σ { st with ls := ls' } { a with defers := ds } (w.putObj b o') := by
  obtain ⟨h1, h2, h3⟩ := h.h.putObj hb ho hge hE
  exact ⟨h1, RelT.putX h2 h3 h.tm, h.nt, h.gh.mono fun S tm _ hS => RelT.putX h2 h3 hS, hd⟩

/-- What is left behind a frame: its result, and the objects that go out. -/
def Left (P : Program) (cx : Cx) (fn : Func) (res : AV) (obs' : List (Option Ob)) (s : St) : Prop :=
  ∃ av s', resV P s fn.results.toList = some av ∧ Weak cx ⟨[(0, av)], s.ob, 1, s.gh, s.ls⟩ s' ∧ s'.ob = obs' ∧ s'.ls = none ∧ lk s'.tm 0 = res
def retPost (P : Program) (cx : Cx) (fn : Func) (res : AV) (obs' : List (Option Ob)) : Post
  | .normal, s => Left P cx fn res obs' s
  | .ret, s => Left P cx fn res obs' s
  | _, _ => False

/-- Leaving a frame, with its marks. -/
theorem leaves_marks {fn : Func} {R : Ending → World → Prop} {av : AV} {fR' : Fence} (hres : resV P st fn.results.toList = some av)
    (hR : ∀ σ a v w, RelS cx σ st a w → RelV w (Xd cx w σ st.ob) (Xe w σ st.ob) σ v av → R (.returned v) w) :
    ∀ (Ds : List Nat) (a : Act) (w : World) (σ : Nat → Hd), RelS cx σ st a w → a.defers = Ds.map (fun D => { target := .collected D, args := #[] }) → Ds.Nodup → (∀ D ∈ Ds, w.heap[D]? = some (.deferred (some [])) ∧ cx.m ≤ D) →
      LeavesInM fR' 0 P fn a.tmps R a.defers .returning w
  | [], a, w, σ, h, hd, _, _ => by
    rw [hd]
    obtain ⟨v, hv, hrel⟩ := h.results hres
    exact ⟨v, hv, hR σ a v w h hrel⟩
  | D :: Ds, a, w, σ, h, hd, hn, hD => by
    rw [hd]
    obtain ⟨h1, h2⟩ := hD D (by simp)
    have hn' := List.nodup_cons.1 hn
    have hD' : ∀ E ∈ Ds, (w.putObj D (.deferred none)).heap[E]? = some (.deferred (some [])) ∧ cx.m ≤ E := fun E hE' =>
      ⟨by rw [World.putObj_heap_other (by intro e; subst e; exact hn'.1 hE')]; exact (hD E (by simp [hE'])).1, (hD E (by simp [hE'])).2⟩
    have hm : Marks cx (Ds.map (fun D => { target := .collected D, args := #[] })) (w.putObj D (.deferred none)) := ⟨Ds, rfl, hn'.2, hD'⟩
    have hr := h.putObj (ls' := st.ls) h1 (fun c t fr e => by simp at e) (Nat.le_trans cx.hm h2) (cx.hM _ _ _ _ h2 h.h.ext) hm
    have ih := leaves_marks (fR' := fR') hres hR Ds { a with defers := Ds.map (fun D => { target := .collected D, args := #[] }) } (w.putObj D (.deferred none)) σ hr rfl hn'.2 hD'
    exact ⟨by simp, .inl ⟨D, _, rfl, run_takeDeferred h1, ih⟩⟩

/-- A function's contract out of its body. -/
theorem Sound.of_aw {f : Nat} {fn : Func} {c : Code} {args : List AV} {obs : List Ob} {res : AV} {obs' : List (Option Ob)} (hf : P.funcs[f]? = some fn) (hb : fn.body = some c) (hpar : args.length ≤ fn.ntmps)
    (h : ∀ cx : Cx, cx.G = [] → cx.nb = obs.length → AW P none cx c (retPost P cx fn res obs') (st0 args obs fn.ntmps)) : Sound P f args obs res obs' := by
  intro Z w σ vs hZ hH hargs
  refine (callsIn_wide (n := 0)).1 (callsIn_of_wp_marks hf hb trivial ?_ rfl)
  have hlen := hargs.length
  have hr : RelS (cx0 w σ obs.length (obs.map some) Z hZ) σ (st0 args obs fn.ntmps) { tmps := vs.toArray ++ Array.replicate (fn.ntmps - vs.toArray.size) undef, defers := [] } w := by
    refine ⟨hH, fun i => ?_, by simp [st0]; omega, trivial, [], rfl, List.nodup_nil, fun D hD => by simp at hD⟩
    have e := lk_init args 0 i
    rw [Nat.zero_add] at e
    show RelV _ _ _ _ _ (lk (initTm 0 args) i)
    rw [e]
    cases ha : args[i]? with
    | none => trivial
    | some x =>
      obtain ⟨v, hv, hrel⟩ := hargs.at i ha
      have hlt := (List.getElem?_eq_some_iff.1 hv).1
      have : (vs.toArray ++ Array.replicate (fn.ntmps - vs.toArray.size) undef).getD i undef = v := by
        rw [Array.getD_eq_getD_getElem?, Array.getElem?_append_left (by simpa using hlt)]
        simp [hv]
      rw [this]
      exact hrel
  refine wpIn_mono (h _ rfl rfl σ _ w hr) ?_
  rintro e a' w' ⟨σ', s, hs, hq⟩
  have fin : Left P (cx0 w σ obs.length (obs.map some) Z hZ) fn res obs' s → LeavesInM Fence.wide 0 P fn a'.tmps (fun e w' => ∃ v σ', e = .returned v ∧ RelH (cx0 w σ obs.length (obs.map some) Z hZ) w' σ' obs' none ∧
      RelV w' (Xd (cx0 w σ obs.length (obs.map some) Z hZ) w' σ' obs') (Xe w' σ' obs') σ' v res) a'.defers .returning w' := by
    intro hl
    obtain ⟨Ds, hd, hn, hD⟩ := hs.dm
    obtain ⟨av, s', hres, hw, hobs, hls, hlk⟩ := hl
    refine leaves_marks hres (fun σ3 a3 v w3 g1 g2 => ?_) Ds a' w' σ' hs hd hn hD
    obtain ⟨σ4, hr4⟩ := hw σ3 { a3 with tmps := #[v] } w3 ⟨g1.h, fun i => by
      rw [lk_cons]
      split
      · rename_i hi; subst hi; exact g2
      · trivial, rfl, g1.gh, g1.dm⟩
    refine ⟨v, σ4, rfl, ?_, ?_⟩
    · have := hr4.h
      rwa [hls, hobs] at this
    · have := hr4.tm 0
      rw [hlk, hobs] at this
      exact this
  cases e with
  | normal => exact fin hq
  | ret => exact fin hq
  | exit id => exact hq.elim
  | goto l => exact hq.elim
  | panic ch => exact hq.elim
  | outgrown => exact hq.elim
end
end Go.Proofs.Ytlkhfdccapkcdaa
