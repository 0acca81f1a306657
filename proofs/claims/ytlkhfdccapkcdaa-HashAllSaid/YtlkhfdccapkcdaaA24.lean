/- A range over a function (2): a round. -/
import Derived.Test.YtlkhfdccapkcdaaA23
namespace Go.Proofs.Ytlkhfdccapkcdaa
open Go Go.RowKit
set_option linter.unusedVariables false
set_option linter.unusedSimpArgs false

section
variable {P : Program} {cx : Cx} {σ : Nat → Hd} {st : St} {a : Act} {w : World}
theorem RelH.sw2 {ob : List (Option Ob)} {ls ls' : Option Code} {G G' : List (Array Value)} {m m' : Nat} {E E' : Option Code → World → Prop} {hm : cx.m ≤ m} {hm' : cx.m ≤ m'} {hE : EOk m E} {hE' : EOk m' E'}
    (h : RelH (cx.sw G m E hm hE) w σ ob ls) (hs : m' ≤ w.heap.size) (he : E' ls' w) : RelH (cx.sw G' m' E' hm' hE') w σ ob ls' :=
  ⟨h.obs, h.inj, h.dom, h.nbl, h.box, h.loc, hs, h.frame, h.os, h.tape, h.output, he⟩

def jumpOf : Exit → Option (Option Code)
  | .normal => some none
  | .ret => some (some .ret)
  | .exit id => some (some (.exit id))
  | .goto t => some (some (.goto t))
  | _ => none
/-- What follows behind a round. -/
def roundQ (dst : Option Nat) (nt : Nat) (K : St → Prop) : Post := fun e s =>
  match jumpOf e with
  | some j => ∃ tmI gh, s.gh = tmI :: gh ∧ K (St.put ⟨tmI, s.ob, nt, gh, j⟩ dst (.l (.s (.bool j.isNone))))
  | none => False
def asgQ (N : St → Prop) : Post
  | .normal, s => s.ls = none ∧ N s
  | _, _ => False

theorem OpFam.yield {cxI : Cx} {l nt : Nat} {ps : Array Tmp} {assign body : Code} (hY : YCx cxI l nt ps assign body) {o : Oper} {c : Call} {g : Operand} {s : St} {K : St → Prop} (ho : o.op = .call c) (hc : c.callee = .value g) (hg : s.ev g = .l (.s (.func (.yield l) #[] #[])))
    (hls : s.ls = none) {tmO : Tm} {gh : List Tm} (hgh : s.gh = tmO :: gh) (hlen : c.args.size = ps.size)
    (h : ∀ cxR, cxR.nb = cxI.nb → AW P (some l) cxR assign (asgQ fun s1 => AW P (some l) cxR body (roundQ o.dst s.nt K) { s1 with ls := some .skip }) (puts (ps.toList.zip (c.args.toList.map s.ev)) ⟨tmO, s.ob, nt, s.tm :: tmO :: gh, none⟩)) :
    OpFam P none cxI o s K := by
  intro σ a w hr next Q hn
  obtain ⟨cx, ls0, fn, D, m, S, ds, hl, hm, rfl, hSn, hlo⟩ := hY.ex
  obtain ⟨e1, e2, e3⟩ := hr.h.ext
  rw [hls] at e2
  have hmw : m ≤ w.heap.size := hr.h.msize
  have hm2 : cx.m ≤ w.heap.size := Nat.le_trans hm hmw
  have hgv : a.eval g = .func (.yield l) #[] #[] := by have := hr.ev g; rw [hg] at this; exact this.1
  have hG := hr.gh
  rw [hgh] at hG
  have hm2' : MarksB m w.heap.size a.defers w := Marks.toB hr.dm
  -- the round's context
  obtain ⟨cxR, hcxR⟩ : ∃ cxR, cxR = cx.sw (a.tmps :: S :: cx.G) w.heap.size (ER cx ls0 l m w.heap.size (recR fn S ps assign body D) ds a.defers) hm2 (ER.ok hl hm hmw) := ⟨_, rfl⟩
  have hAW := h cxR (by rw [hcxR]; rfl)
  have hrun : (execOp a.eval o).run P w = .ok (.round l fn ((ps.zip (c.args.map a.eval)).foldl (fun tmps (t, a) => tmps.setIfInBounds t a) S) assign body) w := by
    have hy := run_yield (P := P) (args := c.args.map a.eval) e2 (by simp [recI, hlen])
    simp only [recI] at hy
    simp only [execOp, ho, resolve, hc, hgv, Deferred.ofValue, Sem.run_bind, Sem.run_pure, Result.andThen_ok, invoke]
    simpa using hy
  rw [Oper.semAt_eq _ _ _ (fun c' e => by rw [ho] at e; simp at e), hrun]
  refine ⟨fun h => by rw [fR_depth] at h; simp at h, ?_⟩
  refine roundIn_of_wpIn (fR_fn none fn) ?_
  have hvals : All2 (RelV w (Xd cxR w σ s.ob) (Xe w σ s.ob) σ) (c.args.toList.map a.eval) (c.args.toList.map s.ev) := by
    rw [hcxR]
    generalize c.args.toList = l
    induction l with
    | nil => trivial
    | cons x l ih => exact ⟨hr.ev x, ih⟩
  have hr0 : RelS cxR σ ⟨tmO, s.ob, nt, s.tm :: tmO :: gh, none⟩ { tmps := S, defers := [] } w := by
    subst hcxR
    exact ⟨hr.h.sw2 (Nat.le_refl _) ⟨⟨e1, e2, e3⟩, hm2'⟩, hG.1, hSn, ⟨hr.tm, hG⟩, [], rfl, List.nodup_nil, fun D hD => by simp at hD⟩
  have hr1 := RelS.puts ps.toList _ _ _ _ hr0 hvals
  have hfold : (ps.zip (c.args.map a.eval)).foldl (fun tmps (x : Tmp × Value) => tmps.setIfInBounds x.1 x.2) S = (ps.toList.zip (c.args.toList.map a.eval)).foldl (fun tmps (x : Tmp × Value) => tmps.setIfInBounds x.1 x.2) S := by
    rw [← Array.foldl_toList, Array.toList_zip]
    simp
  have hw0 := hAW σ _ w hr1
  rw [← hfold] at hw0
  refine wpIn_mono hw0 ?_
  rintro e a1 w1 ⟨σ1, s1, hs1, hq1⟩
  cases e with
  | normal =>
    obtain ⟨hls1, hq1⟩ := hq1
    have hx := hs1.h.ext
    rw [hcxR] at hx
    obtain ⟨⟨f1, f2, f3⟩, f4⟩ := hx
    rw [hls1] at f2
    refine ⟨_, run_beginRound f2 rfl, ?_⟩
    have hlw : l < w1.heap.size := (Array.getElem?_eq_some_iff.1 f2).1
    have hs2 : RelS cxR σ1 { s1 with ls := some .skip } a1 (w1.putObj l (.loop { recR fn S ps assign body D none with state := .busy })) := by
      have hE : cxR.E (some .skip) (w1.putObj l (.loop { recR fn S ps assign body D none with state := .busy })) := by
        rw [hcxR]
        exact ⟨⟨cx.hM _ _ _ _ hlo f1, World.putObj_heap_same hlw, f3.putL f2 fun d e => by simp at e⟩, f4.putL f2 fun d e => by simp at e⟩
      have hge : cxR.w0.heap.size ≤ l := by rw [hcxR]; exact Nat.le_trans cx.hm hlo
      have hdm : Marks cxR a1.defers (w1.putObj l (.loop { recR fn S ps assign body D none with state := .busy })) := MarksB.of ((Marks.toB hs1.dm).putL f2 fun d e => by simp at e)
      exact hs1.putObj f2 (fun c t fr e => by simp at e) hge hE hdm
    refine wpIn_mono (hq1 σ1 a1 _ hs2) ?_
    rintro e a2 w2 ⟨σ2, s2, hs3, hq2⟩
    have hx := hs3.h.ext
    rw [hcxR] at hx
    obtain ⟨⟨g1, g2, g3⟩, g4⟩ := hx
    have hlw2 : l < w2.heap.size := (Array.getElem?_eq_some_iff.1 g2).1
    -- back in the frame of the function that is ranged over
    have fin : ∀ j : Option Code, jumpOf e = some j → ∃ v w', (Instr.endRound l j).run P w2 = .ok v w' ∧ (fun (e : Ending) (w'' : World) => match e with
        | .returned v => next (a.put o.dst v) w''
        | .panicked chain => Q (.panic chain) a w''
        | .outgrown => LetsOut Q) (.returned v) w' := by
      intro j hj
      simp only [roundQ, hj] at hq2
      obtain ⟨tmI, gh', hgh', hk⟩ := hq2
      refine ⟨_, _, run_endRound j g2, ?_⟩
      have hloop : ({ recR fn S ps assign body D s2.ls with state := if j.isNone then .ready else .done, pending := j } : Loop) = recI fn S ps assign body D j := rfl
      rw [hloop]
      refine hn σ2 _ _ _ hk ?_
      have hT : RelH (cx.sw [] cx.m (fun _ _ => True) (Nat.le_refl _) ⟨fun _ _ _ _ _ _ => trivial, fun _ _ _ _ _ => trivial⟩) w2 σ2 s2.ob none := by
        have := hs3.h
        rw [hcxR] at this
        exact this.sw2 (Nat.le_trans hm2 (by have := hs3.h.msize; rw [hcxR] at this; exact this)) trivial
      obtain ⟨k1, k2, k3⟩ := hT.putObj (ls' := none) (o' := .loop (recI fn S ps assign body D j)) g2 (fun c t fr e => by simp at e) (Nat.le_trans cx.hm hlo) trivial
      have hG3 := hs3.gh
      rw [hgh', hcxR] at hG3
      have hbase : RelS (cx.sw (S :: cx.G) m (EI cx ls0 l m (recI fn S ps assign body D) ds) hm (EI.ok hl hm)) σ2 ⟨tmI, s2.ob, s.nt, gh', j⟩ a (w2.putObj l (.loop (recI fn S ps assign body D j))) := by
        refine ⟨k1.sw2 ?_ ⟨cx.hM _ _ _ _ hlo g1, World.putObj_heap_same hlw2, g3.putL g2 fun d e => by simp at e⟩, RelT.putX k2 k3 hG3.1, hr.nt, ?_, ?_⟩
        · have := hs3.h.msize
          rw [hcxR] at this
          have h5 : w.heap.size ≤ w2.heap.size := this
          simp [World.putObj]
          omega
        · exact hG3.2.mono fun S tm _ hS => RelT.putX k2 k3 hS
        · exact MarksB.of (cx := cx.sw (S :: cx.G) m (EI cx ls0 l m (recI fn S ps assign body D) ds) hm (EI.ok hl hm)) (g4.putL g2 fun d e => by simp at e)
      exact hbase.put o.dst ⟨rfl, rfl⟩
    cases e with
    | normal => exact fin none rfl
    | ret => exact fin (some .ret) rfl
    | exit id => exact fin (some (.exit id)) rfl
    | goto t => exact fin (some (.goto t)) rfl
    | panic ch => exact hq2.elim
    | outgrown => exact hq2.elim
  | ret => exact hq1.elim
  | exit id => exact hq1.elim
  | goto t => exact hq1.elim
  | panic ch => exact hq1.elim
  | outgrown => exact hq1.elim
end
end Go.Proofs.Ytlkhfdccapkcdaa
