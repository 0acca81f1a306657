/- What a state may forget; contracts of functions; a function's contract out of its body. -/
import Derived.Test.YtlkhfdccapkcdaaA11
namespace Go.Proofs.Ytlkhfdccapkcdaa
open Go Go.RowKit
set_option linter.unusedVariables false
set_option linter.unusedSimpArgs false

/-- Which new number an object has, if objects `ids` are kept, in that order. -/
def inv (ids : List (Option Nat)) : Ren := fun o => ids.findIdx? fun x => x == some o
theorem inv_some {ids : List (Option Nat)} {o i : Nat} (h : inv ids o = some i) : ids[i]? = some (some o) := by
  unfold inv at h
  obtain ⟨hlt, hp, _⟩ := List.findIdx?_eq_some_iff_getElem.1 h
  rw [List.getElem?_eq_getElem hlt]
  simpa using hp
def sel (ids : List (Option Nat)) (σ : Nat → Hd) : Nat → Hd := fun i => match ids[i]? with | some (some o) => σ o | _ => none
def pickOb (ids : List (Option Nat)) (ob : List (Option Ob)) : List (Option Ob) := ids.map fun oo => oo.bind fun o => ((ob[o]?).bind id).map (Ob.ren (inv ids))
theorem pickOb_get {ids : List (Option Nat)} {ob : List (Option Ob)} {i : Nat} {x : Ob} (h : (pickOb ids ob)[i]? = some (some x)) : ∃ o y, ids[i]? = some (some o) ∧ ob[o]? = some (some y) ∧ x = y.ren (inv ids) := by
  unfold pickOb at h
  rw [List.getElem?_map] at h
  obtain ⟨oo, h1, h2⟩ := Option.map_eq_some_iff.1 h
  obtain ⟨o, rfl, h3⟩ := Option.bind_eq_some_iff.1 h2
  obtain ⟨y, h4, h5⟩ := Option.map_eq_some_iff.1 h3
  obtain ⟨z, h6, h7⟩ := Option.bind_eq_some_iff.1 h4
  simp at h7
  subst h7
  exact ⟨o, y, h1, h6, h5.symm⟩
theorem Weak.ren {cx : Cx} {st : St} (ids : List (Option Nat)) (tm' : Tm) (hnd : ∀ (i j o : Nat), ids[i]? = some (some o) → ids[j]? = some (some o) → i = j) (hnl : cx.nb ≤ ids.length)
    (hnb : ∀ i o, i < cx.nb → ids[i]? = some (some o) → o = i) (htm : ∀ i, lk tm' i = (lk st.tm i).ren (inv ids) ∨ lk tm' i = .l .u) :
    Weak cx st { st with tm := tm', ob := pickOb ids st.ob, gh := st.gh.map (Tm.ren (inv ids)) } := by
  intro σ a w h
  have hs : Step σ st.ob w (sel ids σ) (pickOb ids st.ob) w (inv ids) := by
    refine ⟨Evo.refl _ _ _, fun o i hh e ho => ?_, ?_⟩
    · rw [sel, inv_some e]; exact ho
    · rintro b ⟨i, x, k, hi, hb⟩
      obtain ⟨o, y, h1, h2, _⟩ := pickOb_get hi
      rw [sel, h1] at hb
      exact .inl ⟨o, y, k, h2, hb⟩
  have hH : RelH cx w (sel ids σ) (pickOb ids st.ob) st.ls := by
    refine hs.relH h.h ?_ ?_ ?_ (by simp [pickOb]; exact hnl) ?_
    · intro i x hi
      obtain ⟨o, y, h1, h2, rfl⟩ := pickOb_get hi
      rw [show sel ids σ i = σ o by rw [sel, h1]]
      exact hs.relO (cx := cx) (fun _ _ _ => rfl) (h.h.obs o y h2)
    · intro i j x x' b k k' hi hj hb hb'
      obtain ⟨o, y, h1, h2, _⟩ := pickOb_get hi
      obtain ⟨o', y', h1', h2', _⟩ := pickOb_get hj
      rw [sel, h1] at hb
      rw [sel, h1'] at hb'
      have := h.h.inj o o' y y' b k k' h2 h2' hb hb'
      subst this
      exact hnd i j o h1 h1'
    · intro i hi
      have : ids[i]? = none := List.getElem?_eq_none (by simpa [pickOb] using hi)
      rw [sel, this]
    · intro i x hi hrow hlt
      obtain ⟨o, y, h1, h2, rfl⟩ := pickOb_get hi
      have := hnb i o hlt h1
      subst this
      rw [show sel ids σ o = σ o by rw [sel, h1]]
      exact h.h.box o y h2 hrow hlt
  refine ⟨sel ids σ, hH, fun i => ?_, h.nt, hs.gh h.gh, h.dm.step hs h.h⟩
  rcases htm i with e | e
  · show RelV _ _ _ _ _ (lk tm' i)
    rw [e]
    exact hs.relV (h.tm i)
  · show RelV _ _ _ _ _ (lk tm' i)
    rw [e]; trivial
/-- Temporaries are forgotten. -/
theorem Weak.tm {cx : Cx} {st : St} (tm' : Tm) (htm : ∀ i, lk tm' i = lk st.tm i ∨ lk tm' i = .l .u) : Weak cx st { st with tm := tm' } := by
  intro σ a w h
  refine ⟨σ, h.h, fun i => ?_, h.nt, h.gh, h.dm⟩
  rcases htm i with e | e
  · show RelV _ _ _ _ _ (lk tm' i)
    rw [e]; exact h.tm i
  · show RelV _ _ _ _ _ (lk tm' i)
    rw [e]; trivial
/-- One temporary is seen otherwise. -/
theorem Weak.set {cx : Cx} {st : St} (i : Nat) (x : AV) (h : ∀ σ w v, RelH cx w σ st.ob st.ls → RelV w (Xd cx w σ st.ob) (Xe w σ st.ob) σ v (lk st.tm i) → RelV w (Xd cx w σ st.ob) (Xe w σ st.ob) σ v x) :
    Weak cx st { st with tm := (i, x) :: st.tm } := by
  intro σ a w hr
  refine ⟨σ, hr.h, fun j => ?_, hr.nt, hr.gh, hr.dm⟩
  show RelV _ _ _ _ _ (lk ((i, x) :: st.tm) j)
  rw [lk_cons]
  split
  · rename_i e
    subst e
    exact h σ w _ hr.h (hr.tm j)
  · exact hr.tm j

/-! ### Contracts -/
def cx0 (w : World) (σ : Nat → Hd) (n : Nat) (ob : List (Option Ob)) (Z : Nat → Prop) (hZ : ∀ b, Z b → b < w.heap.size ∧ ¬ lvb σ ob b) : Cx :=
  { w0 := w, own := lvb σ ob, Z := Z, G := [], E := fun _ _ => True, nb := n, σ0 := σ, zlt := hZ, m := w.heap.size, hm := Nat.le_refl _, hM := fun _ _ _ _ _ _ => trivial, hE := fun _ _ _ _ _ => trivial }
/-- Function f, called with values that read as `args` (over objects `obs` that are handed over), returns one that reads as `res`; what was handed over, and what is handed back besides, is `obs'`; nothing else turns. -/
def Sound (P : Program) (f : Nat) (args : List AV) (obs : List Ob) (res : AV) (obs' : List (Option Ob)) : Prop :=
  ∀ (Z : Nat → Prop) (w : World) (σ : Nat → Hd) (vs : List Value) (hZ : ∀ b, Z b → b < w.heap.size ∧ ¬ lvb σ (obs.map some) b),
    RelH (cx0 w σ obs.length (obs.map some) Z hZ) w σ (obs.map some) none →
    All2 (RelV w (Xd (cx0 w σ obs.length (obs.map some) Z hZ) w σ (obs.map some)) (Xe w σ (obs.map some)) σ) vs args →
    Calls P f vs.toArray w fun e w' => ∃ v σ', e = .returned v ∧ RelH (cx0 w σ obs.length (obs.map some) Z hZ) w' σ' obs' none ∧
      RelV w' (Xd (cx0 w σ obs.length (obs.map some) Z hZ) w' σ' obs') (Xe w' σ' obs') σ' v res

/-- What a frame's result variables hold. -/
def resC (P : Program) (st : St) : ResultVar → Option AV
  | .tmp t => some (lk st.tm t)
  | .cell a t =>
    match tiF P t, st.at (lk st.tm a) with
    | some ti, some (cs, off) => ldX ti cs off
    | _, _ => none
def comp : AV → Option (Bool × List LV)
  | .l x => some (false, [x])
  | .g cs => some (true, cs)
  | .t _ => none
def resV (P : Program) (st : St) : List ResultVar → Option AV
  | [r] => resC P st r
  | rs => (rs.mapM fun r => (resC P st r).bind comp).map .t
def initTm : Nat → List AV → Tm
  | _, [] => []
  | i, x :: xs => (i, x) :: initTm (i + 1) xs
theorem lk_init : ∀ (xs : List AV) (i j : Nat), lk (initTm i xs) (i + j) = (xs[j]?).getD (.l .u)
  | [], i, j => by simp [initTm, lk]
  | x :: xs, i, 0 => by simp [initTm, lk_cons]
  | x :: xs, i, j + 1 => by
    rw [initTm, lk_cons, if_neg (by omega), show i + (j + 1) = i + 1 + j by omega, lk_init xs (i + 1) j]
    simp
def st0 (args : List AV) (obs : List Ob) (nt : Nat) : St := { tm := initTm 0 args, ob := obs.map some, nt := nt }

def rdRes (tmps : Array Value) : ResultVar → Sem Value
  | .tmp t => pure (tmps.getD t undef)
  | .cell a t => do loadVar t (← asAddr (tmps.getD a undef))
theorem results_eq (fn : Func) (tmps : Array Value) : results fn tmps = (fn.results.mapM (rdRes tmps) >>= fun vs => pure (if h : vs.size = 1 then vs[0] else Value.tuple vs)) := by
  rfl
section
variable {P : Program} {cx : Cx} {σ : Nat → Hd} {st : St} {a : Act} {w : World}
theorem RelS.resC (h : RelS cx σ st a w) {r : ResultVar} {av : AV} (hr : Go.Proofs.Ytlkhfdccapkcdaa.resC P st r = some av) :
    ∃ v, (rdRes a.tmps r).run P w = .ok v w ∧ RelV w (Xd cx w σ st.ob) (Xe w σ st.ob) σ v av := by
  cases r with
  | tmp t =>
    simp [Go.Proofs.Ytlkhfdccapkcdaa.resC] at hr
    subst hr
    exact ⟨_, rfl, h.tm t⟩
  | cell ad t =>
    unfold Go.Proofs.Ytlkhfdccapkcdaa.resC at hr
    simp only at hr
    split at hr
    · rename_i ti cs off hti hat
      obtain ⟨ad', u, he, hl, hrel⟩ := h.load (h.tm ad) hti hat hr
      refine ⟨u, ?_, hrel⟩
      simp [rdRes, he, asAddr, hl]
    · simp at hr
theorem comp_rel {X Xa : Nat → Prop} {v : Value} {x : AV} {c : Bool × List LV} (h : RelV w X Xa σ v x) (hc : comp x = some c) : RelC w X Xa σ v c := by
  cases x with
  | l x => simp [comp] at hc; subst hc; exact ⟨x, rfl, h⟩
  | g cs => simp [comp] at hc; subst hc; exact h
  | t xs => simp [comp] at hc
theorem RelS.resL (h : RelS cx σ st a w) : ∀ (rs : List ResultVar) (xs : List (Bool × List LV)), (rs.mapM fun r => (Go.Proofs.Ytlkhfdccapkcdaa.resC P st r).bind comp) = some xs →
    ∃ vs, (rs.mapM (rdRes a.tmps)).run P w = .ok vs w ∧ All2 (RelC w (Xd cx w σ st.ob) (Xe w σ st.ob) σ) vs xs
  | [], xs, hx => by simp at hx; subst hx; exact ⟨[], rfl, trivial⟩
  | r :: rs, xs, hx => by
    rw [List.mapM_cons] at hx
    cases hc : (Go.Proofs.Ytlkhfdccapkcdaa.resC P st r).bind comp with
    | none => rw [hc] at hx; simp at hx
    | some c =>
      cases hr : (rs.mapM fun r => (Go.Proofs.Ytlkhfdccapkcdaa.resC P st r).bind comp) with
      | none => rw [hc, hr] at hx; simp at hx
      | some cs =>
        rw [hc, hr] at hx
        simp at hx
        subst hx
        obtain ⟨av, h1, h2⟩ := Option.bind_eq_some_iff.1 hc
        obtain ⟨v, hv, hrel⟩ := h.resC h1
        obtain ⟨vs, hvs, hrels⟩ := h.resL rs cs hr
        refine ⟨v :: vs, ?_, comp_rel hrel h2, hrels⟩
        simp only [List.mapM_cons, Sem.run_bind, hv, Result.andThen_ok, hvs, Sem.run_pure]
theorem RelS.results (h : RelS cx σ st a w) {fn : Func} {av : AV} (hr : resV P st fn.results.toList = some av) :
    ∃ v, (results fn a.tmps).run P w = .ok v w ∧ RelV w (Xd cx w σ st.ob) (Xe w σ st.ob) σ v av := by
  have hmap : ∀ vs, (fn.results.toList.mapM (rdRes a.tmps)).run P w = .ok vs w →
      (fn.results.mapM (rdRes a.tmps)).run P w = .ok vs.toArray w := by
    intro vs hvs
    rw [Array.mapM_eq_mapM_toList]
    simp [hvs]
  unfold resV at hr
  split at hr
  · rename_i r hl
    obtain ⟨v, hv, hrel⟩ := h.resC hr
    refine ⟨v, ?_, hrel⟩
    have := hmap [v] (by rw [hl]; simp only [List.mapM_cons, List.mapM_nil, Sem.run_bind, hv, Result.andThen_ok, Sem.run_pure])
    rw [results_eq]
    simp only [Sem.run_bind, this, Result.andThen_ok]
    simp
  · rename_i hn
    obtain ⟨xs, hx, rfl⟩ := Option.map_eq_some_iff.1 hr
    obtain ⟨vs, hvs, hrels⟩ := h.resL _ xs hx
    refine ⟨.tuple vs.toArray, ?_, vs, rfl, hrels⟩
    have := hmap vs hvs
    rw [results_eq]
    simp only [Sem.run_bind, this, Result.andThen_ok]
    have hsz : vs.length ≠ 1 := by
      intro e
      have h1 := hrels.length
      have h2 : xs.length = fn.results.toList.length := by
        have key : ∀ (l : List ResultVar) (ys : List (Bool × List LV)), (l.mapM fun r => (Go.Proofs.Ytlkhfdccapkcdaa.resC P st r).bind comp) = some ys → ys.length = l.length := by
          intro l
          induction l with
          | nil => intro ys h; simp at h; subst h; rfl
          | cons r l ih =>
            intro ys h
            rw [List.mapM_cons] at h
            cases hc : (Go.Proofs.Ytlkhfdccapkcdaa.resC P st r).bind comp with
            | none => rw [hc] at h; simp at h
            | some c =>
              cases hr : (l.mapM fun r => (Go.Proofs.Ytlkhfdccapkcdaa.resC P st r).bind comp) with
              | none => rw [hc, hr] at h; simp at h
              | some cs => rw [hc, hr] at h; simp at h; subst h; simp [ih cs hr]
        exact key _ _ hx
      have h3 : fn.results.toList.length = 1 := by omega
      obtain ⟨r, hr1⟩ := List.length_eq_one_iff.1 h3
      exact hn r hr1
    simp [hsz]
end
end Go.Proofs.Ytlkhfdccapkcdaa
