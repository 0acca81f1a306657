/- Calls with own objects; slices.overlaps. -/
import Derived.Test.YtlkhfdccapkcdaaA28
import Derived.Laws.Rows
namespace Go.Proofs.Ytlkhfdccapkcdaa
open Go Go.RowKit
set_option linter.unusedVariables false
set_option linter.unusedSimpArgs false

theorem inv_nil (o : Nat) : inv [] o = none := by simp [inv]
theorem inv_cons (a o : Nat) (r : List (Option Nat)) : inv (some a :: r) o = if a = o then some 0 else (inv r o).map (· + 1) := by
  unfold inv
  rw [List.findIdx?_cons]
  by_cases h : a = o
  · subst h; simp
  · simp [h]
section
variable {P : Program} {tm : Tm} {ob : List (Option Ob)} {nt : Nat} {gh : List Tm} {ls : Option Code}
@[simp] theorem keptR_mk (ids : List Nat) (o : Nat) : keptR ⟨tm, ob, nt, gh, ls⟩ ids o = if (ids.contains o && ((ob[o]?).bind id).any (·.row)) = true then none else some o := rfl
theorem after_mk (ids : List Nat) (obs' : List (Option Ob)) : St.after ⟨tm, ob, nt, gh, ls⟩ ids obs' = ⟨tm.ren (keptR ⟨tm, ob, nt, gh, ls⟩ ids), obAfter ⟨tm, ob, nt, gh, ls⟩ ids obs', nt, gh.map (Tm.ren (keptR ⟨tm, ob, nt, gh, ls⟩ ids)), ls⟩ := rfl
theorem obAfter_mk (ids : List Nat) (obs' : List (Option Ob)) : obAfter ⟨tm, ob, nt, gh, ls⟩ ids obs' = (ob.mapIdx fun o x => match inv (ids.map some) o with
    | some i => ((obs'[i]?).bind id).map (Ob.ren (outR ids ob.length))
    | none => x.map (Ob.ren (keptR ⟨tm, ob, nt, gh, ls⟩ ids))) ++ (obs'.drop ids.length).map (Option.map (Ob.ren (outR ids ob.length))) := rfl
@[simp] theorem outR_eq (ids : List Nat) (L j : Nat) : outR ids L j = if j < ids.length then ids[j]? else some (L + (j - ids.length)) := rfl
end
section
variable {P : Program} {f : Nat} {avs cargs : List AV} {st : St} {dst : Option Nat} {K : St → Prop} {res : AV} {obs : List Ob} {obs' : List (Option Ob)}
/-- A call with which objects ids go; what is handed over, and what comes back, is rows alone. -/
theorem xcall_rows (ids : List Nat) (he : Enters P f) (hs : Sound P f cargs obs res obs') (hnd : ids.Nodup) (hob : pickOb (ids.map some) st.ob = obs.map some) (hrow : obs.all (·.row) = true) (hrow' : obs'.all (fun x => match x with | some y => y.row | none => true) = true)
    (hna : res.na = true) (hona : obs'.all (fun x => match x with | some x => x.na | none => true) = true) (hlen : ids.length ≤ obs'.length) (hv : All2 (Vw st ids) avs cargs)
    (hk : K ((st.after ids obs').put dst (res.ren (outR ids st.ob.length)))) : xcall P f avs st dst K := by
  have key : ∀ i o : Nat, ids[i]? = some o → ∃ z, st.ob[o]? = some (some z) ∧ z.row = true := by
    intro i o hi
    have h1 : (pickOb (ids.map some) st.ob)[i]? = (obs.map some)[i]? := by rw [hob]
    have hl : ids.length = obs.length := by have := congrArg List.length hob; simpa [pickOb] using this
    have hlt := (List.getElem?_eq_some_iff.1 hi).1
    have h2 : obs[i]? = some obs[i] := List.getElem?_eq_getElem (by omega)
    rw [List.getElem?_map, h2] at h1
    obtain ⟨o', y, g1, g2, g3⟩ := pickOb_get h1
    rw [List.getElem?_map, hi] at g1
    simp at g1
    subst g1
    refine ⟨y, g2, ?_⟩
    have h3 := List.all_eq_true.1 hrow _ (List.mem_of_getElem? h2)
    rw [g3] at h3
    exact h3
  have hobj : ∀ o z, st.ob[o]? = some (some z) → st.obj o = some z := by
    intro o z h
    simp [St.obj, h]
  refine .inl ⟨ids, obs, obs', res, cargs, he, hs, ⟨hnd, ?_, hob, ?_, ?_, hna, hona, hlen⟩, hv, hk⟩
  · intro o ho
    obtain ⟨i, hi⟩ := List.getElem?_of_mem ho
    obtain ⟨z, hz, _⟩ := key i o hi
    exact (List.getElem?_eq_some_iff.1 hz).1
  · intro i o z hi hz hr
    obtain ⟨z', hz', hr'⟩ := key i o hi
    rw [hobj o z' hz'] at hz
    simp at hz
    subst hz
    rw [hr'] at hr
    simp at hr
  · intro i o z y hi hz hy
    obtain ⟨z', hz', hr'⟩ := key i o hi
    rw [hobj o z' hz'] at hz
    simp at hz
    subst hz
    have := List.all_eq_true.1 hrow' _ (List.mem_of_getElem? hy)
    simp only at this
    rw [this, hr']
theorem run_overlaps_nil {w : World} {t tb e : Nat} {ti : TI} (he : elemF P t = some e) (hti : tiF P e = some ti) (a b : Option Addr) (la ca lb cb : Nat) (h : a = none ∨ b = none) :
    (Extern.SlicesOverlaps.overlaps #[t, t] #[tb] #[.slice a la ca, .slice b lb cb]).run P w = .ok (.bool false) w := by
  rcases a with _ | a
  · change Sem.run P (α := Value) (do
      let some t := (#[t, t] : Array TypeId)[0]? | stuck "slices.overlaps: no parameter types"
      let .slice elem ← underlying t | stuck "slices.overlaps: slice type expected"
      let size ← sizeOf elem
      pure (Value.bool false)) w = _
    simp [run_underlying (elemF_some he), run_sizeOf' hti]
  · rcases b with _ | b
    · change Sem.run P (α := Value) (do
        let some t := (#[t, t] : Array TypeId)[0]? | stuck "slices.overlaps: no parameter types"
        let .slice elem ← underlying t | stuck "slices.overlaps: slice type expected"
        let size ← sizeOf elem
        pure (Value.bool false)) w = _
      simp [run_underlying (elemF_some he), run_sizeOf' hti]
    · simp at h
/-- slices.overlaps of two rows that are two objects. -/
theorem xcall_overlaps {fn : Func} {t tb e o1 o2 lo1 hi1 lo2 hi2 : Nat} {ti : TI} {z1 z2 : Ob} (hf : P.funcs[f]? = some fn) (hname : (fn.name == "runtime.NumGoroutine") = false) (hb : fn.body.isNone = true) (hn : Extern.findNext fn = none)
    (hfe : Extern.find fn = some (Extern.SlicesOverlaps.overlaps #[t, t] #[tb])) (he : elemF P t = some e) (hti : tiF P e = some ti) (h1 : st.obj o1 = some z1) (h2 : st.obj o2 = some z2) (hne : o1 ≠ o2) (hcs : z2.cs ≠ [])
    (hk : K (st.put dst (.l (.s (.bool false))))) {sz1 sz2 : Nat} : xcall P f [.l (.r o1 sz1 lo1 hi1), .l (.r o2 sz2 lo2 hi2)] st dst K := by
  refine .inr ⟨.bool false, rfl, fun cx σ ac w vs hr hv => ?_, hk⟩
  match vs, hv with
  | [x, y], hv =>
    obtain ⟨hx, hy, _⟩ := hv
    rw [run_callFunc_extern hf hname hb hn hfe]
    have hO1 := hr.h.obs o1 z1 (obj_some h1)
    have hO2 := hr.h.obs o2 z2 (obj_some h2)
    have fin : ∀ r : Result Value, r = .ok (.bool false) w → (r.andThen fun v w' => Result.ok (Next.value v) w') = .ok (.value (.bool false)) w := by
      rintro r rfl; rfl
    rcases hx with ⟨hb1, rfl, rfl, rfl⟩ | ⟨b1, k1, off1, hb1, g1, g2, rfl, g3⟩
    · rcases hy with ⟨hb2, rfl, rfl, rfl⟩ | ⟨b2, k2, off2, hb2, f1, f2, rfl, f3⟩
      · exact fin _ (run_overlaps_nil he hti _ _ _ _ _ _ (.inl rfl))
      · exact fin _ (run_overlaps_nil he hti _ _ _ _ _ _ (.inl rfl))
    · rcases hy with ⟨hb2, rfl, rfl, rfl⟩ | ⟨b2, k2, off2, hb2, f1, f2, rfl, f3⟩
      · exact fin _ (run_overlaps_nil he hti _ _ _ _ _ _ (.inr rfl))
      · have hbb : b1 ≠ b2 := by
          rintro rfl
          exact hne (hr.h.inj o1 o2 z1 z2 b1 k1 k2 (obj_some h1) (obj_some h2) hb1 hb2)
        rw [hb1] at hO1
        rw [hb2] at hO2
        obtain ⟨vs1, rest1, c1, _⟩ := hO1
        obtain ⟨vs2, rest2, c2, c3, _⟩ := hO2
        have hl2 := c3.length
        have hpos : 0 < z2.cs.length := List.length_pos_iff.2 hcs
        have := Lib.run_overlaps_apart (P := P) w t tb e (elemF_some he) ti.sz (fun w => run_sizeOf' hti) ⟨b1, off1, none⟩ ⟨b2, off2, none⟩ (hi1 - lo1) (k1 - lo1) (hi2 - lo2) (k2 - lo2) hbb z1.ty z2.ty (kA := (vs1 ++ rest1).toArray.size) (kB := (vs2 ++ rest2).toArray.size) (by simp [World.shape?, c1]) (by simp [World.shape?, c2])
          (by simp only [List.size_toArray, List.length_append]; omega) (frozen_of_row w b1 off1 _ _ c1) (frozen_of_row w b1 _ _ _ c1)
        exact fin _ this
  | [], hv => exact hv.elim
  | [_], hv => exact hv.2.elim
  | _ :: _ :: _ :: _, hv => exact hv.2.2.elim
end
end Go.Proofs.Ytlkhfdccapkcdaa
