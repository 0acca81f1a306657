/- A call by its contract (2): the state behind it. -/
import Derived.Test.YtlkhfdccapkcdaaA14
namespace Go.Proofs.Ytlkhfdccapkcdaa
open Go Go.RowKit
set_option linter.unusedVariables false
set_option linter.unusedSimpArgs false

/-- Where an object goes that comes back from a call. -/
def outR (ids : List Nat) (L : Nat) : Ren := fun j => if j < ids.length then ids[j]? else some (L + (j - ids.length))
/-- What keeps its name: rows that were handed over may have moved. -/
def keptR (st : St) (ids : List Nat) : Ren := fun o => if (ids.contains o && (st.obj o).any (·.row)) = true then none else some o
def obAfter (st : St) (ids : List Nat) (obs' : List (Option Ob)) : List (Option Ob) :=
  (st.ob.mapIdx fun o x => match inv (ids.map some) o with
    | some i => ((obs'[i]?).bind id).map (Ob.ren (outR ids st.ob.length))
    | none => x.map (Ob.ren (keptR st ids))) ++ (obs'.drop ids.length).map (Option.map (Ob.ren (outR ids st.ob.length)))
def St.after (st : St) (ids : List Nat) (obs' : List (Option Ob)) : St :=
  { st with tm := st.tm.ren (keptR st ids), ob := obAfter st ids obs', gh := st.gh.map (Tm.ren (keptR st ids)) }
def σAfter (σ σc : Nat → Hd) (ids : List Nat) (L : Nat) : Nat → Hd := fun o =>
  if o < L then (match inv (ids.map some) o with | some i => σc i | none => σ o) else σc (ids.length + (o - L))

section
variable {P : Program} {cx : Cx} {st : St} {σ : Nat → Hd} {a : Act} {w : World}
theorem inv_ids {ids : List Nat} {o i : Nat} (h : inv (ids.map some) o = some i) : ids[i]? = some o := by
  have := inv_some h
  rw [List.getElem?_map] at this
  cases he : ids[i]? with
  | none => rw [he] at this; simp at this
  | some x => rw [he] at this; simp at this; rw [this]
theorem inv_none {ids : List Nat} {o : Nat} (h : inv (ids.map some) o = none) : o ∉ ids := by
  unfold inv at h
  rw [List.findIdx?_eq_none_iff] at h
  intro hm
  have := h (some o) (by simpa using hm)
  simp at this
theorem obAfter_get {ids : List Nat} {obs' : List (Option Ob)} {o : Nat} {x : Ob} (h : (obAfter st ids obs')[o]? = some (some x)) :
    (o < st.ob.length ∧ ∃ i y, inv (ids.map some) o = some i ∧ obs'[i]? = some (some y) ∧ x = y.ren (outR ids st.ob.length)) ∨
    (o < st.ob.length ∧ inv (ids.map some) o = none ∧ ∃ y, st.ob[o]? = some (some y) ∧ x = y.ren (keptR st ids)) ∨
    (st.ob.length ≤ o ∧ ∃ y, obs'[ids.length + (o - st.ob.length)]? = some (some y) ∧ x = y.ren (outR ids st.ob.length)) := by
  unfold obAfter at h
  rcases Nat.lt_or_ge o st.ob.length with hlt | hge
  · rw [List.getElem?_append_left (by simpa using hlt), List.getElem?_mapIdx] at h
    obtain ⟨x', hx', h⟩ := Option.map_eq_some_iff.1 h
    cases hi : inv (ids.map some) o with
    | some i =>
      rw [hi] at h
      simp only at h
      obtain ⟨y, hy, rfl⟩ := Option.map_eq_some_iff.1 h
      obtain ⟨z, hz, hzy⟩ := Option.bind_eq_some_iff.1 hy
      simp at hzy
      subst hzy
      exact .inl ⟨hlt, i, y, rfl, hz, rfl⟩
    | none =>
      rw [hi] at h
      simp only at h
      obtain ⟨y, hy, rfl⟩ := Option.map_eq_some_iff.1 h
      subst hy
      exact .inr (.inl ⟨hlt, rfl, y, hx', rfl⟩)
  · rw [List.getElem?_append_right (by simpa using hge)] at h
    simp only [List.length_mapIdx, List.getElem?_map, List.getElem?_drop] at h
    obtain ⟨y, hy, h⟩ := Option.map_eq_some_iff.1 h
    obtain ⟨z, rfl, rfl⟩ := Option.map_eq_some_iff.1 h
    exact .inr (.inr ⟨hge, z, hy, rfl⟩)

/-- The state behind a call. -/
theorem RelS.after {ids : List Nat} {obs : List Ob} {obs' : List (Option Ob)} {res : AV} (h : RelS cx σ st a w) (hnd : ids.Nodup) (hids : ∀ i ∈ ids, i < st.ob.length) (hobs : pickOb (ids.map some) st.ob = obs.map some)
    (hbox : ∀ (i o : Nat) (z : Ob), ids[i]? = some o → st.obj o = some z → z.row = false → ∃ y, obs'[i]? = some (some y) ∧ y.row = false) (hrow : ∀ (i o : Nat) (z : Ob) (y : Ob), ids[i]? = some o → st.obj o = some z → obs'[i]? = some (some y) → y.row = z.row)
    (hna : res.na = true) (hona : obs'.all (fun x => match x with | some x => x.na | none => true) = true) (hlen : ids.length ≤ obs'.length)
    (hZ : ∀ b, Zc cx σ st.ob ids b → b < w.heap.size ∧ ¬ lvb (sel (ids.map some) σ) (obs.map some) b) {σc : Nat → Hd} {w' : World} {v : Value}
    (hc : RelH (cx0 w (sel (ids.map some) σ) obs.length (obs.map some) (Zc cx σ st.ob ids) hZ) w' σc obs' none)
    (hv : RelV w' (Xd (cx0 w (sel (ids.map some) σ) obs.length (obs.map some) (Zc cx σ st.ob ids) hZ) w' σc obs') (Xe w' σc obs') σc v res) :
    RelS cx (σAfter σ σc ids st.ob.length) (st.after ids obs') a w' ∧
      RelV w' (Xd cx w' (σAfter σ σc ids st.ob.length) (obAfter st ids obs')) (Xe w' (σAfter σ σc ids st.ob.length) (obAfter st ids obs')) (σAfter σ σc ids st.ob.length) v (res.ren (outR ids st.ob.length)) := by
  have hml : obs.length = ids.length := by have := congrArg List.length hobs; simp [pickOb] at this; exact this.symm
  have hsub : ∀ b, lvb (sel (ids.map some) σ) (obs.map some) b → lvb σ st.ob b := fun b hb => by
    rw [← hobs] at hb
    obtain ⟨o, y, k, _, h2, h3⟩ := lvb_sel hb
    exact ⟨o, y, k, h2, h3⟩
  -- the frame of the callee
  have hsame : ∀ b, b < w.heap.size → ¬ lvb σ st.ob b → w'.heap[b]? = w.heap[b]? := fun b hb hn => hc.frame b hb fun hl => hn (hsub b hl)
  have hσi : ∀ o i, o < st.ob.length → inv (ids.map some) o = some i → σAfter σ σc ids st.ob.length o = σc i := fun o i ho hi => by simp [σAfter, ho, hi]
  have hσn : ∀ o, o < st.ob.length → inv (ids.map some) o = none → σAfter σ σc ids st.ob.length o = σ o := fun o ho hi => by simp [σAfter, ho, hi]
  have hσx : ∀ j, ids.length ≤ j → σAfter σ σc ids st.ob.length (st.ob.length + (j - ids.length)) = σc j := fun j hj => by
    have : ¬ st.ob.length + (j - ids.length) < st.ob.length := by omega
    simp only [σAfter, this, if_false]
    congr 1
    omega
  have hinv : ∀ i o, ids[i]? = some o → inv (ids.map some) o = some i := fun i o hi => by
    cases hx : inv (ids.map some) o with
    | none => exact absurd (List.mem_of_getElem? hi) (inv_none hx)
    | some j =>
      have hj := inv_ids hx
      have hi' := (List.getElem?_eq_some_iff.1 hi).1
      have hj' := (List.getElem?_eq_some_iff.1 hj).1
      have e : ids[i] = ids[j] := by rw [(List.getElem?_eq_some_iff.1 hi).2, (List.getElem?_eq_some_iff.1 hj).2]
      rw [(List.getElem_inj hnd).1 e]
  have hout : ∀ j o' hh, outR ids st.ob.length j = some o' → σc j = some hh → σAfter σ σc ids st.ob.length o' = some hh := by
    intro j o' hh ho hj
    unfold outR at ho
    split at ho
    · have hmem := List.mem_of_getElem? ho
      rw [hσi o' j (hids o' hmem) (hinv j o' ho)]
      exact hj
    · simp at ho
      subst ho
      rw [hσx j (by omega)]
      exact hj
  -- blocks of others live on
  have hother : ∀ o y b k, o < st.ob.length → inv (ids.map some) o = none → st.ob[o]? = some (some y) → σ o = some (some (b, k)) → ¬ lvb (sel (ids.map some) σ) (obs.map some) b := by
    intro o y b k ho hi hy hb hl
    rw [← hobs] at hl
    obtain ⟨o2, y2, k2, m1, m2, m3⟩ := lvb_sel hl
    have := h.h.inj o o2 y y2 b k k2 hy m2 hb m3
    subst this
    exact inv_none hi (by simpa using m1)
  have hX : ∀ b, Xd (cx0 w (sel (ids.map some) σ) obs.length (obs.map some) (Zc cx σ st.ob ids) hZ) w' σc obs' b → Xd cx w' (σAfter σ σc ids st.ob.length) (obAfter st ids obs') b ∧ w'.heap[b]? = w'.heap[b]? := by
    rintro b ⟨h1, h2, h3, h4⟩
    refine ⟨⟨h1, ?_, fun hz => h3 (.inl hz), h4⟩, rfl⟩
    rintro ⟨o, x, k, ho, hb⟩
    rcases obAfter_get ho with ⟨hlt, i, y, hi, hy, _⟩ | ⟨hlt, hi, y, hy, _⟩ | ⟨hge, y, hy, _⟩
    · rw [hσi o i hlt hi] at hb
      exact h2 ⟨i, y, k, hy, hb⟩
    · rw [hσn o hlt hi] at hb
      have hn := hother o y b k hlt hi hy hb
      rw [← hobs] at hn
      exact h3 (.inr ⟨⟨o, y, k, hy, hb⟩, hn⟩)
    · have := hσx (ids.length + (o - st.ob.length)) (by omega)
      rw [show st.ob.length + (ids.length + (o - st.ob.length) - ids.length) = o by omega] at this
      rw [this] at hb
      exact h2 ⟨_, y, k, hy, hb⟩
  have hs : Step σ st.ob w (σAfter σ σc ids st.ob.length) (obAfter st ids obs') w' (keptR st ids) := by
    refine ⟨⟨hc.size, hsame, hc.os, hc.tape, hc.output⟩, ?_, ?_⟩
    · intro o o' hh e ho
      unfold keptR at e
      split at e
      · simp at e
      · rename_i hn
        simp at e
        subst e
        have hlt : o < st.ob.length := by
          rcases Nat.lt_or_ge o st.ob.length with hl | hg
          · exact hl
          · rw [h.h.dom o hg] at ho; simp at ho
        cases hi : inv (ids.map some) o with
        | none => rw [hσn o hlt hi]; exact ho
        | some i =>
          -- a box that was handed over
          have hio := inv_ids hi
          have hmem := List.mem_of_getElem? hio
          have hpk : (pickOb (ids.map some) st.ob)[i]? = (obs.map some)[i]? := by rw [hobs]
          have hil : i < obs.length := by rw [hml]; exact (List.getElem?_eq_some_iff.1 hio).1
          rw [List.getElem?_map, List.getElem?_eq_getElem hil] at hpk
          obtain ⟨o2, y, m1, m2, m3⟩ := pickOb_get hpk
          rw [List.getElem?_map, hio] at m1
          simp at m1
          subst m1
          have hobj : st.obj o = some y := by simp [St.obj, m2]
          have hyrow : y.row = false := by
            cases hr : y.row
            · rfl
            · exact absurd (by simp [hobj, hr, hmem]) hn
          obtain ⟨y', hy', hyr⟩ := hbox i o y hio hobj hyrow
          rw [hσi o i hlt hi, hc.box i y' hy' hyr hil]
          show sel (ids.map some) σ i = some hh
          rw [sel, List.getElem?_map, hio]
          exact ho
    · rintro b ⟨o, x, k, ho, hb⟩
      have hloc : ∀ (j : Nat) (y : Ob), obs'[j]? = some (some y) → σc j = some (some (b, k)) → lvb σ st.ob b ∨ w.heap.size ≤ b := fun j y hy hj => by
        rcases hc.loc b ⟨j, y, k, hy, hj⟩ with hl | hl
        · exact .inr hl
        · exact .inl (hsub b hl)
      rcases obAfter_get ho with ⟨hlt, i, y, hi, hy, _⟩ | ⟨hlt, hi, y, hy, _⟩ | ⟨hge, y, hy, _⟩
      · rw [hσi o i hlt hi] at hb
        exact hloc i y hy hb
      · rw [hσn o hlt hi] at hb
        exact .inl ⟨o, y, k, hy, hb⟩
      · have := hσx (ids.length + (o - st.ob.length)) (by omega)
        rw [show st.ob.length + (ids.length + (o - st.ob.length) - ids.length) = o by omega] at this
        rw [this] at hb
        exact hloc _ y hy hb
  have hnaO : ∀ (j : Nat) (y : Ob), obs'[j]? = some (some y) → y.na = true := fun j y hy => by
    have := List.all_eq_true.1 hona (some y) (List.mem_of_getElem? hy)
    simpa using this
  have hoc : ∀ (j : Nat) (y : Ob), obs'[j]? = some (some y) → RelO w' (Xd cx w' (σAfter σ σc ids st.ob.length) (obAfter st ids obs')) (Xe w' (σAfter σ σc ids st.ob.length) (obAfter st ids obs')) (σAfter σ σc ids st.ob.length) (σc j) (y.ren (outR ids st.ob.length)) := fun j y hy =>
    RelO.ren (Xa := fun _ => False) hX (fun b hb => hb.elim) hout (fun _ _ _ => rfl) (RelO.na (hc.obs j y hy) (hnaO j y hy))
  have hrel := hs.relH (cx := cx) (ls := st.ls) h.h ?_ ?_ ?_ ?_ ?_
  · exact ⟨h.step hs hrel, RelV.ren (Xa := fun _ => False) hX (fun b hb => hb.elim) hout (RelV.na hv hna)⟩
  · intro o x ho
    rcases obAfter_get ho with ⟨hlt, i, y, hi, hy, rfl⟩ | ⟨hlt, hi, y, hy, rfl⟩ | ⟨hge, y, hy, rfl⟩
    · rw [hσi o i hlt hi]; exact hoc i y hy
    · rw [hσn o hlt hi]
      refine hs.relO (cx := cx) (fun b k e => ?_) (h.h.obs o y hy)
      exact hc.frame b (h.h.lt ⟨o, y, k, hy, e⟩) (hother o y b k hlt hi hy e)
    · have := hσx (ids.length + (o - st.ob.length)) (by omega)
      rw [show st.ob.length + (ids.length + (o - st.ob.length) - ids.length) = o by omega] at this
      rw [this]; exact hoc _ y hy
  · intro o o' x x' b k k' ho ho' hb hb'
    have key : ∀ (o : Nat) (x : Ob) (k : Nat), (obAfter st ids obs')[o]? = some (some x) → σAfter σ σc ids st.ob.length o = some (some (b, k)) →
        (∃ j y, obs'[j]? = some (some y) ∧ σc j = some (some (b, k)) ∧ outR ids st.ob.length j = some o) ∨ (∃ y, st.ob[o]? = some (some y) ∧ σ o = some (some (b, k)) ∧ ¬ lvb (sel (ids.map some) σ) (obs.map some) b ∧ b < w.heap.size) := by
      intro o x k ho hb
      rcases obAfter_get ho with ⟨hlt, i, y, hi, hy, rfl⟩ | ⟨hlt, hi, y, hy, rfl⟩ | ⟨hge, y, hy, rfl⟩
      · rw [hσi o i hlt hi] at hb
        have := inv_ids hi
        exact .inl ⟨i, y, hy, hb, by unfold outR; rw [if_pos (List.getElem?_eq_some_iff.1 this).1]; exact this⟩
      · rw [hσn o hlt hi] at hb
        exact .inr ⟨y, hy, hb, hother o y b k hlt hi hy hb, h.h.lt ⟨o, y, k, hy, hb⟩⟩
      · have := hσx (ids.length + (o - st.ob.length)) (by omega)
        rw [show st.ob.length + (ids.length + (o - st.ob.length) - ids.length) = o by omega] at this
        rw [this] at hb
        exact .inl ⟨_, y, hy, hb, by unfold outR; rw [if_neg (by omega)]; congr 1; omega⟩
    rcases key o x k ho hb with ⟨j, y, h1, h2, h3⟩ | ⟨y, h1, h2, h3, h4⟩ <;> rcases key o' x' k' ho' hb' with ⟨j', y', g1, g2, g3⟩ | ⟨y', g1, g2, g3, g4⟩
    · have := hc.inj j j' y y' b k k' h1 g1 h2 g2
      subst this
      rw [h3] at g3
      simpa using g3
    · rcases hc.loc b ⟨j, y, k, h1, h2⟩ with hl | hl
      · have : w.heap.size ≤ b := hl
        omega
      · exact absurd hl g3
    · rcases hc.loc b ⟨j', y', k', g1, g2⟩ with hl | hl
      · have : w.heap.size ≤ b := hl
        omega
      · exact absurd hl h3
    · exact h.h.inj o o' y y' b k k' h1 g1 h2 g2
  · intro o ho
    have hL : (obAfter st ids obs').length = st.ob.length + (obs'.length - ids.length) := by simp [obAfter]
    rw [hL] at ho
    have : ¬ o < st.ob.length := by omega
    simp only [σAfter, this, if_false]
    exact hc.dom _ (by omega)
  · have hL : (obAfter st ids obs').length = st.ob.length + (obs'.length - ids.length) := by simp [obAfter]
    have := h.h.nbl
    omega
  · intro o x ho hrw hnb
    have hlt0 : o < st.ob.length := Nat.lt_of_lt_of_le hnb h.h.nbl
    rcases obAfter_get ho with ⟨hlt, i, y, hi, hy, rfl⟩ | ⟨hlt, hi, y, hy, rfl⟩ | ⟨hge, y, hy, rfl⟩
    · have hio := inv_ids hi
      have hpk : (pickOb (ids.map some) st.ob)[i]? = (obs.map some)[i]? := by rw [hobs]
      have hil : i < obs.length := by rw [hml]; exact (List.getElem?_eq_some_iff.1 hio).1
      rw [List.getElem?_map, List.getElem?_eq_getElem hil] at hpk
      obtain ⟨o2, z, m1, m2, m3⟩ := pickOb_get hpk
      rw [List.getElem?_map, hio] at m1
      simp at m1
      subst m1
      have hobj : st.obj o = some z := by simp [St.obj, m2]
      have hzr := hrow i o z y hio hobj hy
      have hyr : y.row = false := hrw
      rw [hσi o i hlt hi, hc.box i y hy hyr hil]
      show sel (ids.map some) σ i = cx.σ0 o
      rw [sel, List.getElem?_map, hio]
      exact h.h.box o z m2 (by rw [← hzr]; exact hyr) hnb
    · rw [hσn o hlt hi]
      exact h.h.box o y hy hrw hnb
    · omega
end
end Go.Proofs.Ytlkhfdccapkcdaa
