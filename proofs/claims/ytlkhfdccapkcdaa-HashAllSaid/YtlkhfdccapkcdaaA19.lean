/- An own row becomes data: who owns it no longer changes it. -/
import Derived.Test.YtlkhfdccapkcdaaA18
namespace Go.Proofs.Ytlkhfdccapkcdaa
open Go Go.RowKit
set_option linter.unusedVariables false
set_option linter.unusedSimpArgs false

def LV.frz (o sz : Nat) (es : List (List T)) : LV → LV
  | .r o' sz' lo hi => if o' = o ∧ sz' = sz ∧ hi ≤ es.length then .d false sz ((es.drop lo).take (hi - lo)) else .r o' sz' lo hi
  | x => x
def CV.frz (o sz : Nat) (es : List (List T)) (c : Bool × List LV) : Bool × List LV := (c.1, c.2.map (LV.frz o sz es))
def AV.frz (o sz : Nat) (es : List (List T)) : AV → AV
  | .l x => .l (x.frz o sz es)
  | .g cs => .g (cs.map (LV.frz o sz es))
  | .t xs => .t (xs.map (CV.frz o sz es))
def Ob.frz (o sz : Nat) (es : List (List T)) (x : Ob) : Ob := { x with cs := x.cs.map (LV.frz o sz es) }
def Tm.frz (o sz : Nat) (es : List (List T)) (tm : Tm) : Tm := tm.map fun e => (e.1, e.2.frz o sz es)
def St.freeze (st : St) (o sz : Nat) (es : List (List T)) : St :=
  { st with tm := st.tm.frz o sz es, ob := (st.ob.set o none).map (Option.map (Ob.frz o sz es)), gh := st.gh.map (Tm.frz o sz es) }
theorem lk_frz (o sz : Nat) (es : List (List T)) (i : Nat) : ∀ tm : Tm, lk (tm.frz o sz es) i = (lk tm i).frz o sz es
  | [] => by simp [Tm.frz, lk, AV.frz, LV.frz]
  | (j, v) :: r => by
    have ih := lk_frz o sz es i r
    simp only [Tm.frz, List.map_cons, lk] at ih ⊢
    cases Nat.beq i j
    · exact ih
    · rfl

section
variable {P : Program} {cx : Cx} {st : St} {σ : Nat → Hd} {a : Act} {w : World}
theorem frz_L {o sz : Nat} {z : Ob} {es : List (List T)} {ob' : List (Option Ob)} (hH : RelH cx w σ st.ob st.ls) (hz : st.obj o = some z) (hrow : z.row = true) (hsz : z.sz = sz) (h0 : 0 < sz) (hcs : z.cs = lvs es) (hes : ∀ e ∈ es, e.length = sz) (hmax : es.length ≤ 140737488355328)
    (hsub : ∀ b, lvb σ ob' b → lvb σ st.ob b) (hno : ∀ k b, σ o = some (some (b, k)) → ¬ lvb σ ob' b) (hnZ : ∀ b, lvb σ st.ob b → ¬ cx.Z b) {v : Value} {x : LV} (h : RelL w (Xd cx w σ st.ob) (Xe w σ st.ob) σ v x) :
    RelL w (Xd cx w σ ob') (Xe w σ ob') σ v (x.frz o sz es) := by
  have hX : ∀ b, Xd cx w σ st.ob b → Xd cx w σ ob' b ∧ w.heap[b]? = w.heap[b]? := fun b ⟨h1, h2, h3, h4⟩ => ⟨⟨h1, fun hl => h2 (hsub b hl), h3, h4⟩, rfl⟩
  have hXa : ∀ b, Xe w σ st.ob b → Xe w σ ob' b ∧ w.heap[b]? = w.heap[b]? := fun b ⟨h1, h2, h4⟩ => ⟨⟨h1, fun hl => h2 (hsub b hl), h4⟩, rfl⟩
  have hm : RelL w (Xd cx w σ ob') (Xe w σ ob') σ v x := RelL.mono hX hXa (fun _ _ h => h) h
  cases x with
  | r o' sz' lo hi =>
    simp only [LV.frz]
    by_cases hc : o' = o ∧ sz' = sz ∧ hi ≤ es.length
    · rw [if_pos hc]
      obtain ⟨rfl, rfl, hle⟩ := hc
      have hO := hH.obs o' z (obj_some hz)
      rcases h with ⟨hb, rfl, rfl, hv⟩ | ⟨b, k, off, hb, g3, g4, hv, hoff⟩
      · subst hv
        exact .sl none 0 0 sz' _ 0 0 (fun _ _ => undef) (by simp) (Nat.le_refl _) (by omega) (fun e he => by simp at he) (fun h => by omega) (fun _ => rfl) (fun i j hi => by omega) (fun i j e t he => by simp at he)
      · rw [hb] at hO
        obtain ⟨vs, rest, f1, f2, f4, f5⟩ := hO
        rw [hcs] at f2
        have hvl := f2.length
        have hll := lvs_length hes
        subst hv
        have hlb : lvb σ st.ob b := ⟨o', z, k, obj_some hz, hb⟩
        refine .sl _ (hi - lo) (k - lo) sz' _ b off (fun i j => vs.getD ((lo + i) * sz' + j) undef) (by simp; omega) (by omega) (by omega) (fun e he => hes e (List.mem_of_mem_drop (List.mem_of_mem_take he)))
          (fun _ => ⟨rfl, hH.lt hlb, hno k b hb, hnZ b hlb, _, _, _, f1⟩) (fun e => by simp at e) ?_ ?_
        · intro i j hi' hj
          have hoff' : off = lo * sz' := hoff (.inl (by omega))
          have h5 : (lo + i + 1) * sz' ≤ es.length * sz' := Nat.mul_le_mul_right _ (by omega)
          have h6 : (lo + i) * sz' = lo * sz' + i * sz' := Nat.add_mul _ _ _
          rw [Nat.add_mul] at h5
          rw [cell_of_row w b _ _ _ _ f1, hoff']
          have hlt2 : lo * sz' + (i * sz' + j) < vs.length := by omega
          rw [show (lo + i) * sz' + j = lo * sz' + (i * sz' + j) by omega]
          simp only [List.getElem?_toArray, List.getElem?_append_left hlt2, List.getD_eq_getElem?_getD]
          rw [List.getElem?_eq_getElem hlt2]
          rfl
        · intro i j e t he ht
          rw [List.getElem?_take] at he
          split at he
          · rw [List.getElem?_drop] at he
            have hj : j < sz' := by have := (List.getElem?_eq_some_iff.1 ht).1; rwa [hes e (List.mem_of_getElem? he)] at this
            have hc := lvs_get hes he j hj
            rw [ht] at hc
            obtain ⟨u, hu, hur⟩ := f2.at _ hc
            simp only [List.getD_eq_getElem?_getD, hu, Option.getD_some]
            cases t with
            | v x => obtain ⟨rfl, h1x⟩ := hur; exact .v _ h1x
            | sl sz2 es2 => exact Rd.mono hX hur
          · simp at he
    · rw [if_neg hc]; exact hm
  | _ => exact hm
/-- An own row of data becomes data. -/
theorem Weak.freeze {o sz : Nat} {z : Ob} {es : List (List T)} (hz : st.obj o = some z) (hrow : z.row = true) (hsz : z.sz = sz) (h0 : 0 < sz) (hcs : z.cs = lvs es) (hes : ∀ e ∈ es, e.length = sz) (hmax : es.length ≤ 140737488355328) :
    Weak cx st (st.freeze o sz es) := by
  intro σ a w hr
  have hH := hr.h
  have hg : ∀ i x, ((st.ob.set o none).map (Option.map (Ob.frz o sz es)))[i]? = some (some x) → i ≠ o ∧ ∃ y, st.ob[i]? = some (some y) ∧ x = y.frz o sz es := by
    intro i x hi
    rw [List.getElem?_map, List.getElem?_set] at hi
    by_cases e : o = i
    · subst e
      rw [if_pos rfl] at hi
      split at hi <;> simp at hi
    · rw [if_neg e] at hi
      refine ⟨fun h => e h.symm, ?_⟩
      cases hy : st.ob[i]? with
      | none => rw [hy] at hi; simp at hi
      | some y =>
        rw [hy] at hi
        cases y with
        | none => simp at hi
        | some y => simp at hi; exact ⟨y, rfl, hi.symm⟩
  have hsub : ∀ b, lvb σ ((st.ob.set o none).map (Option.map (Ob.frz o sz es))) b → lvb σ st.ob b := by
    rintro b ⟨i, x, k, hi, hb⟩
    obtain ⟨_, y, hy, _⟩ := hg i x hi
    exact ⟨i, y, k, hy, hb⟩
  have hno : ∀ k b, σ o = some (some (b, k)) → ¬ lvb σ ((st.ob.set o none).map (Option.map (Ob.frz o sz es))) b := by
    rintro k b hb ⟨i, x, k', hi, hb'⟩
    obtain ⟨hne, y, hy, _⟩ := hg i x hi
    exact hne (hH.inj i o y z b k' k hy (obj_some hz) hb' hb)
  have hL : ∀ {v : Value} {x : LV}, RelL w (Xd cx w σ st.ob) (Xe w σ st.ob) σ v x → RelL w (Xd cx w σ ((st.ob.set o none).map (Option.map (Ob.frz o sz es)))) (Xe w σ ((st.ob.set o none).map (Option.map (Ob.frz o sz es)))) σ v (x.frz o sz es) :=
    fun h => frz_L hH hz hrow hsz h0 hcs hes hmax hsub hno (fun b hb => hH.notZ hb) h
  have hC : ∀ {v : Value} {x : Bool × List LV}, RelC w (Xd cx w σ st.ob) (Xe w σ st.ob) σ v x → RelC w (Xd cx w σ ((st.ob.set o none).map (Option.map (Ob.frz o sz es)))) (Xe w σ ((st.ob.set o none).map (Option.map (Ob.frz o sz es)))) σ v (CV.frz o sz es x) := by
    intro v x h
    obtain ⟨b, cs⟩ := x
    cases b
    · obtain ⟨x, rfl, hx⟩ := h
      exact ⟨_, rfl, hL hx⟩
    · obtain ⟨vs, rfl, hvs⟩ := h
      exact ⟨vs, rfl, All2.map _ (fun _ _ _ h => hL h) hvs⟩
  have hV : ∀ {v : Value} {x : AV}, RelV w (Xd cx w σ st.ob) (Xe w σ st.ob) σ v x → RelV w (Xd cx w σ ((st.ob.set o none).map (Option.map (Ob.frz o sz es)))) (Xe w σ ((st.ob.set o none).map (Option.map (Ob.frz o sz es)))) σ v (x.frz o sz es) := by
    intro v x h
    cases x with
    | l x => exact hL h
    | g cs => obtain ⟨vs, rfl, hvs⟩ := h; exact ⟨vs, rfl, All2.map _ (fun _ _ _ h => hL h) hvs⟩
    | t xs => obtain ⟨vs, rfl, hvs⟩ := h; exact ⟨vs, rfl, All2.map _ (fun _ _ _ h => hC h) hvs⟩
  have hT : ∀ {S : Array Value} {tm : Tm}, RelT cx w σ st.ob S tm → RelT cx w σ ((st.ob.set o none).map (Option.map (Ob.frz o sz es))) S (tm.frz o sz es) := by
    intro S tm h i
    rw [lk_frz]
    exact hV (h i)
  refine ⟨σ, ⟨?_, ?_, ?_, by simp [St.freeze]; exact hH.nbl, ?_, fun b hb => hH.loc b (hsub b hb), hH.msize, hH.frame, hH.os, hH.tape, hH.output, hH.ext⟩, hT hr.tm, hr.nt, All2.map _ (fun _ _ _ h => hT h) hr.gh, hr.dm⟩
  · intro i x hi
    obtain ⟨hne, y, hy, rfl⟩ := hg i x hi
    have hO := hH.obs i y hy
    unfold RelO at hO ⊢
    split at hO
    · exact hO.elim
    · exact ⟨hO.1, by simp [Ob.frz, hO.2.1], hO.2.2⟩
    · obtain ⟨vs, rest, f1, f2, f3⟩ := hO
      exact ⟨vs, rest, f1, All2.map _ (fun _ _ _ h => hL h) f2, f3⟩
  · intro i j x x' b k k' hi hj hb hb'
    obtain ⟨_, y, hy, _⟩ := hg i x hi
    obtain ⟨_, y', hy', _⟩ := hg j x' hj
    exact hH.inj i j y y' b k k' hy hy' hb hb'
  · intro i hi
    exact hH.dom i (by simpa [St.freeze] using hi)
  · intro i x hi hrow hlt
    obtain ⟨_, y, hy, rfl⟩ := hg i x hi
    exact hH.box i y hy hrow hlt
/-- Objects behind the last one that is wanted are nothing. -/
theorem Weak.dropOb {n : Nat} (h : ∀ i, n ≤ i → st.ob[i]? = none ∨ st.ob[i]? = some none) (hn : cx.nb ≤ n) (hl : n ≤ st.ob.length) : Weak cx st { st with tm := st.tm.ren (inv ((List.range n).map some)), ob := pickOb ((List.range n).map some) st.ob, gh := st.gh.map (Tm.ren (inv ((List.range n).map some))) } := by
  refine Weak.ren _ _ ?_ (by simp; exact hn) ?_ fun i => .inl (lk_ren _ _ _)
  · intro i j o hi hj
    rw [List.getElem?_map] at hi hj
    obtain ⟨a, ha, e⟩ := Option.map_eq_some_iff.1 hi
    obtain ⟨b, hb, e'⟩ := Option.map_eq_some_iff.1 hj
    have := (List.getElem?_eq_some_iff.1 ha).2
    have := (List.getElem?_eq_some_iff.1 hb).2
    simp at *
    omega
  · intro i o hi h
    rw [List.getElem?_map] at h
    obtain ⟨a, ha, e⟩ := Option.map_eq_some_iff.1 h
    have := (List.getElem?_eq_some_iff.1 ha).2
    simp at *
    omega
end
end Go.Proofs.Ytlkhfdccapkcdaa
