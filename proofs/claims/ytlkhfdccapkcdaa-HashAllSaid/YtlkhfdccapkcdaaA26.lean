/- Aids for walks: temporaries forgotten, loops by what turns in them, objects dropped, contracts weakened. -/
import Derived.Test.YtlkhfdccapkcdaaA25
namespace Go.Proofs.Ytlkhfdccapkcdaa
open Go Go.RowKit
set_option linter.unusedVariables false
set_option linter.unusedSimpArgs false

def inl (j : Nat) : List Nat → Bool
  | [] => false
  | m :: ms => bif decide (j = m) then true else inl j ms
def filt (ms : List Nat) : Tm → Tm
  | [] => []
  | e :: r => bif inl e.1 ms then filt ms r else e :: filt ms r
theorem lk_filt (ms : List Nat) (i : Nat) : ∀ tm : Tm, lk (filt ms tm) i = if inl i ms = true then .l .u else lk tm i
  | [] => by simp [filt, lk]
  | (j, v) :: r => by
    have ih := lk_filt ms i r
    simp only [filt]
    cases hj : inl j ms
    · simp only [cond_false]
      rw [lk_cons, lk_cons, ih]
      by_cases e : i = j
      · subst e
        rw [if_pos rfl, if_pos rfl, hj]
        rfl
      · rw [if_neg e, if_neg e]
    · simp only [cond_true]
      rw [ih, lk_cons]
      by_cases e : i = j
      · subst e; rw [if_pos hj, if_pos hj]
      · rw [if_neg e]
section
variable {P : Program} {R : Option Nat} {cx : Cx} {Q : Post} {c : Code} {tm tm' : Tm} {ob ob' : List (Option Ob)} {nt : Nat} {gh gh' : List Tm} {ls : Option Code}
theorem Weak.filt (ms : List Nat) (h : Go.Proofs.Ytlkhfdccapkcdaa.filt ms tm = tm') : Weak cx ⟨tm, ob, nt, gh, ls⟩ ⟨tm', ob, nt, gh, ls⟩ := by
  subst h
  refine Weak.tm (st := ⟨tm, ob, nt, gh, ls⟩) _ fun i => ?_
  rw [lk_filt]
  split
  · exact .inr rfl
  · exact .inl rfl
theorem AW.forget (ms : List Nat) (h : Go.Proofs.Ytlkhfdccapkcdaa.filt ms tm = tm') (k : AW P R cx c Q ⟨tm', ob, nt, gh, ls⟩) : AW P R cx c Q ⟨tm, ob, nt, gh, ls⟩ :=
  AW.weak (Weak.filt ms h) k
def idr (n : Nat) : List (Option Nat) := (List.range n).map some
/-- Objects behind the n-th one are dropped. -/
theorem Weak.cut (n : Nat) (hn : cx.nb ≤ n) (htm : ∀ e ∈ tm', (lk tm e.1).ren (inv (idr n)) = e.2) (hob : pickOb (idr n) ob = ob') (hgh : gh.map (Tm.ren (inv (idr n))) = gh') :
    Weak cx ⟨tm, ob, nt, gh, ls⟩ ⟨tm', ob', nt, gh', ls⟩ := by
  subst hob
  subst hgh
  have key : ∀ l : Tm, (∀ e ∈ l, (lk tm e.1).ren (inv (idr n)) = e.2) → ∀ i, lk l i = (lk tm i).ren (inv (idr n)) ∨ lk l i = .l .u := by
    intro l
    induction l with
    | nil => intro _ i; exact .inr rfl
    | cons e l ih =>
      intro hl i
      rw [lk_cons e.1 e.2]
      split
      · rename_i hi
        subst hi
        exact .inl (hl e (by simp)).symm
      · exact ih (fun e' he' => hl e' (by simp [he'])) i
  have hget : ∀ {i o : Nat}, (idr n)[i]? = some (some o) → i = o := by
    intro i o h
    rw [idr, List.getElem?_map] at h
    obtain ⟨a, ha, e⟩ := Option.map_eq_some_iff.1 h
    have := (List.getElem?_eq_some_iff.1 ha).2
    simp at *
    omega
  exact Weak.ren (st := ⟨tm, ob, nt, gh, ls⟩) (idr n) tm' (fun i j o hi hj => by rw [hget hi, hget hj]) (by simp [idr]; exact hn) (fun i o _ h => (hget h).symm) (key tm' htm)
/-- A loop, told by what turns in it: temporaries up, objects O; all others but ms stay. -/
theorem AW.loopF {α : Type} (ms : List Nat) (up : α → Tm) (O : α → List (Option Ob)) (I : α → Prop) (μ : α → Nat) (x0 : α) {base : Tm} (hb : Go.Proofs.Ytlkhfdccapkcdaa.filt ms tm = base)
    (h0 : ∀ e ∈ up x0, lk tm e.1 = e.2) (hO : ob = O x0) (hI : I x0)
    (round : ∀ x, I x → AW P R cx c (Post.seq (fun s' => ∃ y, Weak cx s' ⟨up y ++ base, O y, nt, gh, ls⟩ ∧ I y ∧ μ y < μ x) Q) ⟨up x ++ base, O x, nt, gh, ls⟩) : AW P R cx (.loop c) Q ⟨tm, ob, nt, gh, ls⟩ := by
  refine AW.loopP (fun x => ⟨up x ++ base, O x, nt, gh, ls⟩) I μ x0 ?_ hI round
  subst hb
  subst hO
  have key : ∀ l : Tm, (∀ e ∈ l, lk tm e.1 = e.2) → ∀ i, lk (l ++ Go.Proofs.Ytlkhfdccapkcdaa.filt ms tm) i = lk tm i ∨ lk (l ++ Go.Proofs.Ytlkhfdccapkcdaa.filt ms tm) i = .l .u := by
    intro l
    induction l with
    | nil =>
      intro _ i
      rw [List.nil_append, lk_filt]
      split
      · exact .inr rfl
      · exact .inl rfl
    | cons e l ih =>
      intro hl i
      rw [List.cons_append, lk_cons e.1 e.2]
      split
      · rename_i hi
        subst hi
        exact .inl (hl e (by simp)).symm
      · exact ih (fun e' he' => hl e' (by simp [he'])) i
  exact Weak.tm (st := ⟨tm, O x0, nt, gh, ls⟩) _ (key _ h0)
end
/-- A contract says less. -/
theorem Sound.weak {P : Program} {f : Nat} {args : List AV} {obs : List Ob} {res res' : AV} {obs' obs'' : List (Option Ob)} {s' : St} (h : Sound P f args obs res obs') (hw : ∀ cx : Cx, cx.nb = obs.length → Weak cx ⟨[(0, res)], obs', 1, [], none⟩ s')
    (h1 : s'.ob = obs'') (h2 : s'.ls = none) (h3 : lk s'.tm 0 = res') : Sound P f args obs res' obs'' := by
  intro Z w σ vs hZ hH hargs
  refine (h Z w σ vs hZ hH hargs).mono ?_
  rintro e w' ⟨v, σ', rfl, k1, k2⟩
  obtain ⟨σ2, k3⟩ := hw _ rfl σ' { tmps := #[v], defers := [] } w' ⟨k1, fun i => by
    rw [lk_cons]
    split
    · rename_i hi; subst hi; exact k2
    · trivial, rfl, trivial, [], rfl, List.nodup_nil, fun D hD => by simp at hD⟩
  have k4 := k3.h
  have k5 := k3.tm 0
  rw [h1, h2] at k4
  rw [h3, h1] at k5
  exact ⟨v, σ2, rfl, k4, k5⟩
/-- A row that is handed back is data, if nobody changes it. -/
theorem Sound.frz {P : Program} {f : Nat} {args : List AV} {ty sz n : Nat} {cap : Option Nat} {es : List (List T)} (h : Sound P f args [] (.l (.r 0 sz 0 n)) [some ⟨ty, sz, true, cap, lvs es⟩]) (hn : es.length = n) (h0 : 0 < sz) (hes : ∀ e ∈ es, e.length = sz)
    (hm : n ≤ 140737488355328) : Sound P f args [] (.l (.d false sz es)) [] := by
  subst hn
  have hw : ∀ cx : Cx, cx.nb = 0 → Weak cx ⟨[(0, .l (.r 0 sz 0 es.length))], [some ⟨ty, sz, true, cap, lvs es⟩], 1, [], none⟩ ⟨[(0, .l (.d false sz es))], [], 1, [], none⟩ := by
    intro cx hcx
    refine Weak.trans (Weak.freeze (o := 0) (sz := sz) (z := ⟨ty, sz, true, cap, lvs es⟩) (es := es) rfl rfl rfl h0 rfl hes hm) ?_
    refine Weak.cut 0 (by omega) (fun e he => ?_) rfl rfl
    simp only [List.mem_singleton] at he
    subst he
    simp [Tm.frz, lk_cons, AV.frz, LV.frz, AV.ren, LV.ren]
  exact h.weak (fun cx hcx => hw cx hcx) rfl rfl (by simp [lk_cons])
section
variable {st : St} {ids : List Nat}
theorem VwL.s (x : Value) : VwL st ids (.s x) (.s x) := .ren (.s x)
theorem VwL.e (sz : Nat) (es : List (List T)) : VwL st ids (.d false sz es) (.d false sz es) := .ren (.d false sz es)
end
attribute [simp] filt inl
end Go.Proofs.Ytlkhfdccapkcdaa
