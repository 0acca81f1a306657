/- Drawn regions without effects: what each operation yields is found while it is shown. -/
import Derived.Test.YtlkhfdccapkcdaaA26
namespace Go.Proofs.Ytlkhfdccapkcdaa
open Go Go.RowKit
set_option linter.unusedVariables false
set_option linter.unusedSimpArgs false

/-- An operation has yielded v, and nothing else has turned. -/
def KD (dst : Option Nat) (v : AV) (tm : Tm) (ob : List (Option Ob)) (nt : Nat) (gh : List Tm) (ls : Option Code) (s : St) : Prop :=
  ∃ v', (∀ t, lk s.tm t = lk (putD dst v' tm) t) ∧ v' = v ∧ s.ob = ob ∧ s.nt = nt ∧ s.gh = gh ∧ s.ls = ls
theorem KD.mk {d : Nat} {v : AV} {tm : Tm} {ob : List (Option Ob)} {nt : Nat} {gh : List Tm} {ls : Option Code} : KD (some d) v tm ob nt gh ls ⟨(d, v) :: tm, ob, nt, gh, ls⟩ :=
  ⟨v, fun _ => rfl, rfl, rfl, rfl, rfl, rfl⟩
def ObP (P : Program) (ops : Array Oper) (tm0 : Tm) (V : List AV) (ob : List (Option Ob)) (nt : Nat) (gh : List Tm) (ls : Option Code) : List Oper → List DI → List AV → Prop
  | o :: os, d :: ds, v :: vs => (∀ tm, AllL (fun r => lk tm r.1 = rdV V tm0 r) d.rd → xg P ops o ⟨tm, ob, nt, gh, ls⟩ (KD o.dst v tm ob nt gh ls)) ∧ ObP P ops tm0 V ob nt gh ls os ds vs
  | _, _, [] => True
  | _, _, _ => False
section
variable {P : Program} {cx : Cx} {ops : Array Oper} {D : List DI} {n1 : Nat} {V : List AV} {Q : Post} {R : Option Nat} {tm tm' : Tm} {ob : List (Option Ob)} {nt : Nat} {gh : List Tm} {ls : Option Code}
theorem ObP.obl (tm0 : Tm) : ∀ (os : List Oper) (ds : List DI) (vs : List AV), (∀ d ∈ ds, d.ef = false ∧ ∀ k ∈ d.ks, k = 0) → ObP P ops tm0 V ob nt gh ls os ds vs → Obl P ops V [ob] ⟨tm0, ob, nt, gh, ls⟩ os ds vs
  | _, _, [], _, _ => by simp [Obl]
  | [], _, _ :: _, _, h => by simp [ObP] at h
  | _ :: _, [], _ :: _, _, h => by simp [ObP] at h
  | o :: os, d :: ds, v :: vs, hd, h => by
    refine ⟨AllL.of fun k hk tm hr => ?_, ObP.obl tm0 os ds vs (fun d' hd' => hd d' (by simp [hd'])) h.2⟩
    obtain ⟨h1, h2⟩ := hd d (by simp)
    have h3 := h2 k hk
    subst h3
    have h4 := h.1 tm hr
    rw [h1]
    exact h4
theorem ef_none (h : D.all (fun d => !d.ef) = true) (p : Nat → Bool) : efCount D p = 0 := by
  simp only [efCount, List.length_eq_zero_iff, List.filter_eq_nil_iff]
  intro a ha
  cases hd : D[a]? with
  | none => simp
  | some d =>
    have := List.all_eq_true.1 h d (List.mem_of_getElem? hd)
    simp at this
    simp [this]
theorem AW.drawnP (hm : P.follows .mixedOrders = true) {id : Nat} {c : Code} {st' : St} (D : List DI) (n1 : Nat) (hc : chkD ops D n1 = true) (he : D.all (fun d => !d.ef && d.ks.all (· == 0)) = true) (hO : ObP P ops tm V ob nt gh ls ops.toList D V) (hV : V.length = n1)
    (htm : tmD ops.toList V tm = tm') (hx : xops P ops (ops.toList.drop n1) ⟨tm', ob, nt, gh, ls⟩ (fun s => s = st')) (k : AW P R cx c Q st') : AW P R cx (.seq (.region id ops true) c) Q ⟨tm, ob, nt, gh, ls⟩ := by
  subst htm
  have h1 : D.all (fun d => !d.ef) = true := List.all_eq_true.2 fun d hd => by
    have := List.all_eq_true.1 he d hd
    simp only [Bool.and_eq_true] at this
    exact this.1
  refine AW.drawn hm D n1 V [ob] st' hc hV rfl (ObP.obl tm _ _ _ (fun d hd => ?_) hO) (me := ob) (by rw [ef_none h1]; rfl) hx k
  have := List.all_eq_true.1 he d hd
  simp only [Bool.and_eq_true, List.all_eq_true] at this
  exact ⟨by simpa using this.1, fun k hk => by simpa using this.2 k hk⟩
/-- The same where the region is the last one of a part of the code. -/
theorem AW.drawnR (hm : P.follows .mixedOrders = true) {id : Nat} (D : List DI) (n1 : Nat) (hc : chkD ops D n1 = true) (he : D.all (fun d => !d.ef && d.ks.all (· == 0)) = true) (hO : ObP P ops tm V ob nt gh ls ops.toList D V) (hV : V.length = n1)
    (htm : tmD ops.toList V tm = tm') {st' : St} (hx : xops P ops (ops.toList.drop n1) ⟨tm', ob, nt, gh, ls⟩ (fun s => s = st')) (k : Q .normal st') : AW P R cx (.region id ops true) Q ⟨tm, ob, nt, gh, ls⟩ := by
  subst htm
  have h1 : D.all (fun d => !d.ef) = true := List.all_eq_true.2 fun d hd => by
    have := List.all_eq_true.1 he d hd
    simp only [Bool.and_eq_true] at this
    exact this.1
  have hO2 : Obl P ops V [ob] ⟨tm, ob, nt, gh, ls⟩ ops.toList D V := ObP.obl tm _ _ _ (fun d hd => by
    have := List.all_eq_true.1 he d hd
    simp only [Bool.and_eq_true, List.all_eq_true] at this
    exact ⟨by simpa using this.1, fun k hk => by simpa using this.2 k hk⟩) hO
  have hn : n1 ≤ ops.size := by
    simp only [chkD, Bool.and_eq_true, decide_eq_true_eq] at hc
    exact hc.1.2
  have h1' : AW P R cx (.region id ops true) (fun e s => e = .normal ∧ s = st') ⟨tm, ob, nt, gh, ls⟩ := by
    intro σ a w hr
    refine wpIn_region_any hm ?_
    have hLf : ∀ j, Ls (Array.replicate ops.size false) j = false := fun j => by
      simp only [Ls, Array.getD_eq_getD_getElem?, Array.getElem?_replicate]
      split <;> rfl
    have hr' : RelS cx σ ⟨tm, ob, nt, gh, ls⟩ a { w with drawn := w.drawn + 1 } := hr.drewN 1
    refine drawn1 hc hV hn hO2 ?_ ops.size _ ⟨tm, ob, nt, gh, ls⟩ σ a _ (by simp) (fun i hi h => by rw [hLf] at h; simp at h) ?_ (fun j _ _ => hLf j) ⟨rfl, rfl, rfl, ?_, fun t j _ h => by rw [hLf] at h; simp at h, fun t _ => rfl⟩ hr'
    · have h2 := xops_Y (R := R) (cx := cx) _ n1 _ rfl hx
      rw [ef_none h1]
      simpa using h2
    · have : ((List.range n1).filter fun i => !Ls (Array.replicate ops.size false) i).length ≤ n1 := by
        have := List.length_filter_le (fun i => !Ls (Array.replicate ops.size false) i) (List.range n1)
        simpa using this
      omega
    · rw [ef_none h1]
      rfl
  refine AW.mono h1' ?_
  rintro e s ⟨rfl, hs⟩
  subst hs
  exact k
end
end Go.Proofs.Ytlkhfdccapkcdaa
