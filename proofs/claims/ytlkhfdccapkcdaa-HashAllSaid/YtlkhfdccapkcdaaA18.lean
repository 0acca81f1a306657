/- Regions in the text's order. -/
import Derived.Test.YtlkhfdccapkcdaaA17
namespace Go.Proofs.Ytlkhfdccapkcdaa
open Go Go.RowKit
set_option linter.unusedVariables false
set_option linter.unusedSimpArgs false

/-- What an operation has yielded: a truth, or nothing (it was left out). -/
def yd (ops : Array Oper) (st : St) (j : Nat) : Option (Option Bool) :=
  match (ops[j]?).bind (·.dst) with
  | some d => match lk st.tm d with | .l (.s (.bool b)) => some (some b) | .t [] => some none | _ => none
  | none => none
def xg (P : Program) (ops : Array Oper) (o : Oper) (st : St) (K : St → Prop) : Prop :=
  match o.guard with
  | none => xo P o st K
  | some (j, want) => wh (yd ops st j) fun b => if b = some want then xo P o st K else K (st.put o.dst (.t []))
def xops (P : Program) (ops : Array Oper) : List Oper → St → (St → Prop) → Prop
  | [], st, K => K st
  | o :: os, st, K => xg P ops o st fun st' => xops P ops os st' K

section
variable {P : Program} {R : Option Nat} {cx : Cx} {st : St} {ops : Array Oper} {Q : Post}
theorem yd_sound {σ : Nat → Hd} {a : Act} {w : World} (hr : RelS cx σ st a w) {j : Nat} {b : Option Bool} (h : yd ops st j = some b) : yielded ops a.tmps j = b := by
  unfold yd at h
  split at h
  · rename_i d hd
    split at h
    · rename_i b' hb
      simp at h
      subst h
      have := hr.tm d
      rw [hb] at this
      have h1 : a.tmps.getD d undef = .bool b' := this.1
      have h2 : a.tmps[d]? = some (.bool b') := by
        rw [Array.getD_eq_getD_getElem?] at h1
        cases ht : a.tmps[d]? with
        | none => rw [ht] at h1; simp [undef] at h1
        | some v => rw [ht] at h1; simp at h1; rw [h1]
      simp [yielded, hd, h2]
    · rename_i hb
      simp at h
      subst h
      have := hr.tm d
      rw [hb] at this
      obtain ⟨vs, h1, h2⟩ := this
      have h3 : vs = [] := List.eq_nil_of_length_eq_zero h2.length
      subst h3
      cases ht : a.tmps[d]? with
      | none => simp [yielded, hd, ht]
      | some v =>
        rw [Array.getD_eq_getD_getElem?, ht] at h1
        simp at h1
        subst h1
        simp [yielded, hd, ht]
    · simp at h
  · simp at h
/-- One operation, its guard looked at, in wpOpIn's own words. -/
theorem xg_op {o : Oper} {K : St → Prop} {i : Nat} (ho : ops[i]? = some o) (h : xg P ops o st K) {next : Act → World → Prop} {QQ : Exit → Act → World → Prop} (hn : ∀ σ' st' a' w', K st' → RelS cx σ' st' a' w' → next a' w')
    {σ : Nat → Hd} {a : Act} {w : World} (hr : RelS cx σ st a w) : wpOpIn (fR R) 0 P ops QQ i next a w := by
  unfold wpOpIn
  simp only [ho]
  unfold xg at h
  split at h
  · rename_i hg
    simp only [Region.wanted, hg, if_true]
    exact ⟨fun f _ => fR_fn R f, xo_sound (R := R) (cx := cx) h σ a w hr _ _ hn⟩
  · rename_i j want hg
    obtain ⟨b, hb, h⟩ := wh_elim h
    have hy := yd_sound hr hb
    simp only [Region.wanted, hg, hy]
    by_cases e : b = some want
    · subst e
      simp only [beq_self_eq_true, if_true] at h ⊢
      exact ⟨fun f _ => fR_fn R f, xo_sound (R := R) (cx := cx) h σ a w hr _ _ hn⟩
    · have : (b == some want) = false := by simp [e]
      rw [if_neg e] at h
      simp only [this, Bool.false_eq_true, if_false]
      exact ⟨fun f _ => fR_fn R f, hn σ _ _ w h (hr.put o.dst ⟨[], rfl, trivial⟩)⟩
theorem AO.xops : ∀ (os : List Oper) (k : Nat) (st : St), ops.toList.drop k = os → Go.Proofs.Ytlkhfdccapkcdaa.xops P ops os st (fun s => Q .normal s) → AO P R cx ops Q (List.range' k os.length) st
  | [], k, st, hd, h => AO.nil h
  | o :: os, k, st, hd, h => by
    intro σ a w hr
    have hk : ops[k]? = some o := by
      have : (ops.toList.drop k)[0]? = some o := by rw [hd]; rfl
      rw [List.getElem?_drop, Nat.add_zero] at this
      rw [← Array.getElem?_toList]; exact this
    have hd' : ops.toList.drop (k + 1) = os := by
      have := congrArg List.tail hd
      simpa [List.tail_drop] using this
    show wpOpsIn _ _ _ _ _ (List.range' k (os.length + 1)) a w
    rw [List.range'_succ, wpOpsIn_cons]
    exact xg_op (cx := cx) hk h (fun σ' st' a' w' hK hr' => AO.xops os (k + 1) st' hd' hK σ' a' w' hr') hr
/-- A region in the text's order. -/
theorem AW.xregion {id : Nat} (h : xops P ops ops.toList st (fun s => Q .normal s)) : AW P R cx (.region id ops false) Q st := by
  refine AW.region ?_
  have := AO.xops (R := R) (cx := cx) (Q := Q) ops.toList 0 st (by simp) h
  rwa [Array.length_toList, ← List.range_eq_range'] at this
end
end Go.Proofs.Ytlkhfdccapkcdaa
