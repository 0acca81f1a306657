/- Regions whose order is drawn: each operation does the same whenever it comes up. -/
import Derived.Test.YtlkhfdccapkcdaaA20
namespace Go.Proofs.Ytlkhfdccapkcdaa
open Go Go.RowKit
set_option linter.unusedVariables false
set_option linter.unusedSimpArgs false

def AllL {α : Type} (p : α → Prop) : List α → Prop
  | [] => True
  | [a] => p a
  | a :: b :: r => p a ∧ AllL p (b :: r)
theorem AllL.mem {α : Type} {p : α → Prop} : ∀ {l : List α}, AllL p l → ∀ a ∈ l, p a
  | [], _, a, h => by simp at h
  | [b], h, a, ha => by simp at ha; subst ha; exact h
  | b :: c :: r, h, a, ha => by
    rcases List.mem_cons.1 ha with rfl | ha
    · exact h.1
    · exact AllL.mem h.2 a ha
theorem AllL.of {α : Type} {p : α → Prop} : ∀ {l : List α}, (∀ a ∈ l, p a) → AllL p l
  | [], _ => trivial
  | [b], h => h b (by simp)
  | b :: c :: r, h => ⟨h b (by simp), AllL.of fun a ha => h a (by simp [ha])⟩

/-- What is said of an operation: how many effects may have been when it comes up; before which it never comes; at what it looks, and who wrote that. -/
structure DI where
  ks : List Nat
  an : List Nat
  rd : List (Nat × Option Nat)
  ef : Bool
def before (o : Oper) : List Nat := (o.after.toList.filter (Region.binds .any)).map (·.on)
def dsOf (ops : Array Oper) (j : Nat) : Option Nat := (ops[j]?).bind (·.dst)
def efCount (D : List DI) (p : Nat → Bool) : Nat := ((List.range D.length).filter fun e => (D[e]?).any (·.ef) && p e).length
def inAn (D : List DI) (i j : Nat) : Bool := (D[i]?).any fun d => d.an.contains j
/-- The table is right. -/
def chkD (ops : Array Oper) (D : List DI) (n1 : Nat) : Bool :=
  D.length == ops.size && decide (n1 ≤ ops.size) && (List.range ops.size).all fun i =>
    match ops[i]?, D[i]? with
    | some o, some d =>
      (before o).all (fun p => decide (p < i)) &&
      d.an.all (fun j => (before o).any fun p => p == j || inAn D p j) &&
      (if i < n1 then
        d.rd.all (fun r => match r.2 with
          | some j => d.an.contains j && decide (j < n1) && dsOf ops j == some r.1
          | none => (List.range n1).all fun j => !(dsOf ops j == some r.1) || i == j || inAn D j i) &&
        (List.range n1).all (fun j => i == j || dsOf ops j == none || !(dsOf ops j == o.dst)) &&
        (if d.ef then d.ks == [efCount D fun e => d.an.contains e] && (List.range n1).all (fun e => e == i || !((D[e]?).any (·.ef)) || d.an.contains e || inAn D e i)
          else (List.range' (efCount D fun e => d.an.contains e) (efCount D (fun e => decide (e < n1) && !inAn D e i) + 1 - efCount D fun e => d.an.contains e)).all fun k => d.ks.contains k)
      else !d.ef && (List.range i).all fun j => d.an.contains j)
    | _, _ => false
def rdV (V : List AV) (tm0 : Tm) (r : Nat × Option Nat) : AV :=
  match r.2 with
  | some j => V.getD j (.l .u)
  | none => lk tm0 r.1
def putD (dst : Option Nat) (v : AV) (tm : Tm) : Tm :=
  match dst with
  | some e => (e, v) :: tm
  | none => tm
theorem lk_putD (dst : Option Nat) (v : AV) (tm : Tm) (t : Nat) : lk (putD dst v tm) t = if dst = some t then v else lk tm t := by
  cases dst with
  | none => simp [putD]
  | some e =>
    rw [putD, lk_cons]
    by_cases h : t = e
    · subst h; simp
    · rw [if_neg h, if_neg (fun h' => h (by simpa using h'.symm))]
/-- What is asked of the operations, one by one. -/
def Obl (P : Program) (ops : Array Oper) (V : List AV) (M : List (List (Option Ob))) (st : St) : List Oper → List DI → List AV → Prop
  | o :: os, d :: ds, v :: vs => (AllL (fun k => ∀ tm, AllL (fun r => lk tm r.1 = rdV V st.tm r) d.rd → xg P ops o ⟨tm, M.getD k [], st.nt, st.gh, st.ls⟩ (fun s => ∃ v', (∀ t, lk s.tm t = lk (putD o.dst v' tm) t) ∧ v' = v ∧ s.ob = M.getD (bif d.ef then k + 1 else k) [] ∧ s.nt = st.nt ∧ s.gh = st.gh ∧ s.ls = st.ls)) d.ks) ∧ Obl P ops V M st os ds vs
  | _, _, [] => True
  | _, _, _ => False
/-- The temporaries behind the drawn part. -/
def tmD : List Oper → List AV → Tm → Tm
  | o :: os, v :: vs, tm => putD o.dst v (tmD os vs tm)
  | _, _, tm => tm

section
variable {P : Program} {cx : Cx} {st : St} {ops : Array Oper} {D : List DI} {n1 : Nat} {V : List AV} {M : List (List (Option Ob))} {Q : Post}
def Ls (listed : Array Bool) (i : Nat) : Bool := listed.getD i false
theorem Obl.get : ∀ {os : List Oper} {ds : List DI} {vs : List AV} (i : Nat), Obl P ops V M st os ds vs → i < vs.length → ∃ o d v, os[i]? = some o ∧ ds[i]? = some d ∧ vs[i]? = some v ∧
    AllL (fun k => ∀ tm, AllL (fun r => lk tm r.1 = rdV V st.tm r) d.rd → xg P ops o ⟨tm, M.getD k [], st.nt, st.gh, st.ls⟩ (fun s => ∃ v', (∀ t, lk s.tm t = lk (putD o.dst v' tm) t) ∧ v' = v ∧ s.ob = M.getD (bif d.ef then k + 1 else k) [] ∧ s.nt = st.nt ∧ s.gh = st.gh ∧ s.ls = st.ls)) d.ks
  | o :: os, d :: ds, v :: vs, 0, h, _ => ⟨o, d, v, rfl, rfl, rfl, h.1⟩
  | o :: os, d :: ds, v :: vs, i + 1, h, hi => by
    obtain ⟨o', d', v', h1, h2, h3, h4⟩ := Obl.get i h.2 (by simpa using hi)
    exact ⟨o', d', v', by simpa using h1, by simpa using h2, by simpa using h3, h4⟩
  | [], _, _ :: _, _, h, _ => by simp [Obl] at h
  | _ :: _, [], _ :: _, _, h, _ => by simp [Obl] at h
  | _, _, [], i, _, hi => by simp at hi
/-- What the table's rightness says of one operation. -/
structure Right (ops : Array Oper) (D : List DI) (n1 i : Nat) (o : Oper) (d : DI) : Prop where
  back : ∀ p ∈ before o, p < i
  an : ∀ j ∈ d.an, ∃ p ∈ before o, p = j ∨ inAn D p j = true
  rd : i < n1 → ∀ r ∈ d.rd, match r.2 with
    | some j => j ∈ d.an ∧ j < n1 ∧ dsOf ops j = some r.1
    | none => ∀ j, j < n1 → dsOf ops j = some r.1 → i = j ∨ inAn D j i = true
  dst : i < n1 → ∀ j, j < n1 → i ≠ j → dsOf ops j ≠ none → dsOf ops j ≠ o.dst
  ef : i < n1 → d.ef = true → d.ks = [efCount D fun e => d.an.contains e] ∧ ∀ e, e < n1 → e ≠ i → (D[e]?).any (·.ef) = true → e ∈ d.an ∨ inAn D e i = true
  ne : i < n1 → d.ef = false → ∀ k, (efCount D fun e => d.an.contains e) ≤ k → k ≤ efCount D (fun e => decide (e < n1) && !inAn D e i) → k ∈ d.ks
  late : ¬ i < n1 → d.ef = false ∧ ∀ j, j < i → j ∈ d.an
theorem chk_right (h : chkD ops D n1 = true) {i : Nat} {o : Oper} (ho : ops[i]? = some o) : ∃ d, D[i]? = some d ∧ Right ops D n1 i o d := by
  have hi : i < ops.size := (Array.getElem?_eq_some_iff.1 ho).1
  simp only [chkD, Bool.and_eq_true, List.all_eq_true] at h
  have h1 := h.2 i (List.mem_range.2 hi)
  rw [ho] at h1
  cases hd : D[i]? with
  | none => rw [hd] at h1; simp at h1
  | some d =>
    rw [hd] at h1
    simp only [Bool.and_eq_true, List.all_eq_true, List.any_eq_true, decide_eq_true_eq] at h1
    obtain ⟨⟨ha, hb⟩, hc⟩ := h1
    refine ⟨d, rfl, ⟨ha, fun j hj => ?_, fun hlt => ?_, fun hlt => ?_, fun hlt => ?_, fun hlt => ?_, fun hlt => ?_⟩⟩
    · obtain ⟨p, hp, h2⟩ := hb j hj
      exact ⟨p, hp, by simpa using h2⟩
    all_goals (first | rw [if_pos hlt] at hc | rw [if_neg hlt] at hc)
    all_goals simp only [Bool.and_eq_true, List.all_eq_true, List.mem_range] at hc
    · intro r hr
      have := hc.1.1 r hr
      split at this
      · simp at this; exact ⟨this.1.1, this.1.2, this.2⟩
      · intro j hj hjt
        simp at this
        rcases this j hj with (h2 | h2) | h2
        · exact absurd hjt h2
        · exact .inl h2
        · exact .inr h2
    · intro j hj hne hn e
      have := hc.1.2 j hj
      simp at this
      rcases this with (h2 | h2) | h2
      · exact hne h2
      · exact hn h2
      · exact h2 e
    · intro hef
      have := hc.2
      rw [if_pos hef] at this
      simp only [Bool.and_eq_true, List.all_eq_true, List.mem_range, beq_iff_eq] at this
      refine ⟨this.1, fun e he hne hee => ?_⟩
      have h2 := this.2 e he
      simp at h2
      rcases h2 with ((h2 | h2) | h2) | h2
      · exact absurd h2 hne
      · rw [h2] at hee; exact absurd hee (by simp)
      · exact .inl h2
      · exact .inr h2
    · intro hef k h2 h3
      have := hc.2
      rw [hef] at this
      simp only [Bool.false_eq_true, if_false, List.all_eq_true] at this
      have h4 := this k (List.mem_range'_1.2 ⟨h2, by omega⟩)
      simpa using h4
    · refine ⟨by simpa using hc.1, fun j hj => ?_⟩
      have := hc.2 j hj
      simpa using this
end
end Go.Proofs.Ytlkhfdccapkcdaa
