/- Regions whose order is drawn (2): the rule. -/
import Derived.Test.YtlkhfdccapkcdaaA21
namespace Go.Proofs.Ytlkhfdccapkcdaa
open Go Go.RowKit
set_option linter.unusedVariables false
set_option linter.unusedSimpArgs false

theorem cnt_insert {i : Nat} {p q : Nat → Bool} : ∀ {l : List Nat}, l.Nodup → i ∈ l → p i = false → q i = true → (∀ e, e ≠ i → q e = p e) → (l.filter q).length = (l.filter p).length + 1
  | [], _, h, _, _, _ => by simp at h
  | a :: l, hn, h, hp, hq, hpq => by
    have hn' := List.nodup_cons.1 hn
    by_cases e : a = i
    · subst e
      have : l.filter q = l.filter p := by
        refine List.filter_congr fun x hx => hpq x fun e => ?_
        subst e; exact hn'.1 hx
      simp [hp, hq, this]
    · have ih := cnt_insert hn'.2 (by rcases List.mem_cons.1 h with e' | e'; exact absurd e'.symm e; exact e') hp hq hpq
      simp only [List.filter_cons, hpq a e]
      split
      · simp [ih]
      · exact ih
theorem cnt_mono {p q : Nat → Bool} (h : ∀ e, p e = true → q e = true) : ∀ l : List Nat, (l.filter p).length ≤ (l.filter q).length
  | [] => by simp
  | a :: l => by
    have ih := cnt_mono h l
    simp only [List.filter_cons]
    split
    · rename_i hp
      rw [if_pos (h a hp)]
      simpa using ih
    · split
      · simp; omega
      · exact ih
theorem efCount_mono {D : List DI} {p q : Nat → Bool} (h : ∀ e, (D[e]?).any (·.ef) = true → p e = true → q e = true) : efCount D p ≤ efCount D q :=
  cnt_mono (fun e he => by simp only [Bool.and_eq_true] at he ⊢; exact ⟨he.1, h e he.1 he.2⟩) _
theorem efCount_congr {D : List DI} {p q : Nat → Bool} (h : ∀ e, (D[e]?).any (·.ef) = true → p e = q e) : efCount D p = efCount D q :=
  Nat.le_antisymm (efCount_mono fun e he hp => by rw [← h e he]; exact hp) (efCount_mono fun e he hp => by rw [h e he]; exact hp)

section
variable {P : Program} {cx : Cx} {st : St} {ops : Array Oper} {D : List DI} {n1 : Nat} {V : List AV} {M : List (List (Option Ob))} {Q : Post} {R : Option Nat} {listed : Array Bool}
theorem ready_mem (hs : listed.size = ops.size) {i : Nat} (h : i ∈ Region.ready .any ops listed) : ∃ o, ops[i]? = some o ∧ Ls listed i = false ∧ ∀ p ∈ before o, Ls listed p = true := by
  simp only [Region.ready, List.mem_filter, List.mem_range, Bool.and_eq_true] at h
  obtain ⟨h1, h2, h3⟩ := h
  have ho : ops[i]? = some ops[i] := Array.getElem?_eq_getElem h1
  refine ⟨_, ho, ?_, fun p hp => ?_⟩
  · have hl : i < listed.size := by omega
    simp only [Ls, Array.getD_eq_getD_getElem?, Array.getElem?_eq_getElem hl, Option.getD_some] at h2 ⊢
    simpa using h2
  · rw [ho] at h3
    simp only [Option.map_some, Option.getD_some, Array.all_eq_true_iff_forall_mem] at h3
    simp only [before, List.mem_map, List.mem_filter] at hp
    obtain ⟨e, ⟨he, hb⟩, rfl⟩ := hp
    have := h3 e (by simpa using he)
    rw [hb] at this
    simpa [Ls] using this
theorem ready_of (hs : listed.size = ops.size) {i : Nat} {o : Oper} (ho : ops[i]? = some o) (hl : Ls listed i = false) (hp : ∀ p ∈ before o, Ls listed p = true) : i ∈ Region.ready .any ops listed := by
  have hi : i < ops.size := (Array.getElem?_eq_some_iff.1 ho).1
  simp only [Region.ready, List.mem_filter, List.mem_range, Bool.and_eq_true]
  refine ⟨hi, ?_, ?_⟩
  · have hl' : i < listed.size := by omega
    simp only [Ls, Array.getD_eq_getD_getElem?, Array.getElem?_eq_getElem hl', Option.getD_some] at hl ⊢
    simpa using hl
  · rw [ho]
    simp only [Option.map_some, Option.getD_some, Array.all_eq_true_iff_forall_mem]
    intro e he
    cases hb : Region.binds .any e
    · rfl
    · have := hp e.on (by simp only [before, List.mem_map, List.mem_filter]; exact ⟨e, ⟨by simpa using he, hb⟩, rfl⟩)
      simpa [Ls] using this
theorem ready_nil (hc : chkD ops D n1 = true) (hs : listed.size = ops.size) (h : Region.ready .any ops listed = []) : ∀ i, i < ops.size → Ls listed i = true := by
  intro i
  induction i using Nat.strongRecOn with
  | _ i ih =>
    intro hi
    have ho : ops[i]? = some ops[i] := Array.getElem?_eq_getElem hi
    obtain ⟨d, hd, hR⟩ := chk_right hc ho
    cases hl : Ls listed i
    · have := ready_of hs ho hl fun p hp => ih p (hR.back p hp) (by have := hR.back p hp; omega)
      rw [h] at this
      simp at this
    · rfl
theorem Ls_set {i : Nat} (hi : i < listed.size) (j : Nat) : Ls (listed.setIfInBounds i true) j = if j = i then true else Ls listed j := by
  simp only [Ls, Array.getD_eq_getD_getElem?]
  by_cases e : j = i
  · subst e; simp [hi]
  · rw [Array.getElem?_setIfInBounds_ne (Ne.symm e), if_neg e]
/-- What has been listed has all listed that comes ahead of it. -/
def Clo (ops : Array Oper) (D : List DI) (listed : Array Bool) : Prop := ∀ i, i < ops.size → Ls listed i = true → ∀ j, inAn D i j = true → Ls listed j = true
theorem Clo.an (hcl : Clo ops D listed) (hc : chkD ops D n1 = true) {i : Nat} {o : Oper} {d : DI} (ho : ops[i]? = some o) (hR : Right ops D n1 i o d) (hp : ∀ p ∈ before o, Ls listed p = true) : ∀ j ∈ d.an, Ls listed j = true := by
  intro j hj
  obtain ⟨p, hpb, h⟩ := hR.an j hj
  have hi : i < ops.size := (Array.getElem?_eq_some_iff.1 ho).1
  have := hR.back p hpb
  rcases h with rfl | h
  · exact hp p hpb
  · exact hcl p (by omega) (hp p hpb) j h
theorem Clo.set (hcl : Clo ops D listed) {i : Nat} {d : DI} (hi : i < listed.size) (hd : D[i]? = some d) (han : ∀ j ∈ d.an, Ls listed j = true) : Clo ops D (listed.setIfInBounds i true) := by
  intro k hk hl j hj
  rw [Ls_set hi] at hl ⊢
  split
  · rfl
  · by_cases e : k = i
    · subst e
      rw [inAn, hd] at hj
      exact han j (by simpa using hj)
    · rw [if_neg e] at hl
      exact hcl k hk hl j hj
/-- One operation leaves a state in K. -/
def OpG (P : Program) (R : Option Nat) (cx : Cx) (ops : Array Oper) (i : Nat) (s : St) (K : St → Prop) : Prop :=
  ∀ (next : Act → World → Prop) (QQ : Exit → Act → World → Prop) (σ : Nat → Hd) (a : Act) (w : World), (∀ σ' s' a' w', K s' → RelS cx σ' s' a' w' → next a' w') → RelS cx σ s a w → wpOpIn (fR R) 0 P ops QQ i next a w
/-- Operations from the i-th on, in the text's order. -/
def xopsY (P : Program) (R : Option Nat) (cx : Cx) (ops : Array Oper) : List Oper → Nat → St → (St → Prop) → Prop
  | [], _, s, K => K s
  | o :: os, i, s, K => OpG P R cx ops i s fun s' => xopsY P R cx ops os (i + 1) s' K
theorem xops_Y {K : St → Prop} : ∀ (os : List Oper) (i : Nat) (s : St), ops.toList.drop i = os → xops P ops os s K → xopsY P R cx ops os i s K
  | [], i, s, _, h => h
  | o :: os, i, s, hd, h => by
    have ho : ops[i]? = some o := by
      have : ops.toList[i]? = some o := by
        have := congrArg (fun l => l[0]?) hd
        simpa using this
      simpa using this
    intro next QQ σ a w hn hr
    refine xg_op ho h (fun σ' s' a' w' hk hr' => hn σ' s' a' w' ?_ hr') hr
    refine xops_Y os (i + 1) s' ?_ hk
    have := congrArg (List.drop 1) hd
    simpa [Nat.add_comm] using this
/-- The second part: in the text's order. -/
theorem drawn2 (hc : chkD ops D n1 = true) : ∀ (m : Nat) (listed : Array Bool) (k : Nat) (s : St) (σ : Nat → Hd) (a : Act) (w : World), listed.size = ops.size → ops.size ≤ k + m → n1 ≤ k → (∀ j, j < ops.size → (Ls listed j = true ↔ j < k)) →
    xopsY P R cx ops (ops.toList.drop k) k s (fun s => Q .normal s) → RelS cx σ s a w → wpAnyIn (fR R) 0 P .any ops (post cx Q) m listed a w
  | 0, listed, k, s, σ, a, w, hs, hk, hn, hL, hx, hr => by
    have hall : ∀ j, j < ops.size → Ls listed j = true := fun j hj => (hL j hj).2 (by omega)
    have hnil : Region.ready .any ops listed = [] := by
      rw [List.eq_nil_iff_forall_not_mem]
      intro i hi
      obtain ⟨o, ho, hf, _⟩ := ready_mem hs hi
      rw [hall i (Array.getElem?_eq_some_iff.1 ho).1] at hf
      simp at hf
    refine ⟨hnil, σ, s, hr, ?_⟩
    rw [List.drop_eq_nil_of_le (by simp; omega)] at hx
    exact hx
  | m + 1, listed, k, s, σ, a, w, hs, hk, hn, hL, hx, hr => by
    refine ⟨fun hnil => ?_, fun i hi => ?_⟩
    · have hkl : ops.size ≤ k := by
        apply Nat.le_of_not_lt
        intro hkl
        have h1 := ready_nil hc hs hnil k hkl
        have h2 := (hL k hkl).1 h1
        omega
      rw [List.drop_eq_nil_of_le (by simp; omega)] at hx
      exact ⟨σ, s, hr, hx⟩
    · obtain ⟨o, ho, hf, hp⟩ := ready_mem hs hi
      have hin : i < ops.size := (Array.getElem?_eq_some_iff.1 ho).1
      obtain ⟨d, hd, hR⟩ := chk_right hc ho
      have hik : i = k := by
        have h1 : ¬ i < k := fun h => by rw [(hL i hin).2 h] at hf; simp at hf
        by_cases e : k < i
        · exfalso
          have h2 := (hR.late (by omega)).2 k e
          obtain ⟨p, hpb, h3⟩ := hR.an k h2
          have hpl := hR.back p hpb
          have h4 := (hL p (by omega)).1 (hp p hpb)
          rcases h3 with rfl | h3
          · omega
          · obtain ⟨d', hd', hR'⟩ := chk_right hc (Array.getElem?_eq_getElem (show p < ops.size by omega))
            rw [inAn, hd'] at h3
            have h5 : k ∈ d'.an := by simpa using h3
            -- what comes ahead comes ahead in the text
            have key : ∀ q, q < ops.size → ∀ d'', D[q]? = some d'' → ∀ j ∈ d''.an, j < q := by
              intro q
              induction q using Nat.strongRecOn with
              | _ q ih =>
                intro hq d'' hd'' j hj
                obtain ⟨d3, hd3, hR3⟩ := chk_right hc (Array.getElem?_eq_getElem hq)
                rw [hd''] at hd3
                cases hd3
                obtain ⟨p', hp', h6⟩ := hR3.an j hj
                have := hR3.back p' hp'
                rcases h6 with rfl | h6
                · exact this
                · cases hd4 : D[p']? with
                  | none => rw [inAn, hd4] at h6; simp at h6
                  | some d4 =>
                    rw [inAn, hd4] at h6
                    have := ih p' this (by omega) d4 hd4 j (by simpa using h6)
                    omega
            have := key p (by omega) d' hd' k h5
            omega
        · omega
      subst hik
      have hdrop : ops.toList.drop i = o :: ops.toList.drop (i + 1) := by
        have hl : i < ops.toList.length := by simpa using hin
        rw [List.drop_eq_getElem_cons hl]
        congr 1
        have := (Array.getElem?_eq_some_iff.1 ho).2
        simpa using this
      rw [hdrop] at hx
      refine hx _ _ σ a w (fun σ' s' a' w' hk' hr' => ?_) hr
      refine drawn2 hc m _ (i + 1) s' σ' a' w' (by simpa using hs) (by omega) (by omega) (fun j hj => ?_) hk' hr'
      rw [Ls_set (by omega)]
      split
      · simp; omega
      · rw [hL j hj]; omega
theorem tmD_eq : ∀ (os : List Oper) (V : List AV) (tm : Tm) (t : Nat), (∀ (j : Nat) (v : AV), V[j]? = some v → (os[j]?).bind Oper.dst = some t → (∀ (i : Nat) (v' : AV), V[i]? = some v' → (os[i]?).bind Oper.dst = some t → i = j) → lk (tmD os V tm) t = v) ∧ ((∀ (j : Nat) (v : AV), V[j]? = some v → (os[j]?).bind Oper.dst ≠ some t) → lk (tmD os V tm) t = lk tm t)
  | [], V, tm, t => ⟨fun j v hv ho => by simp at ho, fun _ => by simp [tmD]⟩
  | o :: os, [], tm, t => ⟨fun j v hv => by simp at hv, fun _ => by simp [tmD]⟩
  | o :: os, v :: vs, tm, t => by
    obtain ⟨ih1, ih2⟩ := tmD_eq os vs tm t
    refine ⟨fun j x hx ho hu => ?_, fun hn => ?_⟩
    · cases j with
      | zero =>
        simp at hx ho
        subst hx
        rw [tmD, lk_putD, if_pos ho]
      | succ j =>
        simp at hx ho
        have h0 : o.dst ≠ some t := fun e => by
          have := hu 0 v rfl (by simpa using e)
          omega
        have : lk (tmD (o :: os) (v :: vs) tm) t = lk (tmD os vs tm) t := by
          rw [tmD, lk_putD, if_neg h0]
        rw [this]
        exact ih1 j x hx (by simpa using ho) fun i v' hv' hi => by
          have := hu (i + 1) v' (by simpa using hv') (by simpa using hi)
          omega
    · have h0 : o.dst ≠ some t := fun e => hn 0 v rfl (by simpa using e)
      have : lk (tmD (o :: os) (v :: vs) tm) t = lk (tmD os vs tm) t := by
        rw [tmD, lk_putD, if_neg h0]
      rw [this]
      exact ih2 fun j x hx => by have := hn (j + 1) x (by simpa using hx); simpa using this
theorem getD_lt {V : List AV} {j : Nat} {v : AV} (h : V[j]? = some v) : V.getD j (.l .u) = v := by simp [List.getD_eq_getElem?_getD, h]
theorem dsOf_list (j : Nat) : dsOf ops j = (ops.toList[j]?).bind Oper.dst := by simp [dsOf]
/-- The first part: in whatever order. -/
structure In1 (ops : Array Oper) (D : List DI) (n1 : Nat) (V : List AV) (M : List (List (Option Ob))) (st : St) (listed : Array Bool) (s : St) : Prop where
  nt : s.nt = st.nt
  gh : s.gh = st.gh
  ls : s.ls = st.ls
  ob : s.ob = M.getD (efCount D fun e => decide (e < n1) && Ls listed e) []
  wr : ∀ (t j : Nat), j < n1 → Ls listed j = true → dsOf ops j = some t → lk s.tm t = V.getD j (.l .u)
  un : ∀ t, (∀ j, j < n1 → Ls listed j = true → dsOf ops j ≠ some t) → lk s.tm t = lk st.tm t
theorem drawn1 (hc : chkD ops D n1 = true) (hV : V.length = n1) (hn : n1 ≤ ops.size) (hO : Obl P ops V M st ops.toList D V)
    (hx : xopsY P R cx ops (ops.toList.drop n1) n1 ⟨tmD ops.toList V st.tm, M.getD (efCount D fun e => decide (e < n1)) [], st.nt, st.gh, st.ls⟩ (fun s => Q .normal s)) :
    ∀ (fuel : Nat) (listed : Array Bool) (s : St) (σ : Nat → Hd) (a : Act) (w : World), listed.size = ops.size → Clo ops D listed → ((List.range n1).filter fun i => !Ls listed i).length + (ops.size - n1) ≤ fuel →
      (∀ j, n1 ≤ j → j < ops.size → Ls listed j = false) → In1 ops D n1 V M st listed s → RelS cx σ s a w → wpAnyIn (fR R) 0 P .any ops (post cx Q) fuel listed a w := by
  intro fuel
  have whole : ∀ (fuel : Nat) (listed : Array Bool) (s : St) (σ : Nat → Hd) (a : Act) (w : World), listed.size = ops.size → ops.size - n1 ≤ fuel →
      (∀ j, n1 ≤ j → j < ops.size → Ls listed j = false) → (∀ j, j < n1 → Ls listed j = true) → In1 ops D n1 V M st listed s → RelS cx σ s a w → wpAnyIn (fR R) 0 P .any ops (post cx Q) fuel listed a w := by
    intro fuel listed s σ a w hs hf hlate hall hI hr
    refine drawn2 hc fuel listed n1 ⟨tmD ops.toList V st.tm, M.getD (efCount D fun e => decide (e < n1)) [], st.nt, st.gh, st.ls⟩ σ a w hs (by omega) (Nat.le_refl _) (fun j hj => ?_) hx ?_
    · constructor
      · intro h
        apply Nat.lt_of_not_le
        intro h'
        rw [hlate j h' hj] at h
        simp at h
      · exact hall j
    · have e1 : s.ob = M.getD (efCount D fun e => decide (e < n1)) [] := by
        rw [hI.ob]
        congr 1
        refine efCount_congr fun e _ => ?_
        by_cases h : e < n1
        · simp [h, hall e h]
        · simp [h]
      have hlk : ∀ t, lk (tmD ops.toList V st.tm) t = lk s.tm t := by
        intro t
        by_cases h : ∃ j, j < n1 ∧ dsOf ops j = some t
        · obtain ⟨j, hj, hjt⟩ := h
          rw [hI.wr t j hj (hall j hj) hjt]
          have hv : V[j]? = some V[j] := List.getElem?_eq_getElem (by omega)
          rw [getD_lt hv]
          refine (tmD_eq ops.toList V st.tm t).1 j _ hv (by rw [← dsOf_list]; exact hjt) fun i v' hi hit => ?_
          rw [← dsOf_list] at hit
          apply Classical.byContradiction
          intro hne
          have hil : i < ops.size := by have := (List.getElem?_eq_some_iff.1 hi).1; omega
          have ho : ops[i]? = some (ops[i]'hil) := Array.getElem?_eq_getElem hil
          obtain ⟨d, hd, hR⟩ := chk_right hc ho
          have hi' : i < n1 := by have := (List.getElem?_eq_some_iff.1 hi).1; omega
          refine hR.dst hi' j hj hne (by rw [hjt]; simp) ?_
          rw [hjt, ← hit, dsOf, ho]
          rfl
        · rw [hI.un t fun j hj _ e => h ⟨j, hj, e⟩]
          refine (tmD_eq ops.toList V st.tm t).2 fun j v hv e => h ⟨j, by have := (List.getElem?_eq_some_iff.1 hv).1; omega, by rw [dsOf_list]; exact e⟩
      refine ⟨?_, fun t => ?_, ?_, ?_, hr.dm⟩
      · have := hr.h
        rw [e1, hI.ls] at this
        exact this
      · have := hr.tm t
        rw [e1] at this
        rw [hlk]
        exact this
      · rw [hr.nt, hI.nt]
      · have := hr.gh
        rw [e1, hI.gh] at this
        exact this
  induction fuel with
  | zero =>
    intro listed s σ a w hs hcl hf hlate hI hr
    have h0 : ((List.range n1).filter fun i => !Ls listed i).length = 0 := by omega
    refine whole 0 listed s σ a w hs (by omega) hlate (fun j hj => ?_) hI hr
    have := List.filter_eq_nil_iff.1 (List.eq_nil_of_length_eq_zero h0) j (List.mem_range.2 hj)
    simpa using this
  | succ fuel ih =>
    intro listed s σ a w hs hcl hf hlate hI hr
    by_cases hall : ∀ j, j < n1 → Ls listed j = true
    · exact whole (fuel + 1) listed s σ a w hs (by omega) hlate hall hI hr
    · refine ⟨fun hnil => ?_, fun i hi => ?_⟩
      · exact absurd (fun j hj => ready_nil hc hs hnil j (by omega)) hall
      · obtain ⟨o, ho, hfl, hp⟩ := ready_mem hs hi
        have hin : i < ops.size := (Array.getElem?_eq_some_iff.1 ho).1
        obtain ⟨d, hd, hR⟩ := chk_right hc ho
        have han := hcl.an hc ho hR hp
        have hi1 : i < n1 := by
          apply Classical.byContradiction
          intro h
          exact hall fun j hj => han j ((hR.late h).2 j (by omega))
        obtain ⟨o', d', v, h1, h2, h3, h4⟩ := hO.get i (by omega)
        have : o' = o := by
          have : ops.toList[i]? = some o := by simpa using ho
          rw [h1] at this
          simpa using this
        subst this
        rw [hd] at h2
        cases h2
        have hv := getD_lt h3
        -- how many effects have been
        have hk : (efCount D fun e => decide (e < n1) && Ls listed e) ∈ d.ks := by
          cases hef : d.ef
          · refine hR.ne hi1 hef _ (efCount_mono fun e he h => ?_) (efCount_mono fun e he h => ?_)
            · have h5 : e ∈ d.an := by simpa using h
              rw [han e h5]
              simp
              apply Nat.lt_of_not_le
              intro h6
              by_cases h7 : e < ops.size
              · have h8 := han e h5
                rw [hlate e h6 h7] at h8
                simp at h8
              · have h8 := han e h5
                have h9 : ¬ e < listed.size := by omega
                simp [Ls, Array.getD_eq_getD_getElem?, h9] at h8
            · simp only [Bool.and_eq_true, decide_eq_true_eq] at h
              simp only [Bool.and_eq_true, decide_eq_true_eq, Bool.not_eq_true']
              refine ⟨h.1, ?_⟩
              cases h5 : inAn D e i
              · rfl
              · have := hcl e (by omega) h.2 i h5
                rw [hfl] at this
                simp at this
          · obtain ⟨h5, h6⟩ := hR.ef hi1 hef
            rw [h5, List.mem_singleton]
            refine efCount_congr fun e he => ?_
            by_cases h7 : e < n1 ∧ Ls listed e = true
            · have hne : e ≠ i := fun h => by subst h; rw [hfl] at h7; simp at h7
              have h8 : e ∈ d.an := by
                rcases h6 e h7.1 hne he with h9 | h9
                · exact h9
                · have := hcl e (by omega) h7.2 i h9
                  rw [hfl] at this
                  simp at this
              simp [h7.1, h7.2, h8]
            · have h8 : ¬ e ∈ d.an := fun h8 => by
                have h9 := han e h8
                refine h7 ⟨?_, h9⟩
                apply Nat.lt_of_not_le
                intro h10
                by_cases h11 : e < ops.size
                · rw [hlate e h10 h11] at h9
                  simp at h9
                · have h12 : ¬ e < listed.size := by omega
                  simp [Ls, Array.getD_eq_getD_getElem?, h12] at h9
              have h9 : (decide (e < n1) && Ls listed e) = false := by
                cases hq : (decide (e < n1) && Ls listed e)
                · rfl
                · simp only [Bool.and_eq_true, decide_eq_true_eq] at hq
                  exact absurd hq h7
              simp [h9, h8]
        have hrd : AllL (fun r => lk s.tm r.1 = rdV V st.tm r) d.rd := AllL.of fun r hr' => by
          have h5 := hR.rd hi1 r hr'
          obtain ⟨t, x⟩ := r
          cases x with
          | some j => exact hI.wr t j h5.2.1 (han j h5.1) h5.2.2
          | none =>
            refine hI.un t fun j hj hlj hjt => ?_
            rcases h5 j hj hjt with h6 | h6
            · subst h6; rw [hfl] at hlj; simp at hlj
            · have := hcl j (by omega) hlj i h6
              rw [hfl] at this
              simp at this
        have hxg := AllL.mem h4 _ hk s.tm hrd
        have hsE : s = ⟨s.tm, M.getD (efCount D fun e => decide (e < n1) && Ls listed e) [], st.nt, st.gh, st.ls⟩ := by
          rw [← hI.ob, ← hI.nt, ← hI.gh, ← hI.ls]
        rw [← hsE] at hxg
        refine xg_op ho hxg (fun σ' s' a' w' hk' hr' => ?_) hr
        obtain ⟨v', hlk, hvv, hob, hnt, hgh, hls⟩ := hk'
        subst hvv
        refine ih _ s' σ' a' w' (by simpa using hs) (hcl.set (by omega) hd han) ?_ (fun j hj hjs => ?_) ⟨hnt, hgh, hls, ?_, fun t j hj hlj hjt => ?_, fun t hun => ?_⟩ hr'
        · have := cnt_insert (i := i) (p := fun j => !Ls (listed.setIfInBounds i true) j) (q := fun j => !Ls listed j) (List.nodup_range (n := n1)) (List.mem_range.2 hi1) (by simp [Ls_set (show i < listed.size by omega)]) (by simp [hfl]) (fun e he => by simp [Ls_set (show i < listed.size by omega), he])
          omega
        · rw [Ls_set (by omega), if_neg (by omega)]
          exact hlate j hj hjs
        · rw [hob]
          congr 1
          cases hef : d.ef
          · refine efCount_congr fun e he => ?_
            rw [Ls_set (by omega)]
            split
            · rename_i h; subst h; rw [hd] at he; simp [hef] at he
            · rfl
          · show _ = efCount D _
            unfold efCount
            refine (cnt_insert (i := i) List.nodup_range (List.mem_range.2 (List.getElem?_eq_some_iff.1 hd).1) ?_ ?_ fun e he => ?_).symm
            · simp [hfl]
            · simp [hd, hef, hi1, Ls_set (show i < listed.size by omega)]
            · have h5 : Ls (listed.setIfInBounds i true) e = Ls listed e := by rw [Ls_set (by omega), if_neg he]
              simp only [h5]
        · rw [Ls_set (by omega)] at hlj
          rw [hlk]
          by_cases e : j = i
          · subst e
            have : o'.dst = some t := by rw [dsOf, ho] at hjt; exact hjt
            rw [lk_putD, if_pos this, hv]
          · rw [if_neg e] at hlj
            have hne : o'.dst ≠ some t := fun h => hR.dst hi1 j hj (Ne.symm e) (by rw [hjt]; simp) (by rw [hjt, h])
            rw [lk_putD, if_neg hne]
            exact hI.wr t j hj hlj hjt
        · rw [hlk]
          have hne : o'.dst ≠ some t := fun h => hun i hi1 (by rw [Ls_set (by omega), if_pos rfl]) (by rw [dsOf, ho]; exact h)
          rw [lk_putD, if_neg hne]
          refine hI.un t fun j hj hlj => hun j hj ?_
          rw [Ls_set (by omega)]
          split
          · rfl
          · exact hlj
theorem AW.drawnY (hm : P.follows .mixedOrders = true) {id : Nat} {c : Code} (D : List DI) (n1 : Nat) (V : List AV) (M : List (List (Option Ob))) (N : St → Prop) (hc : chkD ops D n1 = true) (hV : V.length = n1) (hM : M.getD 0 [] = st.ob) (hO : Obl P ops V M st ops.toList D V)
    {me : List (Option Ob)} (hme : M.getD (efCount D fun e => decide (e < n1)) [] = me) (hx : xopsY P R cx ops (ops.toList.drop n1) n1 ⟨tmD ops.toList V st.tm, me, st.nt, st.gh, st.ls⟩ N) (k : ∀ s, N s → AW P R cx c Q s) : AW P R cx (.seq (.region id ops true) c) Q st := by
  subst hme
  have hn : n1 ≤ ops.size := by
    simp only [chkD, Bool.and_eq_true, decide_eq_true_eq] at hc
    exact hc.1.2
  have h1 : AW P R cx (.region id ops true) (fun e s => e = .normal ∧ N s) st := by
    intro σ a w hr
    refine wpIn_region_any hm ?_
    have hLf : ∀ j, Ls (Array.replicate ops.size false) j = false := fun j => by
      simp only [Ls, Array.getD_eq_getD_getElem?, Array.getElem?_replicate]
      split <;> rfl
    have hr' : RelS cx σ st a { w with drawn := w.drawn + 1 } := hr.drewN 1
    refine drawn1 hc hV hn hO (by simpa using hx) ops.size _ st σ a _ (by simp) (fun i hi h => by rw [hLf] at h; simp at h) ?_ (fun j _ _ => hLf j) ⟨rfl, rfl, rfl, ?_, fun t j _ h => by rw [hLf] at h; simp at h, fun t _ => rfl⟩ hr'
    · have : ((List.range n1).filter fun i => !Ls (Array.replicate ops.size false) i).length ≤ n1 := by
        have := List.length_filter_le (fun i => !Ls (Array.replicate ops.size false) i) (List.range n1)
        simpa using this
      omega
    · rw [← hM]
      congr 1
      have : efCount D (fun e => decide (e < n1) && Ls (Array.replicate ops.size false) e) = efCount D fun _ => false := efCount_congr fun e _ => by simp [hLf]
      rw [this]
      have h5 : (List.filter (fun _ => false) (List.range D.length)) = [] := List.filter_eq_nil_iff.2 fun _ _ => by simp
      simp [efCount, h5]
  refine AW.seq (AW.mono h1 ?_)
  rintro e s ⟨rfl, hs⟩
  exact k s hs
theorem AW.drawn (hm : P.follows .mixedOrders = true) {id : Nat} {c : Code} (D : List DI) (n1 : Nat) (V : List AV) (M : List (List (Option Ob))) (st' : St) (hc : chkD ops D n1 = true) (hV : V.length = n1) (hM : M.getD 0 [] = st.ob) (hO : Obl P ops V M st ops.toList D V)
    {me : List (Option Ob)} (hme : M.getD (efCount D fun e => decide (e < n1)) [] = me) (hx : xops P ops (ops.toList.drop n1) ⟨tmD ops.toList V st.tm, me, st.nt, st.gh, st.ls⟩ (fun s => s = st')) (k : AW P R cx c Q st') : AW P R cx (.seq (.region id ops true) c) Q st :=
  AW.drawnY hm D n1 V M (fun s => s = st') hc hV hM hO hme (xops_Y _ _ _ rfl hx) fun s hs => by subst hs; exact k
/-- A region in the text's order, with operations that run rounds. -/
theorem AW.stepY {id : Nat} {c : Code} (N : St → Prop) (h : xopsY P R cx ops ops.toList 0 st N) (k : ∀ s, N s → AW P R cx c Q s) : AW P R cx (.seq (.region id ops false) c) Q st := by
  have key : ∀ (os : List Oper) (i : Nat) (s : St), ops.toList.drop i = os → xopsY P R cx ops os i s N → AO P R cx ops (fun e s => e = .normal ∧ N s) (List.range' i os.length) s := by
    intro os
    induction os with
    | nil => intro i s _ hx σ a w hr; exact ⟨σ, s, hr, rfl, hx⟩
    | cons o os ih =>
      intro i s hd hx σ a w hr
      rw [List.length_cons, List.range'_succ, wpOpsIn_cons]
      refine hx _ _ σ a w (fun σ' s' a' w' hk hr' => ?_) hr
      refine ih (i + 1) s' ?_ hk σ' a' w' hr'
      have := congrArg (List.drop 1) hd
      simpa [Nat.add_comm] using this
  refine AW.seq (AW.mono (AW.region (Q := fun e s => e = .normal ∧ N s) ?_) ?_)
  · have := key ops.toList 0 st rfl h
    rw [← List.range_eq_range'] at this
    simpa using this
  · rintro e s ⟨rfl, hs⟩
    exact k s hs
theorem xopsY_pre {K : St → Prop} {s1 : St} (os' : List Oper) : ∀ (os : List Oper) (i : Nat) (s : St), ops.toList.drop i = os ++ os' → xops P ops os s (fun s => s = s1) → xopsY P R cx ops os' (i + os.length) s1 K → xopsY P R cx ops (os ++ os') i s K
  | [], i, s, _, h, hk => by
    have : s = s1 := h
    subst this
    exact hk
  | o :: os, i, s, hd, h, hk => by
    have ho : ops[i]? = some o := by
      have : ops.toList[i]? = some o := by
        have := congrArg (fun l => l[0]?) hd
        simpa using this
      simpa using this
    intro next QQ σ a w hn hr
    refine xg_op ho h (fun σ' s' a' w' hk' hr' => hn σ' s' a' w' ?_ hr') hr
    refine xopsY_pre os' os (i + 1) s' ?_ hk' ?_
    · have := congrArg (List.drop 1) hd
      simpa [Nat.add_comm] using this
    · rw [show i + 1 + os.length = i + (o :: os).length by simp; omega]
      exact hk
/-- The operation that runs a round. -/
theorem OpG.fam {o : Oper} {i : Nat} {s : St} {K : St → Prop} (ho : ops[i]? = some o) (hg : match o.guard with | none => True | some (j, want) => yd ops s j = some (some want)) (h : OpFam P R cx o s K) : OpG P R cx ops i s K := by
  intro next QQ σ a w hn hr
  unfold wpOpIn
  simp only [ho]
  have hw : Region.wanted o (yielded ops a.tmps) = true := by
    unfold Region.wanted
    split at hg
    · rename_i hg'; rw [hg']
    · rename_i j want hg'
      have hy := yd_sound hr hg
      rw [hg']
      show (yielded ops a.tmps j == some want) = true
      rw [hy]
      simp
  rw [if_pos hw]
  exact ⟨fun f _ => fR_fn R f, h σ a w hr _ _ hn⟩
end
end Go.Proofs.Ytlkhfdccapkcdaa
