/- A law's contract, told as the rows tell it. -/
import Derived.Test.YtlkhfdccapkcdaaRA
import Derived.WalkKit
import Derived.ProofKit
import Derived.OpenShut
namespace Go.Proofs.Ytlkhfdccapkcdaa
open Go Go.RowKit Go.ChangeShapes Go.WideShapes Go.ChangeAt
set_option linter.unusedVariables false
set_option linter.unusedSimpArgs false

/-- A value by its cells. -/
def oneAV : List T → AV
  | [x] => .l (x.lv false)
  | _ => .l .u
def mkAV (P : Program) (t : TypeId) (ts : List T) : AV :=
  match P.underlying t with
  | some (.struct _) => .g (ts.map (T.lv false))
  | _ => oneAV ts
def mkAVs (P : Program) : List TypeId → List (List T) → List AV
  | t :: ts, x :: xs => mkAV P t x :: mkAVs P ts xs
  | _, _ => []
section
variable {H : Type} {enc : TypeId × Value → H} {P : Program} {w : World} {X Xa : Nat → Prop} {σ : Nat → Hd}
theorem rd_lv {v : Value} {t : T} (h : Rd w X v t) : RelL w X Xa σ v (t.lv false) := by
  cases h with
  | v x h1 => exact ⟨rfl, h1⟩
  | sl a n c sz es b off cv hn hc hm hs ha hz hcell hrd => exact .sl a n c sz es b off cv hn hc hm hs ha hz hcell hrd
theorem rd_all : ∀ {vs : List Value} {ts : List T}, All2 (Rd w X) vs ts → All2 (RelL w X Xa σ) vs (ts.map (T.lv false))
  | [], [], _ => trivial
  | v :: vs, t :: ts, h => ⟨rd_lv h.1, rd_all h.2⟩
  | [], _ :: _, h => h.elim
  | _ :: _, [], h => h.elim
theorem arg_rel {m n base : Nat} {t : TypeId} {v : Value} {d : DataW H} {ps : List MemPlace} (hp : PTy P m t = true) (hv : Value.okWide P w .any base t v) (h : DataW.Trod enc P w 0 (fun _ => true) true t v d ps) (hw : ∀ y ∈ DataW.weights P t d, y ≤ reachBytes)
    (hX : ∀ b, Xw w b → X b) : ∃ ts, WfT P m t ts ∧ RelV w X Xa σ v (mkAV P t ts) := by
  obtain ⟨fuel, hf⟩ := h
  obtain ⟨ts, h1, h2⟩ := open_cells m fuel t _ _ hf hp hw
  have h1' : All2 (Rd w X) v.cells.toList ts := h1.mono fun a b _ hr => hr.mono fun b hb => ⟨hX b hb, rfl⟩
  refine ⟨ts, h2, ?_⟩
  have one : (hc : v.cells = #[v]) → RelV w X Xa σ v (oneAV ts) := by
    intro hc
    rw [hc] at h1'
    cases ts with
    | nil => exact h1'.elim
    | cons x ts =>
      cases ts with
      | nil => exact rd_lv h1'.1
      | cons y ts => exact h1'.2.elim
  cases m with
  | zero => simp [PTy] at hp
  | succ m =>
    simp only [PTy] at hp
    unfold mkAV
    split at hp
    · rename_i hu
      obtain ⟨b, rfl⟩ := okWide_bool hu hv
      rw [hu]
      exact one rfl
    · rename_i k hu
      obtain ⟨b, rfl⟩ := okWide_int hu hv
      rw [hu]
      exact one rfl
    · rename_i hu
      obtain ⟨b, rfl⟩ := okWide_string hu hv
      rw [hu]
      exact one rfl
    · rename_i e hu
      obtain ⟨a, l, c, rfl⟩ := okWide_slice hu hv
      rw [hu]
      exact one rfl
    · rename_i fs hu
      rw [hu]
      simp only [Value.okWide, hu] at hv
      obtain ⟨cs, rfl, _, _⟩ := hv
      refine ⟨cs.toList, by simp, ?_⟩
      have := rd_all (Xa := Xa) (σ := σ) h1'
      simpa [Value.cells] using this
    · simp at hp
theorem args_rel {m base : Nat} (hX : ∀ b, Xw w b → X b) : ∀ (ts : List TypeId) (vs : List Value) (ds : List (DataW H)) (ps : List MemPlace), (∀ t ∈ ts, PTy P m t = true) → (∀ (j : Nat) t v, ts[j]? = some t → vs[j]? = some v → Value.okWide P w .any base t v) →
    DataW.TrodAll enc P w 0 (fun _ => true) true ts vs ds ps → (∀ y ∈ DataW.weightsEach P ts ds, y ≤ reachBytes) → ∃ tss, All2 (fun x t => WfT P m t x) tss ts ∧ All2 (RelV w X Xa σ) vs (mkAVs P ts tss) ∧ ds.length = ts.length
  | [], vs, ds, ps, _, _, h, _ => by
    obtain ⟨rfl, rfl, _⟩ := trodAll_nil h
    exact ⟨[], trivial, trivial, rfl⟩
  | t :: ts, vs, ds, ps, hp, hv, h, hw => by
    obtain ⟨v, vs', d, ds', p, q, rfl, rfl, _, h1, h2⟩ := trodAll_cons h
    simp only [DataW.weightsEach, List.mem_append] at hw
    obtain ⟨x, h3, h4⟩ := arg_rel (Xa := Xa) (σ := σ) (n := 0) (hp t (by simp)) (hv 0 t v rfl rfl) h1 (fun y hy => hw y (.inl hy)) hX
    obtain ⟨tss, h5, h6, h7⟩ := args_rel hX ts vs' ds' q (fun t' ht => hp t' (by simp [ht])) (fun j t' v' hj hj' => hv (j + 1) t' v' (by simpa using hj) (by simpa using hj')) h2 fun y hy => hw y (.inr hy)
    exact ⟨x :: tss, ⟨h3, h5⟩, ⟨h4, h6⟩, by simp [h7]⟩
theorem stay_args (hl : laidOutB P = true) {W W' : World} (hb : Below W.heap.size W W') {sp : Nat → Bool} : ∀ (ts : List TypeId) (vs : List Value) (ds : List (DataW H)) (ps : List MemPlace), (∀ t ∈ ts, P.readableRec t = true ∧ t < P.types.size) →
    DataW.TrodAll enc P W 0 (fun _ => true) true ts vs ds ps → (∀ p ∈ ps, p.block < W.heap.size) → (∀ p ∈ ps, sp p.block = true) → DataW.TrodAll enc P W' 0 sp true ts vs ds ps
  | [], vs, ds, ps, _, h, _, _ => by
    obtain ⟨rfl, rfl, rfl⟩ := trodAll_nil h
    rfl
  | t :: ts, vs, ds, ps, hr, h, hlt, hs => by
    obtain ⟨v, vs', d, ds', p, q, rfl, rfl, rfl, h1, h2⟩ := trodAll_cons h
    obtain ⟨r1, r2⟩ := hr t (by simp)
    exact ⟨p, q, WideElems.Trod_stays hl r1 r2 h1 (fun x hx => hb.same (hlt x (by simp [hx]))) (fun x hx => hs x (by simp [hx])),
      stay_args hl hb ts vs' ds' q (fun t' ht => hr t' (by simp [ht])) h2 (fun x hx => hlt x (by simp [hx])) (fun x hx => hs x (by simp [hx])), rfl⟩
/-- What a contract over all data of its parameters' types says of a row. -/
theorem law_calls {f : Nat} {fn : Func} {s : ChangeSpec} {tb m : Nat} (hl : laidOutB P = true) (hpar : fn.params.toList.all (fun t => PTy P m t && P.readableRec t && decide (t < P.types.size)) = true) (hres : fn.resultTypes = #[tb]) (htb : P.underlying tb = some .bool) (hvars : s.vars = [])
    (hfn : ∀ ds : List (DataW H), ds.length = fn.params.toList.length → s.fn H ds = { results := [.lit (.bool true)], args := ds })
    (S : ∀ tss : List (List T), All2 (fun x t => WfT P m t x) tss fn.params.toList → Sound P f (mkAVs P fn.params.toList tss) [] (.l (.s (.bool true))) [])
    (W : World) (base : Nat) (args : Array Value) (ds gs : List (DataW H)) (before : List MemPlace) (hval : ∀ (j : Nat) t v, fn.params[j]? = some t → args[j]? = some v → Value.okWide P W .any base t v)
    (hW : DataW.Whole enc P fn.params.toList s.vars false W args.toList ds gs before) (hw : (DataW.weightsEach P (fn.params.toList ++ s.plain.varTypes P) (ds ++ gs)).all (· ≤ reachBytes) = true) :
    Calls P f args W fun e W' => ∃ v, e = .returned v ∧ s.post enc P fn false true false false W args v W' := by
  have hW' := hW
  obtain ⟨p, q, hA, hV, rfl, hfz, hnd⟩ := hW
  rw [hvars] at hV
  have hgq : gs = [] ∧ q = [] := by
    cases gs with
    | nil => exact ⟨rfl, hV⟩
    | cons g gs => exact hV.elim
  obtain ⟨rfl, rfl⟩ := hgq
  have hpar' : ∀ t ∈ fn.params.toList, PTy P m t = true ∧ P.readableRec t = true ∧ t < P.types.size := by
    intro t ht
    have := List.all_eq_true.1 hpar t ht
    simp only [Bool.and_eq_true, decide_eq_true_eq] at this
    exact ⟨this.1.1, this.1.2, this.2⟩
  have hw' : ∀ y ∈ DataW.weightsEach P fn.params.toList ds, y ≤ reachBytes := by
    intro y hy
    have happ : ∀ (ts us : List TypeId) (l : List (DataW H)), y ∈ DataW.weightsEach P ts l → y ∈ DataW.weightsEach P (ts ++ us) l := by
      intro ts us
      induction ts with
      | nil => intro l h; simp [DataW.weightsEach] at h
      | cons t ts ih =>
        intro l h
        cases l with
        | nil => simp [DataW.weightsEach] at h
        | cons d l =>
          simp only [List.cons_append, DataW.weightsEach, List.mem_append] at h ⊢
          rcases h with h | h
          · exact .inl h
          · exact .inr (ih l h)
    have := List.all_eq_true.1 hw y (by rw [List.append_nil]; exact happ _ _ _ hy)
    simpa using this
  have hX : ∀ b, Xw W b → Xd (cx0 W (fun _ => none) 0 [] (fun _ => False) (fun b hb => hb.elim)) W (fun _ => none) [] b := by
    rintro b ⟨h1, h2⟩
    refine ⟨h1, ?_, fun h => h, h2⟩
    rintro ⟨o, x, k, ho, _⟩
    simp at ho
  obtain ⟨tss, h1, h2, h3⟩ := args_rel (Xa := Xe W (fun _ => none) []) (σ := fun _ => none) (base := base) hX fn.params.toList args.toList ds p (fun t ht => (hpar' t ht).1) (fun j t v hj hj' => hval j t v (by rwa [← Array.getElem?_toList]) (by rwa [← Array.getElem?_toList])) hA hw'
  have hS := S tss h1 (fun _ => False) W (fun _ => none) args.toList (fun b hb => hb.elim) ⟨fun o x ho => by simp at ho, fun o o' x x' b k k' ho => by simp at ho, fun o _ => rfl, Nat.zero_le _, fun o x ho => by simp at ho, fun b hb => by
    obtain ⟨o, x, k, ho, _⟩ := hb
    simp at ho, Nat.le_refl _, fun _ _ _ => rfl, rfl, rfl, rfl, trivial⟩ h2
  have e1 : args.toList.toArray = args := by simp
  rw [e1] at hS
  refine hS.mono ?_
  rintro e W' ⟨v, σ', rfl, k1, k2⟩
  have hv : v = .bool true := k2.1
  subst hv
  have hown : ∀ b, ¬ lvb (fun _ => none) ([] : List (Option Ob)) b := by
    rintro b ⟨o, x, k, ho, _⟩
    simp at ho
  have hb : Below W.heap.size W W' := ⟨k1.os, k1.tape, k1.output, k1.size, fun b hb => k1.frame b hb (hown b)⟩
  have hlt : ∀ x ∈ p, x.block < W.heap.size := fun x hx => by simpa using hW'.lt x (by simpa using hx)
  have hf := hfn ds h3
  simp only [List.append_nil] at hW'
  refine ⟨_, rfl, ds, [], p, [], p, [], hW', ?_, ?_, ?_, World.keptBut_mono (fun x hx => hx.elim) (hb.frame fun _ => False), fun h => by cases h⟩
  · rw [List.append_nil, hf, hres]
    exact trodAll_cons_mk (shut_bool htb _) trodAll_mk0
  · rw [List.append_nil, hf]
    exact stay_args hl hb _ _ _ _ (fun t ht => (hpar' t ht).2) hA hlt fun x hx => by simpa using hlt x hx
  · rw [List.append_nil, hf, hvars]
    rfl
end
end Go.Proofs.Ytlkhfdccapkcdaa
