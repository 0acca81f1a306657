/- Part 5 of the proof. -/
import Derived.Test.YtlkhfdccapkcdaaPh4
import Derived.Test.YtlkhfdccapkcdaaRows
import Derived.ProofKit
/- Plain law: FeedComes. -/
namespace Go.Proofs.Ytlkhfdccapkcdaa
open Go Go.RowKit
set_option linter.unusedVariables false
set_option linter.unusedSimpArgs false
theorem At.side {r other : Int} {l : List Effect} {k i : Nat} {g : Feed} {own : List Pair} {sent : List Msg} (hl : l.length ≤ 40) (hE : okE l) (hk : k ≤ l.length) (h : At r other l k i g own sent) :
    0 ≤ g.off ∧ g.off ≤ 40 ∧ SrtP own ∧ okP own ∧ own.length ≤ 40 := by
  obtain ⟨-, -, -, ⟨-, -, rfl, rfl⟩ | ⟨o, -, n2, n3, -, rfl, -⟩⟩ := h
  · obtain ⟨d1, d2, d3⟩ := dbOf_ok (hE.take k).2
    refine ⟨by simp [mkF], by simp [mkF]; omega, d1, d2, ?_⟩
    simp at d3; omega
  · obtain ⟨d1, d2, d3⟩ := dbOf_ok (hE.take o).2
    refine ⟨by omega, by omega, d1, d2, ?_⟩
    simp at d3; omega
theorem FeedComes_ok (es : List Int) (rid other off : Int) (late : List Int) (hes : u8s es) (h1 : 0 ≤ rid ∧ rid ≤ 255) (h2 : 0 ≤ other ∧ other ≤ 255) (h3 : 0 ≤ off ∧ off ≤ 255) (hlate : u8s late) : l15_FeedComes_sh big es rid other off late = some true := by
  refine Rn.eq ?_
  unfold l15_FeedComes_sh
  refine Rn.bn (P := fun b => b = false → es.length ≤ 160) ?_ fun b hb => Rn.lt (Rn.ite (fun _ => Rn.bnE awake15_ok (Rn.some rfl)) (fun hd => ?_))
  · refine Rn.lt (Rn.lt (Rn.ite (fun _ => Rn.some (by simp)) (fun hg => Rn.lt (Rn.lt (Rn.some fun _ => ?_)))))
    have hg := of_decide_eq_false (p := (160 : Int) < (es.length : Int)) hg
    omega
  have hlen := hb hd
  obtain ⟨l, e1, e2, -, e3⟩ := Effects_told es hes (by omega)
  have hl : l.length ≤ 40 := by omega
  have hE : okE l := ⟨by omega, e3⟩
  refine Rn.bnE (Make15_told es rid l h1.1 h1.2 e1 hl e3) (Rn.lt (Rn.lt ?_))
  have eo : (mkF rid l, dbOf l).1.off = (l.length : Int) := rfl
  rw [eo, cvI_64 (by omega) (by omega), addI_64 (by omega) (by omega)]
  refine Rn.bnE (remI_pos h3.1 (by omega)) (Rn.lt ?_)
  obtain ⟨k, hk⟩ : ∃ k : Nat, off % ((l.length : Int) + 1) = k := ⟨(off % ((l.length : Int) + 1)).toNat, by have := Int.emod_nonneg off (show (l.length : Int) + 1 ≠ 0 by omega); omega⟩
  have hk2 : (k : Int) < l.length + 1 := by rw [← hk]; exact Int.emod_lt_of_pos _ (by omega)
  rw [hk]
  have hm : mulI .i64 4 (k : Int) = ((4 * k : Nat) : Int) := by
    unfold mulI
    rw [wrap64 (by omega) (by omega)]
    omega
  rw [hm]
  refine Rn.bnE (segh_nat (by omega)) ?_
  obtain ⟨l', t1, t2, t3, t4⟩ := Effects_take es hes (by omega) k
  have el : l' = l := Option.some.inj (t1.symm.trans e1)
  subst el
  refine Rn.bnE (Make15_told (es.take (4 * k)) other (l'.take k) h2.1 h2.2 (t4 (by omega)) (by simp; omega) (hE.take k).2) ?_
  refine Rn.bn (P := fun b => b = false → ¬ ((mkF other (l'.take k)).rid.node = (mkF rid l').rid.node ∧ (mkF rid l').rid.epoch < (mkF other (l'.take k)).rid.epoch)) ?_ fun b hb2 => Rn.lt (Rn.ite (fun _ => Rn.bnE awake15_ok (Rn.some rfl)) (fun hd2 => ?_))
  · refine Rn.lt (Rn.ite (fun hg => Rn.lt (Rn.some fun hg2 => ?_)) (fun hg => Rn.some fun _ h => ?_))
    · rintro ⟨-, h⟩
      exact of_decide_eq_false hg2 h
    · exact eqI_n hg h.1
  have hex := hb2 hd2
  obtain ⟨d1, d2, d3⟩ := dbOf_ok e3
  have hF : okF (mkF rid l') := ⟨hE, by show l'.length ≤ 64; omega, Int.le_refl _, by show (l'.length : Int) ≤ _; omega⟩
  have key : ∀ {β : Type} {k1 : (List Pair × Int × Int × Int × List Effect × Int × Int × Int) ⊕ Bool → Option β} {Q : β → Prop} {m : Option ((List Pair × Int × Int × Int × List Effect × Int × Int × Int) ⊕ Bool)},
      Rn m (fun y => match y with | .inl t => (⟨t.2.1, t.2.2.1⟩ : Rid) = (mkF rid l').rid ∧ t.2.2.2.1 = (l'.length : Int) ∧ t.1 = dbOf l' | .inr _ => False) →
      (∀ t, ((⟨t.2.1, t.2.2.1⟩ : Rid) = (mkF rid l').rid ∧ t.2.2.2.1 = (l'.length : Int) ∧ t.1 = dbOf l') → Rn (k1 (.inl t)) Q) → Rn (bn m k1) Q := by
    rintro β k1 Q m ⟨y, rfl, hy⟩ hk
    cases y with
    | inl t => exact hk t hy
    | inr b => exact hy.elim
  refine key (Rn.iter _ (fun i a => a.2.1 = (i : Int) ∧ At rid other l' k i ⟨⟨a.2.2.1, a.2.2.2.1⟩, a.2.2.2.2.1, a.2.2.2.2.2.1, ⟨a.2.2.2.2.2.2.1, a.2.2.2.2.2.2.2.1⟩, a.2.2.2.2.2.2.2.2.1⟩ a.1 a.2.2.2.2.2.2.2.2.2) 8 (by unfold big; omega) ⟨rfl, rfl, hE.take k, by show (l'.take k).length ≤ 64; simp; omega, ?_⟩ fun i a hi hI => ?_) fun t ht => ?_
  · by_cases hr : (mkF other (l'.take k)).rid = (mkF rid l').rid
    · refine .inr ⟨k, hr, ?_, by omega, by omega, rfl, by simp⟩
      show (((l'.take k).length : Nat) : Int) = k
      simp; omega
    · exact .inl ⟨rfl, hr, rfl, rfl⟩
  · obtain ⟨own, i', rn, re, o, bk, pn, pe, up, sent⟩ := a
    obtain ⟨rfl, hA⟩ := hI
    simp only at hA
    refine Rn.lt (Rn.ite (fun hg => ?_) (fun hg => Rn.some ?_))
    · have hi8 := ltI_d hg
      simp only at hi8
      have hrd := round_ok hl hE (by omega) hex hA
      obtain ⟨s1, s2, s3, s4, s5⟩ := hA.side hl hE (by omega)
      simp only at hrd s1 s2
      obtain ⟨a1, a2, a3, a4⟩ := ansF_ok (mkF rid l') (dbOf l') ⟨rn, re⟩ o hE d2 (by omega)
      generalize hmm : ansF (mkF rid l') (dbOf l') ⟨rn, re⟩ o = m at hrd a1 a2 a3 a4
      have hgot := f_Got_ok ⟨⟨rn, re⟩, o, bk, ⟨pn, pe⟩, up⟩ own m hA.2.1 hA.2.2.1 (by simp only; omega) (by simp only; omega) s3 s4 a1 (by omega)
      generalize hq : gotF ⟨⟨rn, re⟩, o, bk, ⟨pn, pe⟩, up⟩ own m = q at hrd hgot
      obtain ⟨q1, q2, q3, q4, q5⟩ := hrd.side hl hE (by omega)
      refine Rn.bn (P := fun y => match y with | .inl t => At rid other l' k (i + 1) ⟨⟨t.2.1, t.2.2.1⟩, t.2.2.2.1, t.2.2.2.2.1, ⟨t.2.2.2.2.2.1, t.2.2.2.2.2.2.1⟩, t.2.2.2.2.2.2.2.1⟩ t.1 t.2.2.2.2.2.2.2.2 | .inr _ => False) ?_ fun y hy => ?_
      · refine Rn.bnE (v := m) (by rw [← hmm]; exact f_Answer_ok _ _ _ _ hF d2 (show (dbOf l').length ≤ _ by omega)) (Rn.room ?_ ?_ (Rn.lt (Rn.bnE hgot (Rn.lt (Rn.lt (Rn.ite (fun hgl => ?_) (fun _ => Rn.some hrd)))))))
        · have := hA.1; simp only; omega
        · have := hA.1; simp only; omega
        have hil := ltI_d hgl
        simp only [lenI] at hil
        have hil2 : i < late.length := by omega
        have hlb := hlate _ (List.getElem_mem hil2)
        refine Rn.bnE (nth_some hil2) (Rn.lt (Rn.lt ?_))
        rw [cvI_64 (by omega) (by omega)]
        have hsl : (sent ++ [m]).length = i + 1 := hrd.1
        simp only [lenI, hsl]
        refine Rn.bnE (remI_pos hlb.1 (by omega)) ?_
        obtain ⟨j, hj⟩ : ∃ j : Nat, late[i] % ((i + 1 : Nat) : Int) = j := ⟨(late[i] % ((i + 1 : Nat) : Int)).toNat, by have := Int.emod_nonneg late[i] (show ((i + 1 : Nat) : Int) ≠ 0 by omega); omega⟩
        have hj2 : (j : Int) < ((i + 1 : Nat) : Int) := by rw [← hj]; exact Int.emod_lt_of_pos _ (by omega)
        rw [hj]
        have hj3 : j < (sent ++ [m]).length := by omega
        refine Rn.bnE (nth_some hj3) ?_
        obtain ⟨p1, p2, p3, ⟨p4, _⟩ | ⟨o', p4, p5, p6, p7, p8, p9⟩⟩ := id hrd
        · omega
        have hh := p9 _ (List.getElem_mem hj3)
        have hh2 : harm q.1.rid o' (sent ++ [m])[j] := by rw [p4]; exact hh
        obtain ⟨u1, u2⟩ := hh2.got (own := q.2.1) p5 p3 (by omega)
        refine Rn.bnE (f_Got_ok q.1 q.2.1 _ p2 p3 (by omega) (by omega) q3 q4 hh.2.1 (by have := hh.2.2.1; omega)) ?_
        refine Rn.bnE (v := false) ?_ (Rn.lt (Rn.ite (fun h => by simp at h) (fun _ => Rn.some ?_)))
        · simp only [lt_eq, bn_some, ite_t, ite_f, sm_inl, sm_inr, lenI_eq, Option.some.injEq, eqRid, u1, decide_true, notB_t]
          simp [ltI]
        · simp only [u1, u2]
          exact hrd
      · cases y with
        | inr b => exact hy.elim
        | inl t =>
          refine Rn.lt (Rn.some ⟨by omega, ?_, hy⟩)
          simp only
          rw [addI_64 (by omega) (by omega)]
          omega
    · have hi8 := ltI_n hg
      simp only at hi8
      have hi9 : i = 8 := by omega
      subst hi9
      obtain ⟨-, -, -, ⟨h0, _⟩ | ⟨o', p4, p5, p6, p7, p8, -⟩⟩ := hA
      · omega
      · have : o' = l'.length := by omega
        subst this
        exact ⟨p4, p5, by rw [p8, List.take_length]⟩
  · obtain ⟨q1, q2, q3⟩ := ht
    refine Rn.bnE (v := true) ?_ (Rn.some rfl)
    have q1' : (⟨t.2.1, t.2.2.1⟩ : Rid) = (mkF rid l', dbOf l').1.rid := q1
    have er := eqRid ⟨t.2.1, t.2.2.1⟩ (mkF rid l', dbOf l').1.rid
    simp only at er
    simp only [lt_eq, bn_some, ite_t, ite_f, sm_inl, sm_inr, lenI_eq, Option.some.injEq]
    rw [er, q2, q3]
    simp only [q1, decide_true, lt_eq, bn_some, ite_t, ite_f, sm_inl, sm_inr, lenI_eq, Option.some.injEq]
    rw [eqI_self]
    simp only [lt_eq, bn_some, ite_t, ite_f, sm_inl, sm_inr, lenI_eq, Option.some.injEq]
    rw [r_SameSpace_refl _ d2 (by omega)]
    simp only [lt_eq, bn_some, ite_t, ite_f, sm_inl, sm_inr, lenI_eq, Option.some.injEq]
    rw [awake15_ok]
    rfl
end Go.Proofs.Ytlkhfdccapkcdaa

/- What is read as data of the program's structs. -/
namespace Go.Proofs.Ytlkhfdccapkcdaa
open Go Go.RowKit
set_option linter.unusedVariables false
set_option linter.unusedSimpArgs false
set_option linter.constructorNameAsVariable false
set_option maxRecDepth 100000
section
variable {P : Program} {n t : Nat} {ts : List T}
theorem WfT.bool (hu : P.underlying t = some .bool) (h : WfT P (n + 1) t ts) : ∃ b, ts = [.v (.bool b)] := by rw [WfT, hu] at h; exact h
theorem WfT.int {k : IntKind} (hu : P.underlying t = some (.int k)) (h : WfT P (n + 1) t ts) : ∃ i, ts = [.v (.int k i)] ∧ (Lit.int k i).wf = true := by rw [WfT, hu] at h; exact h
theorem WfT.slice {e : Nat} (hu : P.underlying t = some (.slice e)) (h : WfT P (n + 1) t ts) : ∃ es, ts = [.sl (P.cellsOf e) es] ∧ es.length * P.bytesOf e ≤ reachBytes ∧ ∀ x ∈ es, WfT P n e x := by rw [WfT, hu] at h; exact h
theorem WfT.struct {fs : Array Go.Field} (hu : P.underlying t = some (.struct fs)) (h : WfT P (n + 1) t ts) : ∃ ps : List (List T), ts = ps.flatten ∧ All2 (fun p f => WfT P n f p) ps (fs.toList.map (·.type)) := by rw [WfT, hu] at h; exact h
end
theorem All2.cons_r {α β : Type} {R : α → β → Prop} {l : List α} {b : β} {bs : List β} (h : All2 R l (b :: bs)) : ∃ x xs, l = x :: xs ∧ R x b ∧ All2 R xs bs := by
  cases l with
  | nil => exact h.elim
  | cons x xs => exact ⟨x, xs, rfl, h⟩
theorem All2.nil_r {α β : Type} {R : α → β → Prop} {l : List α} (h : All2 R l ([] : List β)) : l = [] := by
  cases l with
  | nil => rfl
  | cons x xs => exact h.elim
def rngI (i : Int) : Prop := -9223372036854775808 ≤ i ∧ i ≤ 9223372036854775807
theorem wf_list {α : Type} {enc : List α → List (List T)} {R : List T → Prop} {rng : α → Prop} (hn : enc [] = []) (hc : ∀ x l, enc (x :: l) = enc [x] ++ enc l) (h1 : ∀ e, R e → ∃ x, enc [x] = [e] ∧ rng x) :
    ∀ es, (∀ x ∈ es, R x) → ∃ l, es = enc l ∧ ∀ x ∈ l, rng x
  | [], _ => ⟨[], hn.symm, fun x h => by cases h⟩
  | e :: es, h => by
    obtain ⟨x, hx, rx⟩ := h1 e (h e (by simp))
    obtain ⟨l, rfl, rl⟩ := wf_list hn hc h1 es fun y hy => h y (by simp [hy])
    refine ⟨x :: l, by rw [hc, hx]; rfl, ?_⟩
    intro y hy
    rcases List.mem_cons.1 hy with rfl | hy
    · exact rx
    · exact rl y hy
/-- Bytes. -/
def rngU (i : Int) : Prop := 0 ≤ i ∧ i ≤ 255
theorem wf_rngU {i : Int} (h : (Lit.int .u8 i).wf = true) : rngU i := by
  have h' := (Bool.and_eq_true _ _ ▸ h : _ ∧ _)
  exact ⟨of_decide_eq_true h'.1, of_decide_eq_true h'.2⟩
theorem wf_U (n : Nat) (e : List T) (h : WfT Try.prog (n + 1) 5 e) : ∃ x : Int, encU [x] = [e] ∧ rngU x := by
  obtain ⟨f, rfl, h2⟩ := WfT.int (t := 5) Try.underlying5 h
  have h' := (Bool.and_eq_true _ _ ▸ h2 : _ ∧ _)
  have h1 := of_decide_eq_true h'.1
  have h2 := of_decide_eq_true h'.2
  exact ⟨f, rfl, h1, h2⟩
theorem wf_Us {n : Nat} {es : List (List T)} (h : ∀ x ∈ es, WfT Try.prog (n + 1) 5 x) : ∃ l : List Int, es = encU l ∧ ∀ x ∈ l, rngU x :=
  wf_list (enc := encU) (R := fun e => WfT Try.prog (n + 1) 5 e) (rng := rngU) rfl (fun _ _ => rfl) (@wf_U n) es h
def rngField (x : Field) : Prop := True
def rngItem (x : Item) : Prop := (rngI x.kind) ∧ (∀ y ∈ x.f, rngField y) ∧ (rngI x.exp)
def rngPair (x : Pair) : Prop := (rngItem x.item)
def rngEffect (x : Effect) : Prop := (rngItem x.item)
def rngRid (x : Rid) : Prop := (rngI x.node) ∧ (rngI x.epoch)
def rngFeed (x : Feed) : Prop := (rngRid x.rid) ∧ (rngI x.off) ∧ (∀ y ∈ x.back, rngEffect y) ∧ (rngRid x.prev) ∧ (rngI x.upto)
end Go.Proofs.Ytlkhfdccapkcdaa

/- What all rows need. -/
namespace Go.Proofs.Ytlkhfdccapkcdaa
open Go Go.RowKit
open Go.ChangeShapes Go.WideShapes Go.ChangeAt Go.RowKit
theorem Try.own : ownKnob Try.prog.godebug = none := by kernel_rfl
theorem Try.laidOut : laidOutB Try.prog = true := by kernel_rfl
end Go.Proofs.Ytlkhfdccapkcdaa

