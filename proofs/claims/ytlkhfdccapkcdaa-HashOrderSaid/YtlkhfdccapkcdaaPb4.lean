/- Part 4 of the proof. -/
import Derived.Test.YtlkhfdccapkcdaaPb3
import Derived.Test.YtlkhfdccapkcdaaRows
import Derived.ProofKit
/- What is read as data of the program's structs. -/
namespace Go.Proofs.Ytlkhfdccapkcdaa
open Go Go.RowKit
set_option linter.unusedVariables false
set_option linter.unusedSimpArgs false
set_option linter.constructorNameAsVariable false
set_option maxRecDepth 100000
section
variable {P : Program} {n t : Nat} {ts : List T}
theorem WfT.bool (hu : P.underlying t = some .bool) (h : WfT P (n + 1) t ts) : ∃ b, ts = [.v (.bool b)] := by rw [WfT, hu] at h; exact h
theorem WfT.int {k : IntKind} (hu : P.underlying t = some (.int k)) (h : WfT P (n + 1) t ts) : ∃ i, ts = [.v (.int k i)] ∧ (Lit.int k i).wf = true := by rw [WfT, hu] at h; exact h
theorem WfT.str (hu : P.underlying t = some .string) (h : WfT P (n + 1) t ts) : ∃ s, ts = [.v (.string s)] ∧ s.size ≤ maxLen := by rw [WfT, hu] at h; exact h
theorem WfT.slice {e : Nat} (hu : P.underlying t = some (.slice e)) (h : WfT P (n + 1) t ts) : ∃ es, ts = [.sl (P.cellsOf e) es] ∧ es.length * P.bytesOf e ≤ reachBytes ∧ ∀ x ∈ es, WfT P n e x := by rw [WfT, hu] at h; exact h
theorem WfT.struct {fs : Array Go.Field} (hu : P.underlying t = some (.struct fs)) (h : WfT P (n + 1) t ts) : ∃ ps : List (List T), ts = ps.flatten ∧ All2 (fun p f => WfT P n f p) ps (fs.toList.map (·.type)) := by rw [WfT, hu] at h; exact h
end
theorem All2.cons_r {α β : Type} {R : α → β → Prop} {l : List α} {b : β} {bs : List β} (h : All2 R l (b :: bs)) : ∃ x xs, l = x :: xs ∧ R x b ∧ All2 R xs bs := by
  cases l with
  | nil => exact h.elim
  | cons x xs => exact ⟨x, xs, rfl, h⟩
theorem All2.nil_r {α β : Type} {R : α → β → Prop} {l : List α} (h : All2 R l ([] : List β)) : l = [] := by
  cases l with
  | nil => rfl
  | cons x xs => exact h.elim
def rngI (i : Int) : Prop := -9223372036854775808 ≤ i ∧ i ≤ 9223372036854775807
theorem wf_rngI {i : Int} (h : (Lit.int .i64 i).wf = true) : rngI i := by
  have h' := (Bool.and_eq_true _ _ ▸ h : _ ∧ _)
  have h1 := of_decide_eq_true h'.1
  have h2 := of_decide_eq_true h'.2
  exact ⟨h1, h2⟩
theorem wf_list {α : Type} {enc : List α → List (List T)} {R : List T → Prop} {rng : α → Prop} (hn : enc [] = []) (hc : ∀ x l, enc (x :: l) = enc [x] ++ enc l) (h1 : ∀ e, R e → ∃ x, enc [x] = [e] ∧ rng x) :
    ∀ es, (∀ x ∈ es, R x) → ∃ l, es = enc l ∧ ∀ x ∈ l, rng x
  | [], _ => ⟨[], hn.symm, fun x h => by cases h⟩
  | e :: es, h => by
    obtain ⟨x, hx, rx⟩ := h1 e (h e (by simp))
    obtain ⟨l, rfl, rl⟩ := wf_list hn hc h1 es fun y hy => h y (by simp [hy])
    refine ⟨x :: l, by rw [hc, hx]; rfl, ?_⟩
    intro y hy
    rcases List.mem_cons.1 hy with rfl | hy
    · exact rx
    · exact rl y hy
theorem wf_S (n : Nat) (e : List T) (h : WfT Try.prog (n + 1) 9 e) : ∃ x : ByteArray, encS [x] = [e] ∧ True := by
  obtain ⟨f, rfl, -⟩ := WfT.str (t := 9) Try.underlying9 h
  exact ⟨f, rfl, trivial⟩
theorem wf_Ss {n : Nat} {es : List (List T)} (h : ∀ x ∈ es, WfT Try.prog (n + 1) 9 x) : ∃ l : List ByteArray, es = encS l ∧ ∀ x ∈ l, True :=
  wf_list (enc := encS) (R := fun e => WfT Try.prog (n + 1) 9 e) (rng := fun _ => True) rfl (fun _ _ => rfl) (@wf_S n) es h
/-- Bytes. -/
def rngU (i : Int) : Prop := 0 ≤ i ∧ i ≤ 255
theorem wf_rngU {i : Int} (h : (Lit.int .u8 i).wf = true) : rngU i := by
  have h' := (Bool.and_eq_true _ _ ▸ h : _ ∧ _)
  exact ⟨of_decide_eq_true h'.1, of_decide_eq_true h'.2⟩
theorem wf_U (n : Nat) (e : List T) (h : WfT Try.prog (n + 1) 5 e) : ∃ x : Int, encU [x] = [e] ∧ rngU x := by
  obtain ⟨f, rfl, h2⟩ := WfT.int (t := 5) Try.underlying5 h
  have h' := (Bool.and_eq_true _ _ ▸ h2 : _ ∧ _)
  have h1 := of_decide_eq_true h'.1
  have h2 := of_decide_eq_true h'.2
  exact ⟨f, rfl, h1, h2⟩
theorem wf_Us {n : Nat} {es : List (List T)} (h : ∀ x ∈ es, WfT Try.prog (n + 1) 5 x) : ∃ l : List Int, es = encU l ∧ ∀ x ∈ l, rngU x :=
  wf_list (enc := encU) (R := fun e => WfT Try.prog (n + 1) 5 e) (rng := rngU) rfl (fun _ _ => rfl) (@wf_U n) es h
def rngField (x : Field) : Prop := True
theorem wf_Field (n : Nat) (e : List T) (h : WfT Try.prog (n + 2) 105 e) : ∃ x : Field, encField [x] = [e] ∧ rngField x := by
  obtain ⟨q0, rfl, w0⟩ := WfT.struct (t := 105) Try.underlying105 h
  obtain ⟨p0, q1, rfl, g0, w1⟩ := All2.cons_r w0
  obtain ⟨p1, q2, rfl, g1, w2⟩ := All2.cons_r w1
  obtain rfl := All2.nil_r w2
  obtain ⟨f0, rfl, -⟩ := WfT.str (t := 9) Try.underlying9 g0
  obtain ⟨f1, rfl, -⟩ := WfT.str (t := 9) Try.underlying9 g1
  exact ⟨⟨f0, f1⟩, rfl, trivial⟩
theorem wf_Fields {n : Nat} {es : List (List T)} (h : ∀ x ∈ es, WfT Try.prog (n + 2) 105 x) : ∃ l : List Field, es = encField l ∧ ∀ x ∈ l, rngField x :=
  wf_list (enc := encField) (R := fun e => WfT Try.prog (n + 2) 105 e) (rng := rngField) rfl (fun _ _ => rfl) (@wf_Field n) es h
def rngItem (x : Item) : Prop := (rngI x.kind) ∧ (∀ y ∈ x.f, rngField y) ∧ (rngI x.exp)
theorem wf_Item (n : Nat) (e : List T) (h : WfT Try.prog (n + 4) 34 e) : ∃ x : Item, encItem [x] = [e] ∧ rngItem x := by
  obtain ⟨q0, rfl, w0⟩ := WfT.struct (t := 34) Try.underlying34 h
  obtain ⟨p0, q1, rfl, g0, w1⟩ := All2.cons_r w0
  obtain ⟨p1, q2, rfl, g1, w2⟩ := All2.cons_r w1
  obtain ⟨p2, q3, rfl, g2, w3⟩ := All2.cons_r w2
  obtain ⟨p3, q4, rfl, g3, w4⟩ := All2.cons_r w3
  obtain ⟨p4, q5, rfl, g4, w5⟩ := All2.cons_r w4
  obtain rfl := All2.nil_r w5
  obtain ⟨f0, rfl, v0⟩ := WfT.int (t := 3) Try.underlying3 g0
  have r0 := wf_rngI v0
  obtain ⟨f1, rfl, -⟩ := WfT.str (t := 9) Try.underlying9 g1
  obtain ⟨es2, rfl, -, k2⟩ := WfT.slice (t := 31) Try.underlying31 g2
  obtain ⟨f2, rfl, r2⟩ := wf_Fields k2
  obtain ⟨es3, rfl, -, k3⟩ := WfT.slice (t := 32) Try.underlying32 g3
  obtain ⟨f3, rfl, r3⟩ := wf_Ss k3
  obtain ⟨f4, rfl, v4⟩ := WfT.int (t := 3) Try.underlying3 g4
  have r4 := wf_rngI v4
  exact ⟨⟨f0, f1, f2, f3, f4⟩, rfl, ⟨r0, r2, r4⟩⟩
theorem wf_Items {n : Nat} {es : List (List T)} (h : ∀ x ∈ es, WfT Try.prog (n + 4) 34 x) : ∃ l : List Item, es = encItem l ∧ ∀ x ∈ l, rngItem x :=
  wf_list (enc := encItem) (R := fun e => WfT Try.prog (n + 4) 34 e) (rng := rngItem) rfl (fun _ _ => rfl) (@wf_Item n) es h
def rngPair (x : Pair) : Prop := (rngItem x.item)
theorem wf_Pair (n : Nat) (e : List T) (h : WfT Try.prog (n + 5) 125 e) : ∃ x : Pair, encPair [x] = [e] ∧ rngPair x := by
  obtain ⟨q0, rfl, w0⟩ := WfT.struct (t := 125) Try.underlying125 h
  obtain ⟨p0, q1, rfl, g0, w1⟩ := All2.cons_r w0
  obtain ⟨p1, q2, rfl, g1, w2⟩ := All2.cons_r w1
  obtain rfl := All2.nil_r w2
  obtain ⟨f0, rfl, -⟩ := WfT.str (t := 9) Try.underlying9 g0
  obtain ⟨f1, e1, r1⟩ := wf_Item _ _ g1
  have e1 := (List.cons.inj e1).1
  subst e1
  exact ⟨⟨f0, f1⟩, rfl, r1⟩
theorem wf_Pairs {n : Nat} {es : List (List T)} (h : ∀ x ∈ es, WfT Try.prog (n + 5) 125 x) : ∃ l : List Pair, es = encPair l ∧ ∀ x ∈ l, rngPair x :=
  wf_list (enc := encPair) (R := fun e => WfT Try.prog (n + 5) 125 e) (rng := rngPair) rfl (fun _ _ => rfl) (@wf_Pair n) es h
def rngEffect (x : Effect) : Prop := (rngItem x.item)
theorem wf_Effect (n : Nat) (e : List T) (h : WfT Try.prog (n + 5) 36 e) : ∃ x : Effect, encEffect [x] = [e] ∧ rngEffect x := by
  obtain ⟨q0, rfl, w0⟩ := WfT.struct (t := 36) Try.underlying36 h
  obtain ⟨p0, q1, rfl, g0, w1⟩ := All2.cons_r w0
  obtain ⟨p1, q2, rfl, g1, w2⟩ := All2.cons_r w1
  obtain ⟨p2, q3, rfl, g2, w3⟩ := All2.cons_r w2
  obtain rfl := All2.nil_r w3
  obtain ⟨f0, rfl, -⟩ := WfT.str (t := 9) Try.underlying9 g0
  obtain ⟨f1, rfl⟩ := WfT.bool (t := 4) Try.underlying4 g1
  obtain ⟨f2, e2, r2⟩ := wf_Item _ _ g2
  have e2 := (List.cons.inj e2).1
  subst e2
  exact ⟨⟨f0, f1, f2⟩, rfl, r2⟩
theorem wf_Effects {n : Nat} {es : List (List T)} (h : ∀ x ∈ es, WfT Try.prog (n + 5) 36 x) : ∃ l : List Effect, es = encEffect l ∧ ∀ x ∈ l, rngEffect x :=
  wf_list (enc := encEffect) (R := fun e => WfT Try.prog (n + 5) 36 e) (rng := rngEffect) rfl (fun _ _ => rfl) (@wf_Effect n) es h
def rngRid (x : Rid) : Prop := (rngI x.node) ∧ (rngI x.epoch)
theorem wf_Rid (n : Nat) (e : List T) (h : WfT Try.prog (n + 2) 27 e) : ∃ x : Rid, encRid [x] = [e] ∧ rngRid x := by
  obtain ⟨q0, rfl, w0⟩ := WfT.struct (t := 27) Try.underlying27 h
  obtain ⟨p0, q1, rfl, g0, w1⟩ := All2.cons_r w0
  obtain ⟨p1, q2, rfl, g1, w2⟩ := All2.cons_r w1
  obtain rfl := All2.nil_r w2
  obtain ⟨f0, rfl, v0⟩ := WfT.int (t := 3) Try.underlying3 g0
  have r0 := wf_rngI v0
  obtain ⟨f1, rfl, v1⟩ := WfT.int (t := 3) Try.underlying3 g1
  have r1 := wf_rngI v1
  exact ⟨⟨f0, f1⟩, rfl, ⟨r0, r1⟩⟩
theorem wf_Rids {n : Nat} {es : List (List T)} (h : ∀ x ∈ es, WfT Try.prog (n + 2) 27 x) : ∃ l : List Rid, es = encRid l ∧ ∀ x ∈ l, rngRid x :=
  wf_list (enc := encRid) (R := fun e => WfT Try.prog (n + 2) 27 e) (rng := rngRid) rfl (fun _ _ => rfl) (@wf_Rid n) es h
def rngFeed (x : Feed) : Prop := (rngRid x.rid) ∧ (rngI x.off) ∧ (∀ y ∈ x.back, rngEffect y) ∧ (rngRid x.prev) ∧ (rngI x.upto)
theorem wf_Feed (n : Nat) (e : List T) (h : WfT Try.prog (n + 7) 29 e) : ∃ x : Feed, encFeed [x] = [e] ∧ rngFeed x := by
  obtain ⟨q0, rfl, w0⟩ := WfT.struct (t := 29) Try.underlying29 h
  obtain ⟨p0, q1, rfl, g0, w1⟩ := All2.cons_r w0
  obtain ⟨p1, q2, rfl, g1, w2⟩ := All2.cons_r w1
  obtain ⟨p2, q3, rfl, g2, w3⟩ := All2.cons_r w2
  obtain ⟨p3, q4, rfl, g3, w4⟩ := All2.cons_r w3
  obtain ⟨p4, q5, rfl, g4, w5⟩ := All2.cons_r w4
  obtain rfl := All2.nil_r w5
  obtain ⟨f0, e0, r0⟩ := wf_Rid _ _ g0
  have e0 := (List.cons.inj e0).1
  subst e0
  obtain ⟨f1, rfl, v1⟩ := WfT.int (t := 3) Try.underlying3 g1
  have r1 := wf_rngI v1
  obtain ⟨es2, rfl, -, k2⟩ := WfT.slice (t := 24) Try.underlying24 g2
  obtain ⟨f2, rfl, r2⟩ := wf_Effects k2
  obtain ⟨f3, e3, r3⟩ := wf_Rid _ _ g3
  have e3 := (List.cons.inj e3).1
  subst e3
  obtain ⟨f4, rfl, v4⟩ := WfT.int (t := 3) Try.underlying3 g4
  have r4 := wf_rngI v4
  exact ⟨⟨f0, f1, f2, f3, f4⟩, rfl, ⟨r0, r1, r2, r3, r4⟩⟩
theorem wf_Feeds {n : Nat} {es : List (List T)} (h : ∀ x ∈ es, WfT Try.prog (n + 7) 29 x) : ∃ l : List Feed, es = encFeed l ∧ ∀ x ∈ l, rngFeed x :=
  wf_list (enc := encFeed) (R := fun e => WfT Try.prog (n + 7) 29 e) (rng := rngFeed) rfl (fun _ _ => rfl) (@wf_Feed n) es h
end Go.Proofs.Ytlkhfdccapkcdaa
/- What all rows need. -/
namespace Go.Proofs.Ytlkhfdccapkcdaa
open Go Go.RowKit
open Go.ChangeShapes Go.WideShapes Go.ChangeAt Go.RowKit
theorem Try.own : ownKnob Try.prog.godebug = none := by kernel_rfl
theorem Try.laidOut : laidOutB Try.prog = true := by kernel_rfl
end Go.Proofs.Ytlkhfdccapkcdaa
