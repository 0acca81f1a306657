/- Arguments that are read as data: what they are to an abstract state. -/
import Derived.Test.YtlkhfdccapkcdaaA31
import Derived.ChangeArms
import Derived.ChangeSame
import Derived.ChangeShapes
import Derived.DataReads
import Derived.Carry
import Derived.SizedLaws
import Derived.RowKit3
namespace Go.Proofs.Ytlkhfdccapkcdaa
open Go Go.RowKit
set_option linter.unusedVariables false
set_option linter.unusedSimpArgs false

/-- Types of numbers, truths, texts, slices and structs alone (n: how deep). -/
def PTy (P : Program) : Nat → TypeId → Bool
  | 0, _ => false
  | n + 1, t => match P.underlying t with
    | some .bool => true
    | some (.int _) => true
    | some .string => true
    | some (.slice e) => decide (0 < P.bytesOf e) && decide (0 < P.cellsOf e) && PTy P n e
    | some (.struct fs) => fs.toList.all (fun f => PTy P n f.type) && tiles P 0 fs.toList && decide (P.cellsOf t = total P fs.toList)
    | _ => false
where
  tiles (P : Program) : Nat → List Field → Bool
    | _, [] => true
    | k, f :: fs => decide (f.offset = k) && tiles P (k + P.cellsOf f.type) fs
  total (P : Program) : List Field → Nat
    | [] => 0
    | f :: fs => P.cellsOf f.type + total P fs
/-- Cells of a value of such a type. -/
def WfT (P : Program) : Nat → TypeId → List T → Prop
  | 0, _, _ => False
  | n + 1, t, ts => match P.underlying t with
    | some .bool => ∃ b, ts = [.v (.bool b)]
    | some (.int k) => ∃ i, ts = [.v (.int k i)] ∧ (Lit.int k i).wf = true
    | some .string => ∃ s, ts = [.v (.string s)] ∧ s.size ≤ maxLen
    | some (.slice e) => ∃ es, ts = [.sl (P.cellsOf e) es] ∧ es.length * P.bytesOf e ≤ reachBytes ∧ ∀ x ∈ es, WfT P n e x
    | some (.struct fs) => ∃ ps : List (List T), ts = ps.flatten ∧ All2 (fun p f => WfT P n f p) ps (fs.toList.map (·.type))
    | _ => False
def Xw (w : World) (b : Nat) : Prop := b < w.heap.size ∧ isC w b
theorem choose_list {β : Type} {Q : Nat → β → Prop} : ∀ n : Nat, (∀ i, i < n → ∃ y, Q i y) → ∃ l : List β, l.length = n ∧ ∀ i y, l[i]? = some y → Q i y
  | 0, _ => ⟨[], rfl, fun i y h => by simp at h⟩
  | n + 1, h => by
    obtain ⟨l, hl, hq⟩ := choose_list n fun i hi => h i (by omega)
    obtain ⟨y, hy⟩ := h n (by omega)
    refine ⟨l ++ [y], by simp [hl], fun i z hz => ?_⟩
    rcases Nat.lt_or_ge i n with hi | hi
    · rw [List.getElem?_append_left (by omega)] at hz
      exact hq i z hz
    · rw [List.getElem?_append_right (by omega)] at hz
      have : i - l.length = 0 := by
        have := (List.getElem?_eq_some_iff.1 hz).1
        simp at this
        omega
      rw [this] at hz
      simp at hz
      subst hz
      have : i = n := by omega
      subst this
      exact hy
section
variable {H : Type} {enc : TypeId × Value → H} {P : Program} {w : World} {held : Bool} {spare : Nat → Bool}
theorem weightsAll_mem {e : TypeId} : ∀ {l : List (DataW H)} {d : DataW H}, d ∈ l → ∀ y ∈ DataW.weights P e d, y ∈ DataW.weightsAll P e l
  | [], d, h, y, _ => by simp at h
  | a :: l, d, h, y, hy => by
    simp only [DataW.weightsAll, List.mem_append]
    rcases List.mem_cons.1 h with rfl | h
    · exact .inl hy
    · exact .inr (weightsAll_mem h y hy)
theorem weightsEach_mem : ∀ {ts : List TypeId} {l : List (DataW H)} (i : Nat) {t : TypeId} {d : DataW H}, ts[i]? = some t → l[i]? = some d → ∀ y ∈ DataW.weights P t d, y ∈ DataW.weightsEach P ts l
  | [], _, i, _, _, h, _, _, _ => by simp at h
  | _ :: _, [], i, _, _, _, h, _, _ => by simp at h
  | t :: ts, d :: l, 0, _, _, h, h', y, hy => by
    simp at h h'
    subst h h'
    simp only [DataW.weightsEach, List.mem_append]
    exact .inl hy
  | t :: ts, d :: l, i + 1, _, _, h, h', y, hy => by
    simp only [DataW.weightsEach, List.mem_append]
    exact .inr (weightsEach_mem i (by simpa using h) (by simpa using h') y hy)
/-- A struct's cells, field by field. -/
theorem open_fields {R : List Value → List T → Prop} (Q : TypeId → List T → Prop) (hnil : R [] []) (happ : ∀ a b x y, R a x → R b y → R (a ++ b) (x ++ y)) : ∀ (fs : List Field) (k : Nat) (cs : List Value), PTy.tiles P k fs = true → k + PTy.total P fs = cs.length →
    (∀ (i : Nat) (f : Field), fs[i]? = some f → ∃ p, R ((cs.drop f.offset).take (P.cellsOf f.type)) p ∧ Q f.type p) → ∃ ps : List (List T), R (cs.drop k) ps.flatten ∧ All2 (fun p f => Q f p) ps (fs.map (·.type))
  | [], k, cs, _, hk, _ => ⟨[], by simp only [PTy.total, Nat.add_zero] at hk; rw [hk, List.drop_length]; exact hnil, trivial⟩
  | f :: fs, k, cs, ht, hk, h => by
    simp only [PTy.tiles, Bool.and_eq_true, decide_eq_true_eq] at ht
    simp only [PTy.total] at hk
    obtain ⟨p, h1, h2⟩ := h 0 f rfl
    obtain ⟨ps, h3, h4⟩ := open_fields Q hnil happ fs (k + P.cellsOf f.type) cs ht.2 (by omega) fun i g hg => h (i + 1) g (by simpa using hg)
    refine ⟨p :: ps, ?_, h2, h4⟩
    have e : cs.drop k = (cs.drop f.offset).take (P.cellsOf f.type) ++ cs.drop (k + P.cellsOf f.type) := by
      rw [ht.1, ← List.drop_drop, List.take_append_drop]
    rw [e, List.flatten_cons]
    exact happ _ _ _ _ h1 h3
theorem open_cells : ∀ (m : Nat) (n : Nat) (t : TypeId) (cs : List Value) (x : DataW H × List MemPlace), DataW.trod enc P w 0 spare held n t cs = some x → PTy P m t = true → (∀ y ∈ DataW.weights P t x.1, y ≤ reachBytes) →
    ∃ ts, All2 (Rd w (Xw w)) cs ts ∧ WfT P m t ts := by
  intro m
  induction m with
  | zero => intro n t cs x _ h; simp [PTy] at h
  | succ m ih =>
    intro n t cs x h hp hw
    simp only [PTy] at hp
    split at hp
    · rename_i hu
      obtain ⟨b, rfl, rfl⟩ := DataW.trod_bool hu h
      exact ⟨[.v (.bool b)], ⟨.v _ rfl, trivial⟩, by simp only [WfT, hu]; exact ⟨b, rfl⟩⟩
    · rename_i k hu
      obtain ⟨i, rfl, rfl, hwf⟩ := DataW.trod_int hu h
      exact ⟨[.v (.int k i)], ⟨.v _ rfl, trivial⟩, by simp only [WfT, hu]; exact ⟨i, rfl, hwf⟩⟩
    · rename_i hu
      obtain ⟨s, rfl, rfl, hs⟩ := DataW.trod_string hu h
      exact ⟨[.v (.string s)], ⟨.v _ rfl, trivial⟩, by simp only [WfT, hu]; exact ⟨s, rfl, hs⟩⟩
    · rename_i e hu
      simp only [Bool.and_eq_true, decide_eq_true_eq] at hp
      obtain ⟨⟨hb0, hc0⟩, hpe⟩ := hp
      rcases DataW.trod_slice hu h with ⟨rfl, rfl⟩ | ⟨a, len, cap, elems, rest, n', rfl, rfl, rfl, _, hlc, hcm, hel, helem, hspare, hnospare⟩
      · refine ⟨[.sl (P.cellsOf e) []], ⟨?_, trivial⟩, by simp only [WfT, hu]; exact ⟨[], rfl, by simp, by simp⟩⟩
        exact .sl none 0 0 _ [] 0 0 (fun _ _ => .bool false) rfl (Nat.le_refl _) (by omega) (by simp) (fun h => by omega) (fun _ => rfl) (fun i j hi => by omega) (fun i j e t he => by simp at he)
      · simp only [DataW.weights, hu] at hw
        have hlen : (elems.length + rest.length) * P.bytesOf e ≤ reachBytes := by
          have := hw _ (List.mem_cons_self ..)
          simpa using this
        have hle : len * P.bytesOf e ≤ reachBytes := Nat.le_trans (Nat.mul_le_mul_right _ (by omega)) hlen
        have hlb : len ≤ len * P.bytesOf e := Nat.le_mul_of_pos_right _ hb0
        have key : ∀ i, i < len → ∃ y : List Value × List T, w.cells? 0 (a.add (i * P.cellsOf e)) (P.cellsOf e) = some y.1 ∧ All2 (Rd w (Xw w)) y.1 y.2 ∧ WfT P m e y.2 := by
          intro i hi
          have h1 := helem i hi
          have h2 : elems[i]? = some elems[i] := List.getElem?_eq_getElem (by omega)
          rw [h2] at h1
          obtain ⟨csi, hcs, htr⟩ := Option.bind_eq_some_iff.1 h1
          obtain ⟨tsi, h3, h4⟩ := ih n' e csi _ htr hpe fun y hy => hw y (List.mem_cons_of_mem _ (List.mem_append_left _ (weightsAll_mem (List.mem_map.2 ⟨_, List.mem_of_getElem? h2, rfl⟩) y hy)))
          exact ⟨(csi, tsi), hcs, h3, h4⟩
        obtain ⟨l, hl, hq⟩ := choose_list len key
        have hcell : ∀ (i : Nat) (y : List Value × List T), l[i]? = some y → ∀ j, j < P.cellsOf e → w.cell? ((a.add (i * P.cellsOf e)).add j) = y.1[j]? := by
          intro i y hy j hj
          exact (World.cells?_some (hq i y hy).1).2.2 j hj
        have hlen2 : ∀ (i : Nat) (y : List Value × List T), l[i]? = some y → y.1.length = P.cellsOf e := fun i y hy => (World.cells?_some (hq i y hy).1).2.1
        -- where it lies
        have hspot : 0 < len → a.spot = none ∧ Xw w a.block := by
          intro h0
          have hy : l[0]? = some l[0] := List.getElem?_eq_getElem (by omega)
          have h1 := hcell 0 _ hy 0 hc0
          have h2 := hlen2 0 _ hy
          rw [Nat.zero_mul] at h1
          have e0 : (a.add 0).add 0 = a := by simp [Addr.add]
          rw [e0, List.getElem?_eq_getElem (by omega)] at h1
          unfold World.cell? at h1
          split at h1
          · rename_i c t fr hc
            split at h1
            · simp at h1
            · rename_i hs
              refine ⟨by simpa using hs, (Array.getElem?_eq_some_iff.1 hc).1, c, t, fr, hc⟩
          · simp at h1
        refine ⟨[.sl (P.cellsOf e) (l.map (·.2))], ⟨?_, trivial⟩, by simp only [WfT, hu]; exact ⟨l.map (·.2), rfl, by simpa [hl] using hle, fun x hx => by
          obtain ⟨y, hy, rfl⟩ := List.mem_map.1 hx
          obtain ⟨i, hi⟩ := List.getElem?_of_mem hy
          exact (hq i y hi).2.2⟩⟩
        refine .sl (some a) len cap _ (l.map (·.2)) a.block a.off (fun i j => (l.getD i default).1.getD j (.bool false)) (by simp [hl]) hlc (by unfold reachBytes at hle; omega) (fun x hx => ?_) (fun h0 => ?_) (fun h => by simp at h) (fun i j hi hj => ?_) (fun i j x t hx ht => ?_)
        · obtain ⟨y, hy, rfl⟩ := List.mem_map.1 hx
          obtain ⟨i, hi⟩ := List.getElem?_of_mem hy
          rw [← (hq i y hi).2.1.length, hlen2 i y hi]
        · obtain ⟨h1, h2⟩ := hspot h0
          refine ⟨?_, h2⟩
          obtain ⟨b, o, s⟩ := a
          simp only at h1
          subst h1
          rfl
        · have hy : l[i]? = some l[i] := List.getElem?_eq_getElem (by omega)
          have h1 := hcell i _ hy j hj
          have h2 := hlen2 i _ hy
          obtain ⟨hs, _⟩ := hspot (by omega)
          have e1 : (a.add (i * P.cellsOf e)).add j = ⟨a.block, a.off + (i * P.cellsOf e + j), none⟩ := by
            obtain ⟨b, o, s⟩ := a
            simp only at hs
            subst hs
            rw [addr_add, addr_add, Nat.add_assoc]
          rw [e1] at h1
          have hj2 : j < (l[i]).1.length := by omega
          have e2 : l.getD i default = l[i] := by rw [List.getD_eq_getElem?_getD, hy]; rfl
          rw [h1]
          simp only [e2]
          rw [List.getElem?_eq_getElem hj2, List.getD_eq_getElem?_getD, List.getElem?_eq_getElem hj2]
          rfl
        · rw [List.getElem?_map] at hx
          obtain ⟨y, hy, rfl⟩ := Option.map_eq_some_iff.1 hx
          have h1 := (hq i y hy).2.1
          obtain ⟨v, hv, hr⟩ := h1.at j ht
          have e2 : l.getD i default = y := by rw [List.getD_eq_getElem?_getD, hy]; rfl
          simp only [e2]
          rw [List.getD_eq_getElem?_getD, hv]
          exact hr
    · rename_i fs hu
      simp only [Bool.and_eq_true, List.all_eq_true, decide_eq_true_eq] at hp
      obtain ⟨⟨hpf, htile⟩, htot⟩ := hp
      obtain ⟨xs, n', rfl, rfl, hcl, hxl, hf⟩ := DataW.trod_struct hu h
      simp only [DataW.weights, hu] at hw
      obtain ⟨ps, h1, h2⟩ := open_fields (P := P) (R := All2 (Rd w (Xw w))) (WfT P m) trivial (fun a b x y h h' => h.append h') fs.toList 0 cs htile (by rw [hcl, htot]; omega) fun i f hf' => by
        have hfa : fs[i]? = some f := by rw [← Array.getElem?_toList]; exact hf'
        have h3 := hf i f hfa
        have hi : i < fs.size := (Array.getElem?_eq_some_iff.1 hfa).1
        have h4 : xs[i]? = some xs[i] := List.getElem?_eq_getElem (by omega)
        rw [h4] at h3
        obtain ⟨p, h5, h6⟩ := ih n' f.type _ _ h3 (hpf f (List.mem_of_getElem? hf')) fun y hy => hw y (weightsEach_mem i (by rw [List.getElem?_map, hf']; rfl) (by rw [List.getElem?_map, h4]; rfl) y hy)
        exact ⟨p, h5, h6⟩
      rw [List.drop_zero] at h1
      exact ⟨ps.flatten, h1, by simp only [WfT, hu]; exact ⟨ps, rfl, h2⟩⟩
    · simp at hp
end
end Go.Proofs.Ytlkhfdccapkcdaa
