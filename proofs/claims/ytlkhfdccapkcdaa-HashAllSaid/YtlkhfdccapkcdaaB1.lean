/- More operations: texts of bytes, room of rows. -/
import Derived.Test.YtlkhfdccapkcdaaA16
import Derived.Laws.BytesString
import Derived.Laws.Cells
namespace Go.Proofs.Ytlkhfdccapkcdaa
open Go Go.RowKit
set_option linter.unusedVariables false
set_option linter.unusedSimpArgs false

def byteL : List LV → Option (List UInt8)
  | [] => some []
  | .s (.int .u8 n) :: r => (byteL r).map (UInt8.ofNat n.toNat :: ·)
  | _ => none
section
variable {P : Program} {R : Option Nat} {cx : Cx} {o : Oper} {st : St} {K : St → Prop}
theorem byteL_rel {w : World} {X Xa : Nat → Prop} {σ : Nat → Hd} : ∀ {vs : List Value} {cs : List LV} {bs : List UInt8}, All2 (RelL w X Xa σ) vs cs → byteL cs = some bs → ∃ ns : List Int, vs = ns.map (Value.int .u8) ∧ bs = ns.map fun n => UInt8.ofNat n.toNat
  | [], [], bs, _, h => by simp [byteL] at h; subst h; exact ⟨[], rfl, rfl⟩
  | v :: vs, c :: cs, bs, hr, h => by
    cases c with
    | s a =>
      cases a with
      | int k n =>
        cases k with
        | u8 =>
          simp only [byteL, Option.map_eq_some_iff] at h
          obtain ⟨bs', h1, rfl⟩ := h
          obtain ⟨ns, rfl, rfl⟩ := byteL_rel hr.2 h1
          exact ⟨n :: ns, by rw [hr.1.1]; rfl, rfl⟩
        | _ => simp [byteL] at h
      | _ => simp [byteL] at h
    | _ => simp [byteL] at h
  | [], _ :: _, _, hr, _ => hr.elim
  | _ :: _, [], _, hr, _ => hr.elim
theorem fold_push : ∀ (ns : List Int) (s : ByteArray), ns.foldl (fun r n => r.push (UInt8.ofNat n.toNat)) s = ⟨s.data ++ (ns.map fun n => UInt8.ofNat n.toNat).toArray⟩
  | [], s => by simp
  | n :: ns, s => by
    rw [List.foldl_cons, fold_push ns]
    simp [ByteArray.push]
theorem OpOk.conv_bytes {src dst e m : Nat} {x : Operand} {cs : List LV} {bs : List UInt8} (ho : o.op = .convert src dst x) (hs : elemF P src = some e) (he : intF P e = some .u8) (hd : strF P dst = true) (hx : st.src 1 (st.ev x) = some (m, cs)) (hb : byteL cs = some bs) :
    OpOk P cx o st (st.put o.dst (.l (.s (.string ⟨bs.toArray⟩)))) := by
  refine .calm fun σ a w hr => ?_
  rcases hr.src (hr.ev x) hx with ⟨hv, rfl, rfl⟩ | ⟨ad, c, news, hv, hl, hc, h1, hall⟩
  · simp [byteL] at hb
    subst hb
    refine ⟨.string ByteArray.empty, 0, ?_, rfl, rfl⟩
    simp [execOp, ho, hv, run_convert_bytes_string w src dst e none 0 0 (elemF_some hs) (intF_some he) (strF_some hd), Conv.bytesToString, World.drewN]
  · obtain ⟨ns, rfl, rfl⟩ := byteL_rel hall hb
    refine ⟨_, 0, ?_, rfl, rfl⟩
    have hcells : (loadCells ad m).run P w = .ok (ns.map (Value.int .u8)).toArray w := by
      have := run_loadCells_list (P := P) w ad (ns.map (Value.int .u8)) hc
      rwa [show (ns.map (Value.int .u8)).length = m by simpa using hl] at this
    have := run_bytesToString (P := P) w ad m c ns hcells
    rw [fold_push] at this
    simp [execOp, ho, hv, run_convert_bytes_string w src dst e (some ad) m c (elemF_some hs) (intF_some he) (strF_some hd), this, World.drewN]
/-- The room of an own row is not known before it is asked for. -/
theorem OpFam.cap_r {t e ob sz lo hi : Nat} {x : Operand} {z : Ob} (ho : o.op = .call { callee := .builtin .cap, args := #[x], argTypes := #[t] }) (he : elemF P t = some e) (hx : st.ev x = .l (.r ob sz lo hi)) (hz : st.obj ob = some z) (hrow : z.row = true)
    (hk : ∀ c, hi ≤ c → (∀ k, z.cap = some k → c = k) → z.cs.length ≤ c * z.sz → K ((st.setO ob { z with cap := some c }).put o.dst (.l (.s (.int .i64 ((c - lo : Nat) : Int)))))) : OpFam P R cx o st K := by
  intro σ a w hr next Q hn
  have hv := hr.ev x
  rw [hx] at hv
  have hO := hr.h.obs ob z (obj_some hz)
  have hd : ∀ c, o.op ≠ .defer c := fun c e => by rw [ho] at e; simp at e
  rw [Oper.semAt_eq _ _ _ hd]
  have key : ∀ (c : Nat) (hH : RelS cx σ (st.setO ob { z with cap := some c }) a w) (hrun : (execOp a.eval o).run P w = .ok (.value (.int .i64 ((c - lo : Nat) : Int))) w) (h1 : hi ≤ c) (h2 : ∀ k, z.cap = some k → c = k) (h3 : z.cs.length ≤ c * z.sz),
      o.uponIn (fR R) 0 P a next Q ((execOp a.eval o).run P w) := by
    intro c hH hrun h1 h2 h3
    rw [hrun]
    exact hn σ _ _ w (hk c h1 h2 h3) (hH.put o.dst ⟨rfl, rfl⟩)
  have hset : ∀ c, RelO w (Xd cx w σ st.ob) (Xe w σ st.ob) σ (σ ob) { z with cap := some c } → RelS cx σ (st.setO ob { z with cap := some c }) a w := by
    intro c hOc
    have hl : ob < st.ob.length := (List.getElem?_eq_some_iff.1 (obj_some hz)).1
    have hget : ∀ (i : Nat) (y : Ob), (st.ob.set ob (some { z with cap := some c }))[i]? = some (some y) → (i = ob ∧ y = { z with cap := some c }) ∨ (i ≠ ob ∧ st.ob[i]? = some (some y)) := by
      intro i y hy
      by_cases e : i = ob
      · subst e
        rw [List.getElem?_set_self hl] at hy
        simp at hy
        exact .inl ⟨rfl, hy.symm⟩
      · rw [List.getElem?_set_ne (Ne.symm e)] at hy
        exact .inr ⟨e, hy⟩
    have hs : Step σ st.ob w σ (st.ob.set ob (some { z with cap := some c })) w some := by
      refine ⟨Evo.refl _ _ _, fun o o' x e hx => by cases e; exact hx, ?_⟩
      rintro b ⟨i, y, k, hi', hb⟩
      rcases hget i y hi' with ⟨rfl, rfl⟩ | ⟨_, hy⟩
      · exact .inl ⟨i, z, k, obj_some hz, hb⟩
      · exact .inl ⟨i, y, k, hy, hb⟩
    refine hr.step_some hs (hs.relH hr.h ?_ ?_ ?_ (by simpa using hr.h.nbl) ?_)
    · intro i y hi'
      rcases hget i y hi' with ⟨rfl, rfl⟩ | ⟨_, hy⟩
      · have := hs.relO (cx := cx) (fun b k e => rfl) hOc
        rwa [Ob.ren_some] at this
      · have := hs.relO (cx := cx) (fun b k e => rfl) (hr.h.obs i y hy)
        rwa [Ob.ren_some] at this
    · intro i j y y' b k k' hi' hj hb hb'
      have hz' := obj_some hz
      rcases hget i y hi' with ⟨rfl, rfl⟩ | ⟨_, hy⟩ <;> rcases hget j y' hj with ⟨rfl, rfl⟩ | ⟨_, hy'⟩
      · rfl
      · exact hr.h.inj _ _ _ _ b k k' hz' hy' hb hb'
      · exact hr.h.inj _ _ _ _ b k k' hy hz' hb hb'
      · exact hr.h.inj _ _ _ _ b k k' hy hy' hb hb'
    · intro i hi'
      exact hr.h.dom i (by simpa using hi')
    · intro i y hi' hrow hlt
      rcases hget i y hi' with ⟨rfl, rfl⟩ | ⟨_, hy⟩
      · exact hr.h.box i z (obj_some hz) hrow hlt
      · exact hr.h.box i y hy hrow hlt
  rcases hv with ⟨hb, rfl, rfl, hv⟩ | ⟨b, k, off, hb, h3, h4, hv, hoff⟩
  · rw [hb] at hO
    refine key 0 (hset 0 ?_) ?_ (Nat.le_refl _) (fun k hk' => ?_) (by simp [hO.2.1])
    · rw [hb]; exact ⟨hO.1, hO.2.1, .inr rfl⟩
    · simp [execOp, ho, resolve, invoke, builtin, Builtin.cap_, run_underlying (elemF_some he), hv, goInt]
    · rcases hO.2.2 with h | h <;> rw [h] at hk' <;> simp at hk'
      exact hk'
  · rw [hb] at hO
    obtain ⟨vs, rest, g1, g2, g4, g5⟩ := hO
    refine key k (hset k ?_) ?_ h4 (fun k' hk' => ((g5 hrow).2.2 k' hk').symm) ?_
    · rw [hb]
      exact ⟨vs, rest, g1, g2, g4, fun hrow => ⟨(g5 hrow).1, (g5 hrow).2.1, fun k' hk' => by simp at hk'; exact hk'.symm⟩⟩
    · simp [execOp, ho, resolve, invoke, builtin, Builtin.cap_, run_underlying (elemF_some he), hv, goInt]
    · have := (g5 hrow).1
      rw [← g2.length]
      omega
end
end Go.Proofs.Ytlkhfdccapkcdaa
