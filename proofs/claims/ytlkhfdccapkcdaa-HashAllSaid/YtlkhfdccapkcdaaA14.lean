/- A call by its contract. -/
import Derived.Test.YtlkhfdccapkcdaaA13
namespace Go.Proofs.Ytlkhfdccapkcdaa
open Go Go.RowKit
set_option linter.unusedVariables false
set_option linter.unusedSimpArgs false

/-- No data of memory that others own. -/
def LV.na : LV → Bool
  | .d al _ _ => !al
  | .q al _ _ => !al
  | _ => true
def AV.na : AV → Bool
  | .l x => x.na
  | .g cs => cs.all LV.na
  | .t xs => xs.all fun c => c.2.all LV.na
def Ob.na (x : Ob) : Bool := x.cs.all LV.na
section
variable {w : World} {X Xa Xb : Nat → Prop} {σ : Nat → Hd}
theorem RelL.na {v : Value} {x : LV} (h : RelL w X Xa σ v x) (hx : x.na = true) : RelL w X Xb σ v x := by
  cases x with
  | d al sz es => simp [LV.na] at hx; subst hx; exact h
  | q al cs off => simp [LV.na] at hx; subst hx; exact h
  | _ => exact h
theorem all2_na {vs : List Value} {cs : List LV} (h : All2 (RelL w X Xa σ) vs cs) (hx : cs.all LV.na = true) : All2 (RelL w X Xb σ) vs cs :=
  h.mono fun v c hc hr => hr.na (List.all_eq_true.1 hx c hc)
theorem RelV.na {v : Value} {x : AV} (h : RelV w X Xa σ v x) (hx : x.na = true) : RelV w X Xb σ v x := by
  cases x with
  | l x => exact RelL.na h hx
  | g cs => obtain ⟨vs, rfl, hvs⟩ := h; exact ⟨vs, rfl, all2_na hvs hx⟩
  | t xs =>
    obtain ⟨vs, rfl, hvs⟩ := h
    refine ⟨vs, rfl, hvs.mono fun v c hc hr => ?_⟩
    have hcx := List.all_eq_true.1 hx c hc
    obtain ⟨b, cs⟩ := c
    cases b
    · obtain ⟨y, rfl, hy⟩ := hr
      exact ⟨y, rfl, hy.na (by simpa using hcx)⟩
    · obtain ⟨us, rfl, hus⟩ := hr
      exact ⟨us, rfl, all2_na hus hcx⟩
theorem RelO.na {h : Hd} {x : Ob} (hr : RelO w X Xa σ h x) (hx : x.na = true) : RelO w X Xb σ h x := by
  match h with
  | none => exact hr.elim
  | some none => exact hr
  | some (some (b, k)) =>
    obtain ⟨vs, rest, h1, h2, h3⟩ := hr
    exact ⟨vs, rest, h1, all2_na h2 hx, h3⟩
end

/-- How an operand may be handed over, if objects ids go with the call: as it is; as nothing known; data as others' data; a row that stays behind, as others' data; nil as no elements. -/
inductive VwL (st : St) (ids : List Nat) : LV → LV → Prop
  | ren (x : LV) : VwL st ids x (x.ren (inv (ids.map some)))
  | u (x : LV) : VwL st ids x .u
  | al (al : Bool) (sz : Nat) (es : List (List T)) : VwL st ids (.d al sz es) (.d true sz es)
  | nil (al : Bool) (sz : Nat) : VwL st ids (.s (.slice none 0 0)) (.d al sz [])
  | row (ob sz lo hi : Nat) (z : Ob) (es : List (List T)) (h1 : ob ∉ ids) (hz : st.obj ob = some z) (h2 : z.row = true ∧ z.sz = sz ∧ 0 < sz ∧ hi * sz ≤ z.cs.length ∧ lo ≤ hi ∧ hi ≤ 140737488355328) (h3 : (z.cs.drop (lo * sz)).take ((hi - lo) * sz) = lvs es) (h4 : ∀ e ∈ es, e.length = sz) :
      VwL st ids (.r ob sz lo hi) (.d true sz es)
inductive Vw (st : St) (ids : List Nat) : AV → AV → Prop
  | l {x c : LV} (h : VwL st ids x c) : Vw st ids (.l x) (.l c)
  | g {xs cs : List LV} (h : All2 (VwL st ids) xs cs) : Vw st ids (.g xs) (.g cs)

def Zc (cx : Cx) (σ : Nat → Hd) (ob : List (Option Ob)) (ids : List Nat) (b : Nat) : Prop := cx.Z b ∨ (lvb σ ob b ∧ ¬ lvb (sel (ids.map some) σ) (pickOb (ids.map some) ob) b)
def XdC (cx : Cx) (w : World) (σ : Nat → Hd) (ob : List (Option Ob)) (ids : List Nat) (b : Nat) : Prop := b < w.heap.size ∧ ¬ lvb (sel (ids.map some) σ) (pickOb (ids.map some) ob) b ∧ ¬ Zc cx σ ob ids b ∧ isC w b

theorem lvb_sel {σ : Nat → Hd} {ob : List (Option Ob)} {ids : List (Option Nat)} {b : Nat} (h : lvb (sel ids σ) (pickOb ids ob) b) : ∃ o y k, some o ∈ ids ∧ ob[o]? = some (some y) ∧ σ o = some (some (b, k)) := by
  obtain ⟨i, x, k, hi, hb⟩ := h
  obtain ⟨o, y, h1, h2, _⟩ := pickOb_get hi
  rw [sel, h1] at hb
  exact ⟨o, y, k, List.mem_of_getElem? h1, h2, hb⟩

section
variable {P : Program} {cx : Cx} {o : Oper} {st : St} {σ : Nat → Hd} {a : Act} {w : World}
theorem VwL.sound {ids : List Nat} {x c : LV} (hv : VwL st ids x c) (hH : RelH cx w σ st.ob st.ls) {v : Value} (h : RelL w (Xd cx w σ st.ob) (Xe w σ st.ob) σ v x) :
    RelL w (XdC cx w σ st.ob ids) (Xe w (sel (ids.map some) σ) (pickOb (ids.map some) st.ob)) (sel (ids.map some) σ) v c := by
  have hsub : ∀ b, lvb (sel (ids.map some) σ) (pickOb (ids.map some) st.ob) b → lvb σ st.ob b := fun b hb => by
    obtain ⟨o, y, k, _, h2, h3⟩ := lvb_sel hb
    exact ⟨o, y, k, h2, h3⟩
  have hX : ∀ b, Xd cx w σ st.ob b → XdC cx w σ st.ob ids b ∧ w.heap[b]? = w.heap[b]? := fun b ⟨h1, h2, h3, h4⟩ => ⟨⟨h1, fun hl => h2 (hsub b hl), fun hz => hz.elim h3 (fun hz => h2 hz.1), h4⟩, rfl⟩
  have hXa : ∀ b, Xe w σ st.ob b → Xe w (sel (ids.map some) σ) (pickOb (ids.map some) st.ob) b ∧ w.heap[b]? = w.heap[b]? := fun b ⟨h1, h2, h4⟩ => ⟨⟨h1, fun hl => h2 (hsub b hl), h4⟩, rfl⟩
  cases hv with
  | ren => exact RelL.ren hX hXa (fun o i hh e ho => by rw [sel, inv_some e]; exact ho) h
  | u => trivial
  | al al sz es =>
    refine Rd.mono (X := if al = true then Xe w σ st.ob else Xd cx w σ st.ob) (fun b hb => ?_) h
    cases al
    · exact ⟨⟨hb.1, fun hl => hb.2.1 (hsub b hl), hb.2.2.2⟩, rfl⟩
    · exact hXa b hb
  | nil al sz =>
    obtain ⟨rfl, _⟩ := h
    exact .sl none 0 0 sz [] 0 0 (fun _ _ => undef) rfl (Nat.le_refl _) (by omega) (fun e he => by simp at he) (fun h => by omega) (fun _ => rfl) (fun i j hi => by omega) (fun i j e t he => by simp at he)
  | row ob sz lo hi z es h1 hz h2 h3 h4 =>
    obtain ⟨hrow, hzs, h0, hle, hlh, hhi⟩ := h2
    have hO := hH.obs ob z (obj_some hz)
    have hlen : es.length = hi - lo := by
      have e1 := lvs_length h4
      rw [← h3] at e1
      have e3 : (hi - lo) * sz + lo * sz = hi * sz := by rw [← Nat.add_mul]; congr 1; omega
      have e2 : ((z.cs.drop (lo * sz)).take ((hi - lo) * sz)).length = (hi - lo) * sz := by simp; omega
      rw [e2] at e1
      exact (Nat.eq_of_mul_eq_mul_right h0 e1).symm
    rcases h with ⟨hb, rfl, rfl, hv⟩ | ⟨b, k, off, hb, g3, g4, hv, hoff⟩
    · have he : es = [] := List.eq_nil_of_length_eq_zero (by omega)
      subst he
      subst hv
      exact .sl none 0 0 sz [] 0 0 (fun _ _ => undef) rfl (Nat.le_refl _) (by omega) (fun e he => by simp at he) (fun h => by omega) (fun _ => rfl) (fun i j hi => by omega) (fun i j e t he => by simp at he)
    · rw [hb] at hO
      obtain ⟨vs, rest, f1, f2, f4, f5⟩ := hO
      have hvl := f2.length
      have hlb : lvb σ st.ob b := ⟨ob, z, k, obj_some hz, hb⟩
      have hnl : ¬ lvb (sel (ids.map some) σ) (pickOb (ids.map some) st.ob) b := fun hl => by
        obtain ⟨o', y, k', m1, m2, m3⟩ := lvb_sel hl
        have := hH.inj o' ob y z b k' k m2 (obj_some hz) m3 hb
        subst this
        simp at m1
        exact h1 m1
      have hsz : (hi - lo) * sz + lo * sz = hi * sz := by rw [← Nat.add_mul]; congr 1; omega
      have hall := (f2.drop (lo * sz)).take ((hi - lo) * sz)
      rw [h3] at hall
      subst hv
      refine .sl _ (hi - lo) (k - lo) sz es b off (fun i j => ((vs.drop (lo * sz)).take ((hi - lo) * sz)).getD (i * sz + j) undef) hlen (by omega) (by omega) h4 (fun _ => ⟨rfl, hH.lt hlb, hnl, _, _, _, f1⟩) (fun e => by simp at e) ?_ ?_
      · intro i j hi' hj
        have hoff' : off = lo * sz := hoff (.inl (by omega))
        have hlt : i * sz + j < (hi - lo) * sz := by
          have h5 : (i + 1) * sz ≤ (hi - lo) * sz := Nat.mul_le_mul_right _ (by omega)
          rw [Nat.add_mul] at h5
          omega
        rw [cell_of_row w b _ _ _ _ f1, hoff']
        have hlt2 : lo * sz + (i * sz + j) < vs.length := by omega
        simp only [List.getElem?_toArray, List.getElem?_append_left hlt2, List.getD_eq_getElem?_getD, List.getElem?_take_of_lt hlt, List.getElem?_drop]
        rw [List.getElem?_eq_getElem hlt2]
        rfl
      · intro i j e t he ht
        have hj : j < sz := by have := (List.getElem?_eq_some_iff.1 ht).1; rwa [h4 e (List.mem_of_getElem? he)] at this
        have hc := lvs_get h4 he j hj
        rw [ht] at hc
        obtain ⟨u, hu, hur⟩ := hall.at _ hc
        simp only [List.getD_eq_getElem?_getD, hu, Option.getD_some]
        -- the object's own leaf is data
        have hsub2 : ∀ b', Xd cx w σ st.ob b' → Xe w (sel (ids.map some) σ) (pickOb (ids.map some) st.ob) b' ∧ w.heap[b']? = w.heap[b']? := fun b' hb' => ⟨⟨hb'.1, fun hl => hb'.2.1 (hsub b' hl), hb'.2.2.2⟩, rfl⟩
        cases t with
        | v x => obtain ⟨rfl, h1x⟩ := hur; exact .v _ h1x
        | sl sz' es' => exact Rd.mono hsub2 hur
theorem Vw.sound {ids : List Nat} {x c : AV} (hv : Vw st ids x c) (hH : RelH cx w σ st.ob st.ls) {v : Value} (h : RelV w (Xd cx w σ st.ob) (Xe w σ st.ob) σ v x) :
    RelV w (XdC cx w σ st.ob ids) (Xe w (sel (ids.map some) σ) (pickOb (ids.map some) st.ob)) (sel (ids.map some) σ) v c := by
  cases hv with
  | l hl => exact hl.sound hH h
  | g hg =>
    obtain ⟨vs, rfl, hvs⟩ := h
    refine ⟨vs, rfl, All2.of_get (by rw [hvs.length, hg.length]) fun i v c hv hc => ?_⟩
    obtain ⟨x, hx, hxc⟩ := hg.at i hc
    exact hxc.sound hH (hvs.get i hv hx)
end
end Go.Proofs.Ytlkhfdccapkcdaa
