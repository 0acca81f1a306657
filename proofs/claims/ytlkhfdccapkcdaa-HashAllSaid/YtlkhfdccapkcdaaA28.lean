/- More rules: pushes, regions with tests, regions told by what they leave. -/
import Derived.Test.YtlkhfdccapkcdaaA27
namespace Go.Proofs.Ytlkhfdccapkcdaa
open Go Go.RowKit
set_option linter.unusedVariables false
set_option linter.unusedSimpArgs false

section
variable {P : Program} {R : Option Nat} {cx : Cx} {Q : Post} {ops : Array Oper} {c c1 : Code} {st st' : St} {tm tm' : Tm} {ob ob' : List (Option Ob)} {nt : Nat} {gh : List Tm} {ls : Option Code} {id : Nat}
attribute [simp] Value.oneCell'
theorem AW.mid (st' : St) (h : AW P R cx c1 (fun e s => e = .normal ∧ Weak cx s st') st) (k : AW P R cx c Q st') : AW P R cx (.seq c1 c) Q st := by
  refine AW.seq (AW.mono h ?_)
  rintro e s ⟨rfl, hs⟩
  exact AW.weak hs k
/-- What is left of a state: temporaries up, all others as they were. -/
def KU (up tm : Tm) (ob : List (Option Ob)) (nt : Nat) (gh : List Tm) (ls : Option Code) (s : St) : Prop :=
  (∀ e ∈ up ++ tm, lk s.tm e.1 = e.2) ∧ s.ob = ob ∧ s.nt = nt ∧ s.gh = gh ∧ s.ls = ls
theorem KU.mk {up tm tm' : Tm} (h : ∀ e ∈ up ++ tm, lk tm' e.1 = e.2) : KU up tm ob nt gh ls ⟨tm', ob, nt, gh, ls⟩ := ⟨h, rfl, rfl, rfl, rfl⟩
/-- A region in the text's order, told by the temporaries that it sets for later. -/
theorem AW.stepU (up : Tm) (h : xops P ops ops.toList ⟨tm, ob, nt, gh, ls⟩ (KU up tm ob nt gh ls)) (k : AW P R cx c Q ⟨up ++ tm, ob, nt, gh, ls⟩) : AW P R cx (.seq (.region id ops false) c) Q ⟨tm, ob, nt, gh, ls⟩ := by
  refine AW.stepN _ h fun s hs => ?_
  obtain ⟨h1, h2, h3, h4, h5⟩ := hs
  obtain ⟨tm2, ob2, nt2, gh2, ls2⟩ := s
  simp only at h1 h2 h3 h4 h5
  subst h2 h3 h4 h5
  exact AW.weak (Weak.keep _ h1) k
theorem xg_wh {d : Option Nat} {op : Op} {ty : TypeId} {pos : String} {af : Array Edge} {j : Nat} {want : Bool} {K : St → Prop} : xg P ops ⟨d, op, ty, pos, af, some (j, want)⟩ st K = wh (yd ops st j) fun b => if b = some want then xo P ⟨d, op, ty, pos, af, some (j, want)⟩ st K else K (st.put d (.t [])) := nr rfl
/-- Data is pushed to the end of an own row of data. -/
theorem xapp_push {t e n k : Nat} {x : AV} {z : List Value} {ag : Bool} {sz by' o : Nat} {cap : Option Nat} {acc ys : List (List T)} {d : Option Nat} {K : St → Prop} (he : elemF P t = some e) (hti : tiF P e = some ⟨ag, sz, by', z⟩) (hz : st.obj o = some ⟨e, sz, true, cap, lvs acc⟩)
    (hq : st.src sz x = some (k, lvs ys)) (hacc : ∀ e ∈ acc, e.length = sz) (hn : acc.length = n) (h1 : z.length = sz ∧ 0 < sz ∧ 0 < by') (h4 : (n + k) * by' ≤ 140737488355328)
    (hk : K ((st.grow o ⟨e, sz, true, none, lvs (acc ++ ys)⟩).put d (.l (.r o sz 0 (n + k))))) : xapp P t (.l (.r o sz 0 n)) x st d K := by
  subst hn
  refine xapp_grow (ti := ⟨ag, sz, by', z⟩) (q := (k, lvs ys)) he hti h1 hq hz ⟨rfl, rfl, rfl, rfl⟩ (by simp [lvs_length hacc]) h4 ?_
  rw [show ((⟨e, sz, true, cap, lvs acc⟩ : Ob).cs ++ (k, lvs ys).2).map (LV.ren (but o)) = lvs (acc ++ ys) by
    show (lvs acc ++ lvs ys).map _ = _
    rw [← lvs_append, lvs_ren]]
  exact hk
theorem src_row {o n sz e : Nat} {cap : Option Nat} {es : List (List T)} (hz : st.obj o = some ⟨e, sz, true, cap, lvs es⟩) (hes : ∀ e ∈ es, e.length = sz) (hn : es.length = n) : st.src sz (.l (.r o sz 0 n)) = some (n, lvs es) := by
  subst hn
  have hl := lvs_length hes
  have ho : (lvs es).all LV.ok = true := lvsA_ok false es
  simp only [St.src, hz]
  have e1 : ((lvs es).drop (0 * sz)).take ((es.length - 0) * sz) = lvs es := by
    rw [Nat.zero_mul, List.drop_zero, Nat.sub_zero, ← hl, List.take_length]
  rw [e1, if_pos ⟨trivial, trivial, trivial, by omega, Nat.zero_le _, ho⟩]
  simp
theorem src_d {sz : Nat} {es : List (List T)} : st.src sz (.l (.d false sz es)) = some (es.length, lvs es) := by simp [St.src, lvs_eq]
/-- Ways that come together: told by what they leave; ms may have turned. -/
theorem AW.joinF (ms : List Nat) (up : Tm) (O : List (Option Ob)) {base : Tm} (hb : Go.Proofs.Ytlkhfdccapkcdaa.filt ms tm = base) (h : AW P R cx c1 (Post.seq (fun s => Weak cx s ⟨up ++ base, O, nt, gh, ls⟩) Q) ⟨tm, ob, nt, gh, ls⟩)
    (k : AW P R cx c Q ⟨up ++ base, O, nt, gh, ls⟩) : AW P R cx (.seq c1 c) Q ⟨tm, ob, nt, gh, ls⟩ :=
  AW.seq (AW.mono h fun e s hs => by
    cases e with
    | normal => exact AW.weak hs k
    | _ => exact hs)
/-- A nil slice is seen as an own row of nothing. -/
theorem AW.nilRow (i ty sz n : Nat) (h : lk tm i = .l (.s (.slice none 0 0))) (hn : ob.length = n) {ob' : List (Option Ob)} (ho : ob ++ [some ⟨ty, sz, true, none, []⟩] = ob') (k : AW P R cx c Q ⟨(i, .l (.r n sz 0 0)) :: tm, ob', nt, gh, ls⟩) : AW P R cx c Q ⟨tm, ob, nt, gh, ls⟩ := by
  subst hn
  subst ho
  exact AW.weak (Weak.nilRow (st := ⟨tm, ob, nt, gh, ls⟩) i ty sz h) k
end
section
variable {ρ : Ren}
@[simp] theorem tmren_nil : Tm.ren ρ [] = [] := rfl
@[simp] theorem tmren_cons (j : Nat) (v : AV) (r : Tm) : Tm.ren ρ ((j, v) :: r) = (j, v.ren ρ) :: Tm.ren ρ r := rfl
@[simp] theorem avren_l (x : LV) : (AV.l x).ren ρ = .l (x.ren ρ) := rfl
@[simp] theorem avren_g (x : List LV) : (AV.g x).ren ρ = .g (x.map (LV.ren ρ)) := rfl
@[simp] theorem avren_t (x : List (Bool × List LV)) : (AV.t x).ren ρ = .t (x.map (CV.ren ρ)) := rfl
@[simp] theorem cvren (b : Bool) (x : List LV) : CV.ren ρ (b, x) = (b, x.map (LV.ren ρ)) := rfl
@[simp] theorem lvren_u : LV.ren ρ .u = .u := rfl
@[simp] theorem lvren_s (x : Value) : LV.ren ρ (.s x) = .s x := rfl
@[simp] theorem lvren_d (al : Bool) (sz : Nat) (es : List (List T)) : LV.ren ρ (.d al sz es) = .d al sz es := rfl
@[simp] theorem lvren_q (al : Bool) (cs : List T) (off : Nat) : LV.ren ρ (.q al cs off) = .q al cs off := rfl
@[simp] theorem lvren_p (o off : Nat) : LV.ren ρ (.p o off) = match ρ o with | some o' => .p o' off | none => .u := rfl
@[simp] theorem lvren_r (o sz lo hi : Nat) : LV.ren ρ (.r o sz lo hi) = match ρ o with | some o' => .r o' sz lo hi | none => .u := rfl
@[simp] theorem lvren_f (f : Nat) (cs : List Nat) : LV.ren ρ (.f f cs) = match cs.mapM ρ with | some cs' => .f f cs' | none => .u := rfl
@[simp] theorem but_eq (o i : Nat) : but o i = if i = o then none else some i := rfl
theorem findIdx_idr (o : Nat) : ∀ n : Nat, (idr n).findIdx? (fun x => x == some o) = if o < n then some o else none
  | 0 => by simp [idr]
  | n + 1 => by
    have ih := findIdx_idr o n
    simp only [idr] at ih ⊢
    rw [List.range_succ, List.map_append, List.findIdx?_append, ih]
    by_cases h : o < n
    · simp [h, show o < n + 1 by omega]
    · by_cases e : o = n
      · subst e; simp
      · simp [h, show ¬ o < n + 1 by omega, Ne.symm e]
@[simp] theorem inv_idr (n o : Nat) : inv (idr n) o = if o < n then some o else none := findIdx_idr o n
@[simp] theorem pick_idr (n : Nat) (ob : List (Option Ob)) : pickOb (idr n) ob = (List.range n).map fun o => ((ob[o]?).bind id).map (Ob.ren (inv (idr n))) := by
  simp [pickOb, idr, Function.comp_def]
@[simp] theorem obren (ty sz : Nat) (row : Bool) (cap : Option Nat) (cs : List LV) : Ob.ren ρ ⟨ty, sz, row, cap, cs⟩ = ⟨ty, sz, row, cap, cs.map (LV.ren ρ)⟩ := rfl
end
theorem LeftV.nowN {cx : Cx} {s : St} {obs' : List (Option Ob)} {res : AV} (n : Nat) (h : cx.nb = 0) (hob : pickOb (idr n) s.ob = obs') (hr : (lk s.tm 0).ren (inv (idr n)) = res) (hls : s.ls = none) : LeftV cx res obs' s :=
  LeftV.now h (idr n) (fun i j o hi hj => by
    have hget : ∀ {i o : Nat}, (idr n)[i]? = some (some o) → i = o := by
      intro i o h
      rw [idr, List.getElem?_map] at h
      obtain ⟨a, ha, e⟩ := Option.map_eq_some_iff.1 h
      have := (List.getElem?_eq_some_iff.1 ha).2
      simp at *
      omega
    rw [hget hi, hget hj]) hls hob hr
attribute [simp] lvs_ren lvsA_ren List.range_succ
end Go.Proofs.Ytlkhfdccapkcdaa
