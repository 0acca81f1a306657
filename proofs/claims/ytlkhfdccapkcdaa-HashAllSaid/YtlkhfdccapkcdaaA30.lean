/- More aids: going on inside a region; rows seen as less. -/
import Derived.Test.YtlkhfdccapkcdaaA29
namespace Go.Proofs.Ytlkhfdccapkcdaa
open Go Go.RowKit
set_option linter.unusedVariables false
set_option linter.unusedSimpArgs false

def KK (p : St → Prop) (s : St) : Prop := p s
@[congr] theorem KK_congr {p : St → Prop} {s s' : St} (h : s = s') : KK p s = KK p s' := by rw [h]
section
variable {P : Program} {R : Option Nat} {cx : Cx} {Q : Post} {ops : Array Oper} {c : Code} {st : St} {id : Nat}
theorem AW.stepK (h : xops P ops ops.toList st (KK (AW P R cx c Q))) : AW P R cx (.seq (.region id ops false) c) Q st :=
  AW.stepN _ h fun s hs => hs
theorem AW.lastK (h : xops P ops ops.toList st (KK (Q .normal))) : AW P R cx (.region id ops false) Q st := by
  refine AW.mono (AW.xregion (Q := fun e s => e = .normal ∧ Q .normal s) ?_) ?_
  · have h2 : xops P ops ops.toList st (fun s => Q .normal s) := h
    simpa using h2
  · rintro e s ⟨rfl, hs⟩
    exact hs
/-- Less of an own row is told of, and not how much room it has. -/
theorem Weak.shrink {ob : Nat} {z : Ob} (hz : st.obj ob = some z) (hrow : z.row = true) (n : Nat) : Weak cx st (st.setO ob { z with cap := none, cs := z.cs.take n }) := by
  intro σ a w hr
  have hO := hr.h.obs ob z (obj_some hz)
  have hl : ob < st.ob.length := (List.getElem?_eq_some_iff.1 (obj_some hz)).1
  match hb : σ ob with
  | none => rw [hb] at hO; exact hO.elim
  | some none =>
    rw [hb] at hO
    obtain ⟨h0, h1, h2⟩ := hO
    have hs : Step σ st.ob w σ (st.ob.set ob (some { z with cap := none, cs := z.cs.take n })) w some := by
      refine ⟨Evo.refl _ _ _, fun o o' h' e hh => by cases e; exact hh, ?_⟩
      rintro b' ⟨o', y, k', ho', hb'⟩
      by_cases e : o' = ob
      · subst e; rw [hb] at hb'; simp at hb'
      · rw [List.getElem?_set_ne (Ne.symm e)] at ho'; exact .inl ⟨o', y, k', ho', hb'⟩
    refine ⟨σ, hr.step_some hs (hs.relH hr.h ?_ ?_ ?_ (by have := hr.h.nbl; simpa using this) ?_)⟩
    · intro o' y ho'
      by_cases e : o' = ob
      · subst e
        rw [List.getElem?_set_self hl] at ho'
        simp at ho'
        subst ho'
        rw [hb]
        exact ⟨h0, by simp [h1], .inl rfl⟩
      · rw [List.getElem?_set_ne (Ne.symm e)] at ho'
        have := hs.relO (cx := cx) (fun _ _ _ => rfl) (hr.h.obs o' y ho')
        rwa [Ob.ren_some] at this
    · intro o1 o2 y y' b' k1 k2 h11 h12 h13 h14
      have hlive : ∀ (o' : Nat) (y : Ob), (st.ob.set ob (some { z with cap := none, cs := z.cs.take n }))[o']? = some (some y) → ∃ z' : Ob, st.ob[o']? = some (some z') := by
        intro o' y hy
        by_cases e : o' = ob
        · subst e; exact ⟨z, obj_some hz⟩
        · rw [List.getElem?_set_ne (Ne.symm e)] at hy; exact ⟨y, hy⟩
      obtain ⟨z1, hz1⟩ := hlive o1 y h11
      obtain ⟨z2, hz2⟩ := hlive o2 y' h12
      exact hr.h.inj o1 o2 z1 z2 b' k1 k2 hz1 hz2 h13 h14
    · intro o' ho'
      exact hr.h.dom o' (by simpa using ho')
    · intro o' y ho' hrow' hlt
      by_cases e : o' = ob
      · subst e
        rw [List.getElem?_set_self hl] at ho'
        simp at ho'
        subst ho'
        rw [hrow] at hrow'
        simp at hrow'
      · rw [List.getElem?_set_ne (Ne.symm e)] at ho'
        exact hr.h.box o' y ho' hrow' hlt
  | some (some (b, k)) =>
    rw [hb] at hO
    obtain ⟨vs, rest, g1, g2, g4, g5⟩ := hO
    obtain ⟨f1, f2, f3⟩ := g5 hrow
    have hwr := hr.write (x' := { z with cap := none, cs := z.cs.take n }) (obj_some hz) hb (vs.take n) (vs.drop n ++ rest) (g2.take n) rfl rfl (fun h => by rw [hrow] at h; simp at h) (fun _ => ⟨by
      have : (vs.take n).length + (vs.drop n ++ rest).length = vs.length + rest.length := by simp; omega
      rw [this]; exact f1, f2, fun k' h => by simp at h⟩)
    refine ⟨σ, ?_⟩
    have e : w.setRow b (vs.take n ++ (vs.drop n ++ rest)).toArray = w := by
      rw [← List.append_assoc, List.take_append_drop]
      exact setRow_self _ _ _ _ _ g1
    rw [e] at hwr
    exact hwr
theorem xcap_row {t e ob sz lo hi : Nat} {z : Ob} {d : Option Nat} {K : St → Prop} (he : elemF P t = some e) (hz : st.obj ob = some z) (hrow : z.row = true)
    (k : ∀ c, hi ≤ c → (∀ k, z.cap = some k → c = k) → z.cs.length ≤ c * z.sz → K ((st.setO ob { z with cap := some c }).put d (.l (.s (.int .i64 ((c - lo : Nat) : Int)))))) : xcap P t (.l (.r ob sz lo hi)) st d K := by
  simp only [xcap, he, hz, wh_some]
  exact ⟨rfl, hrow, k⟩
end
/-- Results: an own row seen as less, ahead of what goes out. -/
theorem LeftV.shrink {cx : Cx} {tm : Tm} {ob ob' obs' : List (Option Ob)} {nt : Nat} {gh : List Tm} {ls : Option Code} {res : AV} (o n : Nat) {z z' : Ob} (hz : ob[o]? = some (some z)) (hrow : z.row = true) (hz' : { z with cap := none, cs := z.cs.take n } = z') (ho : ob.set o (some z') = ob')
    (k : LeftV cx res obs' ⟨tm, ob', nt, gh, ls⟩) : LeftV cx res obs' ⟨tm, ob, nt, gh, ls⟩ := by
  subst hz'
  subst ho
  exact LeftV.weak (Weak.shrink (st := ⟨tm, ob, nt, gh, ls⟩) (by simp [St.obj, hz]) hrow n) k
theorem AW.room {P : Program} {R : Option Nat} {cx : Cx} {Q : Post} {c : Code} {tm : Tm} {ob ob' : List (Option Ob)} {nt : Nat} {gh : List Tm} {ls : Option Code} (o n : Nat) {z z' : Ob} {m : Nat} (hz : ob[o]? = some (some z)) (hrow : z.row = true) (hcap : z.cap = some m) (hn : z.cs.length + n ≤ m * z.sz)
    (hz' : { z with cs := z.cs ++ List.replicate n .u } = z') (ho : ob.set o (some z') = ob') (k : AW P R cx c Q ⟨tm, ob', nt, gh, ls⟩) : AW P R cx c Q ⟨tm, ob, nt, gh, ls⟩ := by
  subst hz'
  subst ho
  exact AW.weak (Weak.room (st := ⟨tm, ob, nt, gh, ls⟩) (by simp [St.obj, hz]) hrow hcap hn) k
theorem lvs_takeN {es : List (List T)} {sz : Nat} (h : ∀ e ∈ es, e.length = sz) : ∀ n : Nat, (lvs es).take (n * sz) = lvs (es.take n) := by
  induction es with
  | nil => intro n; simp [lvs]
  | cons e es ih =>
    intro n
    have he := h e (by simp)
    cases n with
    | zero => simp [lvs]
    | succ n =>
      have ih' := ih (fun e' h' => h e' (by simp [h'])) n
      have e1 : lvs (e :: es) = e.map (T.lv false) ++ lvs es := by simp [lvs]
      rw [e1, List.take_succ_cons, show lvs (e :: es.take n) = e.map (T.lv false) ++ lvs (es.take n) by simp [lvs], ← ih']
      rw [List.take_append, List.take_of_length_le (by rw [List.length_map, he, Nat.succ_mul]; omega)]
      congr 2
      rw [List.length_map, he, Nat.succ_mul]
      omega
theorem lvs_dropN {es : List (List T)} {sz : Nat} (h : ∀ e ∈ es, e.length = sz) : ∀ n : Nat, (lvs es).drop (n * sz) = lvs (es.drop n) := by
  induction es with
  | nil => intro n; simp [lvs]
  | cons e es ih =>
    intro n
    have he := h e (by simp)
    cases n with
    | zero => simp [lvs]
    | succ n =>
      have ih' := ih (fun e' h' => h e' (by simp [h'])) n
      have e1 : lvs (e :: es) = e.map (T.lv false) ++ lvs es := by simp [lvs]
      rw [e1, List.drop_succ_cons, ← ih']
      rw [List.drop_append, List.drop_of_length_le (by rw [List.length_map, he, Nat.succ_mul]; omega), List.nil_append]
      congr 1
      rw [List.length_map, he, Nat.succ_mul]
      omega
/-- New elements over the end of what is told of a row. -/
theorem setAt_end {es fs : List (List T)} {us : List LV} {sz j : Nat} (hes : ∀ e ∈ es, e.length = sz) (hfs : ∀ e ∈ fs, e.length = sz) (hj : j ≤ es.length) (hle : es.length * sz + us.length = (j + fs.length) * sz) : setAt (lvs es ++ us) (j * sz) (lvs fs) = lvs (es.take j ++ fs) := by
  have h1 := lvs_length hes
  have h2 := lvs_length hfs
  rw [setAt_eq _ _ _ (by rw [List.length_append, h1, h2, hle, Nat.add_mul]; omega), lvs_append]
  have h3 : j * sz ≤ es.length * sz := Nat.mul_le_mul_right _ hj
  rw [List.take_append_of_le_length (by rw [h1]; exact h3), lvs_takeN hes, List.drop_of_length_le (by rw [List.length_append, h1, h2, hle, Nat.add_mul]; omega), List.append_nil]
theorem setAt_end0 {es fs : List (List T)} {sz j : Nat} (hes : ∀ e ∈ es, e.length = sz) (hfs : ∀ e ∈ fs, e.length = sz) (hj : j ≤ es.length) (hle : es.length = j + fs.length) : setAt (lvs es) (j * sz) (lvs fs) = lvs (es.take j ++ fs) := by
  have := setAt_end (us := []) hes hfs hj (by rw [hle]; simp)
  rwa [List.append_nil] at this
/-- New elements in the midst of a row. -/
theorem setAt_mid {es fs : List (List T)} {sz j : Nat} (hes : ∀ e ∈ es, e.length = sz) (hfs : ∀ e ∈ fs, e.length = sz) (hj : j + fs.length ≤ es.length) : setAt (lvs es) (j * sz) (lvs fs) = lvs (es.take j ++ fs ++ es.drop (j + fs.length)) := by
  have h1 := lvs_length hes
  have h2 := lvs_length hfs
  have h3 : (j + fs.length) * sz ≤ es.length * sz := Nat.mul_le_mul_right _ hj
  rw [setAt_eq _ _ _ (by rw [h1, h2, ← Nat.add_mul]; exact h3), lvs_append, lvs_append, lvs_takeN hes, h2, ← Nat.add_mul, lvs_dropN hes]
section
variable {P : Program} {st : St} {t e o o1 o2 lo hi lo2 hi2 m sz by' c n : Nat} {ag : Bool} {zz : List Value} {cap : Option Nat} {es : List (List T)} {us : List LV} {d : Option Nat} {K : St → Prop} {z : Ob} {cs' nc : List LV}
theorem src_part (hz : st.obj o = some ⟨e, sz, true, cap, lvs es ++ us⟩) (hes : ∀ e ∈ es, e.length = sz) (hlh : lo ≤ hi) (hh : hi ≤ es.length) : st.src sz (.l (.r o sz lo hi)) = some (hi - lo, lvs ((es.drop lo).take (hi - lo))) := by
  have h1 := lvs_length hes
  have h3 : hi * sz ≤ es.length * sz := Nat.mul_le_mul_right _ hh
  have h4 : lo * sz ≤ hi * sz := Nat.mul_le_mul_right _ hlh
  have h5 : (hi - lo) * sz = hi * sz - lo * sz := Nat.sub_mul _ _ _
  have e1 : ((lvs es ++ us).drop (lo * sz)).take ((hi - lo) * sz) = lvs ((es.drop lo).take (hi - lo)) := by
    rw [List.drop_append_of_le_length (by rw [h1]; omega), List.take_append_of_le_length (by rw [List.length_drop, h1]; omega), lvs_dropN hes, lvs_takeN fun e he => hes e (List.mem_of_mem_drop he)]
  have ho : (lvs ((es.drop lo).take (hi - lo))).all LV.ok = true := lvsA_ok false _
  simp only [St.src, hz]
  rw [e1, if_pos ⟨trivial, trivial, trivial, by rw [List.length_append, h1]; omega, hlh, ho⟩]
theorem src_all (hz : st.obj o = some ⟨e, sz, true, cap, lvs es⟩) (hes : ∀ e ∈ es, e.length = sz) (hlh : lo ≤ hi) (hh : hi ≤ es.length) : st.src sz (.l (.r o sz lo hi)) = some (hi - lo, lvs ((es.drop lo).take (hi - lo))) :=
  src_part (us := []) (by rw [List.append_nil]; exact hz) hes hlh hh
theorem src_atP (hz : st.obj o = some ⟨e, sz, true, cap, lvs es ++ us⟩) (hes : ∀ e ∈ es, e.length = sz) (hh : lo + m ≤ es.length) : st.src sz (.l (.r o sz lo (lo + m))) = some (m, lvs ((es.drop lo).take m)) := by
  have := src_part (lo := lo) (hi := lo + m) hz hes (by omega) hh
  rwa [Nat.add_sub_cancel_left] at this
theorem src_at (hz : st.obj o = some ⟨e, sz, true, cap, lvs es⟩) (hes : ∀ e ∈ es, e.length = sz) (hh : lo + m ≤ es.length) : st.src sz (.l (.r o sz lo (lo + m))) = some (m, lvs ((es.drop lo).take m)) :=
  src_atP (us := []) (by rw [List.append_nil]; exact hz) hes hh
/-- A row's part is copied over a row. -/
theorem xcopy_own (he : elemF P t = some e) (hti : tiF P e = some ⟨ag, sz, by', zz⟩) (hz : st.obj o1 = some z) (hfit : hi * sz ≤ z.cs.length) (hlo : lo2 ≤ hi2) (m : Nat) (hm : min (hi2 - lo2) (hi - lo) = m) (hpos : 0 < m)
    (hsrc : st.src sz (.l (.r o2 sz lo2 (lo2 + m))) = some (m, nc)) (hcs : setAt z.cs (lo * sz) nc = cs') (hk : K ((st.setO o1 { z with cs := cs' }).put d (.l (.s (.int .i64 (m : Int)))))) : xcopy P t (.l (.r o1 sz lo hi)) (.l (.r o2 sz lo2 hi2)) st d K := by
  subst hm
  subst hcs
  rw [xcopy_rr]
  simp only [he, hti, hz, wh_some, hsrc]
  exact ⟨trivial, hfit, trivial, hlo, hpos, trivial, hk⟩
/-- append(a row's head, make(n)) where there is no room. -/
theorem xmake_own {t' : Nat} {k : IntKind} {i : Int} {zr : List T} (he : elemF P t = some e) (hti : tiF P e = some ⟨ag, sz, by', zz⟩) (hint : (intF P t').isSome = true) (hzz : zz.length = sz ∧ zz.all (·.oneCell') = true ∧ 0 < sz) (hzr : zz.map .s = zr.map (T.lv false)) (hz : st.obj o = some ⟨e, sz, true, some c, lvs es⟩)
    (hes : ∀ e ∈ es, e.length = sz) (hh : hi ≤ es.length) (n : Nat) (hi' : i = (n : Int)) (hn : 0 < n) (hc : c < hi + n) (hb : (hi + n) * by' ≤ 140737488355328) (hb2 : hi + n ≤ 4611686018427387904)
    (hk : K ((st.add ⟨e, sz, true, none, lvs (es.take hi ++ List.replicate n zr)⟩).put d (hdr st.ob.length sz (hi + n)))) : xmake P t t' (.l (.r o sz 0 hi)) (.l (.s (.int k i))) st d K := by
  subst hi'
  have hs := src_all hz hes (Nat.zero_le hi) hh
  have hrep : ∀ n : Nat, (repZ n zz).map LV.s = lvs (List.replicate n zr) := by
    intro n
    induction n with
    | zero => rfl
    | succ n ih =>
      have e1 : repZ (n + 1) zz = zz ++ repZ n zz := rfl
      rw [e1, List.map_append, ih, hzr, List.replicate_succ]
      simp [lvs]
  rw [xmake_r]
  simp only [he, hti, hz, wh_some, hs, Int.toNat_natCast, Nat.sub_zero]
  refine ⟨hint, hzz, trivial, trivial, trivial, by omega, Nat.zero_le _, hc, hb, hb2, ?_⟩
  rw [hrep, List.drop_zero, ← lvs_append]
  exact hk
end
/-- Objects picked and ordered: rows may change their places. -/
theorem Weak.pick {cx : Cx} {st : St} (ids : List (Option Nat)) (tm' : Tm) (hnd : ∀ (i j o : Nat), ids[i]? = some (some o) → ids[j]? = some (some o) → i = j) (hnl : cx.nb ≤ ids.length)
    (hnb : ∀ (i o : Nat) (x : Ob), ids[i]? = some (some o) → st.ob[o]? = some (some x) → x.row = true) (htm : ∀ i, lk tm' i = (lk st.tm i).ren (inv ids) ∨ lk tm' i = .l .u) :
    Weak cx st { st with tm := tm', ob := pickOb ids st.ob, gh := st.gh.map (Tm.ren (inv ids)) } := by
  intro σ a w h
  have hs : Step σ st.ob w (sel ids σ) (pickOb ids st.ob) w (inv ids) := by
    refine ⟨Evo.refl _ _ _, fun o i hh e ho => ?_, ?_⟩
    · rw [sel, inv_some e]; exact ho
    · rintro b ⟨i, x, k, hi, hb⟩
      obtain ⟨o, y, h1, h2, _⟩ := pickOb_get hi
      rw [sel, h1] at hb
      exact .inl ⟨o, y, k, h2, hb⟩
  have hH : RelH cx w (sel ids σ) (pickOb ids st.ob) st.ls := by
    refine hs.relH h.h ?_ ?_ ?_ (by simp [pickOb]; exact hnl) ?_
    · intro i x hi
      obtain ⟨o, y, h1, h2, rfl⟩ := pickOb_get hi
      rw [show sel ids σ i = σ o by rw [sel, h1]]
      exact hs.relO (cx := cx) (fun _ _ _ => rfl) (h.h.obs o y h2)
    · intro i j x x' b k k' hi hj hb hb'
      obtain ⟨o, y, h1, h2, _⟩ := pickOb_get hi
      obtain ⟨o', y', h1', h2', _⟩ := pickOb_get hj
      rw [sel, h1] at hb
      rw [sel, h1'] at hb'
      have := h.h.inj o o' y y' b k k' h2 h2' hb hb'
      subst this
      exact hnd i j o h1 h1'
    · intro i hi
      have : ids[i]? = none := List.getElem?_eq_none (by simpa [pickOb] using hi)
      rw [sel, this]
    · intro i x hi hrow hlt
      obtain ⟨o, y, h1, h2, rfl⟩ := pickOb_get hi
      have := hnb i o y h1 h2
      rw [show (y.ren (inv ids)).row = y.row from rfl, this] at hrow
      simp at hrow
  refine ⟨sel ids σ, hH, fun i => ?_, h.nt, hs.gh h.gh, h.dm.step hs h.h⟩
  rcases htm i with e | e
  · show RelV _ _ _ _ _ (lk tm' i)
    rw [e]
    exact hs.relV (h.tm i)
  · show RelV _ _ _ _ _ (lk tm' i)
    rw [e]; trivial
theorem LeftV.rows {cx : Cx} {s : St} {obs' : List (Option Ob)} {res : AV} (ids : List (Option Nat)) (hnl : cx.nb ≤ ids.length) (hnd : ∀ (i j o : Nat), ids[i]? = some (some o) → ids[j]? = some (some o) → i = j) (hrow : s.ob.all (fun x => match x with | some x => x.row | none => true) = true) (hls : s.ls = none)
    (hob : pickOb ids s.ob = obs') (hr : (lk s.tm 0).ren (inv ids) = res) : LeftV cx res obs' s :=
  ⟨_, Weak.pick ids (s.tm.ren (inv ids)) hnd hnl (fun i o x _ hx => List.all_eq_true.1 hrow _ (List.mem_of_getElem? hx)) (fun i => .inl (lk_ren _ _ _)), hob, hls, by rw [lk_ren, hr]⟩
theorem nd_pair {a b : Nat} (h : a ≠ b) : ∀ (i j o : Nat), [some a, some b][i]? = some (some o) → [some a, some b][j]? = some (some o) → i = j := by
  intro i j o hi hj
  match i, j with
  | 0, 0 => rfl
  | 1, 1 => rfl
  | 0, 1 => simp at hi hj; exact absurd (hi.trans hj.symm) h
  | 1, 0 => simp at hi hj; exact absurd (hj.trans hi.symm) h
  | i + 2, _ => simp at hi
  | 0, j + 2 => simp at hj
  | 1, j + 2 => simp at hj
theorem nd_one {a : Nat} : ∀ (i j o : Nat), [some a][i]? = some (some o) → [some a][j]? = some (some o) → i = j := by
  intro i j o hi hj
  match i, j with
  | 0, 0 => rfl
  | i + 1, _ => simp at hi
  | 0, j + 1 => simp at hj
theorem setAt_take {α : Type} : ∀ (cs : List α) (l : List α) (i n : Nat), n ≤ i → (setAt l i cs).take n = l.take n
  | [], l, i, n, _ => by simp
  | c :: cs, l, i, n, h => by
    rw [setAt, setAt_take cs _ (i + 1) n (by omega), List.take_set_of_le h]
theorem VwL.own {st : St} {ids : List Nat} {o i sz lo hi : Nat} (h : inv (ids.map some) o = some i) : VwL st ids (.r o sz lo hi) (.r i sz lo hi) := by
  have := VwL.ren (st := st) (ids := ids) (.r o sz lo hi)
  simp only [LV.ren, h] at this
  exact this
theorem na_lvs (es : List (List T)) : (lvs es).all LV.na = true := by
  simp only [lvs, List.all_flatMap, List.all_eq_true, List.all_map]
  intro e _ x _
  cases x <;> rfl
@[simp] theorem ob_na_lvs (ty sz : Nat) (row : Bool) (cap : Option Nat) (es : List (List T)) : Ob.na ⟨ty, sz, row, cap, lvs es⟩ = true := na_lvs es
attribute [simp] after_mk obAfter_mk
attribute [simp] inv_nil inv_cons
end Go.Proofs.Ytlkhfdccapkcdaa
