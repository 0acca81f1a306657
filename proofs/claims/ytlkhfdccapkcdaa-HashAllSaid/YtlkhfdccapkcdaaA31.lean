/- Ranges over functions, told round by round. -/
import Derived.Test.YtlkhfdccapkcdaaA30
namespace Go.Proofs.Ytlkhfdccapkcdaa
open Go Go.RowKit
set_option linter.unusedVariables false
set_option linter.unusedSimpArgs false

theorem keepT (tm : Tm) : ∀ l : Tm, (∀ e ∈ l, lk tm e.1 = e.2) → ∀ i, lk l i = lk tm i ∨ lk l i = .l .u
  | [], _, i => .inr rfl
  | e :: l, hl, i => by
    rw [lk_cons e.1 e.2]
    split
    · rename_i hi
      subst hi
      exact .inl (hl e (by simp)).symm
    · exact keepT tm l (fun e' he' => hl e' (by simp [he'])) i
section
variable {P : Program} {R : Option Nat} {cx : Cx} {Q : Post} {ops : Array Oper} {c : Code} {st : St} {id : Nat} {tm tmO : Tm} {ob ob' : List (Option Ob)} {nt : Nat} {gh : List Tm} {ls : Option Code}
theorem Weak.ghd {t t' : Tm} (h : ∀ i, lk t' i = lk t i ∨ lk t' i = .l .u) : Weak cx ⟨tm, ob, nt, t :: gh, ls⟩ ⟨tm, ob, nt, t' :: gh, ls⟩ := by
  intro σ a w hr
  refine ⟨σ, hr.h, hr.tm, hr.nt, ?_, hr.dm⟩
  have hg := hr.gh
  revert hg
  generalize cx.G = G
  intro hg
  cases G with
  | nil => exact hg
  | cons g G =>
    refine ⟨fun i => ?_, hg.2⟩
    rcases h i with e | e
    · rw [e]; exact hg.1 i
    · rw [e]; trivial
/-- At the end of a round: objects behind the n-th one are dropped; the temporaries of this frame and of the one that waits are kept that are told. -/
theorem Weak.cutG {tm' tmO' : Tm} (n : Nat) (hn : cx.nb ≤ n) (htm : ∀ e ∈ tm', (lk tm e.1).ren (inv (idr n)) = e.2) (htmO : ∀ e ∈ tmO', (lk tmO e.1).ren (inv (idr n)) = e.2) (hob : pickOb (idr n) ob = ob') {gh' : List Tm} (hgh : gh.map (Tm.ren (inv (idr n))) = gh') :
    Weak cx ⟨tm, ob, nt, tmO :: gh, ls⟩ ⟨tm', ob', nt, tmO' :: gh', ls⟩ := by
  refine Weak.trans (Weak.cut (gh' := tmO.ren (inv (idr n)) :: gh') n hn htm hob (by rw [List.map_cons, hgh])) (Weak.ghd (keepT _ _ fun e he => ?_))
  rw [lk_ren]
  exact htmO e he
/-- A loop in a function that is ranged over, told by what turns in its frame and in the one that waits. -/
theorem AW.loopG {α : Type} (ms mo : List Nat) (up upO : α → Tm) (O : α → List (Option Ob)) (I : α → Prop) (μ : α → Nat) (x0 : α) {base baseO : Tm} (hb : Go.Proofs.Ytlkhfdccapkcdaa.filt ms tm = base) (hbO : Go.Proofs.Ytlkhfdccapkcdaa.filt mo tmO = baseO)
    (h0 : ∀ e ∈ up x0, lk tm e.1 = e.2) (h0O : ∀ e ∈ upO x0, lk tmO e.1 = e.2) (hO : ob = O x0) (hI : I x0)
    (round : ∀ x, I x → AW P R cx c (Post.seq (fun s' => ∃ y, Weak cx s' ⟨up y ++ base, O y, nt, (upO y ++ baseO) :: gh, ls⟩ ∧ I y ∧ μ y < μ x) Q) ⟨up x ++ base, O x, nt, (upO x ++ baseO) :: gh, ls⟩) : AW P R cx (.loop c) Q ⟨tm, ob, nt, tmO :: gh, ls⟩ := by
  refine AW.loopP (fun x => ⟨up x ++ base, O x, nt, (upO x ++ baseO) :: gh, ls⟩) I μ x0 ?_ hI round
  subst hb
  subst hbO
  subst hO
  have key : ∀ (t : Tm) (ms : List Nat) (l : Tm), (∀ e ∈ l, lk t e.1 = e.2) → ∀ i, lk (l ++ Go.Proofs.Ytlkhfdccapkcdaa.filt ms t) i = lk t i ∨ lk (l ++ Go.Proofs.Ytlkhfdccapkcdaa.filt ms t) i = .l .u := by
    intro t ms l
    induction l with
    | nil =>
      intro _ i
      rw [List.nil_append, lk_filt]
      split
      · exact .inr rfl
      · exact .inl rfl
    | cons e l ih =>
      intro hl i
      rw [List.cons_append, lk_cons e.1 e.2]
      split
      · rename_i hi
        subst hi
        exact .inl (hl e (by simp)).symm
      · exact ih (fun e' he' => hl e' (by simp [he'])) i
  exact Weak.trans (Weak.tm (st := ⟨tm, O x0, nt, tmO :: gh, ls⟩) _ (key _ _ _ h0)) (Weak.ghd (key _ _ _ h0O))
end
section
variable {P : Program} {cx : Cx} {Q : Post} {tm tm' : Tm} {ob : List (Option Ob)} {nt : Nat} {gh : List Tm} {ls : Option Code}
/-- A range over a function: its body runs, with what waits behind it. -/
theorem AW.rangeG {g : Operand} {ps : Array Tmp} {assign body : Code} {f : Nat} {fn : Func} {c : Code} {caps : List Nat} (hg : St.ev ⟨tm, ob, nt, gh, ls⟩ g = .l (.f f caps)) (hf : P.funcs[f]? = some fn) (hname : (fn.name == "runtime.NumGoroutine") = false) (hb : fn.body = some c) (hnt : 1 + caps.length ≤ fn.ntmps) (hres : fn.results.toList = [])
    {nt' : Nat} (hnt' : fn.ntmps = nt')
    (h : ∀ cxI l, cxI.nb = cx.nb → YCx cxI l nt ps assign body →
      AW P none cxI c (iterPost P cx nt ls Q) ⟨(0, .l (.s (.func (.yield l) #[] #[]))) :: initTm 1 (caps.map fun o => .l (.p o 0)), ob, nt', tm :: gh, none⟩) :
    AW P none cx (.rangeFunc g ps assign body) Q ⟨tm, ob, nt, gh, ls⟩ := by
  subst hnt'
  exact AW.rangeFunc hg hf hname hb hnt hres fun cxI l h1 h2 => h cxI l h1 h2
theorem roundQ_mono {dst : Option Nat} {nt : Nat} {K K' : St → Prop} (h : ∀ s, K s → K' s) : ∀ e s, roundQ dst nt K e s → roundQ dst nt K' e s := by
  intro e s hq
  unfold roundQ at hq ⊢
  split at hq
  · obtain ⟨tmI, gh, h1, h2⟩ := hq
    exact ⟨tmI, gh, h1, h _ h2⟩
  · exact hq.elim
/-- A region that yields: the loop's body runs as its n-th operation. -/
theorem AW.yieldG {cxI : Cx} {l nt id : Nat} {ps : Array Tmp} {assign body c : Code} {ops : Array Oper} (hY : YCx cxI l nt ps assign body) (n : Nat) {o : Oper} {c0 : Call} {g : Operand} {st : St} {tm1 : Tm} {ob1 : List (Option Ob)} {nt1 : Nat} {tmO : Tm} {gh : List Tm}
    (ho : ops[n]? = some o) (hop : o.op = .call c0) (hc : c0.callee = .value g) {s1 : St} (hpre : xops P ops (ops.toList.take n) st (fun s => s = s1)) (hs1 : s1 = ⟨tm1, ob1, nt1, tmO :: gh, none⟩)
    (hgd : match o.guard with | none => True | some (j, want) => yd ops ⟨tm1, ob1, nt1, tmO :: gh, none⟩ j = some (some want)) (hg : St.ev ⟨tm1, ob1, nt1, tmO :: gh, none⟩ g = .l (.s (.func (.yield l) #[] #[])))
    (hlen : c0.args.size = ps.size) {st2 : St} (hst2 : puts (ps.toList.zip (c0.args.toList.map (St.ev ⟨tm1, ob1, nt1, tmO :: gh, none⟩))) ⟨tmO, ob1, nt, tm1 :: tmO :: gh, none⟩ = st2)
    (h : ∀ cxR, cxR.nb = cxI.nb → AW P (some l) cxR assign (asgQ fun s1 => AW P (some l) cxR body (roundQ o.dst nt1 fun s3 => xops P ops (ops.toList.drop (n + 1)) s3 (KK (AW P none cxI c Q))) { s1 with ls := some .skip }) st2) :
    AW P none cxI (.seq (.region id ops false) c) Q st := by
  subst hst2
  subst hs1
  have hn : n < ops.size := (Array.getElem?_eq_some_iff.1 ho).1
  have hsplit : ops.toList = ops.toList.take n ++ o :: ops.toList.drop (n + 1) := by
    have h1 : ops.toList.drop n = o :: ops.toList.drop (n + 1) := by
      have hl : n < ops.toList.length := by simpa using hn
      rw [List.drop_eq_getElem_cons hl]
      congr 1
      have := (Array.getElem?_eq_some_iff.1 ho).2
      simpa using this
    rw [← h1, List.take_append_drop]
  have htl : (ops.toList.take n).length = n := by simp; omega
  refine AW.stepY (fun s => AW P none cxI c Q s) ?_ fun s hs => hs
  have key := xopsY_pre (P := P) (R := none) (cx := cxI) (ops := ops) (K := fun s => AW P none cxI c Q s) (s1 := ⟨tm1, ob1, nt1, tmO :: gh, none⟩) (o :: ops.toList.drop (n + 1)) (ops.toList.take n) 0 st (by rw [List.drop_zero]; exact hsplit) hpre (by
    rw [htl, Nat.zero_add]
    show OpG P none cxI ops n _ _
    refine OpG.fam ho hgd (OpFam.yield hY hop hc hg rfl rfl hlen fun cxR hR => ?_)
    refine AW.mono (h cxR hR) fun e s hs => ?_
    cases e with
    | normal =>
      refine ⟨hs.1, AW.mono hs.2 (roundQ_mono fun s3 h3 => ?_)⟩
      exact xops_Y _ (n + 1) s3 rfl h3
    | _ => exact hs)
  rw [← hsplit] at key
  exact key
end
section
variable {P : Program} {R : Option Nat} {cx : Cx} {Q : Post} {c : Code} {tm : Tm} {ob ob' : List (Option Ob)} {nt : Nat} {gh : List Tm} {ls : Option Code}
/-- A nil slice in a cell of an own object is seen as an own row of nothing. -/
theorem Weak.nilCell (o j ty sz : Nat) {z : Ob} (hz : ob[o]? = some (some z)) (hj : z.cs[j]? = some (.s (.slice none 0 0))) (hrow : z.row = false) :
    Weak cx ⟨tm, ob, nt, gh, ls⟩ ⟨tm, ob.set o (some { z with cs := z.cs.set j (.r ob.length sz 0 0) }) ++ [some ⟨ty, sz, true, none, []⟩], nt, gh, ls⟩ := by
  intro σ a w hr
  have hn := hr.newNil ⟨ty, sz, true, none, []⟩ ⟨rfl, rfl, .inl rfl⟩
  have hl : o < ob.length := (List.getElem?_eq_some_iff.1 hz).1
  have hO := hr.h.obs o z hz
  have hbl : ∃ b k, σ o = some (some (b, k)) := by
    match hb : σ o with
    | none => rw [hb] at hO; exact hO.elim
    | some none =>
      rw [hb] at hO
      have := hO.1
      rw [hrow] at this
      simp at this
    | some (some (b, k)) => exact ⟨b, k, rfl⟩
  obtain ⟨b, k, hb⟩ := hbl
  have hz' : (ob ++ [some ⟨ty, sz, true, none, []⟩])[o]? = some (some z) := by rw [List.getElem?_append_left hl]; exact hz
  have hb' : upd σ ob.length (some none) o = some (some (b, k)) := by rw [upd_other _ _ (by omega)]; exact hb
  have hO' := hn.h.obs o z hz'
  rw [hb'] at hO'
  obtain ⟨vs, rest, g1, g2, g4, g5⟩ := hO'
  have hall : All2 (RelL w (Xd cx w (upd σ ob.length (some none)) (ob ++ [some ⟨ty, sz, true, none, []⟩])) (Xe w (upd σ ob.length (some none)) (ob ++ [some ⟨ty, sz, true, none, []⟩])) (upd σ ob.length (some none))) vs (z.cs.set j (.r ob.length sz 0 0)) := by
    obtain ⟨v, hv, hvr⟩ := g2.at j hj
    have hrel : RelL w (Xd cx w (upd σ ob.length (some none)) (ob ++ [some ⟨ty, sz, true, none, []⟩])) (Xe w (upd σ ob.length (some none)) (ob ++ [some ⟨ty, sz, true, none, []⟩])) (upd σ ob.length (some none)) v (.r ob.length sz 0 0) := Or.inl ⟨upd_same _ _ _, rfl, rfl, hvr.1⟩
    have := g2.set j hrel
    have e : vs.set j v = vs := by
      apply List.ext_getElem?
      intro i
      by_cases h : j = i
      · subst h
        rw [List.getElem?_set_self (List.getElem?_eq_some_iff.1 hv).1, hv]
      · rw [List.getElem?_set_ne h]
    rwa [e] at this
  have hwr := hn.write (x' := { z with cs := z.cs.set j (.r ob.length sz 0 0) }) hz' hb' vs rest hall rfl rfl (fun h => g4 hrow) (fun h => by rw [hrow] at h; simp at h)
  refine Exists.intro (upd σ ob.length (some none)) ?_
  have e1 : w.setRow b (vs ++ rest).toArray = w := setRow_self _ _ _ _ _ g1
  have e2 : (ob ++ [some (⟨ty, sz, true, none, []⟩ : Ob)]).set o (some { z with cs := z.cs.set j (.r ob.length sz 0 0) }) = ob.set o (some { z with cs := z.cs.set j (.r ob.length sz 0 0) }) ++ [some ⟨ty, sz, true, none, []⟩] := List.set_append_left _ _ hl
  rw [e1] at hwr
  simp only [add_mk] at hwr
  rw [e2] at hwr
  exact hwr
theorem AW.nilCell (o j ty sz n : Nat) {z : Ob} (hz : ob[o]? = some (some z)) (hj : z.cs[j]? = some (.s (.slice none 0 0))) (hrow : z.row = false) (hn : ob.length = n) (ho : ob.set o (some { z with cs := z.cs.set j (.r n sz 0 0) }) ++ [some ⟨ty, sz, true, none, []⟩] = ob') (k : AW P R cx c Q ⟨tm, ob', nt, gh, ls⟩) : AW P R cx c Q ⟨tm, ob, nt, gh, ls⟩ := by
  subst hn
  subst ho
  exact AW.weak (Weak.nilCell (z := z) o j ty sz hz hj hrow) k
end
theorem nd_of : ∀ (ids : List (Option Nat)), (ids.filterMap fun x => x).Nodup → ∀ (i j o : Nat), ids[i]? = some (some o) → ids[j]? = some (some o) → i = j
  | [], _, i, j, o, hi, _ => by simp at hi
  | x :: ids, h, i, j, o, hi, hj => by
    have hmem : ∀ k, ids[k]? = some (some o) → o ∈ ids.filterMap fun x => x := fun k hk => List.mem_filterMap.2 ⟨some o, List.mem_of_getElem? hk, rfl⟩
    cases x with
    | none =>
      cases i with
      | zero => simp at hi
      | succ i =>
        cases j with
        | zero => simp at hj
        | succ j => rw [nd_of ids h i j o (by simpa using hi) (by simpa using hj)]
    | some a =>
      have h2 : a ∉ (ids.filterMap fun x => x) ∧ (ids.filterMap fun x => x).Nodup := by simpa using h
      cases i with
      | zero =>
        cases j with
        | zero => rfl
        | succ j =>
          simp at hi hj
          subst hi
          exact absurd (hmem j hj) h2.1
      | succ i =>
        cases j with
        | zero =>
          simp at hi hj
          subst hj
          exact absurd (hmem i hi) h2.1
        | succ j => rw [nd_of ids h2.2 i j o (by simpa using hi) (by simpa using hj)]
/-- What goes out, where boxes were handed over: those keep their places. -/
theorem LeftV.mix {cx : Cx} {s : St} {obs' : List (Option Ob)} {res : AV} (nb : Nat) (ids : List (Option Nat)) (hnb : cx.nb = nb) (hpre : ids.take nb = idr nb) (hnd : (ids.filterMap fun x => x).Nodup) (hls : s.ls = none) (hob : pickOb ids s.ob = obs') (hr : (lk s.tm 0).ren (inv ids) = res) : LeftV cx res obs' s := by
  have hlen : nb ≤ ids.length := by
    have := congrArg List.length hpre
    simp [idr] at this
    omega
  refine ⟨_, Weak.ren ids (s.tm.ren (inv ids)) (nd_of ids hnd) (by omega) (fun i o hi ho => ?_) (fun i => .inl (lk_ren _ _ _)), hob, hls, by rw [lk_ren, hr]⟩
  have h1 : (ids.take nb)[i]? = some (some o) := by rw [List.getElem?_take_of_lt (by omega)]; exact ho
  rw [hpre, idr, List.getElem?_map] at h1
  obtain ⟨a, ha, e⟩ := Option.map_eq_some_iff.1 h1
  have := (List.getElem?_eq_some_iff.1 ha).2
  simp at *
  omega
theorem VwL.fn {st : St} {ids : List Nat} {f : Nat} {cs cs' : List Nat} (h : cs.mapM (inv (ids.map some)) = some cs') : VwL st ids (.f f cs) (.f f cs') := by
  have := VwL.ren (st := st) (ids := ids) (.f f cs)
  simp only [LV.ren, h] at this
  exact this
section
variable {P : Program} {f : Nat} {avs cargs : List AV} {st : St} {dst : Option Nat} {K : St → Prop} {res : AV} {obs : List Ob} {obs' : List (Option Ob)}
/-- A call with which objects ids go: boxes stay boxes, rows stay rows. -/
theorem xcall_obs (ids : List Nat) (he : Enters P f) (hs : Sound P f cargs obs res obs') (hnd : ids.Nodup) (hob : pickOb (ids.map some) st.ob = obs.map some) (hrow : (obs'.take obs.length).map (Option.map (·.row)) = obs.map fun z => some z.row)
    (hna : res.na = true) (hona : obs'.all (fun x => match x with | some x => x.na | none => true) = true) (hv : All2 (Vw st ids) avs cargs)
    (hk : K ((st.after ids obs').put dst (res.ren (outR ids st.ob.length)))) : xcall P f avs st dst K := by
  have hl : ids.length = obs.length := by have := congrArg List.length hob; simpa [pickOb] using this
  have hl2 : obs.length ≤ obs'.length := by have := congrArg List.length hrow; simp at this; omega
  have key : ∀ i o : Nat, ids[i]? = some o → ∃ z y, st.ob[o]? = some (some z) ∧ obs'[i]? = some (some y) ∧ y.row = z.row := by
    intro i o hi
    have h1 : (pickOb (ids.map some) st.ob)[i]? = (obs.map some)[i]? := by rw [hob]
    have hlt := (List.getElem?_eq_some_iff.1 hi).1
    have h2 : obs[i]? = some obs[i] := List.getElem?_eq_getElem (by omega)
    rw [List.getElem?_map, h2] at h1
    obtain ⟨o', y, g1, g2, g3⟩ := pickOb_get h1
    rw [List.getElem?_map, hi] at g1
    simp at g1
    subst g1
    have h3 : ((obs'.take obs.length).map (Option.map (·.row)))[i]? = (obs.map fun z => some z.row)[i]? := by rw [hrow]
    rw [List.getElem?_map, List.getElem?_map, h2, List.getElem?_take_of_lt (by omega)] at h3
    obtain ⟨y', hy', he⟩ := Option.map_eq_some_iff.1 h3
    obtain ⟨y2, rfl, he2⟩ := Option.map_eq_some_iff.1 he
    refine ⟨y, y2, g2, hy', ?_⟩
    rw [he2, g3]
    rfl
  have hobj : ∀ o z, st.ob[o]? = some (some z) → st.obj o = some z := by
    intro o z h
    simp [St.obj, h]
  refine .inl ⟨ids, obs, obs', res, cargs, he, hs, ⟨hnd, ?_, hob, ?_, ?_, hna, hona, by omega⟩, hv, hk⟩
  · intro o ho
    obtain ⟨i, hi⟩ := List.getElem?_of_mem ho
    obtain ⟨z, _, hz, _⟩ := key i o hi
    exact (List.getElem?_eq_some_iff.1 hz).1
  · intro i o z hi hz hr
    obtain ⟨z', y, hz', hy, hr'⟩ := key i o hi
    rw [hobj o z' hz'] at hz
    simp at hz
    subst hz
    exact ⟨y, hy, by rw [hr', hr]⟩
  · intro i o z y hi hz hy
    obtain ⟨z', y', hz', hy', hr'⟩ := key i o hi
    rw [hobj o z' hz'] at hz
    simp at hz
    subst hz
    rw [hy'] at hy
    simp at hy
    subst hy
    exact hr'
end
section
@[simp] theorem na_s (x : Value) : (LV.s x).na = true := rfl
@[simp] theorem na_u : LV.u.na = true := rfl
@[simp] theorem na_d (al : Bool) (sz : Nat) (es : List (List T)) : (LV.d al sz es).na = !al := rfl
@[simp] theorem na_r (o sz lo hi : Nat) : (LV.r o sz lo hi).na = true := rfl
@[simp] theorem na_p (o off : Nat) : (LV.p o off).na = true := rfl
@[simp] theorem na_f (f : Nat) (cs : List Nat) : (LV.f f cs).na = true := rfl
@[simp] theorem ob_na (ty sz : Nat) (row : Bool) (cap : Option Nat) (cs : List LV) : Ob.na ⟨ty, sz, row, cap, cs⟩ = cs.all LV.na := rfl
attribute [simp] na_lvs
end
/-- A region, told by the temporaries up that it sets; ms may have turned. -/
theorem AW.joinR {P : Program} {R : Option Nat} {cx : Cx} {Q : Post} {c c1 : Code} {tm base : Tm} {ob : List (Option Ob)} {nt : Nat} {gh : List Tm} {ls : Option Code} (ms : List Nat) (up : Tm) (hb : filt ms tm = base)
    (h : AW P R cx c1 (fun e s => e = .normal ∧ Weak cx s ⟨up ++ base, ob, nt, gh, ls⟩) ⟨tm, ob, nt, gh, ls⟩) (k : AW P R cx c Q ⟨up ++ base, ob, nt, gh, ls⟩) : AW P R cx (.seq c1 c) Q ⟨tm, ob, nt, gh, ls⟩ := by
  refine AW.seq (AW.mono h ?_)
  rintro e s ⟨rfl, hs⟩
  exact AW.weak hs k
/-- An own row that stays behind is seen as data. -/
theorem Vw.rowd {st : St} {ids : List Nat} {o n sz e : Nat} {cap : Option Nat} {es : List (List T)} (h1 : o ∉ ids) (hz : st.obj o = some ⟨e, sz, true, cap, lvs es⟩) (h0 : 0 < sz) (hes : ∀ e ∈ es, e.length = sz) (hn : es.length = n) (hm : n ≤ 140737488355328) : Vw st ids (.l (.r o sz 0 n)) (.l (.d true sz es)) := by
  subst hn
  have hl := lvs_length hes
  refine .l (.row o sz 0 es.length _ es h1 hz ⟨rfl, rfl, h0, by simp [hl], Nat.zero_le _, hm⟩ ?_ hes)
  simp only [Nat.zero_mul, List.drop_zero, Nat.sub_zero]
  rw [← hl, List.take_length]
end Go.Proofs.Ytlkhfdccapkcdaa
