/- A call by its contract (3): the rule. Operations all together. -/
import Derived.Test.YtlkhfdccapkcdaaA15
import Derived.RangeFuncCalls
namespace Go.Proofs.Ytlkhfdccapkcdaa
open Go Go.RowKit
set_option linter.unusedVariables false
set_option linter.unusedSimpArgs false

/-- What a contract asks of the state, and hands back: objects ids go with the call. -/
structure CallOk (st : St) (ids : List Nat) (obs : List Ob) (obs' : List (Option Ob)) (res : AV) : Prop where
  nd : ids.Nodup
  lt : ∀ i ∈ ids, i < st.ob.length
  obs : pickOb (ids.map some) st.ob = obs.map some
  box : ∀ (i o : Nat) (z : Ob), ids[i]? = some o → st.obj o = some z → z.row = false → ∃ y, obs'[i]? = some (some y) ∧ y.row = false
  row : ∀ (i o : Nat) (z : Ob) (y : Ob), ids[i]? = some o → st.obj o = some z → obs'[i]? = some (some y) → y.row = z.row
  na : res.na = true
  ona : obs'.all (fun x => match x with | some x => x.na | none => true) = true
  len : ids.length ≤ obs'.length
theorem CallOk.nil {st : St} {obs' : List (Option Ob)} {res : AV} (na : res.na = true) (ona : obs'.all (fun x => match x with | some x => x.na | none => true) = true) : CallOk st [] [] obs' res :=
  ⟨List.nodup_nil, fun i h => by simp at h, rfl, fun i o z h => by simp at h, fun i o z y h => by simp at h, na, ona, by simp⟩

def Enters (P : Program) (f : Nat) : Prop := ∀ args w, (callFunc f args).run P w = .ok (.enter f args) w
/-- A call of f with what avs are. -/
def xcallS (P : Program) (f : Nat) (avs : List AV) (st : St) (dst : Option Nat) (K : St → Prop) : Prop :=
  ∃ ids obs obs' res cargs, Enters P f ∧ Sound P f cargs obs res obs' ∧ CallOk st ids obs obs' res ∧ All2 (Vw st ids) avs cargs ∧ K ((st.after ids obs').put dst (res.ren (outR ids st.ob.length)))

/-- What an operation must be for a state to be left in K. -/
def OpFam (P : Program) (R : Option Nat) (cx : Cx) (o : Oper) (st : St) (K : St → Prop) : Prop :=
  ∀ σ a w, RelS cx σ st a w → ∀ (next : Act → World → Prop) (Q : Exit → Act → World → Prop), (∀ σ' st' a' w', K st' → RelS cx σ' st' a' w' → next a' w') → o.uponIn (fR R) 0 P a next Q ((o.semAt (fR R).round a.eval).run P w)

section
variable {P : Program} {R : Option Nat} {cx : Cx} {o : Oper} {st st' : St} {K : St → Prop}
theorem OpFam.ok (hd : ∀ c, o.op ≠ .defer c) (h : OpOk P cx o st st') (hk : K st') : OpFam P R cx o st K := by
  intro σ a w hr next Q hn
  obtain ⟨v, w', σ', hrun, hr'⟩ := h σ a w hr
  rw [Oper.semAt_eq _ _ _ hd, hrun]
  exact hn σ' st' _ w' hk hr'
theorem OpFam.skip (hd : ∀ c, o.op ≠ .defer c) (h : OpSkip P cx o st st') (hk : K st') : OpFam P R cx o st K := by
  intro σ a w hr next Q hn
  obtain ⟨w', σ', hrun, hr'⟩ := h σ a w hr
  rw [Oper.semAt_eq _ _ _ hd, hrun]
  exact hn σ' st' _ w' hk hr'
theorem AO.fam {ops : Array Oper} {Q : Post} {i : Nat} {rest : List Nat} (ho : ops[i]? = some o) (hg : o.guard = none) (h : OpFam P R cx o st K) (hk : ∀ st', K st' → AO P R cx ops Q rest st') : AO P R cx ops Q (i :: rest) st := by
  intro σ a w hr
  simp only [wpOpsIn, ho, Region.wanted, hg, if_true]
  exact ⟨fun f _ => fR_fn R f, h σ a w hr _ _ fun σ' st' a' w' hK hr' => hk st' hK σ' a' w' hr'⟩
theorem all2_args {ids : List Nat} {σ : Nat → Hd} {a : Act} {w : World} (hr : RelS cx σ st a w) : ∀ (vs : List Value) (avs cargs : List AV), All2 (RelV w (Xd cx w σ st.ob) (Xe w σ st.ob) σ) vs avs → All2 (Vw st ids) avs cargs →
    All2 (RelV w (XdC cx w σ st.ob ids) (Xe w (sel (ids.map some) σ) (pickOb (ids.map some) st.ob)) (sel (ids.map some) σ)) vs cargs
  | [], [], [], _, _ => trivial
  | v :: vs, x :: xs, c :: cs, h, h' => ⟨h'.1.sound hr.h h.1, all2_args hr vs xs cs h.2 h'.2⟩
  | [], _ :: _, _, h, _ => h.elim
  | _ :: _, [], _, h, _ => h.elim
  | [], [], _ :: _, _, h' => h'.elim
  | _ :: _, _ :: _, [], _, h' => h'.elim
theorem OpFam.callS {c : Call} {g : Operand} {f : Nat} {caps : List Nat} (ho : o.op = .call c) (hc : c.callee = .value g) (hg : st.ev g = .l (.s (.func (.func f) #[] #[])) ∧ caps = [] ∨ st.ev g = .l (.f f caps))
    (h : xcallS P f (c.args.toList.map st.ev ++ caps.map fun o => .l (.p o 0)) st o.dst K) : OpFam P R cx o st K := by
  obtain ⟨ids, obs, obs', res, cargs, hen, hS, hok, hargs, hk⟩ := h
  intro σ a w hr next Q hn
  rw [Oper.semAt_eq _ _ _ (fun c' e => by rw [ho] at e; simp at e)]
  -- the function and the captured variables
  have hgv := hr.ev g
  obtain ⟨cvs, hgv', hcv⟩ : ∃ cvs : List Value, a.eval g = .func (.func f) #[] cvs.toArray ∧ All2 (RelV w (Xd cx w σ st.ob) (Xe w σ st.ob) σ) cvs (caps.map fun o => .l (.p o 0)) := by
    rcases hg with ⟨hg, rfl⟩ | hg
    · rw [hg] at hgv
      exact ⟨[], hgv.1, trivial⟩
    · rw [hg] at hgv
      obtain ⟨vs, hv, hvs⟩ := hgv
      exact ⟨vs, hv, All2.map _ (fun v o _ ⟨b, k, hb, hv⟩ => ⟨b, k, hb, hv⟩) hvs⟩
  have hvals : All2 (RelV w (Xd cx w σ st.ob) (Xe w σ st.ob) σ) (c.args.toList.map a.eval ++ cvs) (c.args.toList.map st.ev ++ caps.map fun o => .l (.p o 0)) := by
    refine All2.append ?_ hcv
    generalize c.args.toList = l
    induction l with
    | nil => trivial
    | cons x l ih => exact ⟨hr.ev x, ih⟩
  have hrun : (execOp a.eval o).run P w = .ok (.enter f (c.args.toList.map a.eval ++ cvs).toArray) w := by
    simp only [execOp, ho, resolve, hc, hgv', Deferred.ofValue, Sem.run_bind, Sem.run_pure, Result.andThen_ok, invoke]
    rw [hen]
    simp
  rw [hrun]
  refine ⟨fun h => by rw [fR_depth] at h; simp at h, ?_⟩
  have hml : obs.length = ids.length := by have := congrArg List.length hok.obs; simp [pickOb] at this; exact this.symm
  have hsub : ∀ b, lvb (sel (ids.map some) σ) (obs.map some) b → lvb σ st.ob b := fun b hb => by
    rw [← hok.obs] at hb
    obtain ⟨o, y, k, _, h2, h3⟩ := lvb_sel hb
    exact ⟨o, y, k, h2, h3⟩
  have hZ : ∀ b, Zc cx σ st.ob ids b → b < w.heap.size ∧ ¬ lvb (sel (ids.map some) σ) (obs.map some) b := by
    intro b hb
    rcases hb with hb | ⟨hb, hn⟩
    · exact ⟨Nat.lt_of_lt_of_le (cx.zlt b hb).1 hr.h.size, fun hl => hr.h.notZ (hsub b hl) hb⟩
    · rw [hok.obs] at hn
      exact ⟨hr.h.lt hb, hn⟩
  -- the callee's objects
  have hXc : ∀ b, Xd cx w σ st.ob b → XdC cx w σ st.ob ids b ∧ w.heap[b]? = w.heap[b]? := fun b ⟨h1, h2, h3, h4⟩ =>
    ⟨⟨h1, fun hl => h2 (hsub b (by rw [← hok.obs]; exact hl)), fun hz => hz.elim h3 (fun hz => h2 hz.1), h4⟩, rfl⟩
  have hXac : ∀ b, Xe w σ st.ob b → Xe w (sel (ids.map some) σ) (pickOb (ids.map some) st.ob) b ∧ w.heap[b]? = w.heap[b]? := fun b ⟨h1, h2, h4⟩ =>
    ⟨⟨h1, fun hl => h2 (hsub b (by rw [← hok.obs]; exact hl)), h4⟩, rfl⟩
  have hH0 : ∀ (obc : List (Option Ob)) (he : pickOb (ids.map some) st.ob = obc) (hZ' : ∀ b, Zc cx σ st.ob ids b → b < w.heap.size ∧ ¬ lvb (sel (ids.map some) σ) obc b),
      RelH (cx0 w (sel (ids.map some) σ) obs.length obc (Zc cx σ st.ob ids) hZ') w (sel (ids.map some) σ) obc none := by
    intro obc he hZ'
    subst he
    refine ⟨?_, ?_, ?_, ?_, fun o x _ _ _ => rfl, fun b hb => .inr hb, Nat.le_refl _, fun _ _ _ => rfl, rfl, rfl, rfl, trivial⟩
    · intro i x hi
      obtain ⟨o', y, m1, m2, rfl⟩ := pickOb_get hi
      rw [show sel (ids.map some) σ i = σ o' by rw [sel, m1]]
      exact RelO.ren hXc hXac (fun o i hh e ho => by rw [sel, inv_some e]; exact ho) (fun _ _ _ => rfl) (hr.h.obs o' y m2)
    · intro i j x x' b k k' hi hj hb hb'
      obtain ⟨o1, y, m1, m2, _⟩ := pickOb_get hi
      obtain ⟨o2, y', m1', m2', _⟩ := pickOb_get hj
      rw [sel, m1] at hb
      rw [sel, m1'] at hb'
      have := hr.h.inj o1 o2 y y' b k k' m2 m2' hb hb'
      subst this
      rw [List.getElem?_map] at m1 m1'
      obtain ⟨z1, hz1, e1⟩ := Option.map_eq_some_iff.1 m1
      obtain ⟨z2, hz2, e2⟩ := Option.map_eq_some_iff.1 m1'
      simp at e1 e2
      subst e1
      subst e2
      have h1 := List.getElem?_eq_some_iff.1 hz1
      have h2 := List.getElem?_eq_some_iff.1 hz2
      exact (List.getElem_inj hok.nd).1 (h1.2.trans h2.2.symm)
    · intro i hi
      have : (ids.map some)[i]? = none := List.getElem?_eq_none (by simpa [pickOb] using hi)
      rw [sel, this]
    · show obs.length ≤ _
      simp [pickOb, hml]
  have hH := hH0 _ hok.obs hZ
  have hA := all2_args hr _ _ _ hvals hargs
  rw [hok.obs] at hA
  have hXd : XdC cx w σ st.ob ids = Xd (cx0 w (sel (ids.map some) σ) obs.length (obs.map some) (Zc cx σ st.ob ids) hZ) w (sel (ids.map some) σ) (obs.map some) := by
    funext b
    simp only [XdC, hok.obs]
    rfl
  rw [hXd] at hA
  have hcall := hS (Zc cx σ st.ob ids) w (sel (ids.map some) σ) (c.args.toList.map a.eval ++ cvs) hZ hH hA
  have hfin : ∀ e w', (∃ v σ', e = Ending.returned v ∧ RelH (cx0 w (sel (ids.map some) σ) obs.length (obs.map some) (Zc cx σ st.ob ids) hZ) w' σ' obs' none ∧
      RelV w' (Xd (cx0 w (sel (ids.map some) σ) obs.length (obs.map some) (Zc cx σ st.ob ids) hZ) w' σ' obs') (Xe w' σ' obs') σ' v res) →
      (match e with | .returned v => next (a.put o.dst v) w' | .panicked chain => Q (.panic chain) a w' | .outgrown => LetsOut Q) := by
    rintro e w' ⟨v, σ', rfl, h1, h2⟩
    obtain ⟨h3, h4⟩ := hr.after hok.nd hok.lt hok.obs hok.box hok.row hok.na hok.ona hok.len hZ h1 h2
    exact hn _ _ _ w' hk (h3.put o.dst h4)
  have hc2 := (callsIn_wide (n := 0)).2 (hcall.mono hfin)
  cases R with
  | none =>
    refine ⟨hc2.1, fun cs hroom => ?_⟩
    obtain ⟨e, w', fr, h1, h2⟩ := hc2.2 cs hroom
    exact ⟨e, w', fr, by cases e <;> exact h1, h2⟩
  | some l =>
    refine ⟨hc2.1, fun cs hroom => ?_⟩
    obtain ⟨e, w', fr, h1, h2⟩ := hc2.2 cs hroom
    exact ⟨e, w', fr, by cases e <;> exact h1, h2⟩
/-- A call of a function without a body, whose answer is known. -/
def xext (P : Program) (f : Nat) (avs : List AV) (st : St) (dst : Option Nat) (K : St → Prop) : Prop :=
  ∃ v : Value, v.oneCell' = true ∧ (∀ (cx : Cx) (σ : Nat → Hd) (a : Act) (w : World) (vs : List Value), RelS cx σ st a w → All2 (RelV w (Xd cx w σ st.ob) (Xe w σ st.ob) σ) vs avs → (callFunc f vs.toArray).run P w = .ok (.value v) w) ∧ K (st.put dst (.l (.s v)))
def xcall (P : Program) (f : Nat) (avs : List AV) (st : St) (dst : Option Nat) (K : St → Prop) : Prop := xcallS P f avs st dst K ∨ xext P f avs st dst K
theorem OpFam.call {c : Call} {g : Operand} {f : Nat} {caps : List Nat} (ho : o.op = .call c) (hc : c.callee = .value g) (hg : st.ev g = .l (.s (.func (.func f) #[] #[])) ∧ caps = [] ∨ st.ev g = .l (.f f caps))
    (h : xcall P f (c.args.toList.map st.ev ++ caps.map fun o => .l (.p o 0)) st o.dst K) : OpFam P R cx o st K := by
  rcases h with h | ⟨v, hv1, hrun, hk⟩
  · exact OpFam.callS ho hc hg h
  · intro σ a w hr next Q hn
    rw [Oper.semAt_eq _ _ _ (fun c' e => by rw [ho] at e; simp at e)]
    have hgv := hr.ev g
    obtain ⟨cvs, hgv', hcv⟩ : ∃ cvs : List Value, a.eval g = .func (.func f) #[] cvs.toArray ∧ All2 (RelV w (Xd cx w σ st.ob) (Xe w σ st.ob) σ) cvs (caps.map fun o => .l (.p o 0)) := by
      rcases hg with ⟨hg, rfl⟩ | hg
      · rw [hg] at hgv
        exact ⟨[], hgv.1, trivial⟩
      · rw [hg] at hgv
        obtain ⟨vs, hv, hvs⟩ := hgv
        exact ⟨vs, hv, All2.map _ (fun v o _ ⟨b, k, hb, hv⟩ => ⟨b, k, hb, hv⟩) hvs⟩
    have hvals : All2 (RelV w (Xd cx w σ st.ob) (Xe w σ st.ob) σ) (c.args.toList.map a.eval ++ cvs) (c.args.toList.map st.ev ++ caps.map fun o => .l (.p o 0)) := by
      refine All2.append ?_ hcv
      generalize c.args.toList = l
      induction l with
      | nil => trivial
      | cons x l ih => exact ⟨hr.ev x, ih⟩
    have h2 := hrun cx σ a w _ hr hvals
    have hrun' : (execOp a.eval o).run P w = .ok (.value v) w := by
      have e : (c.args.toList.map a.eval ++ cvs).toArray = #[] ++ c.args.map a.eval ++ cvs.toArray := by simp
      rw [e] at h2
      simp only [execOp, ho, resolve, hc, hgv', Deferred.ofValue, Sem.run_bind, Sem.run_pure, Result.andThen_ok, invoke]
      simpa using h2
    rw [hrun']
    exact hn σ _ _ w hk (hr.put o.dst ⟨rfl, hv1⟩)
end
end Go.Proofs.Ytlkhfdccapkcdaa
