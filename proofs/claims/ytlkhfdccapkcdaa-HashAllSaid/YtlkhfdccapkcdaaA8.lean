/- Operations on abstract states, one by one (5): comparisons of structs and with nil, conversions, tuples, functions, min and max. -/
import Derived.Test.YtlkhfdccapkcdaaA7
import Derived.Laws.StructEq
import Derived.Laws.Cover3
namespace Go.Proofs.Ytlkhfdccapkcdaa
open Go Go.RowKit
set_option linter.unusedVariables false
set_option linter.unusedSimpArgs false

section
variable {P : Program} {cx : Cx} {o : Oper} {st : St}
theorem run_eqGuard_plain {w : World} {op : BinOp} {t : Nat} {x y : Operand} {a b : Value} (h : (∀ cs, a ≠ .agg cs) ∧ a ≠ .nilIface) : (eqGuard op t x y a b).run P w = .ok () w := by
  unfold eqGuard
  split <;> simp only [Bool.not_true, Bool.not_false, Bool.false_eq_true, if_false, if_true] <;>
    (cases a <;> first | rfl | exact absurd rfl h.2 | exact absurd rfl (h.1 _))
theorem bop_plain {op : BinOp} {x y v : Value} (h : bop op x y = some v) : (∀ cs, x ≠ .agg cs) ∧ x ≠ .nilIface := by
  cases x <;> first | (simp [bop] at h; done) | exact ⟨fun _ => by simp, by simp⟩
def uop : UnOp → Value → Option Value
  | .not, .bool b => some (.bool (!b))
  | .neg, .int k n => some (.int k (k.wrap (0 - n)))
  | _, _ => none
theorem bop_one {op : BinOp} {x y v : Value} (h : bop op x y = some v) : v.oneCell' = true := by
  cases x <;> cases y <;> first | (simp [bop] at h; done) | skip
  all_goals (cases op <;> simp only [bop] at h <;> (try split at h) <;> (try split at h) <;> (try simp only [Option.some.injEq, reduceCtorEq] at h) <;> (try subst h) <;> first | rfl | exact h.elim)
theorem uop_one {op : UnOp} {x v : Value} (h : uop op x = some v) : v.oneCell' = true := by
  cases op <;> cases x <;> simp [uop] at h <;> subst h <;> rfl
theorem OpOk.bin {op : BinOp} {t t' : Nat} {x y : Operand} {a b v : Value} (ho : o.op = .binOp op t x y t') (hx : st.ev x = .l (.s a)) (hy : st.ev y = .l (.s b)) (hv : bop op a b = some v) :
    OpOk P cx o st (st.put o.dst (.l (.s v))) := by
  refine .calm fun σ ac w hr => ?_
  have h1 := hr.ev x
  have h2 := hr.ev y
  rw [hx] at h1
  rw [hy] at h2
  have h1' : ac.eval x = a := h1.1
  have h2' : ac.eval y = b := h2.1
  refine ⟨v, 0, ?_, rfl, bop_one hv⟩
  simp only [execOp, ho, h1', h2', Sem.run_bind, run_eqGuard_plain (bop_plain hv), Result.andThen_ok, run_bop hv, Sem.run_pure]
  rfl
theorem OpOk.un {op : UnOp} {t : Nat} {x : Operand} {a v : Value} (ho : o.op = .unOp op t x) (hx : st.ev x = .l (.s a)) (hv : uop op a = some v) : OpOk P cx o st (st.put o.dst (.l (.s v))) := by
  refine .calm fun σ ac w hr => ?_
  have h1 := hr.ev x
  rw [hx] at h1
  have h1' : ac.eval x = a := h1.1
  refine ⟨v, 0, ?_, rfl, uop_one hv⟩
  cases op <;> cases a <;> simp [uop] at hv <;> subst hv <;> simp [execOp, ho, h1', Op.unary, Op.intArith, World.drewN]

/-! ### nil -/
def isNil : AV → Option Bool
  | .l (.s (.slice none _ _)) => some true
  | _ => none
/-- What is asked of a slice's being nil: nothing is known but that a slice with elements is not. -/
theorem eql_nil {t e : Nat} {op : BinOp} {x y : Operand} {t' : Nat} {al : Bool} {sz : Nat} {es : List (List T)} (ho : o.op = .binOp op t x y t') (hop : op = .eql ∨ op = .neq) (he : elemF P t = some e) (hx : st.ev x = .l (.d al sz es)) (hy : st.ev y = .l (.s (.slice none 0 0)))
    {σ : Nat → Hd} {a : Act} {w : World} (hr : RelS cx σ st a w) :
    ∃ b : Bool, (es ≠ [] → b = false) ∧ (execOp a.eval o).run P w = .ok (.value (.bool (if op = .eql then b else !b))) w := by
  have h1 := hr.ev x
  have h2 := hr.ev y
  rw [hx] at h1
  rw [hy] at h2
  have h2' : a.eval y = .slice none 0 0 := h2.1
  have hv' : Rd w (if al = true then Xe w σ st.ob else Xd cx w σ st.ob) (a.eval x) (.sl sz es) := h1
  generalize hvx : a.eval x = v at hv'
  cases hv' with
  | sl ad m cp _ _ b off cv hm hcp hmm hs ha hz hcell hrd =>
    refine ⟨ad.isNone, fun hne => ?_, ?_⟩
    · have : 0 < m := by rw [← hm]; exact List.length_pos_iff.2 hne
      rw [(ha this).1]
      rfl
    · have hg : (eqGuard op t x y (.slice ad m cp) (.slice none 0 0)).run P w = .ok () w := run_eqGuard_plain ⟨fun _ => by simp, by simp⟩
      have hq := run_equal_slice_nil (P := P) (w := w) t e ad m cp (elemF_some he)
      have h3 : (binOp op t (.slice ad m cp) (.slice none 0 0)).run P w = .ok (.bool (if op = .eql then ad.isNone else !ad.isNone)) w := by
        rcases hop with rfl | rfl
        · show Sem.run P (do pure (Value.bool (← Op.equal t (.slice ad m cp) (.slice none 0 0)))) w = _
          simp only [Sem.run_bind, hq, Result.andThen_ok]; rfl
        · show Sem.run P (do pure (Value.bool (!(← Op.equal t (.slice ad m cp) (.slice none 0 0))))) w = _
          simp only [Sem.run_bind, hq, Result.andThen_ok]; rfl
      simp only [execOp, ho, hvx, h2', Sem.run_bind, hg, Result.andThen_ok, h3, Sem.run_pure]

/-! ### Structs of plain fields -/
def sk (P : Program) (t : Nat) : Option Nat :=
  match P.underlying t with
  | some (.int _) => some 0
  | some .string => some 1
  | some .bool => some 2
  | _ => none
def offs : Nat → List Field → Bool
  | _, [] => true
  | i, f :: fs => (f.name != "_") && ((f.offset == i) && offs (i + 1) fs)
/-- A struct of plain fields that is compared field by field: the kinds of its fields. -/
def seqF (P : Program) (t : Nat) : Option (List Nat) :=
  match P.underlying t with
  | some (.struct fs) => if P.stoodInHeld t = false ∧ P.eqGuardType P.depth t = false ∧ offs 0 fs.toList = true then fs.toList.mapM fun f => sk P f.type else none
  | _ => none
def veq : Nat → Value → Value → Option Bool
  | 0, .int k a, .int k' b => if k = k' then some (decide (a = b)) else none
  | 1, .string a, .string b => some (decide (a = b))
  | 2, .bool a, .bool b => some (decide (a = b))
  | _, _, _ => none
def veqs : List Nat → List LV → List LV → Option Bool
  | [], [], [] => some true
  | k :: ks, .s x :: xs, .s y :: ys =>
    match veq k x y, veqs ks xs ys with
    | some b, some c => some (b && c)
    | _, _ => none
  | _, _, _ => none
theorem beq_dec {α : Type} [BEq α] [LawfulBEq α] [DecidableEq α] (a b : α) : (a == b) = decide (a = b) := by by_cases h : a = b <;> simp [h]
theorem run_veq {w : World} {d t k : Nat} {x y : Value} {b : Bool} (ht : sk P t = some k) (h : veq k x y = some b) : (Op.equalIn (d + 1) t x y).run P w = .ok b w := by
  unfold sk at ht
  split at ht <;> simp at ht <;> subst ht <;> rename_i hu <;> cases x <;> cases y <;> simp [veq] at h
  · obtain ⟨rfl, rfl⟩ := h
    simp [Op.equalIn, run_underlying hu, beq_dec]
  · subst h
    simp [Op.equalIn, run_underlying hu, beq_toListBytes, ba_beq]
  · subst h
    simp [Op.equalIn, run_underlying hu, beq_dec]
def bopP (P : Program) (op : BinOp) (t : Nat) (a b : Value) : Option Value :=
  match a, b with
  | .bool a, .bool b => if sk P t = some 2 then (match op with | .eql => some (.bool (decide (a = b))) | .neq => some (.bool (!decide (a = b))) | _ => none) else none
  | .int k a, .int k' b => bop op (.int k a) (.int k' b)
  | .string a, .string b => bop op (.string a) (.string b)
  | _, _ => none
theorem bopP_plain {op : BinOp} {t : Nat} {x y v : Value} (h : bopP P op t x y = some v) : (∀ cs, x ≠ .agg cs) ∧ x ≠ .nilIface := by
  cases x <;> first | (simp [bopP] at h; done) | exact ⟨fun _ => by simp, by simp⟩
theorem bopP_one {op : BinOp} {t : Nat} {x y v : Value} (h : bopP P op t x y = some v) : v.oneCell' = true := by
  unfold bopP at h
  split at h
  · split at h
    · cases op <;> simp only [Option.some.injEq, reduceCtorEq] at h <;> (try subst h) <;> first | rfl | exact h.elim
    · cases h
  · exact bop_one h
  · exact bop_one h
  · cases h
theorem run_bopP {w : World} {op : BinOp} {t : Nat} {x y v : Value} (h : bopP P op t x y = some v) : (binOp op t x y).run P w = .ok v w := by
  unfold bopP at h
  split at h
  · rename_i a b
    split at h
    · rename_i hsk
      have hq : (Op.equal t (.bool a) (.bool b)).run P w = .ok (decide (a = b)) w := run_veq (d := Op.maxDepth - 1) hsk rfl
      cases op <;> simp only [Option.some.injEq, reduceCtorEq] at h <;> (try exact h.elim) <;> subst h
      · show Sem.run P (do pure (Value.bool (← Op.equal t (.bool a) (.bool b)))) w = _
        simp only [Sem.run_bind, hq, Result.andThen_ok]; rfl
      · show Sem.run P (do pure (Value.bool (!(← Op.equal t (.bool a) (.bool b))))) w = _
        simp only [Sem.run_bind, hq, Result.andThen_ok]; rfl
    · cases h
  · exact run_bop h
  · exact run_bop h
  · cases h
theorem OpOk.binP {op : BinOp} {t t' : Nat} {x y : Operand} {a b v : Value} (ho : o.op = .binOp op t x y t') (hx : st.ev x = .l (.s a)) (hy : st.ev y = .l (.s b)) (hv : bopP P op t a b = some v) :
    OpOk P cx o st (st.put o.dst (.l (.s v))) := by
  refine .calm fun σ ac w hr => ?_
  have h1 := hr.ev x
  have h2 := hr.ev y
  rw [hx] at h1
  rw [hy] at h2
  have h1' : ac.eval x = a := h1.1
  have h2' : ac.eval y = b := h2.1
  refine ⟨v, 0, ?_, rfl, bopP_one hv⟩
  simp only [execOp, ho, h1', h2', Sem.run_bind, run_eqGuard_plain (bopP_plain hv), Result.andThen_ok, run_bopP hv, Sem.run_pure]
  rfl
theorem sk_leaf {w : World} {t k : Nat} (ht : sk P t = some k) : (isAgg t).run P w = .ok false w := by
  unfold sk at ht
  split at ht <;> simp at ht <;> rename_i hu <;> simp [isAgg, run_underlying hu]
theorem run_eqFields {w : World} {d : Nat} {xs ys : List Value} : ∀ (fs : List Field) (ks : List Nat) (i : Nat) (ax ay : List LV) (b : Bool), (fs.mapM fun f => sk P f.type) = some ks → offs i fs = true → veqs ks ax ay = some b →
    (∀ j a, ax[j]? = some (.s a) → xs[i + j]? = some a) → (∀ j a, ay[j]? = some (.s a) → ys[i + j]? = some a) → (Op.eqFields (d + 1) xs.toArray ys.toArray fs).run P w = .ok b w
  | [], ks, i, ax, ay, b, hk, _, hv, _, _ => by
    simp at hk
    subst hk
    cases ax <;> cases ay <;> simp [veqs] at hv
    subst hv
    rfl
  | f :: fs, ks, i, ax, ay, b, hk, ho, hv, hx, hy => by
    rw [List.mapM_cons] at hk
    cases h1 : sk P f.type with
    | none => rw [h1] at hk; simp at hk
    | some k =>
      cases h2 : (fs.mapM fun f => sk P f.type) with
      | none => rw [h1, h2] at hk; simp at hk
      | some ks' =>
        rw [h1, h2] at hk
        simp at hk
        subst hk
        simp only [offs, Bool.and_eq_true, bne_iff_ne, beq_iff_eq] at ho
        obtain ⟨hn, hoff, ho⟩ := ho
        cases ax with
        | nil => simp [veqs] at hv
        | cons a0 ax =>
          cases ay with
          | nil => cases a0 <;> simp [veqs] at hv
          | cons b0 ay =>
            cases a0 <;> cases b0 <;> simp only [veqs, reduceCtorEq] at hv
            rename_i va vb
            cases h3 : veq k va vb with
            | none => rw [h3] at hv; simp at hv
            | some r =>
              cases h4 : veqs ks' ax ay with
              | none => rw [h3, h4] at hv; simp at hv
              | some r' =>
                rw [h3, h4] at hv
                simp at hv
                subst hv
                have e1 := hx 0 va rfl
                have e2 := hy 0 vb rfl
                rw [Nat.add_zero] at e1 e2
                have ih := run_eqFields (w := w) (d := d) (xs := xs) (ys := ys) fs ks' (i + 1) ax ay r' h2 ho h4 (fun j a hj => by have := hx (j + 1) a (by simpa using hj); rwa [show i + (j + 1) = i + 1 + j by omega] at this)
                  (fun j a hj => by have := hy (j + 1) a (by simpa using hj); rwa [show i + (j + 1) = i + 1 + j by omega] at this)
                have p1 : (part f.type xs.toArray f.offset).run P w = .ok va w := by simp [part, sk_leaf h1, hoff, e1]
                have p2 : (part f.type ys.toArray f.offset).run P w = .ok vb w := by simp [part, sk_leaf h1, hoff, e2]
                simp only [Op.eqFields, if_pos hn, Sem.run_bind, p1, p2, Result.andThen_ok, run_veq h1 h3]
                cases r
                · simp
                · simp [ih]
theorem OpOk.eql_g {t t' : Nat} {op : BinOp} {x y : Operand} {xs ys : List LV} {ks : List Nat} {b : Bool} (ho : o.op = .binOp op t x y t') (hop : op = .eql ∨ op = .neq) (hs : seqF P t = some ks) (hx : st.ev x = .g xs) (hy : st.ev y = .g ys) (hv : veqs ks xs ys = some b) :
    OpOk P cx o st (st.put o.dst (.l (.s (.bool (if op = .eql then b else !b))))) := by
  unfold seqF at hs
  split at hs
  · rename_i fs hu
    split at hs
    · rename_i hc
      obtain ⟨hp, hgt, hoff⟩ := hc
      refine .calm fun σ a w hr => ?_
      have h1 := hr.ev x
      have h2 := hr.ev y
      rw [hx] at h1
      rw [hy] at h2
      obtain ⟨vx, hvx, hrx⟩ := h1
      obtain ⟨vy, hvy, hry⟩ := h2
      have hf : P.fieldsOf t = fs := by simp [Program.fieldsOf, hu]
      have hrun : (Op.equal t (.agg vx.toArray) (.agg vy.toArray)).run P w = .ok b w := by
        unfold Op.equal Op.maxDepth
        rw [run_equalIn_struct w 9999 t _ _ (by rw [hf]; exact hu) hp, hf]
        exact run_eqFields fs.toList ks 0 xs ys b hs hoff hv (fun j a hj => by rw [Nat.zero_add]; obtain ⟨u, hu, hr⟩ := hrx.at j hj; rw [hu]; exact congrArg some hr.1) (fun j a hj => by rw [Nat.zero_add]; obtain ⟨u, hu, hr⟩ := hry.at j hj; rw [hu]; exact congrArg some hr.1)
      have hg : (eqGuard op t x y (.agg vx.toArray) (.agg vy.toArray)).run P w = .ok () w := by
        rcases hop with rfl | rfl <;> simp [eqGuard, hgt]
      refine ⟨_, 0, ?_, rfl, rfl⟩
      rcases hop with rfl | rfl <;> simp [execOp, ho, hvx, hvy, hg, binOp, hrun, World.drewN]
    · simp at hs
  · simp at hs

/-! ### Conversions -/
def intF (P : Program) (t : Nat) : Option IntKind :=
  match P.underlying t with
  | some (.int k) => some k
  | _ => none
theorem intF_some {t : Nat} {k : IntKind} (h : intF P t = some k) : P.underlying t = some (.int k) := by
  unfold intF at h
  split at h
  · simp at h; subst h; assumption
  · simp at h
theorem OpOk.conv_int {src dst : Nat} {x : Operand} {k k' : IntKind} {n : Int} (ho : o.op = .convert src dst x) (hs : (P.underlying src).isSome = true) (hd : intF P dst = some k) (hx : st.ev x = .l (.s (.int k' n))) :
    OpOk P cx o st (st.put o.dst (.l (.s (.int k (k.wrap n))))) := by
  refine .calm fun σ a w hr => ?_
  have h1 := hr.ev x
  rw [hx] at h1
  have h1' : a.eval x = .int k' n := h1.1
  refine ⟨_, 0, ?_, rfl, rfl⟩
  obtain ⟨d, hd'⟩ := Option.isSome_iff_exists.1 hs
  simp only [execOp, ho, h1', convert, Sem.run_bind, run_underlying hd', run_underlying (intF_some hd), Result.andThen_ok, Conv.intToInt, Sem.run_pure]
  rfl
theorem OpOk.conv_str {src dst : Nat} {x : Operand} {s : ByteArray} (ho : o.op = .convert src dst x) (hs : (P.underlying src).isSome = true) (hd : strF P dst = true) (hx : st.ev x = .l (.s (.string s))) :
    OpOk P cx o st (st.put o.dst (.l (.s (.string s)))) := by
  refine .calm fun σ a w hr => ?_
  have h1 := hr.ev x
  rw [hx] at h1
  have h1' : a.eval x = .string s := h1.1
  refine ⟨_, 0, ?_, rfl, rfl⟩
  obtain ⟨d, hd'⟩ := Option.isSome_iff_exists.1 hs
  simp [execOp, ho, h1', convert, run_underlying hd', run_underlying (strF_some hd), World.drewN]

/-! ### Tuples, functions -/
def tget : AV → Nat → Option AV
  | .t xs, i =>
    match xs[i]? with
    | some (true, cs) => some (.g cs)
    | some (false, [x]) => some (.l x)
    | _ => none
  | _, _ => none
theorem tget_some {a av : AV} {i : Nat} (h : tget a i = some av) : ∃ xs, a = .t xs ∧ ((∃ cs, xs[i]? = some (true, cs) ∧ av = .g cs) ∨ ∃ x, xs[i]? = some (false, [x]) ∧ av = .l x) := by
  cases a with
  | l x => simp [tget] at h
  | g cs => simp [tget] at h
  | t xs =>
    refine ⟨xs, rfl, ?_⟩
    unfold tget at h
    simp only at h
    split at h
    · rename_i cs hc
      simp at h
      exact .inl ⟨cs, hc, h.symm⟩
    · rename_i c hc
      simp at h
      exact .inr ⟨c, hc, h.symm⟩
    · simp at h
theorem OpOk.extract {x : Operand} {i : Nat} {av : AV} (ho : o.op = .extract x i) (hv : tget (st.ev x) i = some av) : OpOk P cx o st (st.put o.dst av) := by
  refine .calm fun σ a w hr => ?_
  have h1 := hr.ev x
  obtain ⟨xs, hx, hc⟩ := tget_some hv
  rw [hx] at h1
  obtain ⟨vs, hvs, hr2⟩ := h1
  rcases hc with ⟨cs, hc, rfl⟩ | ⟨c, hc, rfl⟩
  · obtain ⟨u, hu, hur⟩ := hr2.at i hc
    exact ⟨u, 0, by simp [execOp, ho, hvs, Instr.extract, hu, World.drewN], hur⟩
  · obtain ⟨u, hu, hur⟩ := hr2.at i hc
    obtain ⟨y, hy, hur⟩ := hur
    simp at hy
    subst hy
    exact ⟨u, 0, by simp [execOp, ho, hvs, Instr.extract, hu, World.drewN], hur⟩
def capt : List AV → Option (List Nat)
  | [] => some []
  | .l (.p ob 0) :: r => (capt r).map (ob :: ·)
  | _ => none
theorem capt_rel {σ : Nat → Hd} {a : Act} {w : World} (hr : RelS cx σ st a w) : ∀ (l : List Operand) (ids : List Nat), capt (l.map st.ev) = some ids →
    All2 (fun v o => ∃ b c, σ o = some (some (b, c)) ∧ v = Value.pointer (some ⟨b, 0, none⟩)) (l.map a.eval) ids
  | [], ids, h => by simp [capt] at h; subst h; trivial
  | x :: l, ids, h => by
    have h1 := hr.ev x
    simp only [List.map_cons] at h
    generalize hx : st.ev x = av at h h1
    unfold capt at h
    split at h
    · rename_i hn
      simp at hn
    · rename_i ob r hn
      simp at hn
      obtain ⟨rfl, rfl⟩ := hn
      obtain ⟨ids', h2, rfl⟩ := Option.map_eq_some_iff.1 h
      obtain ⟨b, c, hb, he⟩ := h1
      exact ⟨⟨b, c, hb, he⟩, capt_rel hr l ids' h2⟩
    · simp at h
theorem OpOk.makeFunc {f : Nat} {cs : Array Operand} {ids : List Nat} (ho : o.op = .makeFunc (.func f) #[] cs) (hc : capt (cs.toList.map st.ev) = some ids) : OpOk P cx o st (st.put o.dst (.l (.f f ids))) := by
  refine .calm fun σ a w hr => ?_
  refine ⟨.func (.func f) #[] (cs.map a.eval), 0, by simp [execOp, ho, Instr.makeFunc, World.drewN], (cs.map a.eval).toList, by rw [Array.toArray_toList], ?_⟩
  simpa using capt_rel hr cs.toList ids hc
theorem OpOk.max2 {x y : Operand} {ts : Array Nat} {k : IntKind} {a b : Int} (ho : o.op = .call { callee := .builtin .max, args := #[x, y], argTypes := ts }) (hx : st.ev x = .l (.s (.int k a))) (hy : st.ev y = .l (.s (.int k b))) :
    OpOk P cx o st (st.put o.dst (.l (.s (.int k (max a b))))) := by
  refine .calm fun σ ac w hr => ?_
  have h1 := hr.ev x
  have h2 := hr.ev y
  rw [hx] at h1
  rw [hy] at h2
  have h1' : ac.eval x = .int k a := h1.1
  have h2' : ac.eval y = .int k b := h2.1
  refine ⟨_, 0, ?_, rfl, rfl⟩
  have e : (if b > a then b else a) = max a b := by omega
  simp [execOp, ho, resolve, invoke, builtin, h1', h2', Builtin.max_, Builtin.max2, World.drewN, ← e]
theorem OpOk.min2 {x y : Operand} {ts : Array Nat} {k : IntKind} {a b : Int} (ho : o.op = .call { callee := .builtin .min, args := #[x, y], argTypes := ts }) (hx : st.ev x = .l (.s (.int k a))) (hy : st.ev y = .l (.s (.int k b))) :
    OpOk P cx o st (st.put o.dst (.l (.s (.int k (min a b))))) := by
  refine .calm fun σ ac w hr => ?_
  have h1 := hr.ev x
  have h2 := hr.ev y
  rw [hx] at h1
  rw [hy] at h2
  have h1' : ac.eval x = .int k a := h1.1
  have h2' : ac.eval y = .int k b := h2.1
  refine ⟨_, 0, ?_, rfl, rfl⟩
  have e : (if b < a then b else a) = min a b := by omega
  simp [execOp, ho, resolve, invoke, builtin, h1', h2', Builtin.min_, Builtin.min2, World.drewN, ← e]
theorem OpOk.nilCheck {x : Operand} {p : LV} (ho : o.op = .nilCheck x) (hx : st.ev x = .l p) (hp : p.isPtr = true) : OpOk P cx o st (st.put o.dst (.l p)) := by
  refine .calm fun σ a w hr => ?_
  have hv := hr.ev x
  rw [hx] at hv
  obtain ⟨b, off, hb⟩ := ptr_form hv (LV.isPtr_add hp)
  refine ⟨a.eval x, 0, ?_, hv⟩
  simp [execOp, ho, hb, World.drewN]
end
end Go.Proofs.Ytlkhfdccapkcdaa
