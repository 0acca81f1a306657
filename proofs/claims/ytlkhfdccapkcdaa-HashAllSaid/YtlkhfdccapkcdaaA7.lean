/- Operations on abstract states, one by one (4): lengths, numbers, strings, tuples, functions. -/
import Derived.Test.YtlkhfdccapkcdaaA6
import Derived.Laws.BytesString
import Derived.Lib.ConvBytes
namespace Go.Proofs.Ytlkhfdccapkcdaa
open Go Go.RowKit
set_option linter.unusedVariables false
set_option linter.unusedSimpArgs false

section
variable {P : Program} {cx : Cx} {o : Oper} {st : St}
theorem OpOk.slice_r {t e : Nat} {x : Operand} {l' h' : Option Operand} {ti : TI} {ob sz lo hi : Nat} {z : Ob} {l h : Nat} (ho : o.op = .slice t x l' h' none) (he : elemF P t = some e) (hti : tiF P e = some ti)
    (hx : st.ev x = .l (.r ob sz lo hi)) (hz : st.obj ob = some z) (hrow : z.row = true) (hzs : z.sz = sz) (hsz : sz = ti.sz) (h0 : 0 < sz) (hl : Bnd st l' 0 l) (hh : Bnd st h' (hi - lo) h) (h1 : l ≤ h) (h2 : (lo + h) * sz ≤ z.cs.length) :
    OpOk P cx o st (st.put o.dst (.l (.r ob sz (lo + l) (lo + h)))) := by
  subst hsz
  refine .calm fun σ a w hr => ?_
  have hv := hr.ev x
  rw [hx] at hv
  have hO := hr.h.obs ob z (obj_some hz)
  rcases hv with ⟨hb, rfl, rfl, hv⟩ | ⟨b, k, off, hb, h3, h4, hv, hoff⟩
  · rw [hb] at hO
    rw [hO.2.1] at h2
    have hh0 : h = 0 := by
      have h2' : h * ti.sz = 0 := by simpa using h2
      rcases Nat.mul_eq_zero.1 h2' with e | e <;> omega
    have hl0 : l = 0 := by omega
    subst hh0
    subst hl0
    have hb2 := run_bounds (P := P) (w := w) true 0 0 0 0 (l'.map a.eval) (h'.map a.eval) (hl.val hr) (by simpa using hh.val hr) (by omega) (by omega)
    refine ⟨.slice none 0 0, 0, ?_, .inl ⟨hb, rfl, rfl, rfl⟩⟩
    simp [execOp, ho, Instr.sliceAt, run_underlying (elemF_some he), Instr.slice, hv, hb2, run_sizeOf' hti, World.drewN]
  · rw [hb] at hO
    obtain ⟨vs, rest, g1, g2, g4, g5⟩ := hO
    have hk : lo + h ≤ k := by
      have h6 := (g5 hrow).1
      have h7 := g2.length
      rw [hzs] at h6
      exact Nat.le_of_mul_le_mul_right (show (lo + h) * ti.sz ≤ k * ti.sz by omega) h0
    have hb2 := run_bounds (P := P) (w := w) true (hi - lo) (k - lo) l h (l'.map a.eval) (h'.map a.eval) (hl.val hr) (hh.val hr) h1 (by omega)
    refine ⟨.slice (some (if k - lo = l then ⟨b, off, none⟩ else ⟨b, off + l * ti.sz, none⟩)) (h - l) (k - lo - l), 0, ?_, .inr ⟨b, k, (if k - lo = l then off else off + l * ti.sz), hb, by omega, hk, ?_, ?_⟩⟩
    · simp only [execOp, ho, Instr.sliceAt, run_underlying (elemF_some he), Instr.slice, hv, hb2, run_sizeOf' hti, Sem.run_bind, Result.andThen_ok, Sem.run_pure, Option.map_some, Option.map_none, addr_add, hb2]
      split <;> rfl
    · rw [show lo + h - (lo + l) = h - l by omega, show k - (lo + l) = k - lo - l by omega]
      split <;> rfl
    · intro hlt
      by_cases e : k - lo = l
      · have h00 : lo = 0 ∧ l = 0 := by omega
        rw [if_pos e, hoff (by omega), h00.1, h00.2]
      · rw [if_neg e, hoff (by omega), Nat.add_mul]

/-! ### Lengths -/
theorem OpOk.len_d {t : Nat} {x : Operand} {al : Bool} {sz e : Nat} {es : List (List T)} (ho : o.op = .call { callee := .builtin .len, args := #[x], argTypes := #[t] }) (he : elemF P t = some e) (hx : st.ev x = .l (.d al sz es)) :
    OpOk P cx o st (st.put o.dst (.l (.s (.int .i64 es.length)))) := by
  refine .calm fun σ a w hr => ?_
  have hv := hr.ev x
  rw [hx] at hv
  have hv' : Rd w (if al = true then Xe w σ st.ob else Xd cx w σ st.ob) (a.eval x) (.sl sz es) := hv
  generalize hvx : a.eval x = v at hv'
  cases hv' with
  | sl ad m cp _ _ b off cv hm hcp hmm hs ha hz hcell hrd =>
    refine ⟨.int .i64 es.length, 0, ?_, rfl, rfl⟩
    simp [execOp, ho, resolve, invoke, builtin, Builtin.len_, run_underlying (elemF_some he), hvx, hm, goInt, World.drewN]
theorem len_le {σ : Nat → Hd} {a : Act} {w : World} (hr : RelS cx σ st a w) {x : Operand} {al : Bool} {sz : Nat} {es : List (List T)} (hx : st.ev x = .l (.d al sz es)) : es.length ≤ 140737488355328 := by
  have hv := hr.ev x
  rw [hx] at hv
  have hv' : Rd w (if al = true then Xe w σ st.ob else Xd cx w σ st.ob) (a.eval x) (.sl sz es) := hv
  generalize hvx : a.eval x = v at hv'
  cases hv' with
  | sl ad m cp _ _ b off cv hm hcp hmm hs ha hz hcell hrd => omega
theorem OpOk.len_r {t : Nat} {x : Operand} {ob sz lo hi e : Nat} (ho : o.op = .call { callee := .builtin .len, args := #[x], argTypes := #[t] }) (he : elemF P t = some e) (hx : st.ev x = .l (.r ob sz lo hi)) :
    OpOk P cx o st (st.put o.dst (.l (.s (.int .i64 ((hi - lo : Nat) : Int))))) := by
  refine .calm fun σ a w hr => ?_
  have hv := hr.ev x
  rw [hx] at hv
  rcases hv with ⟨hb, rfl, rfl, hv⟩ | ⟨b, k, off, hb, h3, h4, hv, hoff⟩
  · exact ⟨.int .i64 0, 0, by simp [execOp, ho, resolve, invoke, builtin, Builtin.len_, run_underlying (elemF_some he), hv, goInt, World.drewN], rfl, rfl⟩
  · exact ⟨.int .i64 ((hi - lo : Nat) : Int), 0, by simp [execOp, ho, resolve, invoke, builtin, Builtin.len_, run_underlying (elemF_some he), hv, goInt, World.drewN], rfl, rfl⟩
theorem OpOk.len_nil {t : Nat} {x : Operand} {e : Nat} (ho : o.op = .call { callee := .builtin .len, args := #[x], argTypes := #[t] }) (he : elemF P t = some e) (hx : st.ev x = .l (.s (.slice none 0 0))) :
    OpOk P cx o st (st.put o.dst (.l (.s (.int .i64 0)))) := by
  refine .calm fun σ a w hr => ?_
  have hv := hr.ev x
  rw [hx] at hv
  have hv' : a.eval x = .slice none 0 0 := hv.1
  exact ⟨.int .i64 0, 0, by simp [execOp, ho, resolve, invoke, builtin, Builtin.len_, run_underlying (elemF_some he), hv', goInt, World.drewN], rfl, rfl⟩
theorem OpOk.len_s {t : Nat} {x : Operand} {s : ByteArray} (ho : o.op = .call { callee := .builtin .len, args := #[x], argTypes := #[t] }) (hs : strF P t = true) (hx : st.ev x = .l (.s (.string s))) :
    OpOk P cx o st (st.put o.dst (.l (.s (.int .i64 s.size)))) := by
  refine .calm fun σ a w hr => ?_
  have hv := hr.ev x
  rw [hx] at hv
  have hv' : a.eval x = .string s := hv.1
  exact ⟨.int .i64 s.size, 0, by simp [execOp, ho, resolve, invoke, builtin, Builtin.len_, run_underlying (strF_some hs), hv', goInt, World.drewN], rfl, rfl⟩

/-! ### Numbers, strings -/
def slt (a b : ByteArray) : Bool := Op.bytesLess a.data.toList b.data.toList
def bop (op : BinOp) : Value → Value → Option Value
  | .int k a, .int k' b =>
    match op with
    | .shl => if 0 ≤ b then some (.int k (k.wrap (a * 2 ^ (min b.toNat k.bits)))) else none
    | .shr => if 0 ≤ b then some (.int k (a.fdiv (2 ^ (min b.toNat k.bits)))) else none
    | op => if k = k' then
        (match op with
        | .add => some (.int k (k.wrap (a + b)))
        | .sub => some (.int k (k.wrap (a - b)))
        | .mul => some (.int k (k.wrap (a * b)))
        | .quo => if b ≠ 0 then some (.int k (k.wrap (a.tdiv b))) else none
        | .rem => if b ≠ 0 then some (.int k (a.tmod b)) else none
        | .and => some (.int k (k.wrap (BitVec.ofInt k.bits a &&& BitVec.ofInt k.bits b).toNat))
        | .or => some (.int k (k.wrap (BitVec.ofInt k.bits a ||| BitVec.ofInt k.bits b).toNat))
        | .xor => some (.int k (k.wrap (BitVec.ofInt k.bits a ^^^ BitVec.ofInt k.bits b).toNat))
        | .eql => some (.bool (decide (a = b)))
        | .neq => some (.bool (!decide (a = b)))
        | .lss => some (.bool (decide (a < b)))
        | .leq => some (.bool (decide (a ≤ b)))
        | .gtr => some (.bool (decide (b < a)))
        | .geq => some (.bool (decide (b ≤ a)))
        | _ => none) else none
  | .string a, .string b =>
    match op with
    | .add => if a.size + b.size ≤ 9223372036854775807 then some (.string (a ++ b)) else none
    | .eql => some (.bool (decide (a = b)))
    | .neq => some (.bool (!decide (a = b)))
    | .lss => some (.bool (slt a b))
    | .leq => some (.bool (!slt b a))
    | .gtr => some (.bool (slt b a))
    | .geq => some (.bool (!slt a b))
    | _ => none
  | _, _ => none
theorem bytesLess_or : ∀ x y : List UInt8, (Op.bytesLess x y || x == y) = !Op.bytesLess y x
  | [], [] => by simp [Op.bytesLess]
  | [], b :: y => by simp [Op.bytesLess]
  | a :: x, [] => by simp [Op.bytesLess]
  | a :: x, b :: y => by
    have ih := bytesLess_or x y
    simp only [Op.bytesLess, List.cons_beq_cons]
    rcases Nat.lt_trichotomy a.toNat b.toNat with h | h | h
    · have h1 : a < b := UInt8.lt_iff_toNat_lt.2 h
      have h2 : ¬ b < a := fun h' => by have := UInt8.lt_iff_toNat_lt.1 h'; omega
      have h3 : ¬ b = a := fun e => by subst e; omega
      simp [h1, h2, h3]
    · have e : a = b := UInt8.toNat_inj.1 h
      subst e
      have h2 : ¬ a < a := fun h' => by have := UInt8.lt_iff_toNat_lt.1 h'; omega
      simp [h2, ih]
    · have h1 : b < a := UInt8.lt_iff_toNat_lt.2 h
      have h2 : ¬ a < b := fun h' => by have := UInt8.lt_iff_toNat_lt.1 h'; omega
      have h3 : ¬ a = b := fun e => by subst e; omega
      simp [h1, h2, h3]
theorem ba_beq (a b : ByteArray) : (a.toList == b.toList) = decide (a = b) := by
  rw [ByteArray.toList_eq, ByteArray.toList_eq]
  by_cases h : a = b
  · subst h; simp
  · rw [decide_eq_false h, beq_eq_false_iff_ne]
    intro e
    apply h
    cases a
    cases b
    simp at e
    subst e
    rfl
theorem run_bop {w : World} {op : BinOp} {t : Nat} {x y v : Value} (h : bop op x y = some v) : (binOp op t x y).run P w = .ok v w := by
  cases x <;> cases y <;> first | (simp [bop] at h; done) | skip
  case int.int k a k' b =>
    cases op <;> simp only [bop] at h <;> (try split at h) <;> (try split at h) <;> (try simp only [Option.some.injEq, reduceCtorEq] at h) <;> (try subst h) <;>
      (try (exact h.elim)) <;>
      simp_all [binOp, Op.intArith, Op.intDiv, Op.intBits, Op.intCmp, Op.shift] <;> (try omega) <;> (try rfl)
    all_goals (split <;> first | omega | simp)
  case string.string a b =>
    cases op <;> simp only [bop] at h <;> (try split at h) <;> (try simp only [Option.some.injEq, reduceCtorEq] at h) <;> (try subst h) <;> (try (exact h.elim)) <;>
      simp only [binOp, Op.stringOp, ba_beq, slt] <;> (try simp only [ByteArray.toList_eq])
    case add hle =>
      have : ¬ (((a.size + b.size : Nat) : Int) > IntKind.i64.max) := by show ¬ (_ > (9223372036854775807 : Int)); omega
      rw [if_neg this]
      rfl
    all_goals first
      | rfl
      | (have e := bytesLess_or a.data.toList b.data.toList; have e2 := ba_beq a b; rw [ByteArray.toList_eq, ByteArray.toList_eq] at e2; rw [e2] at e; rw [e]; rfl)
      | (have e := bytesLess_or a.data.toList b.data.toList; have e2 := ba_beq a b; rw [ByteArray.toList_eq, ByteArray.toList_eq] at e2; rw [e2] at e; rw [e, Bool.not_not]; rfl)
end
end Go.Proofs.Ytlkhfdccapkcdaa
