/- Numbers, and small aids. -/
import Derived.Test.YtlkhfdccapkcdaaA24
import Derived.Laws.Externs
import Derived.Lib.Bytealg
namespace Go.Proofs.Ytlkhfdccapkcdaa
open Go Go.RowKit
set_option linter.unusedVariables false
set_option linter.unusedSimpArgs false

theorem wrap_i64 (n : Int) : IntKind.i64.wrap n = (n + 9223372036854775808) % 18446744073709551616 - 9223372036854775808 := by
  simp only [IntKind.wrap, IntKind.bits, IntKind.signed, Bool.true_and]
  split
  · rename_i h
    simp at h
    omega
  · rename_i h
    simp at h
    omega
theorem wrap_u64 (n : Int) : IntKind.u64.wrap n = n % 18446744073709551616 := by simp [IntKind.wrap, IntKind.bits, IntKind.signed]
theorem wrap_u8 (n : Int) : IntKind.u8.wrap n = n % 256 := by simp [IntKind.wrap, IntKind.bits, IntKind.signed]
theorem i64_in {n : Int} (h : -9223372036854775808 ≤ n) (h' : n ≤ 9223372036854775807) : IntKind.i64.wrap n = n := by rw [wrap_i64]; omega
theorem i64_nat {n : Nat} (h : n ≤ 9223372036854775807) : IntKind.i64.wrap (n : Int) = n := i64_in (by omega) (by omega)
theorem i64_add {a b : Nat} (h : a + b ≤ 9223372036854775807) : IntKind.i64.wrap ((a : Int) + (b : Int)) = ((a + b : Nat) : Int) := by rw [i64_in (by omega) (by omega)]; omega
theorem i64_succ {a : Nat} (h : a + 1 ≤ 9223372036854775807) : IntKind.i64.wrap ((a : Int) + 1) = ((a + 1 : Nat) : Int) := by rw [i64_in (by omega) (by omega)]; omega
theorem mid (lo hi : Nat) (h : lo + hi < 9223372036854775808) : IntKind.i64.wrap ((IntKind.u64.wrap (IntKind.i64.wrap ((lo : Int) + hi))).fdiv (2 ^ min 1 IntKind.u64.bits)) = (((lo + hi) / 2 : Nat) : Int) := by
  rw [i64_add (by omega), wrap_u64, show (2 ^ min 1 IntKind.u64.bits : Int) = 2 from rfl, Int.fdiv_eq_ediv_of_nonneg _ (by omega), wrap_i64]
  omega

section
variable {P : Program} {R : Option Nat} {cx : Cx} {c : Code} {Q : Post} {st : St}
/-- Rows of data are not longer than that. -/
theorem AW.len_d (t : Nat) {al : Bool} {sz : Nat} {es : List (List T)} (h : lk st.tm t = .l (.d al sz es)) (k : es.length ≤ 140737488355328 → AW P R cx c Q st) : AW P R cx c Q st := by
  intro σ a w hr
  exact k (len_le hr (x := .tmp t) h) σ a w hr
/-- A loop whose states are a family. -/
theorem AW.loopP {α : Type} (S : α → St) (I : α → Prop) (μ : α → Nat) (x0 : α) (h0 : Weak cx st (S x0)) (hI : I x0)
    (round : ∀ x, I x → AW P R cx c (Post.seq (fun s' => ∃ y, Weak cx s' (S y) ∧ I y ∧ μ y < μ x) Q) (S x)) : AW P R cx (.loop c) Q st :=
  AW.loop (fun s n => ∃ x, s = S x ∧ I x ∧ n = μ x) ⟨_, h0, x0, rfl, hI, rfl⟩ fun s n ⟨x, hs, hx, hn⟩ => by
    subst hs
    subst hn
    refine AW.mono (round x hx) fun e s h => ?_
    cases e with
    | normal =>
      obtain ⟨y, h1, h2, h3⟩ := h
      exact ⟨_, _, h1, ⟨y, rfl, h2, rfl⟩, h3⟩
    | _ => exact h
/-- A nil slice is a row of nothing. -/
theorem Weak.nilRow (i ty sz : Nat) (h : lk st.tm i = .l (.s (.slice none 0 0))) : Weak cx st { st.add ⟨ty, sz, true, none, []⟩ with tm := (i, .l (.r st.ob.length sz 0 0)) :: st.tm } := by
  intro σ a w hr
  have hv := hr.tm i
  rw [h] at hv
  have hn := hr.newNil ⟨ty, sz, true, none, []⟩ ⟨rfl, rfl, .inl rfl⟩
  refine ⟨upd σ st.ob.length (some none), hn.h, fun j => ?_, hn.nt, hn.gh, hn.dm⟩
  show RelV _ _ _ _ _ (lk ((i, .l (.r st.ob.length sz 0 0)) :: st.tm) j)
  rw [lk_cons]
  split
  · rename_i e
    subst e
    exact .inl ⟨upd_same _ _ _, rfl, rfl, hv.1⟩
  · exact hn.tm j
/-- The order of texts. -/
abbrev cmpB (a b : ByteArray) : Int := Lib.compareBytes a.data.toList b.data.toList
theorem xcall_cmp {f : Nat} {fn : Func} {a b : ByteArray} {dst : Option Nat} {K : St → Prop} (hf : P.funcs[f]? = some fn) (hname : (fn.name == "runtime.NumGoroutine") = false) (hb : fn.body.isNone = true) (hn : Extern.findNext fn = none)
    (he : Extern.find fn = some Extern.BytealgCompare.compare) (hk : K (st.put dst (.l (.s (.int .i64 (cmpB a b)))))) : xcall P f [.l (.s (.string a)), .l (.s (.string b))] st dst K := by
  refine .inr ⟨.int .i64 (cmpB a b), rfl, fun cx σ ac w vs hr hv => ?_, hk⟩
  match vs, hv with
  | [x, y], hv =>
    obtain ⟨⟨rfl, _⟩, ⟨rfl, _⟩, _⟩ := hv
    rw [run_callFunc_extern hf hname hb hn he]
    have := Lib.run_compareString (P := P) a b w
    rw [this]
    rfl
  | [], hv => exact hv.elim
  | [_], hv => exact hv.2.elim
  | _ :: _ :: _ :: _, hv => exact hv.2.2.elim
end
end Go.Proofs.Ytlkhfdccapkcdaa
