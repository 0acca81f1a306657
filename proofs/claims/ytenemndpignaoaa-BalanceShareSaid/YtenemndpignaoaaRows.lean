/-
  No cell of these rows narrows 'for every input' (looked for: loops, veiled, ifaces, maps, wideKeys, modest, calm, conditions, laid).
  DERIVED. THE GIVEN ROWS OF THIS SEAT. 4 by the template 'for every input the law returns true; each argument reads behind the call as it read before'; 0 by the template 'total and deterministic' (their statements: YtenemndpignaoaaTotals.lean).
  GIVEN WITH THE SEED: the statements are not yours to turn. If you find one false, say at which input.
  Laid BY PROGRAM, IN A SANDBOX (cutbox-rows.mjs): the forced cells as the released guide's own fill.sh prints them over the translation a5ff3406ed9b6d04… (all of the seat's roots in one cut). By AI agents, Wed Nov 11 2026. No macro, syntax, notation, axiom, sorry.
-/
import Derived.Test.YtenemndpignaoaaChecked
import GoSem.Claim
import GoSem.ClaimJoined
import GoSem.ClaimMapViews
import Derived.JoinedTies
import Derived.KernelRfl
namespace Go.Proofs.Ytenemndpignaoaa
/- THE CELL 'sum', in the pinned program and in every row, IS THE sha256 OF THE DUMP (.gsa) THAT YtenemndpignaoaaProg.lean LOADS. Nothing in Lean hashes anything: it is a label: what it is worth is what the hold of that sum in a sandbox is worth. -/
noncomputable def Try.pinned : Pinned := { name := "ytenemndpignaoaa", sum := "a5ff3406ed9b6d04dcd1b8f55874ef3c9529b3117724d6ecbd432385444cf170", checked := Try.checked }
namespace Rows
def none {H : Type} : Left H := { results := [], args := [] }

/-- 'caravanlaw25.BalanceAll': WHATEVER THE INPUT: true; the input reads as it did. -/
def balanceAllSpec : ChangeSpec := { name := "balanceAll", fn := fun _ => fun
  | [d1, d2, d3] => { results := [.lit (.bool true)], args := [d1, d2, d3] }
  | _ => none }
def balanceAllRow : OpenClaim := { program := "ytenemndpignaoaa", sum := "a5ff3406ed9b6d04dcd1b8f55874ef3c9529b3117724d6ecbd432385444cf170", func := "caravan/caravanlaw25.BalanceAll", spec := "balanceAll", unfollowed := true, recurses := true, apart := false }
def BalanceAllSaid : Prop := balanceAllRow.holds Try.pinned (OpenSpec.ofChange balanceAllSpec)

/-- ITS FALSE NEIGHBOUR: 'it returns false'. Refute it at one input. -/
def balanceAllWrong : ChangeSpec := { name := "balanceAll", fn := fun _ => fun
  | [d1, d2, d3] => { results := [.lit (.bool false)], args := [d1, d2, d3] }
  | _ => none }
def BalanceAllWrongFalsely : Prop := balanceAllRow.holds Try.pinned (OpenSpec.ofChange balanceAllWrong)

/-- 'caravanlaw25.BalanceMade': WHATEVER THE INPUT: true; the input reads as it did. -/
def balanceMadeSpec : ChangeSpec := { name := "balanceMade", fn := fun _ => fun
  | [d1, d2] => { results := [.lit (.bool true)], args := [d1, d2] }
  | _ => none }
def balanceMadeRow : OpenClaim := { program := "ytenemndpignaoaa", sum := "a5ff3406ed9b6d04dcd1b8f55874ef3c9529b3117724d6ecbd432385444cf170", func := "caravan/caravanlaw25.BalanceMade", spec := "balanceMade", unfollowed := true, recurses := true, apart := false }
def BalanceMadeSaid : Prop := balanceMadeRow.holds Try.pinned (OpenSpec.ofChange balanceMadeSpec)

/-- ITS FALSE NEIGHBOUR: 'it returns false'. Refute it at one input. -/
def balanceMadeWrong : ChangeSpec := { name := "balanceMade", fn := fun _ => fun
  | [d1, d2] => { results := [.lit (.bool false)], args := [d1, d2] }
  | _ => none }
def BalanceMadeWrongFalsely : Prop := balanceMadeRow.holds Try.pinned (OpenSpec.ofChange balanceMadeWrong)

/-- 'caravanlaw25.BalanceEven': WHATEVER THE INPUT: true; the input reads as it did. -/
def balanceEvenSpec : ChangeSpec := { name := "balanceEven", fn := fun _ => fun
  | [d1, d2] => { results := [.lit (.bool true)], args := [d1, d2] }
  | _ => none }
def balanceEvenRow : OpenClaim := { program := "ytenemndpignaoaa", sum := "a5ff3406ed9b6d04dcd1b8f55874ef3c9529b3117724d6ecbd432385444cf170", func := "caravan/caravanlaw25.BalanceEven", spec := "balanceEven", unfollowed := true, recurses := true, apart := false }
def BalanceEvenSaid : Prop := balanceEvenRow.holds Try.pinned (OpenSpec.ofChange balanceEvenSpec)

/-- ITS FALSE NEIGHBOUR: 'it returns false'. Refute it at one input. -/
def balanceEvenWrong : ChangeSpec := { name := "balanceEven", fn := fun _ => fun
  | [d1, d2] => { results := [.lit (.bool false)], args := [d1, d2] }
  | _ => none }
def BalanceEvenWrongFalsely : Prop := balanceEvenRow.holds Try.pinned (OpenSpec.ofChange balanceEvenWrong)

/-- 'caravanlaw25.BalanceShare': WHATEVER THE INPUT: true; the input reads as it did. -/
def balanceShareSpec : ChangeSpec := { name := "balanceShare", fn := fun _ => fun
  | [d1, d2] => { results := [.lit (.bool true)], args := [d1, d2] }
  | _ => none }
def balanceShareRow : OpenClaim := { program := "ytenemndpignaoaa", sum := "a5ff3406ed9b6d04dcd1b8f55874ef3c9529b3117724d6ecbd432385444cf170", func := "caravan/caravanlaw25.BalanceShare", spec := "balanceShare", unfollowed := true, recurses := true, apart := false }
def BalanceShareSaid : Prop := balanceShareRow.holds Try.pinned (OpenSpec.ofChange balanceShareSpec)

/-- ITS FALSE NEIGHBOUR: 'it returns false'. Refute it at one input. -/
def balanceShareWrong : ChangeSpec := { name := "balanceShare", fn := fun _ => fun
  | [d1, d2] => { results := [.lit (.bool false)], args := [d1, d2] }
  | _ => none }
def BalanceShareWrongFalsely : Prop := balanceShareRow.holds Try.pinned (OpenSpec.ofChange balanceShareWrong)

/- THE SECOND FORM. 'bulk': how many values and letters a reading holds, each counted each time it is reached (what is shared counts as often as it is met; a slice's spare places count too). A statement '..UptoSaid' is the law's where the arguments, and the package variables that the reading takes, are together of bulk at most 1048576: NARROWER than '..Said'. Prove '..Said' where nothing that the law and all that it calls make is longer than what came in: it says more and counts as full. Else prove '..UptoSaid'. A law counts once. -/
mutual
def uptoBulk {H : Type} : DataW H → Nat
  | .lit (.string bytes) => bytes.length + 1
  | .lit _ => 1
  | .nil => 1
  | .ptr d => uptoBulk d + 1
  | .slice elems spare => uptoBulkAll elems + uptoBulkAll spare + 1
  | .agg parts => uptoBulkAll parts + 1
  | .iface _ d => uptoBulk d + 1
  | .map entries => uptoBulkEntries entries + 1
  | .held _ => 1
def uptoBulkAll {H : Type} : List (DataW H) → Nat
  | [] => 0
  | d :: r => uptoBulk d + uptoBulkAll r
def uptoBulkEntries {H : Type} : List (Lit × DataW H) → Nat
  | [] => 0
  | x :: r => uptoBulkEntry x + uptoBulkEntries r
def uptoBulkEntry {H : Type} : Lit × DataW H → Nat
  | (.string bytes, d) => bytes.length + uptoBulk d + 1
  | (_, d) => uptoBulk d + 1
 end
def uptoSmall : (H : Type) → List (DataW H) → Bool := fun _ ds => decide (uptoBulkAll ds ≤ 1048576)
def OpenSpec.upto (s : _root_.Go.ChangeSpec) : _root_.Go.OpenSpec := { _root_.Go.OpenSpec.ofChange s with cond := some uptoSmall }

/-- 'caravanlaw25.BalanceAll', WHERE WHAT IT READS IS OF BULK AT MOST 1048576: true; the input reads as it did. -/
def balanceAllUptoRow : OpenClaim := { program := "ytenemndpignaoaa", sum := "a5ff3406ed9b6d04dcd1b8f55874ef3c9529b3117724d6ecbd432385444cf170", func := "caravan/caravanlaw25.BalanceAll", spec := "balanceAll", unfollowed := true, recurses := true, apart := false, narrowed := true }
def BalanceAllUptoSaid : Prop := balanceAllUptoRow.holds Try.pinned (OpenSpec.upto balanceAllSpec)

/-- 'caravanlaw25.BalanceMade', WHERE WHAT IT READS IS OF BULK AT MOST 1048576: true; the input reads as it did. -/
def balanceMadeUptoRow : OpenClaim := { program := "ytenemndpignaoaa", sum := "a5ff3406ed9b6d04dcd1b8f55874ef3c9529b3117724d6ecbd432385444cf170", func := "caravan/caravanlaw25.BalanceMade", spec := "balanceMade", unfollowed := true, recurses := true, apart := false, narrowed := true }
def BalanceMadeUptoSaid : Prop := balanceMadeUptoRow.holds Try.pinned (OpenSpec.upto balanceMadeSpec)

/-- 'caravanlaw25.BalanceEven', WHERE WHAT IT READS IS OF BULK AT MOST 1048576: true; the input reads as it did. -/
def balanceEvenUptoRow : OpenClaim := { program := "ytenemndpignaoaa", sum := "a5ff3406ed9b6d04dcd1b8f55874ef3c9529b3117724d6ecbd432385444cf170", func := "caravan/caravanlaw25.BalanceEven", spec := "balanceEven", unfollowed := true, recurses := true, apart := false, narrowed := true }
def BalanceEvenUptoSaid : Prop := balanceEvenUptoRow.holds Try.pinned (OpenSpec.upto balanceEvenSpec)

/-- 'caravanlaw25.BalanceShare', WHERE WHAT IT READS IS OF BULK AT MOST 1048576: true; the input reads as it did. -/
def balanceShareUptoRow : OpenClaim := { program := "ytenemndpignaoaa", sum := "a5ff3406ed9b6d04dcd1b8f55874ef3c9529b3117724d6ecbd432385444cf170", func := "caravan/caravanlaw25.BalanceShare", spec := "balanceShare", unfollowed := true, recurses := true, apart := false, narrowed := true }
def BalanceShareUptoSaid : Prop := balanceShareUptoRow.holds Try.pinned (OpenSpec.upto balanceShareSpec)

end Rows
end Go.Proofs.Ytenemndpignaoaa
