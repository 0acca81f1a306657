/-
  No cell of these rows narrows 'for every input' (looked for: loops, veiled, ifaces, maps, wideKeys, modest, calm, conditions, laid).
  DERIVED. THE GIVEN ROWS OF THIS SEAT. 11 by the template 'for every input the law returns true; each argument reads behind the call as it read before'; 0 by the template 'total and deterministic' (their statements: YthjenkmbbnjcnaaTotals.lean).
  GIVEN WITH THE SEED: the statements are not yours to turn. If you find one false, say at which input.
  Laid BY PROGRAM, IN A SANDBOX (cutbox-rows.mjs): the forced cells as the released guide's own fill.sh prints them over the translation fbc48853d4681a8a… (all of the seat's roots in one cut). By AI agents, Wed Nov 11 2026. No macro, syntax, notation, axiom, sorry.
-/
import Derived.Test.YthjenkmbbnjcnaaChecked
import GoSem.Claim
import GoSem.ClaimJoined
import GoSem.ClaimMapViews
import Derived.JoinedTies
import Derived.KernelRfl
namespace Go.Proofs.Ythjenkmbbnjcnaa
/- THE CELL 'sum', in the pinned program and in every row, IS THE sha256 OF THE DUMP (.gsa) THAT YthjenkmbbnjcnaaProg.lean LOADS. Nothing in Lean hashes anything: it is a label: what it is worth is what the hold of that sum in a sandbox is worth. -/
noncomputable def Try.pinned : Pinned := { name := "ythjenkmbbnjcnaa", sum := "fbc48853d4681a8af6d9b8e99ca2a6291bf88e9da76f670a1ff5873001c4eccd", checked := Try.checked }
namespace Rows
def none {H : Type} : Left H := { results := [], args := [] }

/-- 'caravanlaw13.ClaimsJoin': WHATEVER THE INPUT: true; the input reads as it did. -/
def claimsJoinSpec : ChangeSpec := { name := "claimsJoin", fn := fun _ => fun
  | [d1, d2, d3] => { results := [.lit (.bool true)], args := [d1, d2, d3] }
  | _ => none }
def claimsJoinRow : OpenClaim := { program := "ythjenkmbbnjcnaa", sum := "fbc48853d4681a8af6d9b8e99ca2a6291bf88e9da76f670a1ff5873001c4eccd", func := "caravan/caravanlaw13.ClaimsJoin", spec := "claimsJoin", unfollowed := true, recurses := true, apart := false }
def ClaimsJoinSaid : Prop := claimsJoinRow.holds Try.pinned (OpenSpec.ofChange claimsJoinSpec)

/-- ITS FALSE NEIGHBOUR: 'it returns false'. Refute it at one input. -/
def claimsJoinWrong : ChangeSpec := { name := "claimsJoin", fn := fun _ => fun
  | [d1, d2, d3] => { results := [.lit (.bool false)], args := [d1, d2, d3] }
  | _ => none }
def ClaimsJoinWrongFalsely : Prop := claimsJoinRow.holds Try.pinned (OpenSpec.ofChange claimsJoinWrong)

/-- 'caravanlaw13.ClaimsNewer': WHATEVER THE INPUT: true; the input reads as it did. -/
def claimsNewerSpec : ChangeSpec := { name := "claimsNewer", fn := fun _ => fun
  | [d1, d2, d3, d4, d5] => { results := [.lit (.bool true)], args := [d1, d2, d3, d4, d5] }
  | _ => none }
def claimsNewerRow : OpenClaim := { program := "ythjenkmbbnjcnaa", sum := "fbc48853d4681a8af6d9b8e99ca2a6291bf88e9da76f670a1ff5873001c4eccd", func := "caravan/caravanlaw13.ClaimsNewer", spec := "claimsNewer", unfollowed := true, recurses := true, apart := false }
def ClaimsNewerSaid : Prop := claimsNewerRow.holds Try.pinned (OpenSpec.ofChange claimsNewerSpec)

/-- ITS FALSE NEIGHBOUR: 'it returns false'. Refute it at one input. -/
def claimsNewerWrong : ChangeSpec := { name := "claimsNewer", fn := fun _ => fun
  | [d1, d2, d3, d4, d5] => { results := [.lit (.bool false)], args := [d1, d2, d3, d4, d5] }
  | _ => none }
def ClaimsNewerWrongFalsely : Prop := claimsNewerRow.holds Try.pinned (OpenSpec.ofChange claimsNewerWrong)

/-- 'caravanlaw13.ClaimsGiven': WHATEVER THE INPUT: true; the input reads as it did. -/
def claimsGivenSpec : ChangeSpec := { name := "claimsGiven", fn := fun _ => fun
  | [d1, d2, d3, d4] => { results := [.lit (.bool true)], args := [d1, d2, d3, d4] }
  | _ => none }
def claimsGivenRow : OpenClaim := { program := "ythjenkmbbnjcnaa", sum := "fbc48853d4681a8af6d9b8e99ca2a6291bf88e9da76f670a1ff5873001c4eccd", func := "caravan/caravanlaw13.ClaimsGiven", spec := "claimsGiven", unfollowed := true, recurses := true, apart := false }
def ClaimsGivenSaid : Prop := claimsGivenRow.holds Try.pinned (OpenSpec.ofChange claimsGivenSpec)

/-- ITS FALSE NEIGHBOUR: 'it returns false'. Refute it at one input. -/
def claimsGivenWrong : ChangeSpec := { name := "claimsGiven", fn := fun _ => fun
  | [d1, d2, d3, d4] => { results := [.lit (.bool false)], args := [d1, d2, d3, d4] }
  | _ => none }
def ClaimsGivenWrongFalsely : Prop := claimsGivenRow.holds Try.pinned (OpenSpec.ofChange claimsGivenWrong)

/-- 'caravanlaw13.ClaimsParts': WHATEVER THE INPUT: true; the input reads as it did. -/
def claimsPartsSpec : ChangeSpec := { name := "claimsParts", fn := fun _ => fun
  | [d] => { results := [.lit (.bool true)], args := [d] }
  | _ => none }
def claimsPartsRow : OpenClaim := { program := "ythjenkmbbnjcnaa", sum := "fbc48853d4681a8af6d9b8e99ca2a6291bf88e9da76f670a1ff5873001c4eccd", func := "caravan/caravanlaw13.ClaimsParts", spec := "claimsParts", unfollowed := true, recurses := true, apart := false }
def ClaimsPartsSaid : Prop := claimsPartsRow.holds Try.pinned (OpenSpec.ofChange claimsPartsSpec)

/-- ITS FALSE NEIGHBOUR: 'it returns false'. Refute it at one input. -/
def claimsPartsWrong : ChangeSpec := { name := "claimsParts", fn := fun _ => fun
  | [d] => { results := [.lit (.bool false)], args := [d] }
  | _ => none }
def ClaimsPartsWrongFalsely : Prop := claimsPartsRow.holds Try.pinned (OpenSpec.ofChange claimsPartsWrong)

/-- 'caravanlaw13.ClaimsAll': WHATEVER THE INPUT: true; the input reads as it did. -/
def claimsAllSpec : ChangeSpec := { name := "claimsAll", fn := fun _ => fun
  | [d1, d2, d3, d4, d5, d6] => { results := [.lit (.bool true)], args := [d1, d2, d3, d4, d5, d6] }
  | _ => none }
def claimsAllRow : OpenClaim := { program := "ythjenkmbbnjcnaa", sum := "fbc48853d4681a8af6d9b8e99ca2a6291bf88e9da76f670a1ff5873001c4eccd", func := "caravan/caravanlaw13.ClaimsAll", spec := "claimsAll", unfollowed := true, recurses := true, apart := false }
def ClaimsAllSaid : Prop := claimsAllRow.holds Try.pinned (OpenSpec.ofChange claimsAllSpec)

/-- ITS FALSE NEIGHBOUR: 'it returns false'. Refute it at one input. -/
def claimsAllWrong : ChangeSpec := { name := "claimsAll", fn := fun _ => fun
  | [d1, d2, d3, d4, d5, d6] => { results := [.lit (.bool false)], args := [d1, d2, d3, d4, d5, d6] }
  | _ => none }
def ClaimsAllWrongFalsely : Prop := claimsAllRow.holds Try.pinned (OpenSpec.ofChange claimsAllWrong)

/-- 'caravanlaw13.ClaimsMade': WHATEVER THE INPUT: true; the input reads as it did. -/
def claimsMadeSpec : ChangeSpec := { name := "claimsMade", fn := fun _ => fun
  | [d1, d2, d3, d4, d5, d6] => { results := [.lit (.bool true)], args := [d1, d2, d3, d4, d5, d6] }
  | _ => none }
def claimsMadeRow : OpenClaim := { program := "ythjenkmbbnjcnaa", sum := "fbc48853d4681a8af6d9b8e99ca2a6291bf88e9da76f670a1ff5873001c4eccd", func := "caravan/caravanlaw13.ClaimsMade", spec := "claimsMade", unfollowed := true, recurses := true, apart := false }
def ClaimsMadeSaid : Prop := claimsMadeRow.holds Try.pinned (OpenSpec.ofChange claimsMadeSpec)

/-- ITS FALSE NEIGHBOUR: 'it returns false'. Refute it at one input. -/
def claimsMadeWrong : ChangeSpec := { name := "claimsMade", fn := fun _ => fun
  | [d1, d2, d3, d4, d5, d6] => { results := [.lit (.bool false)], args := [d1, d2, d3, d4, d5, d6] }
  | _ => none }
def ClaimsMadeWrongFalsely : Prop := claimsMadeRow.holds Try.pinned (OpenSpec.ofChange claimsMadeWrong)

/-- 'caravanlaw16.MoveRefuses': WHATEVER THE INPUT: true; the input reads as it did. -/
def moveRefusesSpec : ChangeSpec := { name := "moveRefuses", fn := fun _ => fun
  | [d1, d2, d3] => { results := [.lit (.bool true)], args := [d1, d2, d3] }
  | _ => none }
def moveRefusesRow : OpenClaim := { program := "ythjenkmbbnjcnaa", sum := "fbc48853d4681a8af6d9b8e99ca2a6291bf88e9da76f670a1ff5873001c4eccd", func := "caravan/caravanlaw16.MoveRefuses", spec := "moveRefuses", inPlace := ["slices.overlaps[caravan/api.Move]", "internal/bytealg.IndexByteString", "internal/bytealg.IndexString", "internal/bytealg.abigen_runtime_cmpstring"], unfollowed := true, recurses := true, named := ["internal/bytealg.MaxLen"], apart := false }
def MoveRefusesSaid : Prop := moveRefusesRow.holds Try.pinned (OpenSpec.ofChange moveRefusesSpec)

/-- ITS FALSE NEIGHBOUR: 'it returns false'. Refute it at one input. -/
def moveRefusesWrong : ChangeSpec := { name := "moveRefuses", fn := fun _ => fun
  | [d1, d2, d3] => { results := [.lit (.bool false)], args := [d1, d2, d3] }
  | _ => none }
def MoveRefusesWrongFalsely : Prop := moveRefusesRow.holds Try.pinned (OpenSpec.ofChange moveRefusesWrong)

/-- 'caravanlaw25.BalanceAll': WHATEVER THE INPUT: true; the input reads as it did. -/
def balanceAllSpec : ChangeSpec := { name := "balanceAll", fn := fun _ => fun
  | [d1, d2, d3] => { results := [.lit (.bool true)], args := [d1, d2, d3] }
  | _ => none }
def balanceAllRow : OpenClaim := { program := "ythjenkmbbnjcnaa", sum := "fbc48853d4681a8af6d9b8e99ca2a6291bf88e9da76f670a1ff5873001c4eccd", func := "caravan/caravanlaw25.BalanceAll", spec := "balanceAll", unfollowed := true, recurses := true, apart := false }
def BalanceAllSaid : Prop := balanceAllRow.holds Try.pinned (OpenSpec.ofChange balanceAllSpec)

/-- ITS FALSE NEIGHBOUR: 'it returns false'. Refute it at one input. -/
def balanceAllWrong : ChangeSpec := { name := "balanceAll", fn := fun _ => fun
  | [d1, d2, d3] => { results := [.lit (.bool false)], args := [d1, d2, d3] }
  | _ => none }
def BalanceAllWrongFalsely : Prop := balanceAllRow.holds Try.pinned (OpenSpec.ofChange balanceAllWrong)

/-- 'caravanlaw25.BalanceMade': WHATEVER THE INPUT: true; the input reads as it did. -/
def balanceMadeSpec : ChangeSpec := { name := "balanceMade", fn := fun _ => fun
  | [d1, d2] => { results := [.lit (.bool true)], args := [d1, d2] }
  | _ => none }
def balanceMadeRow : OpenClaim := { program := "ythjenkmbbnjcnaa", sum := "fbc48853d4681a8af6d9b8e99ca2a6291bf88e9da76f670a1ff5873001c4eccd", func := "caravan/caravanlaw25.BalanceMade", spec := "balanceMade", unfollowed := true, recurses := true, apart := false }
def BalanceMadeSaid : Prop := balanceMadeRow.holds Try.pinned (OpenSpec.ofChange balanceMadeSpec)

/-- ITS FALSE NEIGHBOUR: 'it returns false'. Refute it at one input. -/
def balanceMadeWrong : ChangeSpec := { name := "balanceMade", fn := fun _ => fun
  | [d1, d2] => { results := [.lit (.bool false)], args := [d1, d2] }
  | _ => none }
def BalanceMadeWrongFalsely : Prop := balanceMadeRow.holds Try.pinned (OpenSpec.ofChange balanceMadeWrong)

/-- 'caravanlaw25.BalanceEven': WHATEVER THE INPUT: true; the input reads as it did. -/
def balanceEvenSpec : ChangeSpec := { name := "balanceEven", fn := fun _ => fun
  | [d1, d2] => { results := [.lit (.bool true)], args := [d1, d2] }
  | _ => none }
def balanceEvenRow : OpenClaim := { program := "ythjenkmbbnjcnaa", sum := "fbc48853d4681a8af6d9b8e99ca2a6291bf88e9da76f670a1ff5873001c4eccd", func := "caravan/caravanlaw25.BalanceEven", spec := "balanceEven", unfollowed := true, recurses := true, apart := false }
def BalanceEvenSaid : Prop := balanceEvenRow.holds Try.pinned (OpenSpec.ofChange balanceEvenSpec)

/-- ITS FALSE NEIGHBOUR: 'it returns false'. Refute it at one input. -/
def balanceEvenWrong : ChangeSpec := { name := "balanceEven", fn := fun _ => fun
  | [d1, d2] => { results := [.lit (.bool false)], args := [d1, d2] }
  | _ => none }
def BalanceEvenWrongFalsely : Prop := balanceEvenRow.holds Try.pinned (OpenSpec.ofChange balanceEvenWrong)

/-- 'caravanlaw25.BalanceShare': WHATEVER THE INPUT: true; the input reads as it did. -/
def balanceShareSpec : ChangeSpec := { name := "balanceShare", fn := fun _ => fun
  | [d1, d2] => { results := [.lit (.bool true)], args := [d1, d2] }
  | _ => none }
def balanceShareRow : OpenClaim := { program := "ythjenkmbbnjcnaa", sum := "fbc48853d4681a8af6d9b8e99ca2a6291bf88e9da76f670a1ff5873001c4eccd", func := "caravan/caravanlaw25.BalanceShare", spec := "balanceShare", unfollowed := true, recurses := true, apart := false }
def BalanceShareSaid : Prop := balanceShareRow.holds Try.pinned (OpenSpec.ofChange balanceShareSpec)

/-- ITS FALSE NEIGHBOUR: 'it returns false'. Refute it at one input. -/
def balanceShareWrong : ChangeSpec := { name := "balanceShare", fn := fun _ => fun
  | [d1, d2] => { results := [.lit (.bool false)], args := [d1, d2] }
  | _ => none }
def BalanceShareWrongFalsely : Prop := balanceShareRow.holds Try.pinned (OpenSpec.ofChange balanceShareWrong)

/- THE SECOND FORM. 'bulk': how many values and letters a reading holds, each counted each time it is reached (what is shared counts as often as it is met; a slice's spare places count too). A statement '..UptoSaid' is the law's where the arguments, and the package variables that the reading takes, are together of bulk at most 1048576: NARROWER than '..Said'. Prove '..Said' where nothing that the law and all that it calls make is longer than what came in: it says more and counts as full. Else prove '..UptoSaid'. A law counts once. -/
mutual
def uptoBulk {H : Type} : DataW H → Nat
  | .lit (.string bytes) => bytes.length + 1
  | .lit _ => 1
  | .nil => 1
  | .ptr d => uptoBulk d + 1
  | .slice elems spare => uptoBulkAll elems + uptoBulkAll spare + 1
  | .agg parts => uptoBulkAll parts + 1
  | .iface _ d => uptoBulk d + 1
  | .map entries => uptoBulkEntries entries + 1
  | .held _ => 1
def uptoBulkAll {H : Type} : List (DataW H) → Nat
  | [] => 0
  | d :: r => uptoBulk d + uptoBulkAll r
def uptoBulkEntries {H : Type} : List (Lit × DataW H) → Nat
  | [] => 0
  | x :: r => uptoBulkEntry x + uptoBulkEntries r
def uptoBulkEntry {H : Type} : Lit × DataW H → Nat
  | (.string bytes, d) => bytes.length + uptoBulk d + 1
  | (_, d) => uptoBulk d + 1
 end
def uptoSmall : (H : Type) → List (DataW H) → Bool := fun _ ds => decide (uptoBulkAll ds ≤ 1048576)
def OpenSpec.upto (s : _root_.Go.ChangeSpec) : _root_.Go.OpenSpec := { _root_.Go.OpenSpec.ofChange s with cond := some uptoSmall }

/-- 'caravanlaw13.ClaimsJoin', WHERE WHAT IT READS IS OF BULK AT MOST 1048576: true; the input reads as it did. -/
def claimsJoinUptoRow : OpenClaim := { program := "ythjenkmbbnjcnaa", sum := "fbc48853d4681a8af6d9b8e99ca2a6291bf88e9da76f670a1ff5873001c4eccd", func := "caravan/caravanlaw13.ClaimsJoin", spec := "claimsJoin", unfollowed := true, recurses := true, apart := false, narrowed := true }
def ClaimsJoinUptoSaid : Prop := claimsJoinUptoRow.holds Try.pinned (OpenSpec.upto claimsJoinSpec)

/-- 'caravanlaw13.ClaimsNewer', WHERE WHAT IT READS IS OF BULK AT MOST 1048576: true; the input reads as it did. -/
def claimsNewerUptoRow : OpenClaim := { program := "ythjenkmbbnjcnaa", sum := "fbc48853d4681a8af6d9b8e99ca2a6291bf88e9da76f670a1ff5873001c4eccd", func := "caravan/caravanlaw13.ClaimsNewer", spec := "claimsNewer", unfollowed := true, recurses := true, apart := false, narrowed := true }
def ClaimsNewerUptoSaid : Prop := claimsNewerUptoRow.holds Try.pinned (OpenSpec.upto claimsNewerSpec)

/-- 'caravanlaw13.ClaimsGiven', WHERE WHAT IT READS IS OF BULK AT MOST 1048576: true; the input reads as it did. -/
def claimsGivenUptoRow : OpenClaim := { program := "ythjenkmbbnjcnaa", sum := "fbc48853d4681a8af6d9b8e99ca2a6291bf88e9da76f670a1ff5873001c4eccd", func := "caravan/caravanlaw13.ClaimsGiven", spec := "claimsGiven", unfollowed := true, recurses := true, apart := false, narrowed := true }
def ClaimsGivenUptoSaid : Prop := claimsGivenUptoRow.holds Try.pinned (OpenSpec.upto claimsGivenSpec)

/-- 'caravanlaw13.ClaimsParts', WHERE WHAT IT READS IS OF BULK AT MOST 1048576: true; the input reads as it did. -/
def claimsPartsUptoRow : OpenClaim := { program := "ythjenkmbbnjcnaa", sum := "fbc48853d4681a8af6d9b8e99ca2a6291bf88e9da76f670a1ff5873001c4eccd", func := "caravan/caravanlaw13.ClaimsParts", spec := "claimsParts", unfollowed := true, recurses := true, apart := false, narrowed := true }
def ClaimsPartsUptoSaid : Prop := claimsPartsUptoRow.holds Try.pinned (OpenSpec.upto claimsPartsSpec)

/-- 'caravanlaw13.ClaimsAll', WHERE WHAT IT READS IS OF BULK AT MOST 1048576: true; the input reads as it did. -/
def claimsAllUptoRow : OpenClaim := { program := "ythjenkmbbnjcnaa", sum := "fbc48853d4681a8af6d9b8e99ca2a6291bf88e9da76f670a1ff5873001c4eccd", func := "caravan/caravanlaw13.ClaimsAll", spec := "claimsAll", unfollowed := true, recurses := true, apart := false, narrowed := true }
def ClaimsAllUptoSaid : Prop := claimsAllUptoRow.holds Try.pinned (OpenSpec.upto claimsAllSpec)

/-- 'caravanlaw13.ClaimsMade', WHERE WHAT IT READS IS OF BULK AT MOST 1048576: true; the input reads as it did. -/
def claimsMadeUptoRow : OpenClaim := { program := "ythjenkmbbnjcnaa", sum := "fbc48853d4681a8af6d9b8e99ca2a6291bf88e9da76f670a1ff5873001c4eccd", func := "caravan/caravanlaw13.ClaimsMade", spec := "claimsMade", unfollowed := true, recurses := true, apart := false, narrowed := true }
def ClaimsMadeUptoSaid : Prop := claimsMadeUptoRow.holds Try.pinned (OpenSpec.upto claimsMadeSpec)

/-- 'caravanlaw16.MoveRefuses', WHERE WHAT IT READS IS OF BULK AT MOST 1048576: true; the input reads as it did. -/
def moveRefusesUptoRow : OpenClaim := { program := "ythjenkmbbnjcnaa", sum := "fbc48853d4681a8af6d9b8e99ca2a6291bf88e9da76f670a1ff5873001c4eccd", func := "caravan/caravanlaw16.MoveRefuses", spec := "moveRefuses", inPlace := ["slices.overlaps[caravan/api.Move]", "internal/bytealg.IndexByteString", "internal/bytealg.IndexString", "internal/bytealg.abigen_runtime_cmpstring"], unfollowed := true, recurses := true, named := ["internal/bytealg.MaxLen"], apart := false, narrowed := true }
def MoveRefusesUptoSaid : Prop := moveRefusesUptoRow.holds Try.pinned (OpenSpec.upto moveRefusesSpec)

/-- 'caravanlaw25.BalanceAll', WHERE WHAT IT READS IS OF BULK AT MOST 1048576: true; the input reads as it did. -/
def balanceAllUptoRow : OpenClaim := { program := "ythjenkmbbnjcnaa", sum := "fbc48853d4681a8af6d9b8e99ca2a6291bf88e9da76f670a1ff5873001c4eccd", func := "caravan/caravanlaw25.BalanceAll", spec := "balanceAll", unfollowed := true, recurses := true, apart := false, narrowed := true }
def BalanceAllUptoSaid : Prop := balanceAllUptoRow.holds Try.pinned (OpenSpec.upto balanceAllSpec)

/-- 'caravanlaw25.BalanceMade', WHERE WHAT IT READS IS OF BULK AT MOST 1048576: true; the input reads as it did. -/
def balanceMadeUptoRow : OpenClaim := { program := "ythjenkmbbnjcnaa", sum := "fbc48853d4681a8af6d9b8e99ca2a6291bf88e9da76f670a1ff5873001c4eccd", func := "caravan/caravanlaw25.BalanceMade", spec := "balanceMade", unfollowed := true, recurses := true, apart := false, narrowed := true }
def BalanceMadeUptoSaid : Prop := balanceMadeUptoRow.holds Try.pinned (OpenSpec.upto balanceMadeSpec)

/-- 'caravanlaw25.BalanceEven', WHERE WHAT IT READS IS OF BULK AT MOST 1048576: true; the input reads as it did. -/
def balanceEvenUptoRow : OpenClaim := { program := "ythjenkmbbnjcnaa", sum := "fbc48853d4681a8af6d9b8e99ca2a6291bf88e9da76f670a1ff5873001c4eccd", func := "caravan/caravanlaw25.BalanceEven", spec := "balanceEven", unfollowed := true, recurses := true, apart := false, narrowed := true }
def BalanceEvenUptoSaid : Prop := balanceEvenUptoRow.holds Try.pinned (OpenSpec.upto balanceEvenSpec)

/-- 'caravanlaw25.BalanceShare', WHERE WHAT IT READS IS OF BULK AT MOST 1048576: true; the input reads as it did. -/
def balanceShareUptoRow : OpenClaim := { program := "ythjenkmbbnjcnaa", sum := "fbc48853d4681a8af6d9b8e99ca2a6291bf88e9da76f670a1ff5873001c4eccd", func := "caravan/caravanlaw25.BalanceShare", spec := "balanceShare", unfollowed := true, recurses := true, apart := false, narrowed := true }
def BalanceShareUptoSaid : Prop := balanceShareUptoRow.holds Try.pinned (OpenSpec.upto balanceShareSpec)

end Rows
end Go.Proofs.Ythjenkmbbnjcnaa
