/-
  No cell of these rows narrows 'for every input' (looked for: loops, veiled, ifaces, maps, wideKeys, modest, calm, conditions, laid).
  DERIVED. THE GIVEN ROWS OF THIS SEAT. 12 by the template 'for every input the law returns true; each argument reads behind the call as it read before'; 0 by the template 'total and deterministic' (their statements: YtlkhfdccapkcdaaTotals.lean).
  GIVEN WITH THE SEED: the statements are not yours to turn. If you find one false, say at which input.
  Laid BY PROGRAM, IN A SANDBOX (cutbox-rows.mjs): the forced cells as the released guide's own fill.sh prints them over the translation 85f196f9d2574ba2… (all of the seat's roots in one cut). By AI agents, Wed Nov 11 2026. No macro, syntax, notation, axiom, sorry.
-/
import Derived.Test.YtlkhfdccapkcdaaChecked
import GoSem.Claim
import GoSem.ClaimJoined
import GoSem.ClaimMapViews
import Derived.JoinedTies
import Derived.KernelRfl
namespace Go.Proofs.Ytlkhfdccapkcdaa
/- THE CELL 'sum', in the pinned program and in every row, IS THE sha256 OF THE DUMP (.gsa) THAT YtlkhfdccapkcdaaProg.lean LOADS. Nothing in Lean hashes anything: it is a label: what it is worth is what the hold of that sum in a sandbox is worth. -/
noncomputable def Try.pinned : Pinned := { name := "ytlkhfdccapkcdaa", sum := "85f196f9d2574ba2e5560b5db5c86875b116583bd266003530fef6f9beb3e829", checked := Try.checked }
namespace Rows
def none {H : Type} : Left H := { results := [], args := [] }

/-- 'caravanlaw15.FeedKeeps': WHATEVER THE INPUT: true; the input reads as it did. -/
def feedKeepsSpec : ChangeSpec := { name := "feedKeeps", fn := fun _ => fun
  | [d1, d2] => { results := [.lit (.bool true)], args := [d1, d2] }
  | _ => none }
def feedKeepsRow : OpenClaim := { program := "ytlkhfdccapkcdaa", sum := "85f196f9d2574ba2e5560b5db5c86875b116583bd266003530fef6f9beb3e829", func := "caravan/caravanlaw15.FeedKeeps", spec := "feedKeeps", unfollowed := true, recurses := true, apart := false }
def FeedKeepsSaid : Prop := feedKeepsRow.holds Try.pinned (OpenSpec.ofChange feedKeepsSpec)

/-- ITS FALSE NEIGHBOUR: 'it returns false'. Refute it at one input. -/
def feedKeepsWrong : ChangeSpec := { name := "feedKeeps", fn := fun _ => fun
  | [d1, d2] => { results := [.lit (.bool false)], args := [d1, d2] }
  | _ => none }
def FeedKeepsWrongFalsely : Prop := feedKeepsRow.holds Try.pinned (OpenSpec.ofChange feedKeepsWrong)

/-- 'caravanlaw7.HashOrder': WHATEVER THE INPUT: true; the input reads as it did. -/
def hashOrderSpec : ChangeSpec := { name := "hashOrder", fn := fun _ => fun
  | [d1, d2, d3] => { results := [.lit (.bool true)], args := [d1, d2, d3] }
  | _ => none }
def hashOrderRow : OpenClaim := { program := "ytlkhfdccapkcdaa", sum := "85f196f9d2574ba2e5560b5db5c86875b116583bd266003530fef6f9beb3e829", func := "caravan/caravanlaw7.HashOrder", spec := "hashOrder", inPlace := ["internal/bytealg.abigen_runtime_cmpstring", "slices.overlaps[caravan/api.Field]"], unfollowed := true, recurses := true, apart := false }
def HashOrderSaid : Prop := hashOrderRow.holds Try.pinned (OpenSpec.ofChange hashOrderSpec)

/-- ITS FALSE NEIGHBOUR: 'it returns false'. Refute it at one input. -/
def hashOrderWrong : ChangeSpec := { name := "hashOrder", fn := fun _ => fun
  | [d1, d2, d3] => { results := [.lit (.bool false)], args := [d1, d2, d3] }
  | _ => none }
def HashOrderWrongFalsely : Prop := hashOrderRow.holds Try.pinned (OpenSpec.ofChange hashOrderWrong)

/-- 'caravanlaw7.HashRuns': WHATEVER THE INPUT: true; the input reads as it did. -/
def hashRunsSpec : ChangeSpec := { name := "hashRuns", fn := fun _ => fun
  | [d] => { results := [.lit (.bool true)], args := [d] }
  | _ => none }
def hashRunsRow : OpenClaim := { program := "ytlkhfdccapkcdaa", sum := "85f196f9d2574ba2e5560b5db5c86875b116583bd266003530fef6f9beb3e829", func := "caravan/caravanlaw7.HashRuns", spec := "hashRuns", inPlace := ["internal/bytealg.abigen_runtime_cmpstring", "slices.overlaps[caravan/api.Field]"], unfollowed := true, recurses := true, apart := false }
def HashRunsSaid : Prop := hashRunsRow.holds Try.pinned (OpenSpec.ofChange hashRunsSpec)

/-- ITS FALSE NEIGHBOUR: 'it returns false'. Refute it at one input. -/
def hashRunsWrong : ChangeSpec := { name := "hashRuns", fn := fun _ => fun
  | [d] => { results := [.lit (.bool false)], args := [d] }
  | _ => none }
def HashRunsWrongFalsely : Prop := hashRunsRow.holds Try.pinned (OpenSpec.ofChange hashRunsWrong)

/-- 'caravanlaw7.HashAll': WHATEVER THE INPUT: true; the input reads as it did. -/
def hashAllSpec : ChangeSpec := { name := "hashAll", fn := fun _ => fun
  | [d1, d2, d3] => { results := [.lit (.bool true)], args := [d1, d2, d3] }
  | _ => none }
def hashAllRow : OpenClaim := { program := "ytlkhfdccapkcdaa", sum := "85f196f9d2574ba2e5560b5db5c86875b116583bd266003530fef6f9beb3e829", func := "caravan/caravanlaw7.HashAll", spec := "hashAll", inPlace := ["internal/bytealg.abigen_runtime_cmpstring", "slices.overlaps[caravan/api.Field]"], unfollowed := true, recurses := true, apart := false }
def HashAllSaid : Prop := hashAllRow.holds Try.pinned (OpenSpec.ofChange hashAllSpec)

/-- ITS FALSE NEIGHBOUR: 'it returns false'. Refute it at one input. -/
def hashAllWrong : ChangeSpec := { name := "hashAll", fn := fun _ => fun
  | [d1, d2, d3] => { results := [.lit (.bool false)], args := [d1, d2, d3] }
  | _ => none }
def HashAllWrongFalsely : Prop := hashAllRow.holds Try.pinned (OpenSpec.ofChange hashAllWrong)

/-- 'caravanlaw15.FeedMade': WHATEVER THE INPUT: true; the input reads as it did. -/
def feedMadeSpec : ChangeSpec := { name := "feedMade", fn := fun _ => fun
  | [d1, d2, d3, d4, d5] => { results := [.lit (.bool true)], args := [d1, d2, d3, d4, d5] }
  | _ => none }
def feedMadeRow : OpenClaim := { program := "ytlkhfdccapkcdaa", sum := "85f196f9d2574ba2e5560b5db5c86875b116583bd266003530fef6f9beb3e829", func := "caravan/caravanlaw15.FeedMade", spec := "feedMade", inPlace := ["internal/bytealg.abigen_runtime_cmpstring", "slices.overlaps[caravan/api.Pair]"], unfollowed := true, recurses := true, apart := false }
def FeedMadeSaid : Prop := feedMadeRow.holds Try.pinned (OpenSpec.ofChange feedMadeSpec)

/-- ITS FALSE NEIGHBOUR: 'it returns false'. Refute it at one input. -/
def feedMadeWrong : ChangeSpec := { name := "feedMade", fn := fun _ => fun
  | [d1, d2, d3, d4, d5] => { results := [.lit (.bool false)], args := [d1, d2, d3, d4, d5] }
  | _ => none }
def FeedMadeWrongFalsely : Prop := feedMadeRow.holds Try.pinned (OpenSpec.ofChange feedMadeWrong)

/-- 'caravanlaw15.FeedComes': WHATEVER THE INPUT: true; the input reads as it did. -/
def feedComesSpec : ChangeSpec := { name := "feedComes", fn := fun _ => fun
  | [d1, d2, d3, d4, d5] => { results := [.lit (.bool true)], args := [d1, d2, d3, d4, d5] }
  | _ => none }
def feedComesRow : OpenClaim := { program := "ytlkhfdccapkcdaa", sum := "85f196f9d2574ba2e5560b5db5c86875b116583bd266003530fef6f9beb3e829", func := "caravan/caravanlaw15.FeedComes", spec := "feedComes", inPlace := ["internal/bytealg.abigen_runtime_cmpstring", "slices.overlaps[caravan/api.Pair]"], unfollowed := true, recurses := true, apart := false }
def FeedComesSaid : Prop := feedComesRow.holds Try.pinned (OpenSpec.ofChange feedComesSpec)

/-- ITS FALSE NEIGHBOUR: 'it returns false'. Refute it at one input. -/
def feedComesWrong : ChangeSpec := { name := "feedComes", fn := fun _ => fun
  | [d1, d2, d3, d4, d5] => { results := [.lit (.bool false)], args := [d1, d2, d3, d4, d5] }
  | _ => none }
def FeedComesWrongFalsely : Prop := feedComesRow.holds Try.pinned (OpenSpec.ofChange feedComesWrong)

/-- 'caravanlaw15.FeedAll': WHATEVER THE INPUT: true; the input reads as it did. -/
def feedAllSpec : ChangeSpec := { name := "feedAll", fn := fun _ => fun
  | [d1, d2, d3, d4, d5, d6] => { results := [.lit (.bool true)], args := [d1, d2, d3, d4, d5, d6] }
  | _ => none }
def feedAllRow : OpenClaim := { program := "ytlkhfdccapkcdaa", sum := "85f196f9d2574ba2e5560b5db5c86875b116583bd266003530fef6f9beb3e829", func := "caravan/caravanlaw15.FeedAll", spec := "feedAll", inPlace := ["internal/bytealg.abigen_runtime_cmpstring", "slices.overlaps[caravan/api.Pair]"], unfollowed := true, recurses := true, apart := false }
def FeedAllSaid : Prop := feedAllRow.holds Try.pinned (OpenSpec.ofChange feedAllSpec)

/-- ITS FALSE NEIGHBOUR: 'it returns false'. Refute it at one input. -/
def feedAllWrong : ChangeSpec := { name := "feedAll", fn := fun _ => fun
  | [d1, d2, d3, d4, d5, d6] => { results := [.lit (.bool false)], args := [d1, d2, d3, d4, d5, d6] }
  | _ => none }
def FeedAllWrongFalsely : Prop := feedAllRow.holds Try.pinned (OpenSpec.ofChange feedAllWrong)

/-- 'caravanlaw11.SpaceSlots': WHATEVER THE INPUT: true; the input reads as it did. -/
def spaceSlotsSpec : ChangeSpec := { name := "spaceSlots", fn := fun _ => fun
  | [d] => { results := [.lit (.bool true)], args := [d] }
  | _ => none }
def spaceSlotsRow : OpenClaim := { program := "ytlkhfdccapkcdaa", sum := "85f196f9d2574ba2e5560b5db5c86875b116583bd266003530fef6f9beb3e829", func := "caravan/caravanlaw11.SpaceSlots", spec := "spaceSlots", inPlace := ["internal/bytealg.abigen_runtime_cmpstring", "slices.overlaps[caravan/api.Pair]", "internal/bytealg.IndexByteString", "internal/bytealg.IndexString"], unfollowed := true, recurses := true, named := ["internal/bytealg.MaxLen"], apart := false }
def SpaceSlotsSaid : Prop := spaceSlotsRow.holds Try.pinned (OpenSpec.ofChange spaceSlotsSpec)

/-- ITS FALSE NEIGHBOUR: 'it returns false'. Refute it at one input. -/
def spaceSlotsWrong : ChangeSpec := { name := "spaceSlots", fn := fun _ => fun
  | [d] => { results := [.lit (.bool false)], args := [d] }
  | _ => none }
def SpaceSlotsWrongFalsely : Prop := spaceSlotsRow.holds Try.pinned (OpenSpec.ofChange spaceSlotsWrong)

/-- 'caravanlaw11.SpaceDead': WHATEVER THE INPUT: true; the input reads as it did. -/
def spaceDeadSpec : ChangeSpec := { name := "spaceDead", fn := fun _ => fun
  | [d1, d2, d3, d4] => { results := [.lit (.bool true)], args := [d1, d2, d3, d4] }
  | _ => none }
def spaceDeadRow : OpenClaim := { program := "ytlkhfdccapkcdaa", sum := "85f196f9d2574ba2e5560b5db5c86875b116583bd266003530fef6f9beb3e829", func := "caravan/caravanlaw11.SpaceDead", spec := "spaceDead", inPlace := ["internal/bytealg.abigen_runtime_cmpstring", "slices.overlaps[caravan/api.Pair]", "internal/bytealg.IndexByteString", "internal/bytealg.IndexString"], unfollowed := true, recurses := true, named := ["internal/bytealg.MaxLen"], apart := false }
def SpaceDeadSaid : Prop := spaceDeadRow.holds Try.pinned (OpenSpec.ofChange spaceDeadSpec)

/-- ITS FALSE NEIGHBOUR: 'it returns false'. Refute it at one input. -/
def spaceDeadWrong : ChangeSpec := { name := "spaceDead", fn := fun _ => fun
  | [d1, d2, d3, d4] => { results := [.lit (.bool false)], args := [d1, d2, d3, d4] }
  | _ => none }
def SpaceDeadWrongFalsely : Prop := spaceDeadRow.holds Try.pinned (OpenSpec.ofChange spaceDeadWrong)

/-- 'caravanlaw11.SpaceWhole': WHATEVER THE INPUT: true; the input reads as it did. -/
def spaceWholeSpec : ChangeSpec := { name := "spaceWhole", fn := fun _ => fun
  | [d1, d2] => { results := [.lit (.bool true)], args := [d1, d2] }
  | _ => none }
def spaceWholeRow : OpenClaim := { program := "ytlkhfdccapkcdaa", sum := "85f196f9d2574ba2e5560b5db5c86875b116583bd266003530fef6f9beb3e829", func := "caravan/caravanlaw11.SpaceWhole", spec := "spaceWhole", inPlace := ["internal/bytealg.abigen_runtime_cmpstring", "slices.overlaps[caravan/api.Pair]", "internal/bytealg.IndexByteString", "internal/bytealg.IndexString"], unfollowed := true, recurses := true, named := ["internal/bytealg.MaxLen"], apart := false }
def SpaceWholeSaid : Prop := spaceWholeRow.holds Try.pinned (OpenSpec.ofChange spaceWholeSpec)

/-- ITS FALSE NEIGHBOUR: 'it returns false'. Refute it at one input. -/
def spaceWholeWrong : ChangeSpec := { name := "spaceWhole", fn := fun _ => fun
  | [d1, d2] => { results := [.lit (.bool false)], args := [d1, d2] }
  | _ => none }
def SpaceWholeWrongFalsely : Prop := spaceWholeRow.holds Try.pinned (OpenSpec.ofChange spaceWholeWrong)

/-- 'caravanlaw11.SpaceMade': WHATEVER THE INPUT: true; the input reads as it did. -/
def spaceMadeSpec : ChangeSpec := { name := "spaceMade", fn := fun _ => fun
  | [d1, d2, d3, d4] => { results := [.lit (.bool true)], args := [d1, d2, d3, d4] }
  | _ => none }
def spaceMadeRow : OpenClaim := { program := "ytlkhfdccapkcdaa", sum := "85f196f9d2574ba2e5560b5db5c86875b116583bd266003530fef6f9beb3e829", func := "caravan/caravanlaw11.SpaceMade", spec := "spaceMade", inPlace := ["internal/bytealg.abigen_runtime_cmpstring", "slices.overlaps[caravan/api.Pair]", "internal/bytealg.IndexByteString", "internal/bytealg.IndexString"], unfollowed := true, recurses := true, named := ["internal/bytealg.MaxLen"], apart := false }
def SpaceMadeSaid : Prop := spaceMadeRow.holds Try.pinned (OpenSpec.ofChange spaceMadeSpec)

/-- ITS FALSE NEIGHBOUR: 'it returns false'. Refute it at one input. -/
def spaceMadeWrong : ChangeSpec := { name := "spaceMade", fn := fun _ => fun
  | [d1, d2, d3, d4] => { results := [.lit (.bool false)], args := [d1, d2, d3, d4] }
  | _ => none }
def SpaceMadeWrongFalsely : Prop := spaceMadeRow.holds Try.pinned (OpenSpec.ofChange spaceMadeWrong)

/-- 'caravanlaw11.SpaceAll': WHATEVER THE INPUT: true; the input reads as it did. -/
def spaceAllSpec : ChangeSpec := { name := "spaceAll", fn := fun _ => fun
  | [d1, d2, d3, d4, d5, d6] => { results := [.lit (.bool true)], args := [d1, d2, d3, d4, d5, d6] }
  | _ => none }
def spaceAllRow : OpenClaim := { program := "ytlkhfdccapkcdaa", sum := "85f196f9d2574ba2e5560b5db5c86875b116583bd266003530fef6f9beb3e829", func := "caravan/caravanlaw11.SpaceAll", spec := "spaceAll", inPlace := ["internal/bytealg.abigen_runtime_cmpstring", "slices.overlaps[caravan/api.Pair]", "internal/bytealg.IndexByteString", "internal/bytealg.IndexString"], unfollowed := true, recurses := true, named := ["internal/bytealg.MaxLen"], apart := false }
def SpaceAllSaid : Prop := spaceAllRow.holds Try.pinned (OpenSpec.ofChange spaceAllSpec)

/-- ITS FALSE NEIGHBOUR: 'it returns false'. Refute it at one input. -/
def spaceAllWrong : ChangeSpec := { name := "spaceAll", fn := fun _ => fun
  | [d1, d2, d3, d4, d5, d6] => { results := [.lit (.bool false)], args := [d1, d2, d3, d4, d5, d6] }
  | _ => none }
def SpaceAllWrongFalsely : Prop := spaceAllRow.holds Try.pinned (OpenSpec.ofChange spaceAllWrong)

/- THE SECOND FORM. 'bulk': how many values and letters a reading holds, each counted each time it is reached (what is shared counts as often as it is met; a slice's spare places count too). A statement '..UptoSaid' is the law's where the arguments, and the package variables that the reading takes, are together of bulk at most 1048576: NARROWER than '..Said'. Prove '..Said' where nothing that the law and all that it calls make is longer than what came in: it says more and counts as full. Else prove '..UptoSaid'. A law counts once. -/
mutual
def uptoBulk {H : Type} : DataW H → Nat
  | .lit (.string bytes) => bytes.length + 1
  | .lit _ => 1
  | .nil => 1
  | .ptr d => uptoBulk d + 1
  | .slice elems spare => uptoBulkAll elems + uptoBulkAll spare + 1
  | .agg parts => uptoBulkAll parts + 1
  | .iface _ d => uptoBulk d + 1
  | .map entries => uptoBulkEntries entries + 1
  | .held _ => 1
def uptoBulkAll {H : Type} : List (DataW H) → Nat
  | [] => 0
  | d :: r => uptoBulk d + uptoBulkAll r
def uptoBulkEntries {H : Type} : List (Lit × DataW H) → Nat
  | [] => 0
  | x :: r => uptoBulkEntry x + uptoBulkEntries r
def uptoBulkEntry {H : Type} : Lit × DataW H → Nat
  | (.string bytes, d) => bytes.length + uptoBulk d + 1
  | (_, d) => uptoBulk d + 1
 end
def uptoSmall : (H : Type) → List (DataW H) → Bool := fun _ ds => decide (uptoBulkAll ds ≤ 1048576)
def OpenSpec.upto (s : _root_.Go.ChangeSpec) : _root_.Go.OpenSpec := { _root_.Go.OpenSpec.ofChange s with cond := some uptoSmall }

/-- 'caravanlaw15.FeedKeeps', WHERE WHAT IT READS IS OF BULK AT MOST 1048576: true; the input reads as it did. -/
def feedKeepsUptoRow : OpenClaim := { program := "ytlkhfdccapkcdaa", sum := "85f196f9d2574ba2e5560b5db5c86875b116583bd266003530fef6f9beb3e829", func := "caravan/caravanlaw15.FeedKeeps", spec := "feedKeeps", unfollowed := true, recurses := true, apart := false, narrowed := true }
def FeedKeepsUptoSaid : Prop := feedKeepsUptoRow.holds Try.pinned (OpenSpec.upto feedKeepsSpec)

/-- 'caravanlaw7.HashOrder', WHERE WHAT IT READS IS OF BULK AT MOST 1048576: true; the input reads as it did. -/
def hashOrderUptoRow : OpenClaim := { program := "ytlkhfdccapkcdaa", sum := "85f196f9d2574ba2e5560b5db5c86875b116583bd266003530fef6f9beb3e829", func := "caravan/caravanlaw7.HashOrder", spec := "hashOrder", inPlace := ["internal/bytealg.abigen_runtime_cmpstring", "slices.overlaps[caravan/api.Field]"], unfollowed := true, recurses := true, apart := false, narrowed := true }
def HashOrderUptoSaid : Prop := hashOrderUptoRow.holds Try.pinned (OpenSpec.upto hashOrderSpec)

/-- 'caravanlaw7.HashRuns', WHERE WHAT IT READS IS OF BULK AT MOST 1048576: true; the input reads as it did. -/
def hashRunsUptoRow : OpenClaim := { program := "ytlkhfdccapkcdaa", sum := "85f196f9d2574ba2e5560b5db5c86875b116583bd266003530fef6f9beb3e829", func := "caravan/caravanlaw7.HashRuns", spec := "hashRuns", inPlace := ["internal/bytealg.abigen_runtime_cmpstring", "slices.overlaps[caravan/api.Field]"], unfollowed := true, recurses := true, apart := false, narrowed := true }
def HashRunsUptoSaid : Prop := hashRunsUptoRow.holds Try.pinned (OpenSpec.upto hashRunsSpec)

/-- 'caravanlaw7.HashAll', WHERE WHAT IT READS IS OF BULK AT MOST 1048576: true; the input reads as it did. -/
def hashAllUptoRow : OpenClaim := { program := "ytlkhfdccapkcdaa", sum := "85f196f9d2574ba2e5560b5db5c86875b116583bd266003530fef6f9beb3e829", func := "caravan/caravanlaw7.HashAll", spec := "hashAll", inPlace := ["internal/bytealg.abigen_runtime_cmpstring", "slices.overlaps[caravan/api.Field]"], unfollowed := true, recurses := true, apart := false, narrowed := true }
def HashAllUptoSaid : Prop := hashAllUptoRow.holds Try.pinned (OpenSpec.upto hashAllSpec)

/-- 'caravanlaw15.FeedMade', WHERE WHAT IT READS IS OF BULK AT MOST 1048576: true; the input reads as it did. -/
def feedMadeUptoRow : OpenClaim := { program := "ytlkhfdccapkcdaa", sum := "85f196f9d2574ba2e5560b5db5c86875b116583bd266003530fef6f9beb3e829", func := "caravan/caravanlaw15.FeedMade", spec := "feedMade", inPlace := ["internal/bytealg.abigen_runtime_cmpstring", "slices.overlaps[caravan/api.Pair]"], unfollowed := true, recurses := true, apart := false, narrowed := true }
def FeedMadeUptoSaid : Prop := feedMadeUptoRow.holds Try.pinned (OpenSpec.upto feedMadeSpec)

/-- 'caravanlaw15.FeedComes', WHERE WHAT IT READS IS OF BULK AT MOST 1048576: true; the input reads as it did. -/
def feedComesUptoRow : OpenClaim := { program := "ytlkhfdccapkcdaa", sum := "85f196f9d2574ba2e5560b5db5c86875b116583bd266003530fef6f9beb3e829", func := "caravan/caravanlaw15.FeedComes", spec := "feedComes", inPlace := ["internal/bytealg.abigen_runtime_cmpstring", "slices.overlaps[caravan/api.Pair]"], unfollowed := true, recurses := true, apart := false, narrowed := true }
def FeedComesUptoSaid : Prop := feedComesUptoRow.holds Try.pinned (OpenSpec.upto feedComesSpec)

/-- 'caravanlaw15.FeedAll', WHERE WHAT IT READS IS OF BULK AT MOST 1048576: true; the input reads as it did. -/
def feedAllUptoRow : OpenClaim := { program := "ytlkhfdccapkcdaa", sum := "85f196f9d2574ba2e5560b5db5c86875b116583bd266003530fef6f9beb3e829", func := "caravan/caravanlaw15.FeedAll", spec := "feedAll", inPlace := ["internal/bytealg.abigen_runtime_cmpstring", "slices.overlaps[caravan/api.Pair]"], unfollowed := true, recurses := true, apart := false, narrowed := true }
def FeedAllUptoSaid : Prop := feedAllUptoRow.holds Try.pinned (OpenSpec.upto feedAllSpec)

/-- 'caravanlaw11.SpaceSlots', WHERE WHAT IT READS IS OF BULK AT MOST 1048576: true; the input reads as it did. -/
def spaceSlotsUptoRow : OpenClaim := { program := "ytlkhfdccapkcdaa", sum := "85f196f9d2574ba2e5560b5db5c86875b116583bd266003530fef6f9beb3e829", func := "caravan/caravanlaw11.SpaceSlots", spec := "spaceSlots", inPlace := ["internal/bytealg.abigen_runtime_cmpstring", "slices.overlaps[caravan/api.Pair]", "internal/bytealg.IndexByteString", "internal/bytealg.IndexString"], unfollowed := true, recurses := true, named := ["internal/bytealg.MaxLen"], apart := false, narrowed := true }
def SpaceSlotsUptoSaid : Prop := spaceSlotsUptoRow.holds Try.pinned (OpenSpec.upto spaceSlotsSpec)

/-- 'caravanlaw11.SpaceDead', WHERE WHAT IT READS IS OF BULK AT MOST 1048576: true; the input reads as it did. -/
def spaceDeadUptoRow : OpenClaim := { program := "ytlkhfdccapkcdaa", sum := "85f196f9d2574ba2e5560b5db5c86875b116583bd266003530fef6f9beb3e829", func := "caravan/caravanlaw11.SpaceDead", spec := "spaceDead", inPlace := ["internal/bytealg.abigen_runtime_cmpstring", "slices.overlaps[caravan/api.Pair]", "internal/bytealg.IndexByteString", "internal/bytealg.IndexString"], unfollowed := true, recurses := true, named := ["internal/bytealg.MaxLen"], apart := false, narrowed := true }
def SpaceDeadUptoSaid : Prop := spaceDeadUptoRow.holds Try.pinned (OpenSpec.upto spaceDeadSpec)

/-- 'caravanlaw11.SpaceWhole', WHERE WHAT IT READS IS OF BULK AT MOST 1048576: true; the input reads as it did. -/
def spaceWholeUptoRow : OpenClaim := { program := "ytlkhfdccapkcdaa", sum := "85f196f9d2574ba2e5560b5db5c86875b116583bd266003530fef6f9beb3e829", func := "caravan/caravanlaw11.SpaceWhole", spec := "spaceWhole", inPlace := ["internal/bytealg.abigen_runtime_cmpstring", "slices.overlaps[caravan/api.Pair]", "internal/bytealg.IndexByteString", "internal/bytealg.IndexString"], unfollowed := true, recurses := true, named := ["internal/bytealg.MaxLen"], apart := false, narrowed := true }
def SpaceWholeUptoSaid : Prop := spaceWholeUptoRow.holds Try.pinned (OpenSpec.upto spaceWholeSpec)

/-- 'caravanlaw11.SpaceMade', WHERE WHAT IT READS IS OF BULK AT MOST 1048576: true; the input reads as it did. -/
def spaceMadeUptoRow : OpenClaim := { program := "ytlkhfdccapkcdaa", sum := "85f196f9d2574ba2e5560b5db5c86875b116583bd266003530fef6f9beb3e829", func := "caravan/caravanlaw11.SpaceMade", spec := "spaceMade", inPlace := ["internal/bytealg.abigen_runtime_cmpstring", "slices.overlaps[caravan/api.Pair]", "internal/bytealg.IndexByteString", "internal/bytealg.IndexString"], unfollowed := true, recurses := true, named := ["internal/bytealg.MaxLen"], apart := false, narrowed := true }
def SpaceMadeUptoSaid : Prop := spaceMadeUptoRow.holds Try.pinned (OpenSpec.upto spaceMadeSpec)

/-- 'caravanlaw11.SpaceAll', WHERE WHAT IT READS IS OF BULK AT MOST 1048576: true; the input reads as it did. -/
def spaceAllUptoRow : OpenClaim := { program := "ytlkhfdccapkcdaa", sum := "85f196f9d2574ba2e5560b5db5c86875b116583bd266003530fef6f9beb3e829", func := "caravan/caravanlaw11.SpaceAll", spec := "spaceAll", inPlace := ["internal/bytealg.abigen_runtime_cmpstring", "slices.overlaps[caravan/api.Pair]", "internal/bytealg.IndexByteString", "internal/bytealg.IndexString"], unfollowed := true, recurses := true, named := ["internal/bytealg.MaxLen"], apart := false, narrowed := true }
def SpaceAllUptoSaid : Prop := spaceAllUptoRow.holds Try.pinned (OpenSpec.upto spaceAllSpec)

end Rows
end Go.Proofs.Ytlkhfdccapkcdaa
