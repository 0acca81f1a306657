/-
  No cell of these rows narrows 'for every input' (looked for: loops, veiled, ifaces, maps, wideKeys, modest, calm, conditions, laid).
  DERIVED. THE GIVEN ROWS OF THIS SEAT. 4 by the template 'for every input the law returns true; each argument reads behind the call as it read before'; 0 by the template 'total and deterministic' (their statements: YtlbdhlbbkibgpaaGreatTotals.lean).
  GIVEN WITH THE SEED: the statements are not yours to turn. If you find one false, say at which input.
  Laid BY PROGRAM, IN A SANDBOX (cutbox-rows.mjs): the forced cells as the released guide's own fill.sh prints them over the translation 97a3932763ccde7e… (all of the seat's roots in one cut). By AI agents, Wed Nov 11 2026. No macro, syntax, notation, axiom, sorry.
-/
import Derived.Test.YtlbdhlbbkibgpaaGreatChecked
import GoSem.Claim
import GoSem.ClaimJoined
import GoSem.ClaimMapViews
import Derived.JoinedTies
import Derived.KernelRfl
namespace Go.Proofs.YtlbdhlbbkibgpaaGreat
/- THE CELL 'sum', in the pinned program and in every row, IS THE sha256 OF THE DUMP (.gsa) THAT YtlbdhlbbkibgpaaGreatProg.lean LOADS. Nothing in Lean hashes anything: it is a label: what it is worth is what the hold of that sum in a sandbox is worth. -/
noncomputable def Tryz.pinned : Pinned := { name := "ytlbdhlbbkibgpaagreat", sum := "97a3932763ccde7e635c65c90fc99fe352ca2d0ba70b21879067baa99128c1b9", checked := Tryz.checked }
namespace Rows
def none {H : Type} : Left H := { results := [], args := [] }

/-- 'caravanlaw16.MoveLate': WHATEVER THE INPUT: true; the input reads as it did. -/
def moveLateSpec : ChangeSpec := { name := "moveLate", fn := fun _ => fun
  | [d1, d2, d3] => { results := [.lit (.bool true)], args := [d1, d2, d3] }
  | _ => none }
def moveLateRow : OpenClaim := { program := "ytlbdhlbbkibgpaagreat", sum := "97a3932763ccde7e635c65c90fc99fe352ca2d0ba70b21879067baa99128c1b9", func := "caravan/caravanlaw16.MoveLate", spec := "moveLate", inPlace := ["internal/bytealg.IndexByteString", "internal/bytealg.IndexString", "internal/bytealg.abigen_runtime_cmpstring", "slices.overlaps[caravan/api.Move]", "slices.overlaps[caravan/api.Pair]"], unfollowed := true, recurses := true, named := ["internal/bytealg.MaxLen"], apart := false }
def MoveLateSaid : Prop := moveLateRow.holds Tryz.pinned (OpenSpec.ofChange moveLateSpec)

/-- ITS FALSE NEIGHBOUR: 'it returns false'. Refute it at one input. -/
def moveLateWrong : ChangeSpec := { name := "moveLate", fn := fun _ => fun
  | [d1, d2, d3] => { results := [.lit (.bool false)], args := [d1, d2, d3] }
  | _ => none }
def MoveLateWrongFalsely : Prop := moveLateRow.holds Tryz.pinned (OpenSpec.ofChange moveLateWrong)

/-- 'caravanlaw16.MoveOnce': WHATEVER THE INPUT: true; the input reads as it did. -/
def moveOnceSpec : ChangeSpec := { name := "moveOnce", fn := fun _ => fun
  | [d1, d2, d3, d4] => { results := [.lit (.bool true)], args := [d1, d2, d3, d4] }
  | _ => none }
def moveOnceRow : OpenClaim := { program := "ytlbdhlbbkibgpaagreat", sum := "97a3932763ccde7e635c65c90fc99fe352ca2d0ba70b21879067baa99128c1b9", func := "caravan/caravanlaw16.MoveOnce", spec := "moveOnce", inPlace := ["internal/bytealg.IndexByteString", "internal/bytealg.IndexString", "internal/bytealg.abigen_runtime_cmpstring", "slices.overlaps[caravan/api.Move]", "slices.overlaps[caravan/api.Pair]", "slices.overlaps[caravan/api.Seen]"], unfollowed := true, recurses := true, named := ["internal/bytealg.MaxLen"], apart := false }
def MoveOnceSaid : Prop := moveOnceRow.holds Tryz.pinned (OpenSpec.ofChange moveOnceSpec)

/-- ITS FALSE NEIGHBOUR: 'it returns false'. Refute it at one input. -/
def moveOnceWrong : ChangeSpec := { name := "moveOnce", fn := fun _ => fun
  | [d1, d2, d3, d4] => { results := [.lit (.bool false)], args := [d1, d2, d3, d4] }
  | _ => none }
def MoveOnceWrongFalsely : Prop := moveOnceRow.holds Tryz.pinned (OpenSpec.ofChange moveOnceWrong)

/-- 'caravanlaw16.MoveRuns': WHATEVER THE INPUT: true; the input reads as it did. -/
def moveRunsSpec : ChangeSpec := { name := "moveRuns", fn := fun _ => fun
  | [d1, d2, d3] => { results := [.lit (.bool true)], args := [d1, d2, d3] }
  | _ => none }
def moveRunsRow : OpenClaim := { program := "ytlbdhlbbkibgpaagreat", sum := "97a3932763ccde7e635c65c90fc99fe352ca2d0ba70b21879067baa99128c1b9", func := "caravan/caravanlaw16.MoveRuns", spec := "moveRuns", inPlace := ["internal/bytealg.IndexByteString", "internal/bytealg.IndexString", "internal/bytealg.abigen_runtime_cmpstring", "slices.overlaps[caravan/api.Move]", "slices.overlaps[caravan/api.Pair]", "slices.overlaps[caravan/api.Seen]"], unfollowed := true, recurses := true, named := ["internal/bytealg.MaxLen"], apart := false }
def MoveRunsSaid : Prop := moveRunsRow.holds Tryz.pinned (OpenSpec.ofChange moveRunsSpec)

/-- ITS FALSE NEIGHBOUR: 'it returns false'. Refute it at one input. -/
def moveRunsWrong : ChangeSpec := { name := "moveRuns", fn := fun _ => fun
  | [d1, d2, d3] => { results := [.lit (.bool false)], args := [d1, d2, d3] }
  | _ => none }
def MoveRunsWrongFalsely : Prop := moveRunsRow.holds Tryz.pinned (OpenSpec.ofChange moveRunsWrong)

/-- 'caravanlaw16.MoveEnds': WHATEVER THE INPUT: true; the input reads as it did. -/
def moveEndsSpec : ChangeSpec := { name := "moveEnds", fn := fun _ => fun
  | [d1, d2] => { results := [.lit (.bool true)], args := [d1, d2] }
  | _ => none }
def moveEndsRow : OpenClaim := { program := "ytlbdhlbbkibgpaagreat", sum := "97a3932763ccde7e635c65c90fc99fe352ca2d0ba70b21879067baa99128c1b9", func := "caravan/caravanlaw16.MoveEnds", spec := "moveEnds", inPlace := ["internal/bytealg.IndexByteString", "internal/bytealg.IndexString", "internal/bytealg.abigen_runtime_cmpstring", "slices.overlaps[caravan/api.Move]", "slices.overlaps[caravan/api.Pair]", "slices.overlaps[caravan/api.Seen]"], unfollowed := true, recurses := true, named := ["internal/bytealg.MaxLen"], apart := false }
def MoveEndsSaid : Prop := moveEndsRow.holds Tryz.pinned (OpenSpec.ofChange moveEndsSpec)

/-- ITS FALSE NEIGHBOUR: 'it returns false'. Refute it at one input. -/
def moveEndsWrong : ChangeSpec := { name := "moveEnds", fn := fun _ => fun
  | [d1, d2] => { results := [.lit (.bool false)], args := [d1, d2] }
  | _ => none }
def MoveEndsWrongFalsely : Prop := moveEndsRow.holds Tryz.pinned (OpenSpec.ofChange moveEndsWrong)

/- THE SECOND FORM. 'bulk': how many values and letters a reading holds, each counted each time it is reached (what is shared counts as often as it is met; a slice's spare places count too). A statement '..UptoSaid' is the law's where the arguments, and the package variables that the reading takes, are together of bulk at most 1048576: NARROWER than '..Said'. Prove '..Said' where nothing that the law and all that it calls make is longer than what came in: it says more and counts as full. Else prove '..UptoSaid'. A law counts once. -/
mutual
def uptoBulk {H : Type} : DataW H → Nat
  | .lit (.string bytes) => bytes.length + 1
  | .lit _ => 1
  | .nil => 1
  | .ptr d => uptoBulk d + 1
  | .slice elems spare => uptoBulkAll elems + uptoBulkAll spare + 1
  | .agg parts => uptoBulkAll parts + 1
  | .iface _ d => uptoBulk d + 1
  | .map entries => uptoBulkEntries entries + 1
  | .held _ => 1
def uptoBulkAll {H : Type} : List (DataW H) → Nat
  | [] => 0
  | d :: r => uptoBulk d + uptoBulkAll r
def uptoBulkEntries {H : Type} : List (Lit × DataW H) → Nat
  | [] => 0
  | x :: r => uptoBulkEntry x + uptoBulkEntries r
def uptoBulkEntry {H : Type} : Lit × DataW H → Nat
  | (.string bytes, d) => bytes.length + uptoBulk d + 1
  | (_, d) => uptoBulk d + 1
 end
def uptoSmall : (H : Type) → List (DataW H) → Bool := fun _ ds => decide (uptoBulkAll ds ≤ 1048576)
def OpenSpec.upto (s : _root_.Go.ChangeSpec) : _root_.Go.OpenSpec := { _root_.Go.OpenSpec.ofChange s with cond := some uptoSmall }

/-- 'caravanlaw16.MoveLate', WHERE WHAT IT READS IS OF BULK AT MOST 1048576: true; the input reads as it did. -/
def moveLateUptoRow : OpenClaim := { program := "ytlbdhlbbkibgpaagreat", sum := "97a3932763ccde7e635c65c90fc99fe352ca2d0ba70b21879067baa99128c1b9", func := "caravan/caravanlaw16.MoveLate", spec := "moveLate", inPlace := ["internal/bytealg.IndexByteString", "internal/bytealg.IndexString", "internal/bytealg.abigen_runtime_cmpstring", "slices.overlaps[caravan/api.Move]", "slices.overlaps[caravan/api.Pair]"], unfollowed := true, recurses := true, named := ["internal/bytealg.MaxLen"], apart := false, narrowed := true }
def MoveLateUptoSaid : Prop := moveLateUptoRow.holds Tryz.pinned (OpenSpec.upto moveLateSpec)

/-- 'caravanlaw16.MoveOnce', WHERE WHAT IT READS IS OF BULK AT MOST 1048576: true; the input reads as it did. -/
def moveOnceUptoRow : OpenClaim := { program := "ytlbdhlbbkibgpaagreat", sum := "97a3932763ccde7e635c65c90fc99fe352ca2d0ba70b21879067baa99128c1b9", func := "caravan/caravanlaw16.MoveOnce", spec := "moveOnce", inPlace := ["internal/bytealg.IndexByteString", "internal/bytealg.IndexString", "internal/bytealg.abigen_runtime_cmpstring", "slices.overlaps[caravan/api.Move]", "slices.overlaps[caravan/api.Pair]", "slices.overlaps[caravan/api.Seen]"], unfollowed := true, recurses := true, named := ["internal/bytealg.MaxLen"], apart := false, narrowed := true }
def MoveOnceUptoSaid : Prop := moveOnceUptoRow.holds Tryz.pinned (OpenSpec.upto moveOnceSpec)

/-- 'caravanlaw16.MoveRuns', WHERE WHAT IT READS IS OF BULK AT MOST 1048576: true; the input reads as it did. -/
def moveRunsUptoRow : OpenClaim := { program := "ytlbdhlbbkibgpaagreat", sum := "97a3932763ccde7e635c65c90fc99fe352ca2d0ba70b21879067baa99128c1b9", func := "caravan/caravanlaw16.MoveRuns", spec := "moveRuns", inPlace := ["internal/bytealg.IndexByteString", "internal/bytealg.IndexString", "internal/bytealg.abigen_runtime_cmpstring", "slices.overlaps[caravan/api.Move]", "slices.overlaps[caravan/api.Pair]", "slices.overlaps[caravan/api.Seen]"], unfollowed := true, recurses := true, named := ["internal/bytealg.MaxLen"], apart := false, narrowed := true }
def MoveRunsUptoSaid : Prop := moveRunsUptoRow.holds Tryz.pinned (OpenSpec.upto moveRunsSpec)

/-- 'caravanlaw16.MoveEnds', WHERE WHAT IT READS IS OF BULK AT MOST 1048576: true; the input reads as it did. -/
def moveEndsUptoRow : OpenClaim := { program := "ytlbdhlbbkibgpaagreat", sum := "97a3932763ccde7e635c65c90fc99fe352ca2d0ba70b21879067baa99128c1b9", func := "caravan/caravanlaw16.MoveEnds", spec := "moveEnds", inPlace := ["internal/bytealg.IndexByteString", "internal/bytealg.IndexString", "internal/bytealg.abigen_runtime_cmpstring", "slices.overlaps[caravan/api.Move]", "slices.overlaps[caravan/api.Pair]", "slices.overlaps[caravan/api.Seen]"], unfollowed := true, recurses := true, named := ["internal/bytealg.MaxLen"], apart := false, narrowed := true }
def MoveEndsUptoSaid : Prop := moveEndsUptoRow.holds Tryz.pinned (OpenSpec.upto moveEndsSpec)

end Rows
end Go.Proofs.YtlbdhlbbkibgpaaGreat
