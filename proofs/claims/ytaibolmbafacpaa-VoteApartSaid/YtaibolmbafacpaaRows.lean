/-
  No cell of these rows narrows 'for every input' (looked for: loops, veiled, ifaces, maps, wideKeys, modest, calm, conditions, laid).
  DERIVED. THE GIVEN ROWS OF THIS SEAT. 4 by the template 'for every input the law returns true; each argument reads behind the call as it read before'; 0 by the template 'total and deterministic' (their statements: YtaibolmbafacpaaTotals.lean).
  GIVEN WITH THE SEED: the statements are not yours to turn. If you find one false, say at which input.
  Laid BY PROGRAM, IN A SANDBOX (cutbox-rows.mjs): the forced cells as the released guide's own fill.sh prints them over the translation aa8e05b5c0c1ebdf… (all of the seat's roots in one cut). By AI agents, Wed Nov 11 2026. No macro, syntax, notation, axiom, sorry.
-/
import Derived.Test.YtaibolmbafacpaaChecked
import GoSem.Claim
import GoSem.ClaimJoined
import GoSem.ClaimMapViews
import Derived.JoinedTies
import Derived.KernelRfl
namespace Go.Proofs.Ytaibolmbafacpaa
/- THE CELL 'sum', in the pinned program and in every row, IS THE sha256 OF THE DUMP (.gsa) THAT YtaibolmbafacpaaProg.lean LOADS. Nothing in Lean hashes anything: it is a label: what it is worth is what the hold of that sum in a sandbox is worth. -/
noncomputable def Try.pinned : Pinned := { name := "ytaibolmbafacpaa", sum := "aa8e05b5c0c1ebdf613277e6892da5318cb31ccb6815dff9f5affea933809500", checked := Try.checked }
namespace Rows
def none {H : Type} : Left H := { results := [], args := [] }

/-- 'caravanlaw18.VoteOnce': WHATEVER THE INPUT: true; the input reads as it did. -/
def voteOnceSpec : ChangeSpec := { name := "voteOnce", fn := fun _ => fun
  | [d1, d2] => { results := [.lit (.bool true)], args := [d1, d2] }
  | _ => none }
def voteOnceRow : OpenClaim := { program := "ytaibolmbafacpaa", sum := "aa8e05b5c0c1ebdf613277e6892da5318cb31ccb6815dff9f5affea933809500", func := "caravan/caravanlaw18.VoteOnce", spec := "voteOnce", recurses := true, apart := false }
def VoteOnceSaid : Prop := voteOnceRow.holds Try.pinned (OpenSpec.ofChange voteOnceSpec)

/-- ITS FALSE NEIGHBOUR: 'it returns false'. Refute it at one input. -/
def voteOnceWrong : ChangeSpec := { name := "voteOnce", fn := fun _ => fun
  | [d1, d2] => { results := [.lit (.bool false)], args := [d1, d2] }
  | _ => none }
def VoteOnceWrongFalsely : Prop := voteOnceRow.holds Try.pinned (OpenSpec.ofChange voteOnceWrong)

/-- 'caravanlaw18.VoteHeard': WHATEVER THE INPUT: true; the input reads as it did. -/
def voteHeardSpec : ChangeSpec := { name := "voteHeard", fn := fun _ => fun
  | [d1, d2, d3] => { results := [.lit (.bool true)], args := [d1, d2, d3] }
  | _ => none }
def voteHeardRow : OpenClaim := { program := "ytaibolmbafacpaa", sum := "aa8e05b5c0c1ebdf613277e6892da5318cb31ccb6815dff9f5affea933809500", func := "caravan/caravanlaw18.VoteHeard", spec := "voteHeard", recurses := true, apart := false }
def VoteHeardSaid : Prop := voteHeardRow.holds Try.pinned (OpenSpec.ofChange voteHeardSpec)

/-- ITS FALSE NEIGHBOUR: 'it returns false'. Refute it at one input. -/
def voteHeardWrong : ChangeSpec := { name := "voteHeard", fn := fun _ => fun
  | [d1, d2, d3] => { results := [.lit (.bool false)], args := [d1, d2, d3] }
  | _ => none }
def VoteHeardWrongFalsely : Prop := voteHeardRow.holds Try.pinned (OpenSpec.ofChange voteHeardWrong)

/-- 'caravanlaw18.VoteWins': WHATEVER THE INPUT: true; the input reads as it did. -/
def voteWinsSpec : ChangeSpec := { name := "voteWins", fn := fun _ => fun
  | [d1, d2] => { results := [.lit (.bool true)], args := [d1, d2] }
  | _ => none }
def voteWinsRow : OpenClaim := { program := "ytaibolmbafacpaa", sum := "aa8e05b5c0c1ebdf613277e6892da5318cb31ccb6815dff9f5affea933809500", func := "caravan/caravanlaw18.VoteWins", spec := "voteWins", inPlace := ["slices.overlaps[int]"], unfollowed := true, recurses := true, apart := false }
def VoteWinsSaid : Prop := voteWinsRow.holds Try.pinned (OpenSpec.ofChange voteWinsSpec)

/-- ITS FALSE NEIGHBOUR: 'it returns false'. Refute it at one input. -/
def voteWinsWrong : ChangeSpec := { name := "voteWins", fn := fun _ => fun
  | [d1, d2] => { results := [.lit (.bool false)], args := [d1, d2] }
  | _ => none }
def VoteWinsWrongFalsely : Prop := voteWinsRow.holds Try.pinned (OpenSpec.ofChange voteWinsWrong)

/-- 'caravanlaw18.VoteApart': WHATEVER THE INPUT: true; the input reads as it did. -/
def voteApartSpec : ChangeSpec := { name := "voteApart", fn := fun _ => fun
  | [d] => { results := [.lit (.bool true)], args := [d] }
  | _ => none }
def voteApartRow : OpenClaim := { program := "ytaibolmbafacpaa", sum := "aa8e05b5c0c1ebdf613277e6892da5318cb31ccb6815dff9f5affea933809500", func := "caravan/caravanlaw18.VoteApart", spec := "voteApart", inPlace := ["slices.overlaps[int]"], unfollowed := true, recurses := true, apart := false }
def VoteApartSaid : Prop := voteApartRow.holds Try.pinned (OpenSpec.ofChange voteApartSpec)

/-- ITS FALSE NEIGHBOUR: 'it returns false'. Refute it at one input. -/
def voteApartWrong : ChangeSpec := { name := "voteApart", fn := fun _ => fun
  | [d] => { results := [.lit (.bool false)], args := [d] }
  | _ => none }
def VoteApartWrongFalsely : Prop := voteApartRow.holds Try.pinned (OpenSpec.ofChange voteApartWrong)

/- THE SECOND FORM. 'bulk': how many values and letters a reading holds, each counted each time it is reached (what is shared counts as often as it is met; a slice's spare places count too). A statement '..UptoSaid' is the law's where the arguments, and the package variables that the reading takes, are together of bulk at most 1048576: NARROWER than '..Said'. Prove '..Said' where nothing that the law and all that it calls make is longer than what came in: it says more and counts as full. Else prove '..UptoSaid'. A law counts once. -/
mutual
def uptoBulk {H : Type} : DataW H → Nat
  | .lit (.string bytes) => bytes.length + 1
  | .lit _ => 1
  | .nil => 1
  | .ptr d => uptoBulk d + 1
  | .slice elems spare => uptoBulkAll elems + uptoBulkAll spare + 1
  | .agg parts => uptoBulkAll parts + 1
  | .iface _ d => uptoBulk d + 1
  | .map entries => uptoBulkEntries entries + 1
  | .held _ => 1
def uptoBulkAll {H : Type} : List (DataW H) → Nat
  | [] => 0
  | d :: r => uptoBulk d + uptoBulkAll r
def uptoBulkEntries {H : Type} : List (Lit × DataW H) → Nat
  | [] => 0
  | x :: r => uptoBulkEntry x + uptoBulkEntries r
def uptoBulkEntry {H : Type} : Lit × DataW H → Nat
  | (.string bytes, d) => bytes.length + uptoBulk d + 1
  | (_, d) => uptoBulk d + 1
 end
def uptoSmall : (H : Type) → List (DataW H) → Bool := fun _ ds => decide (uptoBulkAll ds ≤ 1048576)
def OpenSpec.upto (s : _root_.Go.ChangeSpec) : _root_.Go.OpenSpec := { _root_.Go.OpenSpec.ofChange s with cond := some uptoSmall }

/-- 'caravanlaw18.VoteOnce', WHERE WHAT IT READS IS OF BULK AT MOST 1048576: true; the input reads as it did. -/
def voteOnceUptoRow : OpenClaim := { program := "ytaibolmbafacpaa", sum := "aa8e05b5c0c1ebdf613277e6892da5318cb31ccb6815dff9f5affea933809500", func := "caravan/caravanlaw18.VoteOnce", spec := "voteOnce", recurses := true, apart := false, narrowed := true }
def VoteOnceUptoSaid : Prop := voteOnceUptoRow.holds Try.pinned (OpenSpec.upto voteOnceSpec)

/-- 'caravanlaw18.VoteHeard', WHERE WHAT IT READS IS OF BULK AT MOST 1048576: true; the input reads as it did. -/
def voteHeardUptoRow : OpenClaim := { program := "ytaibolmbafacpaa", sum := "aa8e05b5c0c1ebdf613277e6892da5318cb31ccb6815dff9f5affea933809500", func := "caravan/caravanlaw18.VoteHeard", spec := "voteHeard", recurses := true, apart := false, narrowed := true }
def VoteHeardUptoSaid : Prop := voteHeardUptoRow.holds Try.pinned (OpenSpec.upto voteHeardSpec)

/-- 'caravanlaw18.VoteWins', WHERE WHAT IT READS IS OF BULK AT MOST 1048576: true; the input reads as it did. -/
def voteWinsUptoRow : OpenClaim := { program := "ytaibolmbafacpaa", sum := "aa8e05b5c0c1ebdf613277e6892da5318cb31ccb6815dff9f5affea933809500", func := "caravan/caravanlaw18.VoteWins", spec := "voteWins", inPlace := ["slices.overlaps[int]"], unfollowed := true, recurses := true, apart := false, narrowed := true }
def VoteWinsUptoSaid : Prop := voteWinsUptoRow.holds Try.pinned (OpenSpec.upto voteWinsSpec)

/-- 'caravanlaw18.VoteApart', WHERE WHAT IT READS IS OF BULK AT MOST 1048576: true; the input reads as it did. -/
def voteApartUptoRow : OpenClaim := { program := "ytaibolmbafacpaa", sum := "aa8e05b5c0c1ebdf613277e6892da5318cb31ccb6815dff9f5affea933809500", func := "caravan/caravanlaw18.VoteApart", spec := "voteApart", inPlace := ["slices.overlaps[int]"], unfollowed := true, recurses := true, apart := false, narrowed := true }
def VoteApartUptoSaid : Prop := voteApartUptoRow.holds Try.pinned (OpenSpec.upto voteApartSpec)

end Rows
end Go.Proofs.Ytaibolmbafacpaa
