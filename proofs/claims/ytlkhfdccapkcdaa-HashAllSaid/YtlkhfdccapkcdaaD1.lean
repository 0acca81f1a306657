/- The program's data, as it lies in memory. -/
import Derived.Test.YtlkhfdccapkcdaaA31
import Derived.Test.YtlkhfdccapkcdaaTb
namespace Go.Proofs.Ytlkhfdccapkcdaa
open Go Go.RowKit
set_option linter.unusedVariables false
set_option linter.unusedSimpArgs false
def encS (l : List ByteArray) : List (List T) := l.map fun x => [.v (.string x)]
theorem lvs_encS1 (x : ByteArray) : lvs (encS [x]) = [.s (.string x)] := rfl
@[simp] theorem encS_length (l : List ByteArray) : (encS l).length = l.length := by simp [encS]
@[simp high] theorem encS_get (l : List ByteArray) (i : Nat) : (encS l)[i]? = (l[i]?).map fun x => [.v (.string x)] := by simp [encS]
@[simp] theorem encS_nil : encS [] = [] := rfl
theorem encS_cons (x : ByteArray) (l : List ByteArray) : encS (x :: l) = [.v (.string x)] :: encS l := rfl
theorem encS_append (l m : List ByteArray) : encS (l ++ m) = encS l ++ encS m := by simp [encS]
theorem encS_take (l : List ByteArray) (n : Nat) : (encS l).take n = encS (l.take n) := by simp [encS]
theorem encS_drop (l : List ByteArray) (n : Nat) : (encS l).drop n = encS (l.drop n) := by simp [encS]
theorem encS_sz (l : List ByteArray) : ∀ e ∈ encS l, e.length = 1 := by
  intro e h
  obtain ⟨x, _, rfl⟩ := List.mem_map.1 h
  rfl
@[simp] theorem encS_eq_nil (l : List ByteArray) : (encS l = []) = (l = []) := by simp [encS]
def encI (l : List Int) : List (List T) := l.map fun x => [.v (.int .i64 x)]
theorem lvs_encI1 (x : Int) : lvs (encI [x]) = [.s (.int .i64 x)] := rfl
@[simp] theorem encI_length (l : List Int) : (encI l).length = l.length := by simp [encI]
@[simp high] theorem encI_get (l : List Int) (i : Nat) : (encI l)[i]? = (l[i]?).map fun x => [.v (.int .i64 x)] := by simp [encI]
@[simp] theorem encI_nil : encI [] = [] := rfl
theorem encI_cons (x : Int) (l : List Int) : encI (x :: l) = [.v (.int .i64 x)] :: encI l := rfl
theorem encI_append (l m : List Int) : encI (l ++ m) = encI l ++ encI m := by simp [encI]
theorem encI_take (l : List Int) (n : Nat) : (encI l).take n = encI (l.take n) := by simp [encI]
theorem encI_drop (l : List Int) (n : Nat) : (encI l).drop n = encI (l.drop n) := by simp [encI]
theorem encI_sz (l : List Int) : ∀ e ∈ encI l, e.length = 1 := by
  intro e h
  obtain ⟨x, _, rfl⟩ := List.mem_map.1 h
  rfl
@[simp] theorem encI_eq_nil (l : List Int) : (encI l = []) = (l = []) := by simp [encI]
def encB (l : List Bool) : List (List T) := l.map fun x => [.v (.bool x)]
theorem lvs_encB1 (x : Bool) : lvs (encB [x]) = [.s (.bool x)] := rfl
@[simp] theorem encB_length (l : List Bool) : (encB l).length = l.length := by simp [encB]
@[simp high] theorem encB_get (l : List Bool) (i : Nat) : (encB l)[i]? = (l[i]?).map fun x => [.v (.bool x)] := by simp [encB]
@[simp] theorem encB_nil : encB [] = [] := rfl
theorem encB_cons (x : Bool) (l : List Bool) : encB (x :: l) = [.v (.bool x)] :: encB l := rfl
theorem encB_append (l m : List Bool) : encB (l ++ m) = encB l ++ encB m := by simp [encB]
theorem encB_take (l : List Bool) (n : Nat) : (encB l).take n = encB (l.take n) := by simp [encB]
theorem encB_drop (l : List Bool) (n : Nat) : (encB l).drop n = encB (l.drop n) := by simp [encB]
theorem encB_sz (l : List Bool) : ∀ e ∈ encB l, e.length = 1 := by
  intro e h
  obtain ⟨x, _, rfl⟩ := List.mem_map.1 h
  rfl
@[simp] theorem encB_eq_nil (l : List Bool) : (encB l = []) = (l = []) := by simp [encB]
structure Field where
  name : ByteArray
  val : ByteArray
deriving DecidableEq, Inhabited
attribute [ext] Field
def encField (l : List Field) : List (List T) := l.map fun x => [.v (.string x.name), .v (.string x.val)]
theorem lvs_encField1 (x : Field) : lvs (encField [x]) = [.s (.string x.name), .s (.string x.val)] := rfl
@[simp] theorem encField_length (l : List Field) : (encField l).length = l.length := by simp [encField]
@[simp high] theorem encField_get (l : List Field) (i : Nat) : (encField l)[i]? = (l[i]?).map fun x => [.v (.string x.name), .v (.string x.val)] := by simp [encField]
@[simp] theorem encField_nil : encField [] = [] := rfl
theorem encField_cons (x : Field) (l : List Field) : encField (x :: l) = [.v (.string x.name), .v (.string x.val)] :: encField l := rfl
theorem encField_append (l m : List Field) : encField (l ++ m) = encField l ++ encField m := by simp [encField]
theorem encField_take (l : List Field) (n : Nat) : (encField l).take n = encField (l.take n) := by simp [encField]
theorem encField_drop (l : List Field) (n : Nat) : (encField l).drop n = encField (l.drop n) := by simp [encField]
theorem encField_sz (l : List Field) : ∀ e ∈ encField l, e.length = 2 := by
  intro e h
  obtain ⟨x, _, rfl⟩ := List.mem_map.1 h
  rfl
@[simp] theorem encField_eq_nil (l : List Field) : (encField l = []) = (l = []) := by simp [encField]
structure Item where
  kind : Int
  s : ByteArray
  f : List Field
  l : List ByteArray
  exp : Int
deriving DecidableEq, Inhabited
attribute [ext] Item
def encItem (l : List Item) : List (List T) := l.map fun x => [.v (.int .i64 x.kind), .v (.string x.s), .sl 2 (encField x.f), .sl 1 (encS x.l), .v (.int .i64 x.exp)]
theorem lvs_encItem1 (x : Item) : lvs (encItem [x]) = [.s (.int .i64 x.kind), .s (.string x.s), .d false 2 (encField x.f), .d false 1 (encS x.l), .s (.int .i64 x.exp)] := rfl
@[simp] theorem encItem_length (l : List Item) : (encItem l).length = l.length := by simp [encItem]
@[simp high] theorem encItem_get (l : List Item) (i : Nat) : (encItem l)[i]? = (l[i]?).map fun x => [.v (.int .i64 x.kind), .v (.string x.s), .sl 2 (encField x.f), .sl 1 (encS x.l), .v (.int .i64 x.exp)] := by simp [encItem]
@[simp] theorem encItem_nil : encItem [] = [] := rfl
theorem encItem_cons (x : Item) (l : List Item) : encItem (x :: l) = [.v (.int .i64 x.kind), .v (.string x.s), .sl 2 (encField x.f), .sl 1 (encS x.l), .v (.int .i64 x.exp)] :: encItem l := rfl
theorem encItem_append (l m : List Item) : encItem (l ++ m) = encItem l ++ encItem m := by simp [encItem]
theorem encItem_take (l : List Item) (n : Nat) : (encItem l).take n = encItem (l.take n) := by simp [encItem]
theorem encItem_drop (l : List Item) (n : Nat) : (encItem l).drop n = encItem (l.drop n) := by simp [encItem]
theorem encItem_sz (l : List Item) : ∀ e ∈ encItem l, e.length = 5 := by
  intro e h
  obtain ⟨x, _, rfl⟩ := List.mem_map.1 h
  rfl
@[simp] theorem encItem_eq_nil (l : List Item) : (encItem l = []) = (l = []) := by simp [encItem]
structure Pair where
  key : ByteArray
  item : Item
deriving DecidableEq, Inhabited
attribute [ext] Pair
def encPair (l : List Pair) : List (List T) := l.map fun x => [.v (.string x.key), .v (.int .i64 x.item.kind), .v (.string x.item.s), .sl 2 (encField x.item.f), .sl 1 (encS x.item.l), .v (.int .i64 x.item.exp)]
theorem lvs_encPair1 (x : Pair) : lvs (encPair [x]) = [.s (.string x.key), .s (.int .i64 x.item.kind), .s (.string x.item.s), .d false 2 (encField x.item.f), .d false 1 (encS x.item.l), .s (.int .i64 x.item.exp)] := rfl
@[simp] theorem encPair_length (l : List Pair) : (encPair l).length = l.length := by simp [encPair]
@[simp high] theorem encPair_get (l : List Pair) (i : Nat) : (encPair l)[i]? = (l[i]?).map fun x => [.v (.string x.key), .v (.int .i64 x.item.kind), .v (.string x.item.s), .sl 2 (encField x.item.f), .sl 1 (encS x.item.l), .v (.int .i64 x.item.exp)] := by simp [encPair]
@[simp] theorem encPair_nil : encPair [] = [] := rfl
theorem encPair_cons (x : Pair) (l : List Pair) : encPair (x :: l) = [.v (.string x.key), .v (.int .i64 x.item.kind), .v (.string x.item.s), .sl 2 (encField x.item.f), .sl 1 (encS x.item.l), .v (.int .i64 x.item.exp)] :: encPair l := rfl
theorem encPair_append (l m : List Pair) : encPair (l ++ m) = encPair l ++ encPair m := by simp [encPair]
theorem encPair_take (l : List Pair) (n : Nat) : (encPair l).take n = encPair (l.take n) := by simp [encPair]
theorem encPair_drop (l : List Pair) (n : Nat) : (encPair l).drop n = encPair (l.drop n) := by simp [encPair]
theorem encPair_sz (l : List Pair) : ∀ e ∈ encPair l, e.length = 6 := by
  intro e h
  obtain ⟨x, _, rfl⟩ := List.mem_map.1 h
  rfl
@[simp] theorem encPair_eq_nil (l : List Pair) : (encPair l = []) = (l = []) := by simp [encPair]
structure Effect where
  key : ByteArray
  gone : Bool
  item : Item
deriving DecidableEq, Inhabited
attribute [ext] Effect
def encEffect (l : List Effect) : List (List T) := l.map fun x => [.v (.string x.key), .v (.bool x.gone), .v (.int .i64 x.item.kind), .v (.string x.item.s), .sl 2 (encField x.item.f), .sl 1 (encS x.item.l), .v (.int .i64 x.item.exp)]
theorem lvs_encEffect1 (x : Effect) : lvs (encEffect [x]) = [.s (.string x.key), .s (.bool x.gone), .s (.int .i64 x.item.kind), .s (.string x.item.s), .d false 2 (encField x.item.f), .d false 1 (encS x.item.l), .s (.int .i64 x.item.exp)] := rfl
@[simp] theorem encEffect_length (l : List Effect) : (encEffect l).length = l.length := by simp [encEffect]
@[simp high] theorem encEffect_get (l : List Effect) (i : Nat) : (encEffect l)[i]? = (l[i]?).map fun x => [.v (.string x.key), .v (.bool x.gone), .v (.int .i64 x.item.kind), .v (.string x.item.s), .sl 2 (encField x.item.f), .sl 1 (encS x.item.l), .v (.int .i64 x.item.exp)] := by simp [encEffect]
@[simp] theorem encEffect_nil : encEffect [] = [] := rfl
theorem encEffect_cons (x : Effect) (l : List Effect) : encEffect (x :: l) = [.v (.string x.key), .v (.bool x.gone), .v (.int .i64 x.item.kind), .v (.string x.item.s), .sl 2 (encField x.item.f), .sl 1 (encS x.item.l), .v (.int .i64 x.item.exp)] :: encEffect l := rfl
theorem encEffect_append (l m : List Effect) : encEffect (l ++ m) = encEffect l ++ encEffect m := by simp [encEffect]
theorem encEffect_take (l : List Effect) (n : Nat) : (encEffect l).take n = encEffect (l.take n) := by simp [encEffect]
theorem encEffect_drop (l : List Effect) (n : Nat) : (encEffect l).drop n = encEffect (l.drop n) := by simp [encEffect]
theorem encEffect_sz (l : List Effect) : ∀ e ∈ encEffect l, e.length = 7 := by
  intro e h
  obtain ⟨x, _, rfl⟩ := List.mem_map.1 h
  rfl
@[simp] theorem encEffect_eq_nil (l : List Effect) : (encEffect l = []) = (l = []) := by simp [encEffect]
structure Rid where
  node : Int
  epoch : Int
deriving DecidableEq, Inhabited
attribute [ext] Rid
def encRid (l : List Rid) : List (List T) := l.map fun x => [.v (.int .i64 x.node), .v (.int .i64 x.epoch)]
theorem lvs_encRid1 (x : Rid) : lvs (encRid [x]) = [.s (.int .i64 x.node), .s (.int .i64 x.epoch)] := rfl
@[simp] theorem encRid_length (l : List Rid) : (encRid l).length = l.length := by simp [encRid]
@[simp high] theorem encRid_get (l : List Rid) (i : Nat) : (encRid l)[i]? = (l[i]?).map fun x => [.v (.int .i64 x.node), .v (.int .i64 x.epoch)] := by simp [encRid]
@[simp] theorem encRid_nil : encRid [] = [] := rfl
theorem encRid_cons (x : Rid) (l : List Rid) : encRid (x :: l) = [.v (.int .i64 x.node), .v (.int .i64 x.epoch)] :: encRid l := rfl
theorem encRid_append (l m : List Rid) : encRid (l ++ m) = encRid l ++ encRid m := by simp [encRid]
theorem encRid_take (l : List Rid) (n : Nat) : (encRid l).take n = encRid (l.take n) := by simp [encRid]
theorem encRid_drop (l : List Rid) (n : Nat) : (encRid l).drop n = encRid (l.drop n) := by simp [encRid]
theorem encRid_sz (l : List Rid) : ∀ e ∈ encRid l, e.length = 2 := by
  intro e h
  obtain ⟨x, _, rfl⟩ := List.mem_map.1 h
  rfl
@[simp] theorem encRid_eq_nil (l : List Rid) : (encRid l = []) = (l = []) := by simp [encRid]
structure Feed where
  rid : Rid
  off : Int
  back : List Effect
  prev : Rid
  upto : Int
deriving DecidableEq, Inhabited
attribute [ext] Feed
def encFeed (l : List Feed) : List (List T) := l.map fun x => [.v (.int .i64 x.rid.node), .v (.int .i64 x.rid.epoch), .v (.int .i64 x.off), .sl 7 (encEffect x.back), .v (.int .i64 x.prev.node), .v (.int .i64 x.prev.epoch), .v (.int .i64 x.upto)]
theorem lvs_encFeed1 (x : Feed) : lvs (encFeed [x]) = [.s (.int .i64 x.rid.node), .s (.int .i64 x.rid.epoch), .s (.int .i64 x.off), .d false 7 (encEffect x.back), .s (.int .i64 x.prev.node), .s (.int .i64 x.prev.epoch), .s (.int .i64 x.upto)] := rfl
@[simp] theorem encFeed_length (l : List Feed) : (encFeed l).length = l.length := by simp [encFeed]
@[simp high] theorem encFeed_get (l : List Feed) (i : Nat) : (encFeed l)[i]? = (l[i]?).map fun x => [.v (.int .i64 x.rid.node), .v (.int .i64 x.rid.epoch), .v (.int .i64 x.off), .sl 7 (encEffect x.back), .v (.int .i64 x.prev.node), .v (.int .i64 x.prev.epoch), .v (.int .i64 x.upto)] := by simp [encFeed]
@[simp] theorem encFeed_nil : encFeed [] = [] := rfl
theorem encFeed_cons (x : Feed) (l : List Feed) : encFeed (x :: l) = [.v (.int .i64 x.rid.node), .v (.int .i64 x.rid.epoch), .v (.int .i64 x.off), .sl 7 (encEffect x.back), .v (.int .i64 x.prev.node), .v (.int .i64 x.prev.epoch), .v (.int .i64 x.upto)] :: encFeed l := rfl
theorem encFeed_append (l m : List Feed) : encFeed (l ++ m) = encFeed l ++ encFeed m := by simp [encFeed]
theorem encFeed_take (l : List Feed) (n : Nat) : (encFeed l).take n = encFeed (l.take n) := by simp [encFeed]
theorem encFeed_drop (l : List Feed) (n : Nat) : (encFeed l).drop n = encFeed (l.drop n) := by simp [encFeed]
theorem encFeed_sz (l : List Feed) : ∀ e ∈ encFeed l, e.length = 7 := by
  intro e h
  obtain ⟨x, _, rfl⟩ := List.mem_map.1 h
  rfl
@[simp] theorem encFeed_eq_nil (l : List Feed) : (encFeed l = []) = (l = []) := by simp [encFeed]
structure Claim where
  frm : Int
  to : Int
  node : Int
  epoch : Int
deriving DecidableEq, Inhabited
attribute [ext] Claim
def encClaim (l : List Claim) : List (List T) := l.map fun x => [.v (.int .i64 x.frm), .v (.int .i64 x.to), .v (.int .i64 x.node), .v (.int .i64 x.epoch)]
theorem lvs_encClaim1 (x : Claim) : lvs (encClaim [x]) = [.s (.int .i64 x.frm), .s (.int .i64 x.to), .s (.int .i64 x.node), .s (.int .i64 x.epoch)] := rfl
@[simp] theorem encClaim_length (l : List Claim) : (encClaim l).length = l.length := by simp [encClaim]
@[simp high] theorem encClaim_get (l : List Claim) (i : Nat) : (encClaim l)[i]? = (l[i]?).map fun x => [.v (.int .i64 x.frm), .v (.int .i64 x.to), .v (.int .i64 x.node), .v (.int .i64 x.epoch)] := by simp [encClaim]
@[simp] theorem encClaim_nil : encClaim [] = [] := rfl
theorem encClaim_cons (x : Claim) (l : List Claim) : encClaim (x :: l) = [.v (.int .i64 x.frm), .v (.int .i64 x.to), .v (.int .i64 x.node), .v (.int .i64 x.epoch)] :: encClaim l := rfl
theorem encClaim_append (l m : List Claim) : encClaim (l ++ m) = encClaim l ++ encClaim m := by simp [encClaim]
theorem encClaim_take (l : List Claim) (n : Nat) : (encClaim l).take n = encClaim (l.take n) := by simp [encClaim]
theorem encClaim_drop (l : List Claim) (n : Nat) : (encClaim l).drop n = encClaim (l.drop n) := by simp [encClaim]
theorem encClaim_sz (l : List Claim) : ∀ e ∈ encClaim l, e.length = 4 := by
  intro e h
  obtain ⟨x, _, rfl⟩ := List.mem_map.1 h
  rfl
@[simp] theorem encClaim_eq_nil (l : List Claim) : (encClaim l = []) = (l = []) := by simp [encClaim]
structure Msg where
  kind : Int
  frm : Int
  to : Int
  epoch : Int
  claims : List Claim
  nodes : List Int
  node : Int
  slot : Int
  num : Int
  rid : Rid
  prev : Rid
  off : Int
  effects : List Effect
deriving DecidableEq, Inhabited
attribute [ext] Msg
def encMsg (l : List Msg) : List (List T) := l.map fun x => [.v (.int .i64 x.kind), .v (.int .i64 x.frm), .v (.int .i64 x.to), .v (.int .i64 x.epoch), .sl 4 (encClaim x.claims), .sl 1 (encI x.nodes), .v (.int .i64 x.node), .v (.int .i64 x.slot), .v (.int .i64 x.num), .v (.int .i64 x.rid.node), .v (.int .i64 x.rid.epoch), .v (.int .i64 x.prev.node), .v (.int .i64 x.prev.epoch), .v (.int .i64 x.off), .sl 7 (encEffect x.effects)]
theorem lvs_encMsg1 (x : Msg) : lvs (encMsg [x]) = [.s (.int .i64 x.kind), .s (.int .i64 x.frm), .s (.int .i64 x.to), .s (.int .i64 x.epoch), .d false 4 (encClaim x.claims), .d false 1 (encI x.nodes), .s (.int .i64 x.node), .s (.int .i64 x.slot), .s (.int .i64 x.num), .s (.int .i64 x.rid.node), .s (.int .i64 x.rid.epoch), .s (.int .i64 x.prev.node), .s (.int .i64 x.prev.epoch), .s (.int .i64 x.off), .d false 7 (encEffect x.effects)] := rfl
@[simp] theorem encMsg_length (l : List Msg) : (encMsg l).length = l.length := by simp [encMsg]
@[simp high] theorem encMsg_get (l : List Msg) (i : Nat) : (encMsg l)[i]? = (l[i]?).map fun x => [.v (.int .i64 x.kind), .v (.int .i64 x.frm), .v (.int .i64 x.to), .v (.int .i64 x.epoch), .sl 4 (encClaim x.claims), .sl 1 (encI x.nodes), .v (.int .i64 x.node), .v (.int .i64 x.slot), .v (.int .i64 x.num), .v (.int .i64 x.rid.node), .v (.int .i64 x.rid.epoch), .v (.int .i64 x.prev.node), .v (.int .i64 x.prev.epoch), .v (.int .i64 x.off), .sl 7 (encEffect x.effects)] := by simp [encMsg]
@[simp] theorem encMsg_nil : encMsg [] = [] := rfl
theorem encMsg_cons (x : Msg) (l : List Msg) : encMsg (x :: l) = [.v (.int .i64 x.kind), .v (.int .i64 x.frm), .v (.int .i64 x.to), .v (.int .i64 x.epoch), .sl 4 (encClaim x.claims), .sl 1 (encI x.nodes), .v (.int .i64 x.node), .v (.int .i64 x.slot), .v (.int .i64 x.num), .v (.int .i64 x.rid.node), .v (.int .i64 x.rid.epoch), .v (.int .i64 x.prev.node), .v (.int .i64 x.prev.epoch), .v (.int .i64 x.off), .sl 7 (encEffect x.effects)] :: encMsg l := rfl
theorem encMsg_append (l m : List Msg) : encMsg (l ++ m) = encMsg l ++ encMsg m := by simp [encMsg]
theorem encMsg_take (l : List Msg) (n : Nat) : (encMsg l).take n = encMsg (l.take n) := by simp [encMsg]
theorem encMsg_drop (l : List Msg) (n : Nat) : (encMsg l).drop n = encMsg (l.drop n) := by simp [encMsg]
theorem encMsg_sz (l : List Msg) : ∀ e ∈ encMsg l, e.length = 15 := by
  intro e h
  obtain ⟨x, _, rfl⟩ := List.mem_map.1 h
  rfl
@[simp] theorem encMsg_eq_nil (l : List Msg) : (encMsg l = []) = (l = []) := by simp [encMsg]
theorem mixed : Try.prog.follows .mixedOrders = true := by kernel_rfl
theorem encField_lvsA (al : Bool) (l : List Field) : lvsA al (encField l) = lvs (encField l) := by
  simp [lvsA, lvs, encField, List.flatMap_map]
theorem encS_lvsA (al : Bool) (l : List ByteArray) : lvsA al (encS l) = lvs (encS l) := by
  simp [lvsA, lvs, encS, List.flatMap_map]
theorem encI_lvsA (al : Bool) (l : List Int) : lvsA al (encI l) = lvs (encI l) := by
  simp [lvsA, lvs, encI, List.flatMap_map]
/-- The first place where p no longer holds, sought by halves. -/
def bs (p : Nat → Bool) (lo hi : Nat) : Nat :=
  if h : lo < hi then (if p ((lo + hi) / 2) then bs p ((lo + hi) / 2 + 1) hi else bs p lo ((lo + hi) / 2)) else lo
termination_by hi - lo
theorem bs_le (p : Nat → Bool) (lo hi : Nat) (h : lo ≤ hi) : bs p lo hi ≤ hi ∧ lo ≤ bs p lo hi := by
  fun_induction bs p lo hi with
  | case1 lo hi h1 hp ih => have := ih (by omega); omega
  | case2 lo hi h1 hp ih => have := ih (by omega); omega
  | case3 lo hi h1 => omega
theorem take_eq {α : Type} {l m : List α} {i : Nat} {x y : α} (hx : l[i]? = some x) (hy : m[i]? = some y) (h : l.take i = m.take i) : l.take (i + 1) = m.take (i + 1) ↔ x = y := by
  rw [List.take_add_one, List.take_add_one, h, hx, hy]
  simp
theorem take_all {α : Type} {l m : List α} {i : Nat} (hl : l.length ≤ i) (hlm : l.length = m.length) (h : l.take i = m.take i) : l = m := by
  rwa [List.take_of_length_le hl, List.take_of_length_le (by omega)] at h
theorem get_some {α : Type} {l : List α} {i : Nat} (h : i < l.length) : ∃ x, l[i]? = some x := ⟨_, List.getElem?_eq_getElem h⟩
theorem ne_of_get {α : Type} {l m : List α} {i : Nat} {x y : α} (hx : l[i]? = some x) (hy : m[i]? = some y) (h : x ≠ y) : l ≠ m := by
  rintro rfl
  rw [hx] at hy
  exact h (by simpa using hy)
end Go.Proofs.Ytlkhfdccapkcdaa
