/- Part 3 of the proof. -/
import Derived.Test.YtlkhfdccapkcdaaPo2
import Derived.Test.YtlkhfdccapkcdaaProg
/- The program's data, as it lies in memory. -/
namespace Go.Proofs.Ytlkhfdccapkcdaa
open Go Go.RowKit
set_option linter.unusedVariables false
set_option linter.unusedSimpArgs false
def encS (l : List ByteArray) : List (List T) := l.map fun x => [.v (.string x)]
theorem lvs_encS1 (x : ByteArray) : lvs (encS [x]) = [.s (.string x)] := rfl
@[simp] theorem encS_length (l : List ByteArray) : (encS l).length = l.length := by simp [encS]
@[simp high] theorem encS_get (l : List ByteArray) (i : Nat) : (encS l)[i]? = (l[i]?).map fun x => [.v (.string x)] := by simp [encS]
@[simp] theorem encS_nil : encS [] = [] := rfl
theorem encS_append (l m : List ByteArray) : encS (l ++ m) = encS l ++ encS m := by simp [encS]
theorem encS_sz (l : List ByteArray) : ∀ e ∈ encS l, e.length = 1 := by
  intro e h
  obtain ⟨x, _, rfl⟩ := List.mem_map.1 h
  rfl
@[simp] theorem encS_eq_nil (l : List ByteArray) : (encS l = []) = (l = []) := by simp [encS]
def encI (l : List Int) : List (List T) := l.map fun x => [.v (.int .i64 x)]
@[simp] theorem encI_length (l : List Int) : (encI l).length = l.length := by simp [encI]
@[simp high] theorem encI_get (l : List Int) (i : Nat) : (encI l)[i]? = (l[i]?).map fun x => [.v (.int .i64 x)] := by simp [encI]
@[simp] theorem encI_nil : encI [] = [] := rfl
@[simp] theorem encI_eq_nil (l : List Int) : (encI l = []) = (l = []) := by simp [encI]
def encB (l : List Bool) : List (List T) := l.map fun x => [.v (.bool x)]
@[simp] theorem encB_length (l : List Bool) : (encB l).length = l.length := by simp [encB]
@[simp high] theorem encB_get (l : List Bool) (i : Nat) : (encB l)[i]? = (l[i]?).map fun x => [.v (.bool x)] := by simp [encB]
@[simp] theorem encB_nil : encB [] = [] := rfl
@[simp] theorem encB_eq_nil (l : List Bool) : (encB l = []) = (l = []) := by simp [encB]
def encU (l : List Int) : List (List T) := l.map fun x => [.v (.int .u8 x)]
@[simp] theorem encU_length (l : List Int) : (encU l).length = l.length := by simp [encU]
@[simp high] theorem encU_get (l : List Int) (i : Nat) : (encU l)[i]? = (l[i]?).map fun x => [.v (.int .u8 x)] := by simp [encU]
@[simp] theorem encU_nil : encU [] = [] := rfl
@[simp] theorem encU_eq_nil (l : List Int) : (encU l = []) = (l = []) := by simp [encU]
structure Field where
  name : ByteArray
  val : ByteArray
deriving DecidableEq, Inhabited
attribute [ext] Field
def encField (l : List Field) : List (List T) := l.map fun x => [.v (.string x.name), .v (.string x.val)]
@[simp] theorem encField_length (l : List Field) : (encField l).length = l.length := by simp [encField]
@[simp high] theorem encField_get (l : List Field) (i : Nat) : (encField l)[i]? = (l[i]?).map fun x => [.v (.string x.name), .v (.string x.val)] := by simp [encField]
@[simp] theorem encField_nil : encField [] = [] := rfl
theorem encField_sz (l : List Field) : ∀ e ∈ encField l, e.length = 2 := by
  intro e h
  obtain ⟨x, _, rfl⟩ := List.mem_map.1 h
  rfl
@[simp] theorem encField_eq_nil (l : List Field) : (encField l = []) = (l = []) := by simp [encField]
structure Item where
  kind : Int
  s : ByteArray
  f : List Field
  l : List ByteArray
  exp : Int
deriving DecidableEq, Inhabited
attribute [ext] Item
def encItem (l : List Item) : List (List T) := l.map fun x => [.v (.int .i64 x.kind), .v (.string x.s), .sl 2 (encField x.f), .sl 1 (encS x.l), .v (.int .i64 x.exp)]
@[simp] theorem encItem_length (l : List Item) : (encItem l).length = l.length := by simp [encItem]
@[simp high] theorem encItem_get (l : List Item) (i : Nat) : (encItem l)[i]? = (l[i]?).map fun x => [.v (.int .i64 x.kind), .v (.string x.s), .sl 2 (encField x.f), .sl 1 (encS x.l), .v (.int .i64 x.exp)] := by simp [encItem]
@[simp] theorem encItem_nil : encItem [] = [] := rfl
@[simp] theorem encItem_eq_nil (l : List Item) : (encItem l = []) = (l = []) := by simp [encItem]
structure Pair where
  key : ByteArray
  item : Item
deriving DecidableEq, Inhabited
attribute [ext] Pair
def encPair (l : List Pair) : List (List T) := l.map fun x => [.v (.string x.key), .v (.int .i64 x.item.kind), .v (.string x.item.s), .sl 2 (encField x.item.f), .sl 1 (encS x.item.l), .v (.int .i64 x.item.exp)]
theorem lvs_encPair1 (x : Pair) : lvs (encPair [x]) = [.s (.string x.key), .s (.int .i64 x.item.kind), .s (.string x.item.s), .d false 2 (encField x.item.f), .d false 1 (encS x.item.l), .s (.int .i64 x.item.exp)] := rfl
@[simp] theorem encPair_length (l : List Pair) : (encPair l).length = l.length := by simp [encPair]
@[simp high] theorem encPair_get (l : List Pair) (i : Nat) : (encPair l)[i]? = (l[i]?).map fun x => [.v (.string x.key), .v (.int .i64 x.item.kind), .v (.string x.item.s), .sl 2 (encField x.item.f), .sl 1 (encS x.item.l), .v (.int .i64 x.item.exp)] := by simp [encPair]
@[simp] theorem encPair_nil : encPair [] = [] := rfl
theorem encPair_append (l m : List Pair) : encPair (l ++ m) = encPair l ++ encPair m := by simp [encPair]
theorem encPair_sz (l : List Pair) : ∀ e ∈ encPair l, e.length = 6 := by
  intro e h
  obtain ⟨x, _, rfl⟩ := List.mem_map.1 h
  rfl
@[simp] theorem encPair_eq_nil (l : List Pair) : (encPair l = []) = (l = []) := by simp [encPair]
structure Effect where
  key : ByteArray
  gone : Bool
  item : Item
deriving DecidableEq, Inhabited
attribute [ext] Effect
def encEffect (l : List Effect) : List (List T) := l.map fun x => [.v (.string x.key), .v (.bool x.gone), .v (.int .i64 x.item.kind), .v (.string x.item.s), .sl 2 (encField x.item.f), .sl 1 (encS x.item.l), .v (.int .i64 x.item.exp)]
theorem lvs_encEffect1 (x : Effect) : lvs (encEffect [x]) = [.s (.string x.key), .s (.bool x.gone), .s (.int .i64 x.item.kind), .s (.string x.item.s), .d false 2 (encField x.item.f), .d false 1 (encS x.item.l), .s (.int .i64 x.item.exp)] := rfl
@[simp] theorem encEffect_length (l : List Effect) : (encEffect l).length = l.length := by simp [encEffect]
@[simp high] theorem encEffect_get (l : List Effect) (i : Nat) : (encEffect l)[i]? = (l[i]?).map fun x => [.v (.string x.key), .v (.bool x.gone), .v (.int .i64 x.item.kind), .v (.string x.item.s), .sl 2 (encField x.item.f), .sl 1 (encS x.item.l), .v (.int .i64 x.item.exp)] := by simp [encEffect]
@[simp] theorem encEffect_nil : encEffect [] = [] := rfl
theorem encEffect_append (l m : List Effect) : encEffect (l ++ m) = encEffect l ++ encEffect m := by simp [encEffect]
theorem encEffect_sz (l : List Effect) : ∀ e ∈ encEffect l, e.length = 7 := by
  intro e h
  obtain ⟨x, _, rfl⟩ := List.mem_map.1 h
  rfl
@[simp] theorem encEffect_eq_nil (l : List Effect) : (encEffect l = []) = (l = []) := by simp [encEffect]
structure Rid where
  node : Int
  epoch : Int
deriving DecidableEq, Inhabited
attribute [ext] Rid
def encRid (l : List Rid) : List (List T) := l.map fun x => [.v (.int .i64 x.node), .v (.int .i64 x.epoch)]
@[simp] theorem encRid_length (l : List Rid) : (encRid l).length = l.length := by simp [encRid]
@[simp high] theorem encRid_get (l : List Rid) (i : Nat) : (encRid l)[i]? = (l[i]?).map fun x => [.v (.int .i64 x.node), .v (.int .i64 x.epoch)] := by simp [encRid]
@[simp] theorem encRid_nil : encRid [] = [] := rfl
@[simp] theorem encRid_eq_nil (l : List Rid) : (encRid l = []) = (l = []) := by simp [encRid]
structure Feed where
  rid : Rid
  off : Int
  back : List Effect
  prev : Rid
  upto : Int
deriving DecidableEq, Inhabited
attribute [ext] Feed
def encFeed (l : List Feed) : List (List T) := l.map fun x => [.v (.int .i64 x.rid.node), .v (.int .i64 x.rid.epoch), .v (.int .i64 x.off), .sl 7 (encEffect x.back), .v (.int .i64 x.prev.node), .v (.int .i64 x.prev.epoch), .v (.int .i64 x.upto)]
@[simp] theorem encFeed_length (l : List Feed) : (encFeed l).length = l.length := by simp [encFeed]
@[simp high] theorem encFeed_get (l : List Feed) (i : Nat) : (encFeed l)[i]? = (l[i]?).map fun x => [.v (.int .i64 x.rid.node), .v (.int .i64 x.rid.epoch), .v (.int .i64 x.off), .sl 7 (encEffect x.back), .v (.int .i64 x.prev.node), .v (.int .i64 x.prev.epoch), .v (.int .i64 x.upto)] := by simp [encFeed]
@[simp] theorem encFeed_nil : encFeed [] = [] := rfl
@[simp] theorem encFeed_eq_nil (l : List Feed) : (encFeed l = []) = (l = []) := by simp [encFeed]
structure Claim where
  frm : Int
  to : Int
  node : Int
  epoch : Int
deriving DecidableEq, Inhabited
attribute [ext] Claim
def encClaim (l : List Claim) : List (List T) := l.map fun x => [.v (.int .i64 x.frm), .v (.int .i64 x.to), .v (.int .i64 x.node), .v (.int .i64 x.epoch)]
@[simp] theorem encClaim_length (l : List Claim) : (encClaim l).length = l.length := by simp [encClaim]
@[simp high] theorem encClaim_get (l : List Claim) (i : Nat) : (encClaim l)[i]? = (l[i]?).map fun x => [.v (.int .i64 x.frm), .v (.int .i64 x.to), .v (.int .i64 x.node), .v (.int .i64 x.epoch)] := by simp [encClaim]
@[simp] theorem encClaim_nil : encClaim [] = [] := rfl
@[simp] theorem encClaim_eq_nil (l : List Claim) : (encClaim l = []) = (l = []) := by simp [encClaim]
structure Msg where
  kind : Int
  frm : Int
  to : Int
  epoch : Int
  claims : List Claim
  nodes : List Int
  node : Int
  slot : Int
  num : Int
  rid : Rid
  prev : Rid
  off : Int
  effects : List Effect
deriving DecidableEq, Inhabited
attribute [ext] Msg
def encMsg (l : List Msg) : List (List T) := l.map fun x => [.v (.int .i64 x.kind), .v (.int .i64 x.frm), .v (.int .i64 x.to), .v (.int .i64 x.epoch), .sl 4 (encClaim x.claims), .sl 1 (encI x.nodes), .v (.int .i64 x.node), .v (.int .i64 x.slot), .v (.int .i64 x.num), .v (.int .i64 x.rid.node), .v (.int .i64 x.rid.epoch), .v (.int .i64 x.prev.node), .v (.int .i64 x.prev.epoch), .v (.int .i64 x.off), .sl 7 (encEffect x.effects)]
@[simp] theorem encMsg_length (l : List Msg) : (encMsg l).length = l.length := by simp [encMsg]
@[simp high] theorem encMsg_get (l : List Msg) (i : Nat) : (encMsg l)[i]? = (l[i]?).map fun x => [.v (.int .i64 x.kind), .v (.int .i64 x.frm), .v (.int .i64 x.to), .v (.int .i64 x.epoch), .sl 4 (encClaim x.claims), .sl 1 (encI x.nodes), .v (.int .i64 x.node), .v (.int .i64 x.slot), .v (.int .i64 x.num), .v (.int .i64 x.rid.node), .v (.int .i64 x.rid.epoch), .v (.int .i64 x.prev.node), .v (.int .i64 x.prev.epoch), .v (.int .i64 x.off), .sl 7 (encEffect x.effects)] := by simp [encMsg]
@[simp] theorem encMsg_nil : encMsg [] = [] := rfl
@[simp] theorem encMsg_eq_nil (l : List Msg) : (encMsg l = []) = (l = []) := by simp [encMsg]
theorem mixed : Try.prog.follows .mixedOrders = true := by kernel_rfl
theorem encField_lvsA (al : Bool) (l : List Field) : lvsA al (encField l) = lvs (encField l) := by
  simp [lvsA, lvs, encField, List.flatMap_map]
theorem encS_lvsA (al : Bool) (l : List ByteArray) : lvsA al (encS l) = lvs (encS l) := by
  simp [lvsA, lvs, encS, List.flatMap_map]
/-- The first place where p no longer holds, sought by halves. -/
def bs (p : Nat → Bool) (lo hi : Nat) : Nat :=
  if h : lo < hi then (if p ((lo + hi) / 2) then bs p ((lo + hi) / 2 + 1) hi else bs p lo ((lo + hi) / 2)) else lo
termination_by hi - lo
end Go.Proofs.Ytlkhfdccapkcdaa

/- Walks: texts compared, sought by halves; fields compared. -/
namespace Go.Proofs.Ytlkhfdccapkcdaa
open Go Go.RowKit
set_option linter.unusedVariables false
set_option linter.unusedSimpArgs false
set_option maxRecDepth 8000 in
set_option maxHeartbeats 8000000 in
theorem s_cmpStr (a b : ByteArray) : Sound Try.prog 127 [.l (.s (.string a)), .l (.s (.string b))] [] (.l (.s (.int .i64 ((cmpB a b))))) [] := by
  refine Sound.of_aw (fn := Try.f127) (c := _) Try.func127 rfl (by simp [Try.f127]) fun cx hG hnb => ?_
  rw [show Try.f127.ntmps = 8 from rfl]
  have hn0 : cx.nb = 0 := hnb
  refine AW.step (by simp; rfl) ?_
  apply AW.step
  · simp
    refine xcall_cmp Try.func138 (by kernel_rfl) (by kernel_rfl) (by kernel_rfl) (by kernel_rfl) ?_
    try simp
    rfl
  refine AW.ret ?_
  refine Left.plain hnb (by simp [Try.f127, resV, resC, comp]; rfl) rfl rfl ?_
  simp
theorem en_cmpStr : Enters Try.prog 127 := enters Try.func127 (by kernel_rfl) rfl
set_option maxRecDepth 8000 in
set_option maxHeartbeats 8000000 in
theorem s_strCompare (a b : ByteArray) : Sound Try.prog 110 [.l (.s (.string a)), .l (.s (.string b))] [] (.l (.s (.int .i64 ((cmpB a b))))) [] := by
  refine Sound.of_aw (fn := Try.f110) (c := _) Try.func110 rfl (by simp [Try.f110]) fun cx hG hnb => ?_
  rw [show Try.f110.ntmps = 8 from rfl]
  have hn0 : cx.nb = 0 := hnb
  refine AW.step (by simp; rfl) ?_
  apply AW.step
  · simp
    refine xcall_plain en_cmpStr (s_cmpStr _ _) rfl ⟨.same rfl, .same rfl, trivial⟩ ?_
    try simp
    rfl
  refine AW.ret ?_
  refine Left.plain hnb (by simp [Try.f110, resV, resC, comp]; rfl) rfl rfl ?_
  simp
theorem en_strCompare : Enters Try.prog 110 := enters Try.func110 (by kernel_rfl) rfl
def underField (l : List Field) (name : ByteArray) (i : Nat) : Bool := decide (cmpB (l.getD i default).name name < 0)
def seekField (l : List Field) (name : ByteArray) : Nat := bs (underField l name) 0 l.length
def hasField (l : List Field) (name : ByteArray) : Bool := decide (seekField l name < l.length ∧ cmpB (l.getD (seekField l name) default).name name = 0)
def underPair (l : List Pair) (name : ByteArray) (i : Nat) : Bool := decide (cmpB (l.getD i default).key name < 0)
def seekPair (l : List Pair) (name : ByteArray) : Nat := bs (underPair l name) 0 l.length
def hasPair (l : List Pair) (name : ByteArray) : Bool := decide (seekPair l name < l.length ∧ cmpB (l.getD (seekPair l name) default).key name = 0)
end Go.Proofs.Ytlkhfdccapkcdaa

/- The order of texts. No program in sight. -/
namespace Go.Proofs.Ytlkhfdccapkcdaa
open Go Go.RowKit
set_option linter.unusedVariables false
set_option linter.unusedSimpArgs false
theorem bl_irrefl : ∀ x : List UInt8, Op.bytesLess x x = false
  | [] => rfl
  | a :: x => by simp [Op.bytesLess, bl_irrefl x]
theorem cmp_lt : ∀ x y : List UInt8, (Lib.compareBytes x y < 0 ↔ Op.bytesLess x y = true) ∧ (Lib.compareBytes x y = 0 ↔ x = y)
  | [], [] => by simp [Lib.compareBytes, Op.bytesLess]
  | [], _ :: _ => by simp [Lib.compareBytes, Op.bytesLess]
  | _ :: _, [] => by simp [Lib.compareBytes, Op.bytesLess]
  | a :: x, b :: y => by
    have ih := cmp_lt x y
    simp only [Lib.compareBytes, Op.bytesLess]
    by_cases h : a < b
    · have h' : a.toNat < b.toNat := h
      have : a ≠ b := by rintro rfl; exact absurd h' (by omega)
      simp [h, h', this]
    · by_cases h2 : b < a
      · have h' : b.toNat < a.toNat := h2
        have h3 : ¬ a.toNat < b.toNat := by omega
        have : a ≠ b := by rintro rfl; exact absurd h' (by omega)
        simp [h, h2, h', h3, this]
      · have h3 : ¬ a.toNat < b.toNat := h
        have h4 : ¬ b.toNat < a.toNat := h2
        have : a = b := UInt8.toNat_inj.1 (by omega)
        subst this
        simp [h3, ih.1, ih.2]
theorem bl_trans : ∀ x y z : List UInt8, Op.bytesLess x y = true → Op.bytesLess y z = true → Op.bytesLess x z = true
  | [], [], z, h, _ => by simp [Op.bytesLess] at h
  | [], _ :: _, [], _, h => by simp [Op.bytesLess] at h
  | [], _ :: _, _ :: _, _, _ => by simp [Op.bytesLess]
  | _ :: _, [], _, h, _ => by simp [Op.bytesLess] at h
  | _ :: _, _ :: _, [], _, h => by simp [Op.bytesLess] at h
  | a :: x, b :: y, c :: z, h, k => by
    have ih := bl_trans x y z
    simp only [Op.bytesLess, Bool.or_eq_true, Bool.and_eq_true, decide_eq_true_eq, beq_iff_eq] at h k ⊢
    rcases h with h | ⟨rfl, h⟩
    · rcases k with k | ⟨rfl, k⟩
      · exact .inl (UInt8.lt_trans h k)
      · exact .inl h
    · rcases k with k | ⟨rfl, k⟩
      · exact .inl k
      · exact .inr ⟨rfl, ih h k⟩
theorem ba_ext {a b : ByteArray} (h : a.data.toList = b.data.toList) : a = b := by
  cases a; cases b; simp at h; rw [h]
theorem cmpB_lt (a b : ByteArray) : cmpB a b < 0 ↔ slt a b = true := (cmp_lt _ _).1
theorem cmpB_eq (a b : ByteArray) : cmpB a b = 0 ↔ a = b := (cmp_lt _ _).2.trans ⟨ba_ext, fun h => by rw [h]⟩
theorem slt_irrefl (a : ByteArray) : slt a a = false := bl_irrefl _
theorem slt_trans {a b c : ByteArray} (h : slt a b = true) (k : slt b c = true) : slt a c = true := bl_trans _ _ _ h k
theorem slt_total (a b : ByteArray) : slt a b = true ∨ a = b ∨ slt b a = true := by
  have h := bytesLess_or a.data.toList b.data.toList
  cases h1 : Op.bytesLess a.data.toList b.data.toList
  · cases h2 : Op.bytesLess b.data.toList a.data.toList
    · rw [h1, h2] at h
      simp at h
      exact .inr (.inl (ba_ext (by simpa using h)))
    · exact .inr (.inr h2)
  · exact .inl h1
theorem slt_asymm {a b : ByteArray} (h : slt a b = true) : slt b a = false := by
  cases k : slt b a
  · rfl
  · have := slt_trans h k
    rw [slt_irrefl] at this
    simp at this
theorem slt_ne {a b : ByteArray} (h : slt a b = true) : a ≠ b := by
  rintro rfl
  rw [slt_irrefl] at h
  simp at h
theorem slt_or (a b : ByteArray) : slt a b = false ↔ a = b ∨ slt b a = true := by
  constructor
  · intro h
    rcases slt_total a b with k | k | k
    · rw [h] at k; simp at k
    · exact .inl k
    · exact .inr k
  · rintro (rfl | h)
    · exact slt_irrefl _
    · exact slt_asymm h
end Go.Proofs.Ytlkhfdccapkcdaa

/- Elements of a row of data: their cells told, and stored. -/
namespace Go.Proofs.Ytlkhfdccapkcdaa
open Go Go.RowKit
set_option linter.unusedVariables false
set_option linter.unusedSimpArgs false
section
variable {es : List (List T)} {sz i j k : Nat} {e e' : List T}
theorem lvs_from (hes : ∀ e ∈ es, e.length = sz) (hi : es[i]? = some e) : (lvs es).drop (i * sz) = lvs [e] ++ lvs (es.drop (i + 1)) := by
  obtain ⟨hlt, he⟩ := List.getElem?_eq_some_iff.1 hi
  rw [lvs_dropN hes, List.drop_eq_getElem_cons hlt, he]
  simp [lvs]
theorem lvs_one_length (hes : ∀ e ∈ es, e.length = sz) (hi : es[i]? = some e) : (lvs [e]).length = sz := by
  have := hes e (List.mem_of_getElem? hi)
  simp [lvs, this]
theorem lvs_seg (hes : ∀ e ∈ es, e.length = sz) (hi : es[i]? = some e) (hjk : j + k ≤ sz) : ((lvs es).drop (i * sz + j)).take k = ((lvs [e]).drop j).take k := by
  have h1 := lvs_one_length hes hi
  rw [← List.drop_drop, lvs_from hes hi, List.drop_append_of_le_length (by omega), List.take_append_of_le_length (by rw [List.length_drop]; omega)]
theorem setAt_behind (A B cs : List LV) (j : Nat) (h : j + cs.length ≤ B.length) : setAt (A ++ B) (A.length + j) cs = A ++ setAt B j cs := by
  rw [setAt_eq _ _ _ (by simp; omega), setAt_eq _ _ _ h]
  rw [List.take_length_add_append, Nat.add_assoc, List.drop_length_add_append]
  simp [List.append_assoc]
theorem setAt_left (A B cs : List LV) (j : Nat) (h : j + cs.length ≤ A.length) : setAt (A ++ B) j cs = setAt A j cs ++ B := by
  rw [setAt_eq _ _ _ (by simp; omega), setAt_eq _ _ _ h, List.take_append_of_le_length (by omega), List.drop_append_of_le_length (by omega), List.append_assoc, List.append_assoc, List.append_assoc]
theorem lvs_put {cs : List LV} (hes : ∀ e ∈ es, e.length = sz) (hi : es[i]? = some e) (hj : j + cs.length ≤ sz) (he' : setAt (lvs [e]) j cs = lvs [e']) : setAt (lvs es) (i * sz + j) cs = lvs (es.set i e') := by
  obtain ⟨hlt, he⟩ := List.getElem?_eq_some_iff.1 hi
  have h1 := lvs_one_length hes hi
  have h2 : lvs es = lvs (es.take i) ++ (lvs [e] ++ lvs (es.drop (i + 1))) := by
    rw [← lvs_from hes hi, ← lvs_takeN hes, List.take_append_drop]
  have h3 : (lvs (es.take i)).length = i * sz := by
    rw [lvs_length fun e he => hes e (List.mem_of_mem_take he), List.length_take]
    congr 1
    omega
  rw [h2, ← h3, setAt_behind _ _ _ _ (by rw [List.length_append]; omega), setAt_left _ _ _ _ (by omega), he', List.set_eq_take_append_cons_drop, if_pos hlt]
  simp [lvs]
end
/-- An own row becomes data. -/
theorem AW.frzRow {P : Program} {R : Option Nat} {cx : Cx} {Q : Post} {c : Code} {tm tm' : Tm} {ob ob' : List (Option Ob)} {nt : Nat} {gh gh' : List Tm} {ls : Option Code} (o : Nat) {ty sz : Nat} {cap : Option Nat} {es : List (List T)} (hz : ob[o]? = some (some ⟨ty, sz, true, cap, lvs es⟩)) (h0 : 0 < sz) (hes : ∀ e ∈ es, e.length = sz)
    (hm : es.length ≤ 140737488355328) (h1 : Tm.frz o sz es tm = tm') (h2 : (ob.set o none).map (Option.map (Ob.frz o sz es)) = ob') (h3 : gh.map (Tm.frz o sz es) = gh') (k : AW P R cx c Q ⟨tm', ob', nt, gh', ls⟩) : AW P R cx c Q ⟨tm, ob, nt, gh, ls⟩ := by
  subst h1
  subst h2
  subst h3
  exact AW.weak (Weak.freeze (st := ⟨tm, ob, nt, gh, ls⟩) (o := o) (sz := sz) (z := ⟨ty, sz, true, cap, lvs es⟩) (es := es) (by simp [St.obj, hz]) rfl rfl h0 rfl hes hm) k
/-- Objects picked and ordered, boxes too, where none was handed over. -/
theorem Weak.mixN {cx : Cx} {tm tm' : Tm} {ob ob' : List (Option Ob)} {nt : Nat} {gh gh' : List Tm} {ls : Option Code} (ids : List (Option Nat)) (hn : cx.nb = 0) (hnd : (ids.filterMap fun x => x).Nodup) (htm : ∀ e ∈ tm', (lk tm e.1).ren (inv ids) = e.2) (hob : pickOb ids ob = ob') (hgh : gh.map (Tm.ren (inv ids)) = gh') :
    Weak cx ⟨tm, ob, nt, gh, ls⟩ ⟨tm', ob', nt, gh', ls⟩ := by
  subst hob
  subst hgh
  have key : ∀ l : Tm, (∀ e ∈ l, (lk tm e.1).ren (inv ids) = e.2) → ∀ i, lk l i = (lk tm i).ren (inv ids) ∨ lk l i = .l .u := by
    intro l
    induction l with
    | nil => intro _ i; exact .inr rfl
    | cons e l ih =>
      intro h i
      rw [lk_cons]
      split
      · rename_i hi
        subst hi
        exact .inl (h e (by simp)).symm
      · exact ih (fun e' he' => h e' (by simp [he'])) i
  exact Weak.ren (st := ⟨tm, ob, nt, gh, ls⟩) ids tm' (nd_of ids hnd) (by omega) (fun i o hi ho => by omega) (key tm' htm)
section
variable {P : Program} {R : Option Nat} {cx : Cx} {Q : Post} {c : Code} {tm : Tm} {ob ob' : List (Option Ob)} {nt : Nat} {gh : List Tm} {ls : Option Code}
/-- A nil slice in a cell of an own object is seen as data. -/
theorem Weak.nilCellD (o j sz : Nat) {z : Ob} (hz : ob[o]? = some (some z)) (hj : z.cs[j]? = some (.s (.slice none 0 0))) (hrow : z.row = false) :
    Weak cx ⟨tm, ob, nt, gh, ls⟩ ⟨tm, ob.set o (some { z with cs := z.cs.set j (.d false sz []) }), nt, gh, ls⟩ := by
  intro σ a w hr
  have hl : o < ob.length := (List.getElem?_eq_some_iff.1 hz).1
  have hO := hr.h.obs o z hz
  have hbl : ∃ b k, σ o = some (some (b, k)) := by
    match hb : σ o with
    | none => rw [hb] at hO; exact hO.elim
    | some none =>
      rw [hb] at hO
      have := hO.1
      rw [hrow] at this
      simp at this
    | some (some (b, k)) => exact ⟨b, k, rfl⟩
  obtain ⟨b, k, hb⟩ := hbl
  rw [hb] at hO
  obtain ⟨vs, rest, g1, g2, g4, g5⟩ := hO
  have hall : All2 (RelL w (Xd cx w σ ob) (Xe w σ ob) σ) vs (z.cs.set j (.d false sz [])) := by
    obtain ⟨v, hv, hvr⟩ := g2.at j hj
    have hrel : RelL w (Xd cx w σ ob) (Xe w σ ob) σ v (.d false sz []) := by
      have e := hvr.1
      show Rd w _ _ _
      rw [e]
      exact .sl none 0 0 sz [] 0 0 (fun _ _ => undef) rfl (Nat.le_refl _) (by omega) (fun e he => by simp at he) (fun h => by omega) (fun _ => rfl) (fun i j hi => by omega) (fun i j e t he => by simp at he)
    have := g2.set j hrel
    have e : vs.set j v = vs := by
      apply List.ext_getElem?
      intro i
      by_cases h : j = i
      · subst h
        rw [List.getElem?_set_self (List.getElem?_eq_some_iff.1 hv).1, hv]
      · rw [List.getElem?_set_ne h]
    rwa [e] at this
  have hwr := hr.write (x' := { z with cs := z.cs.set j (.d false sz []) }) hz hb vs rest hall rfl rfl (fun h => g4 hrow) (fun h => by rw [hrow] at h; simp at h)
  refine Exists.intro σ ?_
  have e1 : w.setRow b (vs ++ rest).toArray = w := setRow_self _ _ _ _ _ g1
  rw [e1] at hwr
  exact hwr
theorem AW.nilCellD (o j sz : Nat) {z : Ob} (hz : ob[o]? = some (some z)) (hj : z.cs[j]? = some (.s (.slice none 0 0))) (hrow : z.row = false) (ho : ob.set o (some { z with cs := z.cs.set j (.d false sz []) }) = ob') (k : AW P R cx c Q ⟨tm, ob', nt, gh, ls⟩) : AW P R cx c Q ⟨tm, ob, nt, gh, ls⟩ := by
  subst ho
  exact AW.weak (Weak.nilCellD (z := z) o j sz hz hj hrow) k
end
end Go.Proofs.Ytlkhfdccapkcdaa

/- Drawn regions with effects: what each operation yields, and what it makes, is found while it is shown. -/
namespace Go.Proofs.Ytlkhfdccapkcdaa
open Go Go.RowKit
set_option linter.unusedVariables false
set_option linter.unusedSimpArgs false
def ObE (P : Program) (ops : Array Oper) (tm0 : Tm) (V : List AV) (M : List (List (Option Ob))) (nt : Nat) (gh : List Tm) (ls : Option Code) : List Oper → List DI → List AV → Prop
  | o :: os, d :: ds, v :: vs => (AllL (fun k => ∀ tm, AllL (fun r => lk tm r.1 = rdV V tm0 r) d.rd → xg P ops o ⟨tm, M.getD k [], nt, gh, ls⟩ (KD o.dst v tm (M.getD (bif d.ef then k + 1 else k) []) nt gh ls)) d.ks) ∧ ObE P ops tm0 V M nt gh ls os ds vs
  | _, _, [] => True
  | _, _, _ => False
section
variable {P : Program} {cx : Cx} {ops : Array Oper} {D : List DI} {n1 : Nat} {V : List AV} {M : List (List (Option Ob))} {Q : Post} {R : Option Nat} {tm tm' : Tm} {ob me : List (Option Ob)} {nt : Nat} {gh : List Tm} {ls : Option Code}
theorem ObE.obl (tm0 : Tm) : ∀ (os : List Oper) (ds : List DI) (vs : List AV), ObE P ops tm0 V M nt gh ls os ds vs → Obl P ops V M ⟨tm0, ob, nt, gh, ls⟩ os ds vs
  | _, _, [], _ => by simp [Obl]
  | [], _, _ :: _, h => by simp [ObE] at h
  | _ :: _, [], _ :: _, h => by simp [ObE] at h
  | o :: os, d :: ds, v :: vs, h => ⟨h.1, ObE.obl tm0 os ds vs h.2⟩
theorem ef_zero (D : List DI) (p : Nat → Bool) (h : ∀ e, p e = false) : efCount D p = 0 := by
  simp only [efCount, List.length_eq_zero_iff, List.filter_eq_nil_iff]
  intro a ha
  simp [h]
theorem AW.drawnE (hm : P.follows .mixedOrders = true) {id : Nat} {c : Code} {st' : St} (D : List DI) (n1 ne : Nat) (hc : chkD ops D n1 = true) (he : (efCount D fun e => decide (e < n1)) = ne) (hM : M.getD 0 [] = ob) (hO : ObE P ops tm V M nt gh ls ops.toList D V) (hV : V.length = n1)
    (htm : tmD ops.toList V tm = tm') (hx : xops P ops (ops.toList.drop n1) ⟨tm', M.getD ne [], nt, gh, ls⟩ (fun s => s = st')) (k : AW P R cx c Q st') : AW P R cx (.seq (.region id ops true) c) Q ⟨tm, ob, nt, gh, ls⟩ := by
  subst htm
  subst he
  exact AW.drawn hm D n1 V M st' hc hV hM (ObE.obl tm _ _ _ hO) rfl hx k
theorem AW.drawnF (hm : P.follows .mixedOrders = true) {id : Nat} (D : List DI) (n1 ne : Nat) (hc : chkD ops D n1 = true) (he : (efCount D fun e => decide (e < n1)) = ne) (hM : M.getD 0 [] = ob) (hO : ObE P ops tm V M nt gh ls ops.toList D V) (hV : V.length = n1)
    (htm : tmD ops.toList V tm = tm') {st' : St} (hx : xops P ops (ops.toList.drop n1) ⟨tm', M.getD ne [], nt, gh, ls⟩ (fun s => s = st')) (k : Q .normal st') : AW P R cx (.region id ops true) Q ⟨tm, ob, nt, gh, ls⟩ := by
  subst htm
  subst he
  have hO2 : Obl P ops V M ⟨tm, ob, nt, gh, ls⟩ ops.toList D V := ObE.obl tm _ _ _ hO
  have hn : n1 ≤ ops.size := by
    simp only [chkD, Bool.and_eq_true, decide_eq_true_eq] at hc
    exact hc.1.2
  have h1' : AW P R cx (.region id ops true) (fun e s => e = .normal ∧ s = st') ⟨tm, ob, nt, gh, ls⟩ := by
    intro σ a w hr
    refine wpIn_region_any hm ?_
    have hLf : ∀ j, Ls (Array.replicate ops.size false) j = false := fun j => by
      simp only [Ls, Array.getD_eq_getD_getElem?, Array.getElem?_replicate]
      split <;> rfl
    have hr' : RelS cx σ ⟨tm, ob, nt, gh, ls⟩ a { w with drawn := w.drawn + 1 } := hr.drewN 1
    refine drawn1 hc hV hn hO2 ?_ ops.size _ ⟨tm, ob, nt, gh, ls⟩ σ a _ (by simp) (fun i hi h => by rw [hLf] at h; simp at h) ?_ (fun j _ _ => hLf j) ⟨rfl, rfl, rfl, ?_, fun t j _ h => by rw [hLf] at h; simp at h, fun t _ => rfl⟩ hr'
    · have h2 := xops_Y (R := R) (cx := cx) _ n1 _ rfl hx
      simpa using h2
    · have : ((List.range n1).filter fun i => !Ls (Array.replicate ops.size false) i).length ≤ n1 := by
        have := List.length_filter_le (fun i => !Ls (Array.replicate ops.size false) i) (List.range n1)
        simpa using this
      omega
    · rw [ef_zero D _ fun j => by simp [hLf]]
      exact hM.symm
  refine AW.mono h1' ?_
  rintro e s ⟨rfl, hs⟩
  subst hs
  exact k
end
end Go.Proofs.Ytlkhfdccapkcdaa

/- Shallow code: what walks that are printed by a program are told by. -/
namespace Go.Proofs.Ytlkhfdccapkcdaa
open Go Go.RowKit
set_option linter.unusedVariables false
set_option linter.unusedSimpArgs false

/-! ### Code of values -/
section
variable {α β γ : Type}
def lt (a : α) (k : α → Option β) : Option β := k a
theorem lt_eq (a : α) (k : α → Option β) : lt a k = k a := rfl
theorem ltE {a : α} {k : α → Option β} {r : β} (h : lt a k = some r) : ∃ x, x = a ∧ k x = some r := ⟨a, rfl, h⟩
def bn (m : Option α) (k : α → Option β) : Option β := m.bind k
theorem bn_some (a : α) (k : α → Option β) : bn (some a) k = k a := rfl
theorem bnE {m : Option α} {k : α → Option β} {r : β} (h : bn m k = some r) : ∃ x, m = some x ∧ k x = some r := Option.bind_eq_some_iff.1 h
/-- What follows is for where all went on; what went off goes by. -/
def bf (m : Option (α ⊕ γ)) (k : α → Option (β ⊕ γ)) : Option (β ⊕ γ) := m.bind fun | .inl a => k a | .inr c => some (.inr c)
def chk (b : Bool) (k : Option β) : Option β := bif b then k else none
theorem chkE {b : Bool} {k : Option β} {r : β} (h : chk b k = some r) : b = true ∧ k = some r := by
  cases b
  · simp [chk] at h
  · exact ⟨rfl, h⟩
def ite' (b : Bool) (x y : Option β) : Option β := bif b then x else y
theorem iteT {b : Bool} {x y : Option β} {r : β} (hb : b = true) (h : ite' b x y = some r) : x = some r := by subst hb; exact h
theorem iteF {b : Bool} {x y : Option β} {r : β} (hb : b = false) (h : ite' b x y = some r) : y = some r := by subst hb; exact h
theorem ite_t (x y : Option β) : ite' true x y = x := rfl
theorem ite_f (x y : Option β) : ite' false x y = y := rfl
/-- Rounds, at most n. -/
def iter : Nat → (α → Option (α ⊕ β)) → α → Option β
  | 0, _, _ => none
  | n + 1, f, a => match f a with
    | some (.inl a') => iter n f a'
    | some (.inr b) => some b
    | none => none
theorem iter_inl {n : Nat} {f : α → Option (α ⊕ β)} {a a' : α} (h : f a = some (.inl a')) : iter (n + 1) f a = iter n f a' := by rw [iter, h]
theorem iter_inr {n : Nat} {f : α → Option (α ⊕ β)} {a : α} {b : β} (h : f a = some (.inr b)) : iter (n + 1) f a = some b := by rw [iter, h]
def nth (l : List α) (i : Int) : Option α := if 0 ≤ i then l[i.toNat]? else none
theorem nth_d {l : List α} {i : Int} {x : α} (h : nth l i = some x) : 0 ≤ i ∧ l[i.toNat]? = some x := by
  unfold nth at h
  split at h
  · exact ⟨by assumption, h⟩
  · simp at h
theorem nth_lt {l : List α} {i : Int} {x : α} (h : nth l i = some x) : i.toNat < l.length ∧ i < (l.length : Int) := by
  have h1 := (List.getElem?_eq_some_iff.1 (nth_d h).2).1
  have h2 := (nth_d h).1
  exact ⟨h1, by omega⟩
theorem nth_nat (l : List α) (i : Nat) : nth l (i : Int) = l[i]? := by simp [nth]
def seg (l : List α) (a b : Int) : Option (List α) := if 0 ≤ a ∧ a ≤ b ∧ b ≤ l.length then some ((l.drop a.toNat).take (b.toNat - a.toNat)) else none
def segS (s : ByteArray) (a b : Int) : Option ByteArray := if 0 ≤ a ∧ a ≤ b ∧ b ≤ s.size then some (s.extract a.toNat b.toNat) else none
theorem segS_d {s m : ByteArray} {a b : Int} (h : segS s a b = some m) : 0 ≤ a ∧ 0 ≤ b ∧ a.toNat ≤ b.toNat ∧ b.toNat ≤ s.size ∧ s.extract a.toNat b.toNat = m ∧ a ≤ b ∧ b ≤ (s.size : Int) ∧ max a 0 ≤ b := by
  unfold segS at h
  split at h
  · rename_i hc
    simp at h
    exact ⟨by omega, by omega, by omega, by omega, h, by omega, by omega, by omega⟩
  · simp at h
def segSl (s : ByteArray) (a : Int) : Option ByteArray := if 0 ≤ a ∧ a ≤ s.size then some (s.extract a.toNat s.size) else none
theorem segSl_d {s m : ByteArray} {a : Int} (h : segSl s a = some m) : 0 ≤ a ∧ a.toNat ≤ s.size ∧ s.extract a.toNat s.size = m ∧ a ≤ (s.size : Int) := by
  unfold segSl at h
  split at h
  · simp at h
    exact ⟨by omega, by omega, h, by omega⟩
  · simp at h
def segSh (s : ByteArray) (b : Int) : Option ByteArray := if 0 ≤ b ∧ b ≤ s.size then some (s.extract 0 b.toNat) else none
theorem segSh_d {s m : ByteArray} {b : Int} (h : segSh s b = some m) : 0 ≤ b ∧ b.toNat ≤ s.size ∧ s.extract 0 b.toNat = m ∧ b ≤ (s.size : Int) := by
  unfold segSh at h
  split at h
  · simp at h
    exact ⟨by omega, by omega, h, by omega⟩
  · simp at h
def segSlh (s : ByteArray) (a b : Int) : Option ByteArray := segS s a b
theorem segSlh_d {s m : ByteArray} {a b : Int} (h : segSlh s a b = some m) : 0 ≤ a ∧ 0 ≤ b ∧ a.toNat ≤ b.toNat ∧ b.toNat ≤ s.size ∧ s.extract a.toNat b.toNat = m ∧ a ≤ b ∧ b ≤ (s.size : Int) ∧ max a 0 ≤ b := segS_d h
def atS (s : ByteArray) (i : Int) : Option Int := if 0 ≤ i ∧ i.toNat < s.size then some (bAt s i.toNat) else none
theorem atS_d {s : ByteArray} {i x : Int} (h : atS s i = some x) : 0 ≤ i ∧ i.toNat < s.size ∧ bAt s i.toNat = x ∧ i < (s.size : Int) := by
  unfold atS at h
  split at h
  · rename_i hc
    simp at h
    exact ⟨hc.1, hc.2, h, by omega⟩
  · simp at h
/-- A row may grow so far. -/
def room (n b : Nat) : Bool := decide (n * b ≤ 140737488355328 ∧ n ≤ 140737488355328)
theorem room_d {n b : Nat} (h : room n b = true) : n * b ≤ 140737488355328 ∧ n ≤ 140737488355328 := by simpa [room] using h
end
def addI (k : IntKind) (a b : Int) : Int := k.wrap (a + b)
def subI (k : IntKind) (a b : Int) : Int := k.wrap (a - b)
def mulI (k : IntKind) (a b : Int) : Int := k.wrap (a * b)
def quoI (k : IntKind) (a b : Int) : Option Int := if b ≠ 0 then some (k.wrap (a.tdiv b)) else none
def remI (k : IntKind) (a b : Int) : Option Int := if b ≠ 0 then some (a.tmod b) else none
def andI (k : IntKind) (a b : Int) : Int := k.wrap (BitVec.ofInt k.bits a &&& BitVec.ofInt k.bits b).toNat
def orI (k : IntKind) (a b : Int) : Int := k.wrap (BitVec.ofInt k.bits a ||| BitVec.ofInt k.bits b).toNat
def xorI (k : IntKind) (a b : Int) : Int := k.wrap (BitVec.ofInt k.bits a ^^^ BitVec.ofInt k.bits b).toNat
def shlI (k : IntKind) (a b : Int) : Option Int := if 0 ≤ b then some (k.wrap (a * 2 ^ (min b.toNat k.bits))) else none
def shrI (k : IntKind) (a b : Int) : Option Int := if 0 ≤ b then some (a.fdiv (2 ^ (min b.toNat k.bits))) else none
def negI (k : IntKind) (a : Int) : Int := k.wrap (0 - a)
def cvI (k : IntKind) (a : Int) : Int := k.wrap a
def minI (a b : Int) : Int := min a b
def maxI (a b : Int) : Int := max a b
def eqI (a b : Int) : Bool := decide (a = b)
def neI (a b : Int) : Bool := !decide (a = b)
def ltI (a b : Int) : Bool := decide (a < b)
def leI (a b : Int) : Bool := decide (a ≤ b)
def gtI (a b : Int) : Bool := decide (b < a)
def geI (a b : Int) : Bool := decide (b ≤ a)
def eqS (a b : ByteArray) : Bool := decide (a = b)
def neS (a b : ByteArray) : Bool := !decide (a = b)
def ltS (a b : ByteArray) : Bool := slt a b
def leS (a b : ByteArray) : Bool := !slt b a
def gtS (a b : ByteArray) : Bool := slt b a
def geS (a b : ByteArray) : Bool := !slt a b
def catS (a b : ByteArray) : Option ByteArray := if a.size + b.size ≤ 9223372036854775807 then some (a ++ b) else none
def eqB (a b : Bool) : Bool := decide (a = b)
def neB (a b : Bool) : Bool := !decide (a = b)
def notB (a : Bool) : Bool := !a
@[simp] theorem notB_t : notB true = false := rfl
@[simp] theorem notB_f : notB false = true := rfl
def andB (a b : Bool) : Bool := a && b
def lenI {α : Type} (l : List α) : Int := (l.length : Int)
def lenS (s : ByteArray) : Int := (s.size : Int)
theorem lenI_cast {α : Type} {l : List α} {n : Int} (h : n = lenI l) : (l.length : Int) = n := h.symm
section
variable {k : IntKind} {a b c : Int}
end
/-- What some function of the kit's own does with a word of its own. -/
def wo {α : Type} (x : Option α) (k : α → Prop) : Prop := wh x k
/-! ### Structure of code -/
section
variable {α β γ : Type} {P : Program} {R : Option Nat} {cx : Cx} {Q : Post} {c c' : Code} {st st' : St} {tm tm' : Tm} {ob ob' : List (Option Ob)} {nt : Nat} {gh gh' : List Tm} {ls : Option Code}
/-- Code that went on: where its state is told by a. -/
def nP (mk : α → St) (a : α) : Post := fun e s => e = .normal ∧ Weak cx s (mk a)
def xP (id : Nat) (mk : α → St) (a : α) : Post := fun e s => e = .exit id ∧ Weak cx s (mk a)
def rP (fn : Func) (res : β → AV) (obs : β → List (Option Ob)) (q : β) : Post := fun e s => e = .ret ∧ Left P cx fn (res q) (obs q) s
def sp (p : α → Post) (q : β → Post) : α ⊕ β → Post
  | .inl a => p a
  | .inr b => q b
theorem sp_l {p : α → Post} {q : β → Post} {a : α} : sp p q (.inl a) = p a := rfl
theorem sp_r {p : α → Post} {q : β → Post} {b : β} : sp p q (.inr b) = q b := rfl
theorem nP_i {mk : α → St} {a : α} {s : St} (h : Weak cx s (mk a)) : nP (cx := cx) mk a .normal s := ⟨rfl, h⟩
theorem xP_i {id : Nat} {mk : α → St} {a : α} {s : St} (h : Weak cx s (mk a)) : xP (cx := cx) id mk a (.exit id) s := ⟨rfl, h⟩
theorem rP_i {fn : Func} {res : β → AV} {obs : β → List (Option Ob)} {q : β} {s : St} (h : Left P cx fn (res q) (obs q) s) : rP (P := P) (cx := cx) fn res obs q .ret s := ⟨rfl, h⟩
theorem noX {id : Nat} {mk : α → St} : ∀ a s, ¬ xP (cx := cx) id mk a .normal s := fun a s h => by simp [xP] at h
theorem noR {fn : Func} {res : β → AV} {obs : β → List (Option Ob)} : ∀ q s, ¬ rP (P := P) (cx := cx) fn res obs q .normal s := fun a s h => by simp [rP] at h
theorem noS {p : α → Post} {q : β → Post} (h1 : ∀ a s, ¬ p a .normal s) (h2 : ∀ b s, ¬ q b .normal s) : ∀ y s, ¬ sp p q y .normal s
  | .inl a, s => h1 a s
  | .inr b, s => h2 b s
def sm (y : α ⊕ β) (f : α → Option γ) (g : β → Option γ) : Option γ := match y with | .inl a => f a | .inr b => g b
theorem sm_inl (a : α) (f : α → Option γ) (g : β → Option γ) : sm (.inl a) f g = f a := rfl
theorem sm_inr (b : β) (f : α → Option γ) (g : β → Option γ) : sm (.inr b) f g = g b := rfl
theorem smL {a : α} {f : α → Option γ} {g : β → Option γ} {r : γ} (h : sm (.inl a) f g = some r) : f a = some r := h
theorem smR {b : β} {f : α → Option γ} {g : β → Option γ} {r : γ} (h : sm (.inr b) f g = some r) : g b = some r := h
/-- Code, told by what it leaves; what follows may look at less. -/
theorem AW.flowR {p : List Tm → Option Code → Post} (hc : AW P R cx c (p gh ls) ⟨tm, ob, nt, gh, ls⟩) (k : ∀ e s, p gh ls e s → ∃ s2, Weak cx s s2 ∧ Q e s2) : AW P R cx c Q ⟨tm, ob, nt, gh, ls⟩ := by
  intro σ a w hr
  refine wpIn_mono (hc σ a w hr) ?_
  rintro e a' w' ⟨σ', s, hs, hp⟩
  obtain ⟨s2, hw, hq⟩ := k e s hp
  obtain ⟨σ2, hs2⟩ := hw σ' a' w' hs
  exact ⟨σ2, s2, hs2, hq⟩
theorem AW.flow {p : List Tm → Option Code → Post} (hc : AW P R cx c (p gh ls) ⟨tm, ob, nt, gh, ls⟩) (k : ∀ e s, p gh ls e s → ∃ s2, Weak cx s s2 ∧ Post.seq (AW P R cx c' Q) Q e s2) : AW P R cx (.seq c c') Q ⟨tm, ob, nt, gh, ls⟩ :=
  AW.seq (AW.flowR hc k)
/-- A loop, told by its rounds. -/
theorem AW.iterP {n : Nat} {f : α → Option (α ⊕ β)} {a0 : α} {b : β} (h : iter n f a0 = some b) {mk : List Tm → Option Code → α → St} {N : List Tm → Option Code → β → Post} (h0 : Weak cx ⟨tm, ob, nt, gh, ls⟩ (mk gh ls a0)) (hN : ∀ b s, ¬ N gh ls b .normal s)
    (body : ∀ a o, f a = some o → AW P R cx c (sp (nP (cx := cx) (mk gh ls)) (N gh ls) o) (mk gh ls a)) (k : ∀ e s, N gh ls b e s → ∃ s2, Weak cx s s2 ∧ Q e s2) : AW P R cx (.loop c) Q ⟨tm, ob, nt, gh, ls⟩ := by
  refine AW.flowR (p := fun gh ls => N gh ls b) ?_ k
  refine AW.loop (fun s m => ∃ a, s = mk gh ls a ∧ iter m f a = some b) (n := n) ⟨_, h0, a0, rfl, h⟩ ?_
  rintro s m ⟨a, rfl, hm⟩
  cases m with
  | zero => simp [iter] at hm
  | succ m =>
    rw [iter] at hm
    cases hf : f a with
    | none => rw [hf] at hm; simp at hm
    | some o =>
      rw [hf] at hm
      refine AW.mono (body a o hf) ?_
      intro e s' hs
      cases o with
      | inl a' =>
        obtain ⟨rfl, hw⟩ := hs
        exact ⟨_, m, hw, ⟨a', rfl, hm⟩, Nat.lt_succ_self m⟩
      | inr b' =>
        simp at hm
        subst hm
        have hs' : N gh ls b' e s' := hs
        cases e with
        | normal => exact (hN _ _ hs').elim
        | _ => exact hs'
/-- Code that gave back, inside a range over a function. -/
def tP (mk : α → St) (a : α) : Post := fun e s => e = .ret ∧ Weak cx s (mk a)
theorem tP_i {mk : α → St} {a : α} {s : St} (h : Weak cx s (mk a)) : tP (cx := cx) mk a .ret s := ⟨rfl, h⟩
theorem noT {mk : α → St} : ∀ a s, ¬ tP (cx := cx) mk a .normal s := fun a s h => by simp [tP] at h
theorem Weak.mixB (nb : Nat) (ids : List (Option Nat)) (hn : cx.nb = nb) (hpre : ids.take nb = idr nb) (hnd : (ids.filterMap fun x => x).Nodup) (htm : ∀ e ∈ tm', (lk tm e.1).ren (inv ids) = e.2) (hob : pickOb ids ob = ob') (hgh : gh.map (Tm.ren (inv ids)) = gh') :
    Weak cx ⟨tm, ob, nt, gh, ls⟩ ⟨tm', ob', nt, gh', ls⟩ := by
  subst hob
  subst hgh
  have key : ∀ l : Tm, (∀ e ∈ l, (lk tm e.1).ren (inv ids) = e.2) → ∀ i, lk l i = (lk tm i).ren (inv ids) ∨ lk l i = .l .u := by
    intro l
    induction l with
    | nil => intro _ i; exact .inr rfl
    | cons e l ih =>
      intro h i
      rw [lk_cons]
      split
      · rename_i hi
        subst hi
        exact .inl (h e (by simp)).symm
      · exact ih (fun e' he' => h e' (by simp [he'])) i
  have hlen : nb ≤ ids.length := by
    have := congrArg List.length hpre
    simp [idr] at this
    omega
  refine Weak.ren (st := ⟨tm, ob, nt, gh, ls⟩) ids tm' (nd_of ids hnd) (by omega) (fun i o hi ho => ?_) (key tm' htm)
  rw [hn] at hi
  have h1 : (ids.take nb)[i]? = some (some o) := by rw [List.getElem?_take_of_lt hi]; exact ho
  rw [hpre, idr, List.getElem?_map, List.getElem?_range hi] at h1
  simp at h1
  exact h1.symm
theorem W.nilRow (i ty sz n : Nat) {s' : St} (h : lk tm i = .l (.s (.slice none 0 0))) (hn : ob.length = n) (ho : ob ++ [some ⟨ty, sz, true, none, []⟩] = ob') (k : Weak cx ⟨(i, .l (.r n sz 0 0)) :: tm, ob', nt, gh, ls⟩ s') : Weak cx ⟨tm, ob, nt, gh, ls⟩ s' := by
  subst hn
  subst ho
  exact Weak.trans (Weak.nilRow (st := ⟨tm, ob, nt, gh, ls⟩) i ty sz h) k
theorem W.nilCellD (o j sz : Nat) {z : Ob} {s' : St} (hz : ob[o]? = some (some z)) (hj : z.cs[j]? = some (.s (.slice none 0 0))) (hrow : z.row = false) (ho : ob.set o (some { z with cs := z.cs.set j (.d false sz []) }) = ob') (k : Weak cx ⟨tm, ob', nt, gh, ls⟩ s') : Weak cx ⟨tm, ob, nt, gh, ls⟩ s' := by
  subst ho
  exact Weak.trans (Weak.nilCellD (z := z) o j sz hz hj hrow) k
theorem W.nilCell (o j ty sz n : Nat) {z : Ob} {s' : St} (hz : ob[o]? = some (some z)) (hj : z.cs[j]? = some (.s (.slice none 0 0))) (hrow : z.row = false) (hn : ob.length = n) (ho : ob.set o (some { z with cs := z.cs.set j (.r n sz 0 0) }) ++ [some ⟨ty, sz, true, none, []⟩] = ob') (k : Weak cx ⟨tm, ob', nt, gh, ls⟩ s') : Weak cx ⟨tm, ob, nt, gh, ls⟩ s' := by
  subst hn
  subst ho
  exact Weak.trans (Weak.nilCell (z := z) o j ty sz hz hj hrow) k
theorem W.frzRow (o : Nat) {ty sz : Nat} {cap : Option Nat} {es : List (List T)} {s' : St} (hz : ob[o]? = some (some ⟨ty, sz, true, cap, lvs es⟩)) (h0 : 0 < sz) (hes : ∀ e ∈ es, e.length = sz)
    (hm : es.length ≤ 140737488355328) (h1 : Tm.frz o sz es tm = tm') (h2 : (ob.set o none).map (Option.map (Ob.frz o sz es)) = ob') (h3 : gh.map (Tm.frz o sz es) = gh') (k : Weak cx ⟨tm', ob', nt, gh', ls⟩ s') : Weak cx ⟨tm, ob, nt, gh, ls⟩ s' := by
  subst h1
  subst h2
  subst h3
  exact Weak.trans (Weak.freeze (st := ⟨tm, ob, nt, gh, ls⟩) (o := o) (sz := sz) (z := ⟨ty, sz, true, cap, lvs es⟩) (es := es) (by simp [St.obj, hz]) rfl rfl h0 rfl hes hm) k
end
section
variable {P : Program} {st : St} {t e o n k : Nat} {x : AV} {z : List Value} {ag : Bool} {sz by' : Nat} {acc ys : List (List T)} {d : Option Nat} {K : St → Prop}
/-- Data is pushed to the end of an own row of data; what comes is told as a new object. -/
theorem xapp_pushN {t e n k : Nat} {x : AV} {z : List Value} {ag : Bool} {sz by' o : Nat} {cap : Option Nat} {acc ys : List (List T)} {d : Option Nat} {K : St → Prop} (he : elemF P t = some e) (hti : tiF P e = some ⟨ag, sz, by', z⟩) (hz : st.obj o = some ⟨e, sz, true, cap, lvs acc⟩)
    (hq : st.src sz x = some (k, lvs ys)) (hacc : ∀ e ∈ acc, e.length = sz) (hn : acc.length = n) (h1 : z.length = sz ∧ 0 < sz ∧ 0 < by') (h4 : (n + k) * by' ≤ 140737488355328)
    (hk : K (St.put { st with ob := st.ob.set o none ++ [some ⟨e, sz, true, none, lvs (acc ++ ys)⟩] } d (.l (.r st.ob.length sz 0 (n + k))))) : xapp P t (.l (.r o sz 0 n)) x st d K := by
  subst hn
  refine xapp_new (ti := ⟨ag, sz, by', z⟩) (q := (k, lvs ys)) he hti h1 hq hz ⟨rfl, rfl, rfl, rfl⟩ (by simp [lvs_length hacc]) h4 ?_
  rw [show (⟨e, sz, true, cap, lvs acc⟩ : Ob).cs ++ (k, lvs ys).2 = lvs (acc ++ ys) from (lvs_append _ _).symm]
  exact hk
end
@[simp] theorem lvs_nil : lvs [] = [] := rfl
theorem aliases_mono {C D : St → List AV → Prop} (h : ∀ s a, C s a → D s a) : ∀ (rs : List Nat) (st : St) (avs : List AV), aliases rs st avs C → aliases rs st avs D
  | [], _, _, hc => h _ _ hc
  | o :: rs, st, avs, ⟨x, h1, h2, h3⟩ => ⟨x, h1, h2, aliases_mono h rs _ _ h3⟩
theorem xcall_rowsN {P : Program} {f : Nat} {st : St} {dst : Option Nat} {K : St → Prop} {avs cargs : List AV} {obs : List Ob} {obs' : List (Option Ob)} {res : AV} (rs ids : List Nat) {st1 : St} {avs1 : List AV} (hal : aliases rs st avs fun s a => s = st1 ∧ a = avs1)
    (he : Enters P f) (hs : Sound P f cargs obs res obs') (hnd : ids.Nodup) (hlt : ids.all (fun i => decide (i < st1.ob.length)) = true) (hids : ids.all (fun i => decide (st.ob.length ≤ i)) = true) (hob : pickOb (ids.map some) st1.ob = obs.map some) (hrow : obs.all (·.row) = true) (hrow' : obs'.all (fun x => match x with | some y => y.row | none => true) = true)
    (hna : res.na = true) (hona : obs'.all (fun x => match x with | some x => x.na | none => true) = true) (hlen : ids.length ≤ obs'.length) (hv : All2 (Vw st1 ids) avs1 cargs)
    (hk : K (St.put { st with ob := obAfter st1 ids obs' } dst (res.ren (outR ids st1.ob.length)))) : xcall P f avs st dst K := by
  have key : ∀ i o : Nat, ids[i]? = some o → ∃ z, st1.ob[o]? = some (some z) ∧ z.row = true := by
    intro i o hi
    have h1 : (pickOb (ids.map some) st1.ob)[i]? = (obs.map some)[i]? := by rw [hob]
    have hl : ids.length = obs.length := by have := congrArg List.length hob; simpa [pickOb] using this
    have hlt := (List.getElem?_eq_some_iff.1 hi).1
    have h2 : obs[i]? = some obs[i] := List.getElem?_eq_getElem (by omega)
    rw [List.getElem?_map, h2] at h1
    obtain ⟨o', y, g1, g2, g3⟩ := pickOb_get h1
    rw [List.getElem?_map, hi] at g1
    simp at g1
    subst g1
    refine ⟨y, g2, ?_⟩
    have h3 := List.all_eq_true.1 hrow _ (List.mem_of_getElem? h2)
    rw [g3] at h3
    exact h3
  have hobj : ∀ o z, st1.ob[o]? = some (some z) → st1.obj o = some z := by
    intro o z h
    simp [St.obj, h]
  refine .inr (.inr ⟨rs, aliases_mono ?_ rs st avs hal⟩)
  rintro s a ⟨rfl, rfl⟩
  refine ⟨ids, obs, obs', res, cargs, he, hs, ⟨hnd, ?_, hob, ?_, ?_, hna, hona, hlen⟩, hv, ?_, hk⟩
  · intro i hi
    have := List.all_eq_true.1 hlt i hi
    simpa using this
  · intro i o z hi hz hr
    obtain ⟨z', hz', hr'⟩ := key i o hi
    rw [hobj o z' hz'] at hz
    simp at hz
    subst hz
    rw [hr'] at hr
    simp at hr
  · intro i o z y hi hz hy
    obtain ⟨z', hz', hr'⟩ := key i o hi
    rw [hobj o z' hz'] at hz
    simp at hz
    subst hz
    have := List.all_eq_true.1 hrow' _ (List.mem_of_getElem? hy)
    simp only at this
    rw [this, hr']
  · intro i hi
    have := List.all_eq_true.1 hids i hi
    simpa using this
@[simp] theorem lvs_frz (o sz : Nat) (fs es : List (List T)) : (lvs es).map (LV.frz o sz fs) = lvs es := by
  unfold lvs
  rw [List.map_flatMap]
  congr 1
  funext e
  rw [List.map_map]
  congr 1
  funext x
  cases x <;> rfl
/-- An operation that yields, among others: the loop's body runs as the n-th operation. -/
theorem xopsY.yield {P : Program} {cxI : Cx} {l nt : Nat} {ps : Array Tmp} {assign body : Code} {ops : Array Oper} {K : St → Prop} (hY : YCx cxI l nt ps assign body) (i n : Nat) {o : Oper} {c0 : Call} {g : Operand} {st : St} {tm1 : Tm} {ob1 : List (Option Ob)} {nt1 : Nat} {tmO : Tm} {gh : List Tm}
    (ho : ops[n]? = some o) (hop : o.op = .call c0) (hc : c0.callee = .value g) (hin : i ≤ n) {s1 : St} (hpre : xops P ops ((ops.toList.drop i).take (n - i)) st (fun s => s = s1)) (hs1 : s1 = ⟨tm1, ob1, nt1, tmO :: gh, none⟩)
    (hgd : match o.guard with | none => True | some (j, want) => yd ops ⟨tm1, ob1, nt1, tmO :: gh, none⟩ j = some (some want)) (hg : St.ev ⟨tm1, ob1, nt1, tmO :: gh, none⟩ g = .l (.s (.func (.yield l) #[] #[])))
    (hlen : c0.args.size = ps.size) {st2 : St} (hst2 : puts (ps.toList.zip (c0.args.toList.map (St.ev ⟨tm1, ob1, nt1, tmO :: gh, none⟩))) ⟨tmO, ob1, nt, tm1 :: tmO :: gh, none⟩ = st2)
    (h : ∀ cxR, cxR.nb = cxI.nb → AW P (some l) cxR assign (asgQ fun s1 => AW P (some l) cxR body (roundQ o.dst nt1 fun s3 => xopsY P none cxI ops (ops.toList.drop (n + 1)) (n + 1) s3 K) { s1 with ls := some .skip }) st2) :
    xopsY P none cxI ops (ops.toList.drop i) i st K := by
  subst hst2
  subst hs1
  have hn : n < ops.size := (Array.getElem?_eq_some_iff.1 ho).1
  have h1 : ops.toList.drop n = o :: ops.toList.drop (n + 1) := by
    have hl : n < ops.toList.length := by simpa using hn
    rw [List.drop_eq_getElem_cons hl]
    congr 1
    have := (Array.getElem?_eq_some_iff.1 ho).2
    simpa using this
  have hsplit : ops.toList.drop i = (ops.toList.drop i).take (n - i) ++ o :: ops.toList.drop (n + 1) := by
    rw [← h1]
    have : ops.toList.drop n = (ops.toList.drop i).drop (n - i) := by rw [List.drop_drop]; congr 1; omega
    rw [this, List.take_append_drop]
  have htl : ((ops.toList.drop i).take (n - i)).length = n - i := by simp; omega
  have key := xopsY_pre (P := P) (R := none) (cx := cxI) (ops := ops) (K := K) (s1 := ⟨tm1, ob1, nt1, tmO :: gh, none⟩) (o :: ops.toList.drop (n + 1)) ((ops.toList.drop i).take (n - i)) i st hsplit hpre (by
    rw [htl, show i + (n - i) = n by omega]
    show OpG P none cxI ops n _ _
    exact OpG.fam ho hgd (OpFam.yield hY hop hc hg rfl rfl hlen fun cxR hR => h cxR hR))
  rw [← hsplit] at key
  exact key
theorem AW.stepYK {P : Program} {R : Option Nat} {cx : Cx} {ops : Array Oper} {Q : Post} {st : St} {id : Nat} {c : Code} (h : xopsY P R cx ops (ops.toList.drop 0) 0 st (KK (AW P R cx c Q))) : AW P R cx (.seq (.region id ops false) c) Q st :=
  AW.stepY (KK (AW P R cx c Q)) h fun s hs => hs
theorem AW.drawnYP {P : Program} {cx : Cx} {ops : Array Oper} {V : List AV} {Q : Post} {R : Option Nat} {tm tm' : Tm} {ob : List (Option Ob)} {nt : Nat} {gh : List Tm} {ls : Option Code} (hm : P.follows .mixedOrders = true) {id : Nat} {c : Code} (D : List DI) (n1 : Nat) (hc : chkD ops D n1 = true) (he : D.all (fun d => !d.ef && d.ks.all (· == 0)) = true) (hO : ObP P ops tm V ob nt gh ls ops.toList D V) (hV : V.length = n1)
    (htm : tmD ops.toList V tm = tm') (hx : xopsY P R cx ops (ops.toList.drop n1) n1 ⟨tm', ob, nt, gh, ls⟩ (KK (AW P R cx c Q))) : AW P R cx (.seq (.region id ops true) c) Q ⟨tm, ob, nt, gh, ls⟩ := by
  subst htm
  have h1 : D.all (fun d => !d.ef) = true := List.all_eq_true.2 fun d hd => by
    have := List.all_eq_true.1 he d hd
    simp only [Bool.and_eq_true] at this
    exact this.1
  refine AW.drawnY hm D n1 V [ob] (KK (AW P R cx c Q)) hc hV rfl (ObP.obl tm _ _ _ (fun d hd => ?_) hO) (me := ob) (by rw [ef_none h1]; rfl) hx fun s hs => hs
  have := List.all_eq_true.1 he d hd
  simp only [Bool.and_eq_true, List.all_eq_true] at this
  exact ⟨by simpa using this.1, fun k hk => by simpa using this.2 k hk⟩
theorem KD.mkN {tm : Tm} {ob : List (Option Ob)} {nt : Nat} {gh : List Tm} {ls : Option Code} : KD none (.l .u) tm ob nt gh ls ⟨tm, ob, nt, gh, ls⟩ := ⟨.l .u, fun _ => rfl, rfl, rfl, rfl, rfl, rfl⟩
theorem xopsY.run {P : Program} {R : Option Nat} {cx : Cx} {ops : Array Oper} {K : St → Prop} {st s1 : St} (i n : Nat) (hin : i ≤ n) (hn : n ≤ ops.size) (hpre : xops P ops ((ops.toList.drop i).take (n - i)) st (fun s => s = s1)) (k : xopsY P R cx ops (ops.toList.drop n) n s1 K) : xopsY P R cx ops (ops.toList.drop i) i st K := by
  have hsplit : ops.toList.drop i = (ops.toList.drop i).take (n - i) ++ ops.toList.drop n := by
    have : ops.toList.drop n = (ops.toList.drop i).drop (n - i) := by rw [List.drop_drop]; congr 1; omega
    rw [this, List.take_append_drop]
  have htl : ((ops.toList.drop i).take (n - i)).length = n - i := by simp; omega
  have key := xopsY_pre (P := P) (R := R) (cx := cx) (ops := ops) (K := K) (s1 := s1) (ops.toList.drop n) ((ops.toList.drop i).take (n - i)) i st hsplit hpre (by
    rw [htl, show i + (n - i) = n by omega]; exact k)
  rw [← hsplit] at key
  exact key
@[simp] theorem nl_eq (a : LV) : NilLe a a = True := eq_true (Or.inl rfl)
@[simp] theorem nl_nil (k : Nat) : NilLe (.s (.slice none 0 0)) (.d false k []) = True := eq_true (Or.inr ⟨rfl, k, rfl⟩)
theorem xrow_own {st : St} {dst : Option Nat} {e sz len : Nat} {cs : List LV} {K : St → Prop} (k : K ((st.add ⟨e, sz, true, none, cs⟩).put dst (hdr st.ob.length sz len))) : xrow st dst e sz len cs K := Or.inl k
theorem xrow_data {st : St} {dst : Option Nat} {e sz len : Nat} {cs : List LV} {K : St → Prop} {es : List (List T)} (h : All2 NilLe cs (lvs es)) (hes : ∀ x ∈ es, x.length = sz) (h0 : 0 < sz) (hl : len = es.length)
    (k : K (St.put { st with ob := st.ob ++ [none] } dst (.l (.d false sz es)))) : xrow st dst e sz len cs K := Or.inr ⟨es, h, hes, h0, hl, k⟩
def strL (xs : List Int) : ByteArray := ⟨(xs.map fun x => UInt8.ofNat x.toNat).toArray⟩
theorem lvs1 (e : List T) : lvs [e] = e.map (T.lv false) := by simp [lvs]
theorem set_len {α : Type} {l m : List α} {i : Nat} {x : α} (h : m = l.set i x) : l.length = m.length := by simp [h]
theorem app_len1 {α : Type} {l k : List α} {x : α} (h : k = l ++ [x]) : l.length + 1 = k.length := by simp [h]
/-! ### Rows of elements that are told by a function -/
section
variable {α : Type} {r : α → List T} {n : Nat} {xs ys : List α} {i j k : Nat} {x x' : α} {cs : List LV}
theorem g_sz (hr : ∀ x, (r x).length = n) : ∀ e ∈ xs.map r, e.length = n := by
  intro e he
  obtain ⟨x, _, rfl⟩ := List.mem_map.1 he
  exact hr x
theorem g_get (hx : xs[i]? = some x) : (xs.map r)[i]? = some (r x) := by simp [hx]
theorem g_seg (hr : ∀ x, (r x).length = n) (hx : xs[i]? = some x) (hjk : j + k ≤ n) : ((lvs (xs.map r)).drop (i * n + j)).take k = ((lvs [r x]).drop j).take k := lvs_seg (g_sz hr) (g_get hx) hjk
theorem g_put (hr : ∀ x, (r x).length = n) (hx : xs[i]? = some x) (hy : ys = xs.set i x') (hj : j + cs.length ≤ n) (he : setAt (lvs [r x]) j cs = lvs [r x']) : setAt (lvs (xs.map r)) (i * n + j) cs = lvs (ys.map r) := by
  rw [lvs_put (g_sz hr) (g_get hx) hj he, hy, List.map_set]
theorem g_fit (hr : ∀ x, (r x).length = n) (hx : xs[i]? = some x) {m : Nat} (hm : m ≤ n) : i * n + m ≤ (lvs (xs.map r)).length := by
  have h1 := lvs_length (g_sz (xs := xs) hr)
  rw [h1, List.length_map]
  have hi := (List.getElem?_eq_some_iff.1 hx).1
  have h2 : (i + 1) * n ≤ xs.length * n := Nat.mul_le_mul_right _ hi
  rw [Nat.add_mul] at h2
  omega
end
section
variable {α : Type} {l m : List α} {a b : Int}
def segl (l : List α) (a : Int) : Option (List α) := if 0 ≤ a ∧ a ≤ l.length then some (l.drop a.toNat) else none
def segh (l : List α) (b : Int) : Option (List α) := if 0 ≤ b ∧ b ≤ l.length then some (l.take b.toNat) else none
def seglh (l : List α) (a b : Int) : Option (List α) := seg l a b
variable {β : Type} {r : α → β}
end
end Go.Proofs.Ytlkhfdccapkcdaa

/- The program's data types: rows of each. -/
namespace Go.Proofs.Ytlkhfdccapkcdaa
open Go Go.RowKit
set_option linter.unusedVariables false
set_option linter.unusedSimpArgs false
@[simp] theorem encU_tk (l : List Int) : (encU l).take l.length = encU l := List.take_of_length_le (by simp)
@[simp] theorem encS_tk (l : List ByteArray) : (encS l).take l.length = encS l := List.take_of_length_le (by simp)
@[simp] theorem encB_tk (l : List Bool) : (encB l).take l.length = encB l := List.take_of_length_le (by simp)
@[simp] theorem encI_tk (l : List Int) : (encI l).take l.length = encI l := List.take_of_length_le (by simp)
@[simp] theorem encField_tk (l : List Field) : (encField l).take l.length = encField l := List.take_of_length_le (by simp)
def encLField (l : List (List Field)) : List (List T) := l.map fun x => [.sl 2 (encField x)]
@[simp] theorem encLField_length (l : List (List Field)) : (encLField l).length = l.length := by simp [encLField]
@[simp high] theorem encLField_get (l : List (List Field)) (i : Nat) : (encLField l)[i]? = (l[i]?).map fun x => [.sl 2 (encField x)] := by simp [encLField]
@[simp] theorem encLField_nil : encLField [] = [] := rfl
@[simp] theorem encLField_eq_nil (l : List (List Field)) : (encLField l = []) = (l = []) := by simp [encLField]
@[simp] theorem encLField_tk (l : List (List Field)) : (encLField l).take l.length = encLField l := List.take_of_length_le (by simp)
def encLS (l : List (List ByteArray)) : List (List T) := l.map fun x => [.sl 1 (encS x)]
@[simp] theorem encLS_length (l : List (List ByteArray)) : (encLS l).length = l.length := by simp [encLS]
@[simp high] theorem encLS_get (l : List (List ByteArray)) (i : Nat) : (encLS l)[i]? = (l[i]?).map fun x => [.sl 1 (encS x)] := by simp [encLS]
@[simp] theorem encLS_nil : encLS [] = [] := rfl
@[simp] theorem encLS_eq_nil (l : List (List ByteArray)) : (encLS l = []) = (l = []) := by simp [encLS]
@[simp] theorem encLS_tk (l : List (List ByteArray)) : (encLS l).take l.length = encLS l := List.take_of_length_le (by simp)
@[simp] theorem encItem_tk (l : List Item) : (encItem l).take l.length = encItem l := List.take_of_length_le (by simp)
@[simp] theorem encEffect_tk (l : List Effect) : (encEffect l).take l.length = encEffect l := List.take_of_length_le (by simp)
@[simp] theorem encRid_tk (l : List Rid) : (encRid l).take l.length = encRid l := List.take_of_length_le (by simp)
def encLEffect (l : List (List Effect)) : List (List T) := l.map fun x => [.sl 7 (encEffect x)]
@[simp] theorem encLEffect_length (l : List (List Effect)) : (encLEffect l).length = l.length := by simp [encLEffect]
@[simp high] theorem encLEffect_get (l : List (List Effect)) (i : Nat) : (encLEffect l)[i]? = (l[i]?).map fun x => [.sl 7 (encEffect x)] := by simp [encLEffect]
@[simp] theorem encLEffect_nil : encLEffect [] = [] := rfl
@[simp] theorem encLEffect_eq_nil (l : List (List Effect)) : (encLEffect l = []) = (l = []) := by simp [encLEffect]
@[simp] theorem encLEffect_tk (l : List (List Effect)) : (encLEffect l).take l.length = encLEffect l := List.take_of_length_le (by simp)
@[simp] theorem encFeed_tk (l : List Feed) : (encFeed l).take l.length = encFeed l := List.take_of_length_le (by simp)
structure R5Said where
  s : ByteArray
  ok : Bool
deriving DecidableEq, Inhabited
attribute [ext] R5Said
def encR5Said (l : List R5Said) : List (List T) := l.map fun x => [.v (.string x.s), .v (.bool x.ok)]
@[simp] theorem encR5Said_length (l : List R5Said) : (encR5Said l).length = l.length := by simp [encR5Said]
@[simp high] theorem encR5Said_get (l : List R5Said) (i : Nat) : (encR5Said l)[i]? = (l[i]?).map fun x => [.v (.string x.s), .v (.bool x.ok)] := by simp [encR5Said]
@[simp] theorem encR5Said_nil : encR5Said [] = [] := rfl
@[simp] theorem encR5Said_eq_nil (l : List R5Said) : (encR5Said l = []) = (l = []) := by simp [encR5Said]
@[simp] theorem encR5Said_tk (l : List R5Said) : (encR5Said l).take l.length = encR5Said l := List.take_of_length_le (by simp)
theorem encPair_seg {xs : List Pair} {i j k : Nat} {x : Pair} (hx : xs[i]? = some x) (hjk : j + k ≤ 6) : ((lvs (encPair xs)).drop (i * 6 + j)).take k = ((lvs [[.v (.string x.key), .v (.int .i64 x.item.kind), .v (.string x.item.s), .sl 2 (encField x.item.f), .sl 1 (encS x.item.l), .v (.int .i64 x.item.exp)]]).drop j).take k := g_seg (r := fun x : Pair => [.v (.string x.key), .v (.int .i64 x.item.kind), .v (.string x.item.s), .sl 2 (encField x.item.f), .sl 1 (encS x.item.l), .v (.int .i64 x.item.exp)]) (fun _ => rfl) hx hjk
theorem encPair_put {xs ys : List Pair} {i j : Nat} {x x' : Pair} {cs : List LV} (hx : xs[i]? = some x) (hy : ys = xs.set i x') (hj : j + cs.length ≤ 6) (he : setAt (lvs [[.v (.string x.key), .v (.int .i64 x.item.kind), .v (.string x.item.s), .sl 2 (encField x.item.f), .sl 1 (encS x.item.l), .v (.int .i64 x.item.exp)]]) j cs = lvs [[.v (.string x'.key), .v (.int .i64 x'.item.kind), .v (.string x'.item.s), .sl 2 (encField x'.item.f), .sl 1 (encS x'.item.l), .v (.int .i64 x'.item.exp)]]) : setAt (lvs (encPair xs)) (i * 6 + j) cs = lvs (encPair ys) := g_put (r := fun x : Pair => [.v (.string x.key), .v (.int .i64 x.item.kind), .v (.string x.item.s), .sl 2 (encField x.item.f), .sl 1 (encS x.item.l), .v (.int .i64 x.item.exp)]) (fun _ => rfl) hx hy hj he
theorem encPair_fit {xs : List Pair} {i : Nat} {x : Pair} (hx : xs[i]? = some x) {m : Nat} (hm : m ≤ 6) : i * 6 + m ≤ (lvs (encPair xs)).length := g_fit (r := fun x : Pair => [.v (.string x.key), .v (.int .i64 x.item.kind), .v (.string x.item.s), .sl 2 (encField x.item.f), .sl 1 (encS x.item.l), .v (.int .i64 x.item.exp)]) (fun _ => rfl) hx hm
theorem encPair_fitj {xs : List Pair} {i j : Nat} {x : Pair} (hx : xs[i]? = some x) {m : Nat} (hm : j + m ≤ 6) : i * 6 + j + m ≤ (lvs (encPair xs)).length := by rw [Nat.add_assoc]; exact encPair_fit hx hm
@[simp] theorem encPair_tk (l : List Pair) : (encPair l).take l.length = encPair l := List.take_of_length_le (by simp)
@[simp] theorem encClaim_tk (l : List Claim) : (encClaim l).take l.length = encClaim l := List.take_of_length_le (by simp)
def encLClaim (l : List (List Claim)) : List (List T) := l.map fun x => [.sl 4 (encClaim x)]
@[simp] theorem encLClaim_length (l : List (List Claim)) : (encLClaim l).length = l.length := by simp [encLClaim]
@[simp high] theorem encLClaim_get (l : List (List Claim)) (i : Nat) : (encLClaim l)[i]? = (l[i]?).map fun x => [.sl 4 (encClaim x)] := by simp [encLClaim]
@[simp] theorem encLClaim_nil : encLClaim [] = [] := rfl
@[simp] theorem encLClaim_eq_nil (l : List (List Claim)) : (encLClaim l = []) = (l = []) := by simp [encLClaim]
@[simp] theorem encLClaim_tk (l : List (List Claim)) : (encLClaim l).take l.length = encLClaim l := List.take_of_length_le (by simp)
def encLI (l : List (List Int)) : List (List T) := l.map fun x => [.sl 1 (encI x)]
@[simp] theorem encLI_length (l : List (List Int)) : (encLI l).length = l.length := by simp [encLI]
@[simp high] theorem encLI_get (l : List (List Int)) (i : Nat) : (encLI l)[i]? = (l[i]?).map fun x => [.sl 1 (encI x)] := by simp [encLI]
@[simp] theorem encLI_nil : encLI [] = [] := rfl
@[simp] theorem encLI_eq_nil (l : List (List Int)) : (encLI l = []) = (l = []) := by simp [encLI]
@[simp] theorem encLI_tk (l : List (List Int)) : (encLI l).take l.length = encLI l := List.take_of_length_le (by simp)
@[simp] theorem encMsg_tk (l : List Msg) : (encMsg l).take l.length = encMsg l := List.take_of_length_le (by simp)
def encLPair (l : List (List Pair)) : List (List T) := l.map fun x => [.sl 6 (encPair x)]
@[simp] theorem encLPair_length (l : List (List Pair)) : (encLPair l).length = l.length := by simp [encLPair]
@[simp high] theorem encLPair_get (l : List (List Pair)) (i : Nat) : (encLPair l)[i]? = (l[i]?).map fun x => [.sl 6 (encPair x)] := by simp [encLPair]
@[simp] theorem encLPair_nil : encLPair [] = [] := rfl
@[simp] theorem encLPair_eq_nil (l : List (List Pair)) : (encLPair l = []) = (l = []) := by simp [encLPair]
@[simp] theorem encLPair_tk (l : List (List Pair)) : (encLPair l).take l.length = encLPair l := List.take_of_length_le (by simp)
structure R13Fed where
  f : Feed
  db : List Pair
  is : Bool
deriving DecidableEq, Inhabited
attribute [ext] R13Fed
def encR13Fed (l : List R13Fed) : List (List T) := l.map fun x => [.v (.int .i64 x.f.rid.node), .v (.int .i64 x.f.rid.epoch), .v (.int .i64 x.f.off), .sl 7 (encEffect x.f.back), .v (.int .i64 x.f.prev.node), .v (.int .i64 x.f.prev.epoch), .v (.int .i64 x.f.upto), .sl 6 (encPair x.db), .v (.bool x.is)]
@[simp] theorem encR13Fed_length (l : List R13Fed) : (encR13Fed l).length = l.length := by simp [encR13Fed]
@[simp high] theorem encR13Fed_get (l : List R13Fed) (i : Nat) : (encR13Fed l)[i]? = (l[i]?).map fun x => [.v (.int .i64 x.f.rid.node), .v (.int .i64 x.f.rid.epoch), .v (.int .i64 x.f.off), .sl 7 (encEffect x.f.back), .v (.int .i64 x.f.prev.node), .v (.int .i64 x.f.prev.epoch), .v (.int .i64 x.f.upto), .sl 6 (encPair x.db), .v (.bool x.is)] := by simp [encR13Fed]
@[simp] theorem encR13Fed_nil : encR13Fed [] = [] := rfl
@[simp] theorem encR13Fed_eq_nil (l : List R13Fed) : (encR13Fed l = []) = (l = []) := by simp [encR13Fed]
@[simp] theorem encR13Fed_tk (l : List R13Fed) : (encR13Fed l).take l.length = encR13Fed l := List.take_of_length_le (by simp)
structure R5Got where
  i : Item
  ok : Bool
deriving DecidableEq, Inhabited
attribute [ext] R5Got
def encR5Got (l : List R5Got) : List (List T) := l.map fun x => [.v (.int .i64 x.i.kind), .v (.string x.i.s), .sl 2 (encField x.i.f), .sl 1 (encS x.i.l), .v (.int .i64 x.i.exp), .v (.bool x.ok)]
@[simp] theorem encR5Got_length (l : List R5Got) : (encR5Got l).length = l.length := by simp [encR5Got]
@[simp high] theorem encR5Got_get (l : List R5Got) (i : Nat) : (encR5Got l)[i]? = (l[i]?).map fun x => [.v (.int .i64 x.i.kind), .v (.string x.i.s), .sl 2 (encField x.i.f), .sl 1 (encS x.i.l), .v (.int .i64 x.i.exp), .v (.bool x.ok)] := by simp [encR5Got]
@[simp] theorem encR5Got_nil : encR5Got [] = [] := rfl
@[simp] theorem encR5Got_eq_nil (l : List R5Got) : (encR5Got l = []) = (l = []) := by simp [encR5Got]
@[simp] theorem encR5Got_tk (l : List R5Got) : (encR5Got l).take l.length = encR5Got l := List.take_of_length_le (by simp)
end Go.Proofs.Ytlkhfdccapkcdaa

/- Walks: Go's slices functions. -/
namespace Go.Proofs.Ytlkhfdccapkcdaa
open Go Go.RowKit
set_option linter.unusedVariables false
set_option linter.unusedSimpArgs false
def small {α : Type} (c : Nat) (l : List α) : Bool := decide (l.length * c ≤ 140737488355328 ∧ l.length ≤ 140737488355328)
theorem small_d {α : Type} {c : Nat} {l : List α} (h : small c l = true) : l.length * c ≤ 140737488355328 ∧ l.length ≤ 140737488355328 := by simpa [small] using h
set_option maxRecDepth 8000 in
theorem s_cl_Field (l : List Field) (hl : l.length * 32 ≤ 140737488355328 ∧ l.length ≤ 140737488355328) : Sound Try.prog 75 [.l (.d true 2 ((encField l)))] [] (.l (.r 0 2 0 l.length)) [some ⟨105, 2, true, none, lvs (encField l)⟩] := by
  refine Sound.of_aw (fn := Try.f75) (c := _) Try.func75 rfl (by simp [Try.f75]) fun cx hG hnb => ?_
  rw [show Try.f75.ntmps = 8 from rfl]
  have hn0 : cx.nb = 0 := hnb
  refine AW.step (by simp; rfl) ?_
  refine AW.seq ?_
  refine AW.stepN (fun s => ∃ b : Bool, (encField l ≠ [] → b = false) ∧ s = ⟨[(4, .l (.s (.bool b))), (3, .l (.d true 2 (encField l))), (2, .l (.s (.slice none 0 0))), (0, .l (.d true 2 (encField l)))], [], 8, [], none⟩) ?_ ?_
  · simp
  rintro s ⟨b, hb, rfl⟩
  refine AW.cond rfl (fun h => ?_) (fun h => AW.skip ?_)
  · have he : l = [] := by
      cases l with
      | nil => rfl
      | cons x l => simp at hb; rw [hb] at h; simp at h
    subst he
    refine AW.step (by simp; rfl) ?_
    refine AW.ret (Left.of (av := .l (.s (.slice none 0 0))) (by simp [Try.f75, resV, resC]) ?_)
    refine LeftV.weak (Weak.nilRow 0 105 2 rfl) ?_
    refine LeftV.now hnb [some 0] (fun i j o hi hj => ?_) rfl ?_ ?_
    · cases i <;> cases j <;> simp_all
    · simp [pickOb, St.add, Ob.ren, lvs]
    · rfl
  · simp only [Post.seq]
    apply AW.step
    · simp [Value.oneCell']
      refine xrow_own ?_
      try simp
      refine xapp_grow (q := (l.length, lvs (encField l))) (z := ⟨105, 2, true, none, []⟩) tb_el31 tb_ti105 (by simp) (by simp [encField_lvsA]) (by simp) (by simp) (by simp) (by simp; omega) ?_
      simp [St.grow, obsBut, lvs_ren]
      rfl
    refine AW.ret (Left.of (av := .l (.r 0 2 0 l.length)) (by simp [Try.f75, resV, resC]) ?_)
    refine LeftV.now hnb [some 0] (fun i j o hi hj => ?_) rfl ?_ rfl
    · cases i <;> cases j <;> simp_all
    · simp [pickOb, Ob.ren, lvs_ren]
theorem en_cl_Field : Enters Try.prog 75 := enters Try.func75 (by kernel_rfl) rfl
set_option maxRecDepth 8000 in
theorem s_cl_Pair (l : List Pair) (hl : l.length * 96 ≤ 140737488355328 ∧ l.length ≤ 140737488355328) : Sound Try.prog 95 [.l (.d false 6 ((encPair l)))] [] (.l (.r 0 6 0 l.length)) [some ⟨125, 6, true, none, lvs (encPair l)⟩] := by
  refine Sound.of_aw (fn := Try.f95) (c := _) Try.func95 rfl (by simp [Try.f95]) fun cx hG hnb => ?_
  rw [show Try.f95.ntmps = 8 from rfl]
  have hn0 : cx.nb = 0 := hnb
  refine AW.step (by simp; rfl) ?_
  refine AW.seq ?_
  refine AW.stepN (fun s => ∃ b : Bool, (encPair l ≠ [] → b = false) ∧ s = ⟨[(4, .l (.s (.bool b))), (3, .l (.d false 6 (encPair l))), (2, .l (.s (.slice none 0 0))), (0, .l (.d false 6 (encPair l)))], [], 8, [], none⟩) ?_ ?_
  · simp
  rintro s ⟨b, hb, rfl⟩
  refine AW.cond rfl (fun h => ?_) (fun h => AW.skip ?_)
  · have he : l = [] := by
      cases l with
      | nil => rfl
      | cons x l => simp at hb; rw [hb] at h; simp at h
    subst he
    refine AW.step (by simp; rfl) ?_
    refine AW.ret (Left.of (av := .l (.s (.slice none 0 0))) (by simp [Try.f95, resV, resC]) ?_)
    refine LeftV.weak (Weak.nilRow 0 125 6 rfl) ?_
    refine LeftV.now hnb [some 0] (fun i j o hi hj => ?_) rfl ?_ ?_
    · cases i <;> cases j <;> simp_all
    · simp [pickOb, St.add, Ob.ren, lvs]
    · rfl
  · simp only [Post.seq]
    apply AW.step
    · simp [Value.oneCell']
      refine xrow_own ?_
      try simp
      refine xapp_grow (q := (l.length, lvs (encPair l))) (z := ⟨125, 6, true, none, []⟩) tb_el56 tb_ti125 (by simp) (by simp [← lvs_eq]) (by simp) (by simp) (by simp) (by simp; omega) ?_
      simp [St.grow, obsBut, lvs_ren]
      rfl
    refine AW.ret (Left.of (av := .l (.r 0 6 0 l.length)) (by simp [Try.f95, resV, resC]) ?_)
    refine LeftV.now hnb [some 0] (fun i j o hi hj => ?_) rfl ?_ rfl
    · cases i <;> cases j <;> simp_all
    · simp [pickOb, Ob.ren, lvs_ren]
theorem en_cl_Pair : Enters Try.prog 95 := enters Try.func95 (by kernel_rfl) rfl
set_option maxRecDepth 8000 in
theorem s_cl_S (l : List ByteArray) (hl : l.length * 16 ≤ 140737488355328 ∧ l.length ≤ 140737488355328) : Sound Try.prog 122 [.l (.d true 1 ((encS l)))] [] (.l (.r 0 1 0 l.length)) [some ⟨9, 1, true, none, lvs (encS l)⟩] := by
  refine Sound.of_aw (fn := Try.f122) (c := _) Try.func122 rfl (by simp [Try.f122]) fun cx hG hnb => ?_
  rw [show Try.f122.ntmps = 8 from rfl]
  have hn0 : cx.nb = 0 := hnb
  refine AW.step (by simp; rfl) ?_
  refine AW.seq ?_
  refine AW.stepN (fun s => ∃ b : Bool, (encS l ≠ [] → b = false) ∧ s = ⟨[(4, .l (.s (.bool b))), (3, .l (.d true 1 (encS l))), (2, .l (.s (.slice none 0 0))), (0, .l (.d true 1 (encS l)))], [], 8, [], none⟩) ?_ ?_
  · simp
  rintro s ⟨b, hb, rfl⟩
  refine AW.cond rfl (fun h => ?_) (fun h => AW.skip ?_)
  · have he : l = [] := by
      cases l with
      | nil => rfl
      | cons x l => simp at hb; rw [hb] at h; simp at h
    subst he
    refine AW.step (by simp; rfl) ?_
    refine AW.ret (Left.of (av := .l (.s (.slice none 0 0))) (by simp [Try.f122, resV, resC]) ?_)
    refine LeftV.weak (Weak.nilRow 0 9 1 rfl) ?_
    refine LeftV.now hnb [some 0] (fun i j o hi hj => ?_) rfl ?_ ?_
    · cases i <;> cases j <;> simp_all
    · simp [pickOb, St.add, Ob.ren, lvs]
    · rfl
  · simp only [Post.seq]
    apply AW.step
    · simp [Value.oneCell']
      refine xrow_own ?_
      try simp
      refine xapp_grow (q := (l.length, lvs (encS l))) (z := ⟨9, 1, true, none, []⟩) tb_el32 tb_ti9 (by simp) (by simp [encS_lvsA]) (by simp) (by simp) (by simp) (by simp; omega) ?_
      simp [St.grow, obsBut, lvs_ren]
      rfl
    refine AW.ret (Left.of (av := .l (.r 0 1 0 l.length)) (by simp [Try.f122, resV, resC]) ?_)
    refine LeftV.now hnb [some 0] (fun i j o hi hj => ?_) rfl ?_ rfl
    · cases i <;> cases j <;> simp_all
    · simp [pickOb, Ob.ren, lvs_ren]
theorem en_cl_S : Enters Try.prog 122 := enters Try.func122 (by kernel_rfl) rfl
def insL {α : Type} (l : List α) (i : Nat) (x : α) : List α := l.take i ++ x :: l.drop i
theorem insL_length {α : Type} (l : List α) (i : Nat) (x : α) (h : i ≤ l.length) : (insL l i x).length = l.length + 1 := by
  simp [insL]
  omega

def delL {α : Type} (l : List α) (i : Nat) : List α := l.take i ++ l.drop (i + 1)
theorem delL_length {α : Type} (l : List α) (i : Nat) (h : i < l.length) : (delL l i).length = l.length - 1 := by
  simp [delL]
  omega

def insB {α : Type} (l : List α) (i : Int) : Bool := decide (0 ≤ i ∧ i ≤ l.length ∧ l.length ≤ 1000000000)
def delB {α : Type} (l : List α) (i j : Int) : Bool := decide (0 ≤ i ∧ i < l.length ∧ j = i + 1 ∧ l.length ≤ 1000000000)
theorem insL_len {α : Type} {l m : List α} {i : Int} {x : α} (h : insB l i = true) (e : m = insL l i.toNat x) : l.length + 1 = m.length := by
  simp [insB] at h
  rw [e, insL_length l i.toNat x (by omega)]
theorem delL_len {α : Type} {l m : List α} {i j : Int} (h : delB l i j = true) (e : m = delL l i.toNat) : l.length - 1 = m.length := by
  simp [delB] at h
  rw [e, delL_length l i.toNat (by omega)]
set_option maxRecDepth 8000 in
set_option maxHeartbeats 8000000 in
theorem s_de_Pair (l : List Pair) (i : Nat) (hi : i < l.length) (hl : l.length ≤ 1000000000) : Sound Try.prog 96 [.l (.r 0 6 0 l.length), .l (.s (.int .i64 i)), .l (.s (.int .i64 (((i + 1 : Nat) : Int))))] [⟨125, 6, true, none, lvs (encPair l)⟩] (.l (.r 0 6 0 (l.length - 1))) [some ⟨125, 6, true, none, lvs (encPair (delL l i))⟩] := by
  refine Sound.of_aw (fn := Try.f96) (c := _) Try.func96 rfl (by simp [Try.f96]) fun cx hG hnb => ?_
  rw [show Try.f96.ntmps = 33 from rfl]
  have hn0 : cx.nb = 1 := hnb
  have hlv : (lvs (encPair l)).length = l.length * 6 := by rw [lvs_length (encPair_sz l)]; simp
  have hn1 : i + (l.length - (i + 1)) = l.length - 1 := by omega
  obtain ⟨es5, he5⟩ : ∃ es5, es5 = (encPair l).take i ++ ((encPair l).drop (i + 1)).take (l.length - (i + 1)) ++ (encPair l).drop (i + (((encPair l).drop (i + 1)).take (l.length - (i + 1))).length) := ⟨_, rfl⟩
  have hF : (((encPair l).drop (i + 1)).take (l.length - (i + 1))) = (encPair l).drop (i + 1) := List.take_of_length_le (by simp)
  have hs5 : ∀ e ∈ es5, e.length = 6 := by
    intro e he
    rw [he5, hF] at he
    simp only [List.mem_append] at he
    rcases he with (h | h) | h
    · exact encPair_sz l e (List.mem_of_mem_take h)
    · exact encPair_sz l e (List.mem_of_mem_drop h)
    · exact encPair_sz l e (List.mem_of_mem_drop h)
  have hn5 : es5.length = l.length := by
    rw [he5, hF]
    simp
    omega
  have hv5 : (lvs es5).length = l.length * 6 := by rw [lvs_length hs5, hn5]
  have hend : es5.take (l.length - 1) = encPair (delL l i) := by
    rw [he5, hF, List.take_left' (by simp; omega)]
    simp [encPair, delL]
  have hset : setAt (lvs (encPair l)) (i * 6) (lvs (((encPair l).drop (i + 1)).take (l.length - (i + 1)))) = lvs es5 := by
    rw [he5]
    exact setAt_mid (encPair_sz l) (fun e he => encPair_sz l e (List.mem_of_mem_drop (List.mem_of_mem_take he))) (by rw [hF]; simp; omega)
  refine AW.step (by simp [hlv]; rfl) ?_
  refine AW.step (by simp [hlv]; (repeat refine ⟨by omega, ?_⟩); rfl) ?_
  refine AW.seq ?_
  refine AW.step (by simp [hlv]; rfl) ?_
  refine AW.cond rfl (fun h2 => ?_) (fun h2 => ?_)
  · simp at h2
    omega
  · try simp at h2
    refine AW.skip ?_
    simp only [Post.seq, Post.block, if_true]
    refine AW.step (by simp [hlv]; rfl) ?_
    apply AW.drawnP (V := [_, _, _, _, _, _]) mixed [⟨[0], [], [(0, none)], false⟩, ⟨[0], [], [(1, none)], false⟩, ⟨[0], [0, 1], [(20, some 0), (21, some 1)], false⟩, ⟨[0], [], [(0, none)], false⟩, ⟨[0], [], [(2, none)], false⟩, ⟨[0], [3, 4], [(23, some 3), (24, some 4)], false⟩, ⟨[], [0, 1, 2, 3, 4, 5], [], false⟩, ⟨[], [0, 1, 2, 3, 4, 5, 6], [], false⟩] 6 (by kernel_rfl) (by kernel_rfl)
    · refine ⟨?_, ?_, ?_, ?_, ?_, ?_, trivial⟩
      · intro tm hr
        simp [AllL, rdV] at hr
        simp [hr, hlv, hn1]
        repeat refine ⟨by omega, ?_⟩
        exact KD.mk
      · intro tm hr
        simp [AllL, rdV] at hr
        simp [hr, hlv, hn1]
        repeat refine ⟨by omega, ?_⟩
        exact KD.mk
      · intro tm hr
        simp [AllL, rdV] at hr
        simp [hr, hlv, hn1]
        repeat refine ⟨by omega, ?_⟩
        exact KD.mk
      · intro tm hr
        simp [AllL, rdV] at hr
        simp [hr, hlv, hn1]
        repeat refine ⟨by omega, ?_⟩
        exact KD.mk
      · intro tm hr
        simp [AllL, rdV] at hr
        simp [hr, hlv, hn1]
        repeat refine ⟨by omega, ?_⟩
        exact KD.mk
      · intro tm hr
        simp [AllL, rdV] at hr
        simp [hr, hlv, hn1]
        repeat refine ⟨by omega, ?_⟩
        exact KD.mk
    · rfl
    · simp [tmD, putD, hlv, hn1]; rfl
    · simp [hlv, hn1]
      repeat refine ⟨by omega, ?_⟩
      refine xapp_in (z := ⟨125, 6, true, none, lvs (encPair l)⟩) (q := (l.length - (i + 1), lvs (((encPair l).drop (i + 1)).take (l.length - (i + 1))))) tb_el56 tb_ti125 ⟨rfl, by decide, by decide⟩ (src_all (cap := none) rfl (encPair_sz l) (by omega) (by simp)) rfl ⟨rfl, rfl, rfl, rfl⟩ (by simp [hlv]; omega) ?_
      simp [hset]
      try simp [hlv, hn1]
      rfl
    refine AW.step (by simp [hlv, hv5, hset]; (repeat refine ⟨by omega, ?_⟩); rfl) ?_
    refine AW.step (by simp [hlv]; rfl) ?_
    refine AW.ret ?_
    refine Left.of (av := _) (by simp [Try.f96, resV, resC, comp, hlv]; rfl) ?_
    refine LeftV.shrink 0 ((l.length - 1) * 6) rfl rfl rfl rfl ?_
    refine LeftV.rows [some 0] (by simp; omega) nd_one rfl rfl ?_ (by simp)
    simp [pickOb, setAt_take, lvs_takeN hs5, hend]
theorem en_de_Pair : Enters Try.prog 96 := enters Try.func96 (by kernel_rfl) rfl

theorem sd_Pair (l : List Pair) (i j : Int) (h : delB l i j = true) : Sound Try.prog 96 [.l (.r 0 6 0 l.length), .l (.s (.int .i64 i)), .l (.s (.int .i64 j))] [⟨125, 6, true, none, lvs (encPair l)⟩] (.l (.r 0 6 0 (l.length - 1)))
    [some ⟨125, 6, true, none, lvs (encPair (delL l i.toNat))⟩] := by
  simp [delB] at h
  have := s_de_Pair l i.toNat (by omega) (by omega)
  rwa [show ((i.toNat : Nat) : Int) = i by omega, show ((i.toNat + 1 : Nat) : Int) = j by omega] at this
set_option maxRecDepth 8000 in
set_option maxHeartbeats 8000000 in
theorem s_in_Pair (l : List Pair) (i : Nat) (x : Pair) (hi : i ≤ l.length) (hl : l.length ≤ 1000000000) : Sound Try.prog 97 [.l (.r 0 6 0 l.length), .l (.s (.int .i64 i)), .l (.r 1 6 0 1)] [⟨125, 6, true, none, lvs (encPair l)⟩, ⟨125, 6, true, none, lvs (encPair [x])⟩] (.l (.r 0 6 0 (l.length + 1))) [some ⟨125, 6, true, none, lvs (encPair (insL l i x))⟩, some ⟨125, 6, true, none, lvs (encPair [x])⟩] := by
  refine Sound.of_aw (fn := Try.f97) (c := _) Try.func97 rfl (by simp [Try.f97]) fun cx hG hnb => ?_
  rw [show Try.f97.ntmps = 95 from rfl]
  have hn0 : cx.nb = 2 := hnb
  have hlv : (lvs (encPair l)).length = l.length * 6 := by rw [lvs_length (encPair_sz l)]; simp
  have hw1 := i64_succ (show l.length + 1 ≤ 9223372036854775807 by omega)
  have hlx : (lvs (encPair [x])).length = 6 := by rw [lvs_length (encPair_sz _)]; simp
  refine AW.step (by simp [hi, hw1]; rfl) ?_
  refine AW.step (by simp [hi, hw1, hlv]; rfl) ?_
  refine AW.step (by simp [hi, hw1]; rfl) ?_
  refine AW.seq ?_
  refine AW.step (by simp [hi, hw1]; rfl) ?_
  refine AW.cond rfl (fun h3 => ?_) (fun h3 => ?_)
  · simp at h3
  · try simp at h3
    refine AW.skip ?_
    simp only [Post.seq, Post.block, if_true]
    refine AW.step (by simp [hi, hw1]; rfl) ?_
    refine AW.seq ?_
    refine AW.step (by simp [hi, hw1]; rfl) ?_
    refine AW.cond rfl (fun h6 => ?_) (fun h6 => ?_)
    · simp at h6
      have hins : insL l i x = l ++ [x] := by simp [insL, show i = l.length by omega]
      apply AW.step
      · simp [hi, hw1]
        refine xapp_push (acc := encPair l) (ys := encPair [x]) (cap := none) (k := 1) tb_el56 tb_ti125 (by simp) (src_row (e := 125) (cap := none) (by simp) (encPair_sz _) (by simp)) (encPair_sz _) (by simp) (by simp) (by omega) ?_
        simp [St.grow, obsBut, ← encPair_append, ← hins]
        try simp [hi, hw1]
        rfl
      refine AW.ret ?_
      refine Left.of (av := _) (by simp [Try.f97, resV, resC, comp, hi, hw1]; rfl) ?_
      exact LeftV.rows [some 0, some 1] (by simp; omega) (nd_pair (by omega)) rfl rfl (by simp [pickOb, hi, hw1]) (by simp [hi, hw1])
    · simp at h6
      have hil : i < l.length := by omega
      have hin : (i : Int) + (l.length + 1 - i : Nat) = l.length + 1 := by omega
      have hin2 : i + (l.length + 1 - i) = l.length + 1 := by omega
      have hw2 := i64_succ (show i + 1 ≤ 9223372036854775807 by omega)
      refine AW.skip ?_
      simp only [Post.seq, Post.block, if_true]
      refine AW.seq ?_
      apply AW.stepK
      simp [hi, hw1]
      refine xcap_row tb_el56 rfl rfl fun c hc1 _ hc3 => ?_
      simp [hw1]
      unfold KK
      refine AW.cond rfl (fun h8 => ?_) (fun h8 => ?_)
      · simp at h8
        have hcl : c = l.length := by omega
        obtain ⟨es2, he2⟩ : ∃ es2, es2 = (encPair l).take i ++ List.replicate (l.length + 1 - i) [.v (.string ⟨#[]⟩), .v (.int .i64 0), .v (.string ⟨#[]⟩), .v (.slice none 0 0), .v (.slice none 0 0), .v (.int .i64 0)] := ⟨_, rfl⟩
        have hs2 : ∀ e ∈ es2, e.length = 6 := by
          intro e he
          rw [he2] at he
          rcases List.mem_append.1 he with h | h
          · exact encPair_sz l e (List.mem_of_mem_take h)
          · rw [(List.mem_replicate.1 h).2]; rfl
        have hn2 : es2.length = l.length + 1 := by rw [he2]; simp; omega
        have hv2 : (lvs es2).length = (l.length + 1) * 6 := by rw [lvs_length hs2, hn2]
        obtain ⟨es3, he3⟩ : ∃ es3, es3 = es2.take i ++ encPair [x] ++ es2.drop (i + 1) := ⟨_, rfl⟩
        have hs3 : ∀ e ∈ es3, e.length = 6 := by
          intro e he
          rw [he3] at he
          simp only [List.mem_append] at he
          rcases he with (h | h) | h
          · exact hs2 e (List.mem_of_mem_take h)
          · exact encPair_sz _ e h
          · exact hs2 e (List.mem_of_mem_drop h)
        have hn3 : es3.length = l.length + 1 := by rw [he3]; simp [hn2]; omega
        have hv3 : (lvs es3).length = (l.length + 1) * 6 := by rw [lvs_length hs3, hn3]
        have hend : es3.take (i + 1) ++ ((encPair l).drop i).take (l.length - i) = encPair (insL l i x) := by
          rw [List.take_of_length_le (l := (encPair l).drop i) (by simp)]
          rw [he3, List.take_append_of_le_length (by simp [hn2]; omega), List.take_of_length_le (by simp; omega), he2, List.take_append_of_le_length (by simp; omega)]
          simp [encPair, insL, List.take_take]
        apply AW.step
        · simp [hi, hw1, hlv]
          repeat refine ⟨by omega, ?_⟩
          refine xmake_own (zr := [.v (.string ⟨#[]⟩), .v (.int .i64 0), .v (.string ⟨#[]⟩), .v (.slice none 0 0), .v (.slice none 0 0), .v (.int .i64 0)]) (es := encPair l) tb_el56 tb_ti125 rfl ⟨rfl, rfl, by omega⟩ rfl rfl (encPair_sz _) (by simp; omega) (l.length + 1 - i) (by rw [i64_in (by omega) (by omega)]; omega) (by omega) (by omega) (by omega) (by omega) ?_
          simp [hin2]
          try simp [hi, hw1, hlv]
          rfl
        apply AW.step
        · simp [hi, hw1, hv2, ← he2]
          repeat refine ⟨by omega, ?_⟩
          refine xcopy_own tb_el56 tb_ti125 rfl (by simp [hv2]) (by omega) 1 (by omega) (by omega) (src_at (cap := none) rfl (encPair_sz [x]) (by simp)) (setAt_mid (fs := encPair [x]) hs2 (encPair_sz _) (by simp [hn2]; omega)) ?_
          simp [← he3]
          try simp [hi, hw1, hv2, ← he2]
          rfl
        apply AW.drawnP (V := [_, _, _, _, _, _, _, _]) mixed [⟨[0], [], [(9, none)], false⟩, ⟨[0], [], [(1, none)], false⟩, ⟨[0], [], [(7, none)], false⟩, ⟨[0], [1, 2], [(47, some 1), (48, some 2)], false⟩, ⟨[0], [0, 1, 2, 3], [(46, some 0), (49, some 3)], false⟩, ⟨[0], [], [(0, none)], false⟩, ⟨[0], [], [(1, none)], false⟩, ⟨[0], [5, 6], [(51, some 5), (52, some 6)], false⟩, ⟨[], [0, 1, 2, 3, 4, 5, 6, 7], [], false⟩] 8 (by kernel_rfl) (by kernel_rfl)
        · refine ⟨?_, ?_, ?_, ?_, ?_, ?_, ?_, ?_, trivial⟩
          · intro tm hr
            simp [AllL, rdV] at hr
            simp [hr, hi, hw1, hv3, hw2, hlv]
            repeat refine ⟨by omega, ?_⟩
            exact KD.mk
          · intro tm hr
            simp [AllL, rdV] at hr
            simp [hr, hi, hw1, hv3, hw2, hlv]
            repeat refine ⟨by omega, ?_⟩
            exact KD.mk
          · intro tm hr
            simp [AllL, rdV] at hr
            simp [hr, hi, hw1, hv3, hw2, hlv]
            repeat refine ⟨by omega, ?_⟩
            exact KD.mk
          · intro tm hr
            simp [AllL, rdV] at hr
            simp [hr, hi, hw1, hv3, hw2, hlv]
            repeat refine ⟨by omega, ?_⟩
            exact KD.mk
          · intro tm hr
            simp [AllL, rdV] at hr
            simp [hr, hi, hw1, hv3, hw2, hlv]
            repeat refine ⟨by omega, ?_⟩
            exact KD.mk
          · intro tm hr
            simp [AllL, rdV] at hr
            simp [hr, hi, hw1, hv3, hw2, hlv]
            repeat refine ⟨by omega, ?_⟩
            exact KD.mk
          · intro tm hr
            simp [AllL, rdV] at hr
            simp [hr, hi, hw1, hv3, hw2, hlv]
            repeat refine ⟨by omega, ?_⟩
            exact KD.mk
          · intro tm hr
            simp [AllL, rdV] at hr
            simp [hr, hi, hw1, hv3, hw2, hlv]
            repeat refine ⟨by omega, ?_⟩
            exact KD.mk
        · rfl
        · simp [tmD, putD, hi, hw1, hv3, hw2, hlv]; rfl
        · simp [hi, hw1, hv3, hw2, hlv]
          repeat refine ⟨by omega, ?_⟩
          refine xcopy_own tb_el56 tb_ti125 rfl (by simp [hv3]) (by omega) (l.length - i) (by omega) (by omega) (src_at (cap := some c) rfl (encPair_sz l) (by simp; omega)) (setAt_end0 (fs := ((encPair l).drop i).take (l.length - i)) hs3 (fun e he => encPair_sz l e (List.mem_of_mem_drop (List.mem_of_mem_take he))) (by omega) (by simp [hn3]; omega)) ?_
          try simp [hend]
          try simp [hi, hw1, hv3, hw2, hlv]
          rfl
        refine AW.step (by simp [hi, hw1]; rfl) ?_
        refine AW.ret ?_
        refine Left.of (av := _) (by simp [Try.f97, resV, resC, comp, hi, hw1]; rfl) ?_
        exact LeftV.rows [some 2, some 1] (by simp; omega) (nd_pair (by omega)) rfl rfl (by simp [pickOb, hi, hw1]) (by simp [hi, hw1])
      · have hc' : l.length + 1 ≤ c := by
          simp at h8
          omega
        refine AW.room 0 6 rfl rfl rfl (by simp [hlv]; omega) rfl rfl ?_
        have hlv3 : (lvs (encPair l) ++ [LV.u, LV.u, LV.u, LV.u, LV.u, LV.u]).length = (l.length + 1) * 6 := by simp [hlv]; omega
        refine AW.skip ?_
        simp only [Post.seq, Post.block, if_true]
        refine AW.step (by simp [hi, hw1, hlv3, hlv]; (repeat refine ⟨by omega, ?_⟩); rfl) ?_
        refine AW.seq ?_
        apply AW.step
        · simp [hi, hw1, hlv3, hw2]
          repeat refine ⟨by omega, ?_⟩
          refine xcall_overlaps (t := 56) (tb := 4) Try.func123 (by kernel_rfl) (by kernel_rfl) (by kernel_rfl) (by kernel_rfl) tb_el56 tb_ti125 rfl rfl (by omega) (by simp) ?_
          try simp [hi, hw1, hlv3, hw2]
          rfl
        refine AW.cond rfl (fun h14 => ?_) (fun h14 => ?_)
        · try simp at h14
          apply AW.drawnP (V := [_, _, _, _, _, _, _, _]) mixed [⟨[0], [], [(0, none)], false⟩, ⟨[0], [], [(1, none)], false⟩, ⟨[0], [], [(7, none)], false⟩, ⟨[0], [1, 2], [(70, some 1), (71, some 2)], false⟩, ⟨[0], [0, 1, 2, 3], [(69, some 0), (72, some 3)], false⟩, ⟨[0], [], [(0, none)], false⟩, ⟨[0], [], [(1, none)], false⟩, ⟨[0], [5, 6], [(74, some 5), (75, some 6)], false⟩, ⟨[], [0, 1, 2, 3, 4, 5, 6, 7], [], false⟩] 8 (by kernel_rfl) (by kernel_rfl)
          · refine ⟨?_, ?_, ?_, ?_, ?_, ?_, ?_, ?_, trivial⟩
            · intro tm hr
              simp [AllL, rdV] at hr
              simp [hr, hi, hw1, hlv3, hw2]
              repeat refine ⟨by omega, ?_⟩
              exact KD.mk
            · intro tm hr
              simp [AllL, rdV] at hr
              simp [hr, hi, hw1, hlv3, hw2]
              repeat refine ⟨by omega, ?_⟩
              exact KD.mk
            · intro tm hr
              simp [AllL, rdV] at hr
              simp [hr, hi, hw1, hlv3, hw2]
              repeat refine ⟨by omega, ?_⟩
              exact KD.mk
            · intro tm hr
              simp [AllL, rdV] at hr
              simp [hr, hi, hw1, hlv3, hw2]
              repeat refine ⟨by omega, ?_⟩
              exact KD.mk
            · intro tm hr
              simp [AllL, rdV] at hr
              simp [hr, hi, hw1, hlv3, hw2]
              repeat refine ⟨by omega, ?_⟩
              exact KD.mk
            · intro tm hr
              simp [AllL, rdV] at hr
              simp [hr, hi, hw1, hlv3, hw2]
              repeat refine ⟨by omega, ?_⟩
              exact KD.mk
            · intro tm hr
              simp [AllL, rdV] at hr
              simp [hr, hi, hw1, hlv3, hw2]
              repeat refine ⟨by omega, ?_⟩
              exact KD.mk
            · intro tm hr
              simp [AllL, rdV] at hr
              simp [hr, hi, hw1, hlv3, hw2]
              repeat refine ⟨by omega, ?_⟩
              exact KD.mk
          · rfl
          · simp [tmD, putD, hi, hw1, hlv3, hw2]; rfl
          · simp [hi, hw1, hlv3, hw2]
            repeat refine ⟨by omega, ?_⟩
            refine xcopy_own tb_el56 tb_ti125 rfl (by simp [hlv3]) (by omega) (l.length - i) (by omega) (by omega) (src_atP (cap := some c) (us := [.u, .u, .u, .u, .u, .u]) rfl (encPair_sz l) (by simp; omega)) (setAt_end (fs := ((encPair l).drop i).take (l.length - i)) (encPair_sz l) (fun e he => encPair_sz l e (List.mem_of_mem_drop (List.mem_of_mem_take he))) (by simp; omega) (by simp; omega)) ?_
            try simp [hi, hw1, hlv3, hw2]
            rfl
          obtain ⟨es4, he4⟩ : ∃ es4, es4 = (encPair l).take (i + 1) ++ ((encPair l).drop i).take (l.length - i) := ⟨_, rfl⟩
          have hs4 : ∀ e ∈ es4, e.length = 6 := by
            intro e he
            rw [he4] at he
            rcases List.mem_append.1 he with h | h
            · exact encPair_sz l e (List.mem_of_mem_take h)
            · exact encPair_sz l e (List.mem_of_mem_drop (List.mem_of_mem_take h))
          have hn4 : es4.length = l.length + 1 := by rw [he4]; simp; omega
          have hend : es4.take i ++ encPair [x] ++ es4.drop (i + 1) = encPair (insL l i x) := by
            have hA : ((encPair l).take (i + 1)).length = i + 1 := by simp; omega
            rw [he4, List.drop_left' hA, List.take_append_of_le_length (by omega), List.take_take, Nat.min_eq_left (by omega), List.take_of_length_le (l := (encPair l).drop i) (by simp)]
            simp [encPair, insL]
          have hv4 : (lvs es4).length = (l.length + 1) * 6 := by rw [lvs_length hs4, hn4]
          simp only [← he4]
          apply AW.step
          · simp [hi, hw1, hv4]
            repeat refine ⟨by omega, ?_⟩
            refine xcopy_own tb_el56 tb_ti125 rfl (by simp [hv4]) (by omega) 1 (by omega) (by omega) (src_at (cap := none) rfl (encPair_sz [x]) (by simp)) (setAt_mid (fs := encPair [x]) hs4 (encPair_sz _) (by rw [hn4, encPair_length]; simp; omega)) ?_
            simp [hend]
            try simp [hi, hw1, hv4]
            rfl
          refine AW.step (by simp [hi, hw1]; rfl) ?_
          refine AW.ret ?_
          refine Left.of (av := _) (by simp [Try.f97, resV, resC, comp, hi, hw1]; rfl) ?_
          refine LeftV.shrink 0 ((l.length + 1) * 6) rfl rfl rfl rfl ?_
          have hlf : (lvs (encPair (insL l i x))).take ((l.length + 1) * 6) = lvs (encPair (insL l i x)) := List.take_of_length_le (by rw [lvs_length (encPair_sz _)]; simp [insL_length l i x hi])
          exact LeftV.rows [some 0, some 1] (by simp; omega) (nd_pair (by omega)) rfl rfl (by simp [pickOb, hlf]) (by simp)
        · simp at h14
theorem en_in_Pair : Enters Try.prog 97 := enters Try.func97 (by kernel_rfl) rfl

theorem si_Pair (l : List Pair) (i : Int) (x : Pair) (h : insB l i = true) : Sound Try.prog 97 [.l (.r 0 6 0 l.length), .l (.s (.int .i64 i)), .l (.r 1 6 0 1)] [⟨125, 6, true, none, lvs (encPair l)⟩, ⟨125, 6, true, none, lvs (encPair [x])⟩] (.l (.r 0 6 0 (l.length + 1)))
    [some ⟨125, 6, true, none, lvs (encPair (insL l i.toNat x))⟩, some ⟨125, 6, true, none, lvs (encPair [x])⟩] := by
  simp [insB] at h
  have := s_in_Pair l i.toNat x (by omega) (by omega)
  rwa [show ((i.toNat : Nat) : Int) = i by omega] at this
def flatL {α : Type} (ss : List (List α)) (i : Nat) : List α := (ss.take i).flatten
def catB {α : Type} (ss : List (List α)) : Bool := decide (ss.flatten.length ≤ 1000000000 ∧ ss.length ≤ 1000000000)
def zero_Effect : List Value := [.string ⟨#[]⟩, .bool false, .int .i64 0, .string ⟨#[]⟩, .slice none 0 0, .slice none 0 0, .int .i64 0]
end Go.Proofs.Ytlkhfdccapkcdaa

/- Operations, told by shallow code: what simp makes of them. -/
namespace Go.Proofs.Ytlkhfdccapkcdaa
open Go Go.RowKit
set_option linter.unusedVariables false
set_option linter.unusedSimpArgs false
/-! ### Operations, told by such code -/
section
variable {P : Program} {d : Option Nat} {t : Nat} {st : St} {K : St → Prop} {k : IntKind} {a b : Int} {x y : ByteArray} {p q : Bool}
@[simp high] theorem xs_add : xeq P .add t (.l (.s (.int k a))) (.l (.s (.int k b))) st d K = K (st.put d (.l (.s (.int k (addI k a b))))) := by simp [xeq, bopP, bop, addI]
@[simp high] theorem xs_sub : xeq P .sub t (.l (.s (.int k a))) (.l (.s (.int k b))) st d K = K (st.put d (.l (.s (.int k (subI k a b))))) := by simp [xeq, bopP, bop, subI]
@[simp high] theorem xs_mul : xeq P .mul t (.l (.s (.int k a))) (.l (.s (.int k b))) st d K = K (st.put d (.l (.s (.int k (mulI k a b))))) := by simp [xeq, bopP, bop, mulI]
@[simp high] theorem xs_and : xeq P .and t (.l (.s (.int k a))) (.l (.s (.int k b))) st d K = K (st.put d (.l (.s (.int k (andI k a b))))) := by simp [xeq, bopP, bop, andI]
@[simp high] theorem xs_or : xeq P .or t (.l (.s (.int k a))) (.l (.s (.int k b))) st d K = K (st.put d (.l (.s (.int k (orI k a b))))) := by simp [xeq, bopP, bop, orI]
@[simp high] theorem xs_xor : xeq P .xor t (.l (.s (.int k a))) (.l (.s (.int k b))) st d K = K (st.put d (.l (.s (.int k (xorI k a b))))) := by simp [xeq, bopP, bop, xorI]
@[simp high] theorem xs_quo : xeq P .quo t (.l (.s (.int k a))) (.l (.s (.int k b))) st d K = wh (quoI k a b) fun c => K (st.put d (.l (.s (.int k c)))) := by
  unfold quoI; split <;> simp_all [xeq, bopP, bop]
@[simp high] theorem xs_rem : xeq P .rem t (.l (.s (.int k a))) (.l (.s (.int k b))) st d K = wh (remI k a b) fun c => K (st.put d (.l (.s (.int k c)))) := by
  unfold remI; split <;> simp_all [xeq, bopP, bop]
@[simp high] theorem xs_shl {k' : IntKind} : xeq P .shl t (.l (.s (.int k a))) (.l (.s (.int k' b))) st d K = wh (shlI k a b) fun c => K (st.put d (.l (.s (.int k c)))) := by
  unfold shlI; simp only [xeq, bopP, bop]; split <;> rfl
@[simp high] theorem xs_shr {k' : IntKind} : xeq P .shr t (.l (.s (.int k a))) (.l (.s (.int k' b))) st d K = wh (shrI k a b) fun c => K (st.put d (.l (.s (.int k c)))) := by
  unfold shrI; simp only [xeq, bopP, bop]; split <;> rfl
@[simp high] theorem xs_eql : xeq P .eql t (.l (.s (.int k a))) (.l (.s (.int k b))) st d K = K (st.put d (.l (.s (.bool (eqI a b))))) := by simp [xeq, bopP, bop, eqI]
@[simp high] theorem xs_neq : xeq P .neq t (.l (.s (.int k a))) (.l (.s (.int k b))) st d K = K (st.put d (.l (.s (.bool (neI a b))))) := by simp [xeq, bopP, bop, neI]
@[simp high] theorem xs_lss : xeq P .lss t (.l (.s (.int k a))) (.l (.s (.int k b))) st d K = K (st.put d (.l (.s (.bool (ltI a b))))) := by simp [xeq, bopP, bop, ltI]
@[simp high] theorem xs_leq : xeq P .leq t (.l (.s (.int k a))) (.l (.s (.int k b))) st d K = K (st.put d (.l (.s (.bool (leI a b))))) := by simp [xeq, bopP, bop, leI]
@[simp high] theorem xs_gtr : xeq P .gtr t (.l (.s (.int k a))) (.l (.s (.int k b))) st d K = K (st.put d (.l (.s (.bool (gtI a b))))) := by simp [xeq, bopP, bop, gtI]
@[simp high] theorem xs_geq : xeq P .geq t (.l (.s (.int k a))) (.l (.s (.int k b))) st d K = K (st.put d (.l (.s (.bool (geI a b))))) := by simp [xeq, bopP, bop, geI]
@[simp high] theorem xs_eqlS : xeq P .eql t (.l (.s (.string x))) (.l (.s (.string y))) st d K = K (st.put d (.l (.s (.bool (eqS x y))))) := by simp [xeq, bopP, bop, eqS]
@[simp high] theorem xs_neqS : xeq P .neq t (.l (.s (.string x))) (.l (.s (.string y))) st d K = K (st.put d (.l (.s (.bool (neS x y))))) := by simp [xeq, bopP, bop, neS]
@[simp high] theorem xs_lssS : xeq P .lss t (.l (.s (.string x))) (.l (.s (.string y))) st d K = K (st.put d (.l (.s (.bool (ltS x y))))) := by simp [xeq, bopP, bop, ltS]
@[simp high] theorem xs_leqS : xeq P .leq t (.l (.s (.string x))) (.l (.s (.string y))) st d K = K (st.put d (.l (.s (.bool (leS x y))))) := by simp [xeq, bopP, bop, leS]
@[simp high] theorem xs_gtrS : xeq P .gtr t (.l (.s (.string x))) (.l (.s (.string y))) st d K = K (st.put d (.l (.s (.bool (gtS x y))))) := by simp [xeq, bopP, bop, gtS]
@[simp high] theorem xs_geqS : xeq P .geq t (.l (.s (.string x))) (.l (.s (.string y))) st d K = K (st.put d (.l (.s (.bool (geS x y))))) := by simp [xeq, bopP, bop, geS]
@[simp high] theorem xs_cat : xeq P .add t (.l (.s (.string x))) (.l (.s (.string y))) st d K = wh (catS x y) fun c => K (st.put d (.l (.s (.string c)))) := by
  unfold catS; simp only [xeq, bopP, bop]; split <;> rfl
@[simp high] theorem xs_eqlB : xeq P .eql t (.l (.s (.bool p))) (.l (.s (.bool q))) st d K = (sk P t = some 2 ∧ K (st.put d (.l (.s (.bool (eqB p q)))))) := by
  simp only [xeq, bopP, eqB]; split <;> simp_all
@[simp high] theorem xs_neqB : xeq P .neq t (.l (.s (.bool p))) (.l (.s (.bool q))) st d K = (sk P t = some 2 ∧ K (st.put d (.l (.s (.bool (neB p q)))))) := by
  simp only [xeq, bopP, neB]; split <;> simp_all
@[simp high] theorem xs_eqlG (xs ys : List LV) : xeq P .eql t (.g xs) (.g ys) st d K = wh (seqF P t) fun ks => wh (veqs ks xs ys) fun b => K (st.put d (.l (.s (.bool b)))) := by rw [xeq_g']; simp
@[simp high] theorem xs_neqG (xs ys : List LV) : xeq P .neq t (.g xs) (.g ys) st d K = wh (seqF P t) fun ks => wh (veqs ks xs ys) fun b => K (st.put d (.l (.s (.bool (notB b))))) := by rw [xeq_g']; simp [notB]
def andO : Option Bool → Option Bool → Option Bool
  | some b, some c => some (andB b c)
  | _, _ => none
@[simp high] theorem veqs_0 {ks : List Nat} {xs ys : List LV} {k k' : IntKind} : veqs (0 :: ks) (.s (.int k a) :: xs) (.s (.int k' b) :: ys) = if k = k' then andO (some (eqI a b)) (veqs ks xs ys) else none := by
  simp only [veqs, veq, eqI]
  by_cases h : k = k'
  · simp only [h, if_true]; cases veqs ks xs ys <;> rfl
  · simp [h]
@[simp high] theorem veqs_1 {ks : List Nat} {xs ys : List LV} : veqs (1 :: ks) (.s (.string x) :: xs) (.s (.string y) :: ys) = andO (some (eqS x y)) (veqs ks xs ys) := by
  simp only [veqs, veq, eqS]; cases veqs ks xs ys <;> rfl
@[simp high] theorem veqs_2 {ks : List Nat} {xs ys : List LV} : veqs (2 :: ks) (.s (.bool p) :: xs) (.s (.bool q) :: ys) = andO (some (eqB p q)) (veqs ks xs ys) := by
  simp only [veqs, veq, eqB]; cases veqs ks xs ys <;> rfl
@[simp] theorem veqs_n : veqs [] [] [] = some true := rfl
@[simp] theorem andO_s (b c : Bool) : andO (some b) (some c) = some (andB b c) := rfl
@[simp high] theorem xs_not {ty : TypeId} {pos : String} {af : Array Edge} {g : Option (Nat × Bool)} {x' : Operand} : xo P ⟨d, .unOp .not t x', ty, pos, af, g⟩ st K = wb (st.ev x') fun b => K (st.put d (.l (.s (.bool (notB b))))) := by
  rw [xo_unOp]
  generalize st.ev x' = v
  cases v with
  | l y =>
    cases y with
    | s z => cases z <;> first | rfl | (simp [ws, wb, uop])
    | _ => rfl
  | _ => rfl
def wik (v : AV) (k : IntKind → Int → Prop) : Prop :=
  match v with
  | .l (.s (.int kd n)) => k kd n
  | _ => False
@[congr] theorem wik_congr {x y : AV} {k : IntKind → Int → Prop} (h : x = y) : wik x k = wik y k := by rw [h]
@[simp] theorem wik_i (kd : IntKind) (n : Int) (k : IntKind → Int → Prop) : wik (.l (.s (.int kd n))) k = k kd n := nr rfl
@[simp high] theorem xs_neg {ty : TypeId} {pos : String} {af : Array Edge} {g : Option (Nat × Bool)} {x' : Operand} : xo P ⟨d, .unOp .neg t x', ty, pos, af, g⟩ st K = wik (st.ev x') fun k b => K (st.put d (.l (.s (.int k (negI k b))))) := by
  rw [xo_unOp]
  generalize st.ev x' = v
  cases v with
  | l y =>
    cases y with
    | s z => cases z <;> first | rfl | (simp [ws, wik, uop])
    | _ => rfl
  | _ => rfl
@[simp high] theorem xs_conv (s t : Nat) : xconv P s t (.l (.s (.int k a))) st d K = ((P.underlying s).isSome = true ∧ wh (intF P t) fun k => K (st.put d (.l (.s (.int k (cvI k a)))))) := nr rfl
@[simp high] theorem xs_max : xmm max (.l (.s (.int k a))) (.l (.s (.int k b))) st d K = K (st.put d (.l (.s (.int k (maxI a b))))) := by simp [xmm, maxI]
@[simp high] theorem xs_min : xmm min (.l (.s (.int k a))) (.l (.s (.int k b))) st d K = K (st.put d (.l (.s (.int k (minI a b))))) := by simp [xmm, minI]
end
section
variable {P : Program} {d : Option Nat} {t : Nat} {st : St} {K : St → Prop} {x : ByteArray} {ob sz lo hi : Nat} {al : Bool}
@[simp high] theorem xs_lenS : xlen P t (.l (.s (.string x))) st d K = (strF P t = true ∧ K (st.put d (.l (.s (.int .i64 (lenS x)))))) := nr rfl
end

/-- Where a byte stands in a text (-1: nowhere). -/
def idxB (a : ByteArray) (c : Int) : Int := Lib.indexByte a.data.toList c.toNat.toUInt8
theorem xcall_idxB {P : Program} {st : St} {f : Nat} {fn : Func} {a : ByteArray} {c : Int} {dst : Option Nat} {K : St → Prop} (hf : P.funcs[f]? = some fn) (hname : (fn.name == "runtime.NumGoroutine") = false) (hb : fn.body.isNone = true) (hn : Extern.findNext fn = none)
    (he : Extern.find fn = some Extern.BytealgIndexByte.indexByte) (hk : K (st.put dst (.l (.s (.int .i64 (idxB a c)))))) : xcall P f [.l (.s (.string a)), .l (.s (.int .u8 c))] st dst K := by
  refine .inr (.inl ⟨.int .i64 (idxB a c), rfl, fun cx σ ac w vs hr hv => ?_, hk⟩)
  match vs, hv with
  | [x, y], hv =>
    obtain ⟨⟨rfl, _⟩, ⟨rfl, _⟩, _⟩ := hv
    rw [run_callFunc_extern hf hname hb hn he]
    have := Lib.run_indexByteString (P := P) a c w
    rw [this]
    rfl
  | [], hv => exact hv.elim
  | [_], hv => exact hv.2.elim
  | _ :: _ :: _ :: _, hv => exact hv.2.2.elim
def bytesI (s : ByteArray) : List Int := s.data.toList.map fun b => (b.toNat : Int)
@[simp] theorem bytesT_eq (s : ByteArray) : bytesT s = encU (bytesI s) := by simp [bytesT, encU, bytesI, Function.comp_def]
end Go.Proofs.Ytlkhfdccapkcdaa

/- Plain laws: how shallow code runs. -/
namespace Go.Proofs.Ytlkhfdccapkcdaa
open Go Go.RowKit
set_option linter.unusedVariables false
set_option linter.unusedSimpArgs false
/-- Rounds enough for whatever lies in memory. -/
def big : Nat := 281474976710656
section
variable {α β γ : Type}
theorem iter_go {f : α → Option (α ⊕ β)} (Q : β → Prop) (I : Nat → α → Prop) (N : Nat)
    (h : ∀ k a, k ≤ N → I k a → (∃ a', k < N ∧ f a = some (.inl a') ∧ I (k + 1) a') ∨ ∃ b, f a = some (.inr b) ∧ Q b) :
    ∀ (d k : Nat) (a : α), k + d = N → I k a → ∀ n, d < n → ∃ b, iter n f a = some b ∧ Q b
  | d, k, a, hd, hI, 0, hn => by omega
  | d, k, a, hd, hI, n + 1, hn => by
    rcases h k a (by omega) hI with ⟨a', hk, h1, h2⟩ | ⟨b, h1, h2⟩
    · rw [iter_inl h1]
      match d with
      | 0 => omega
      | d + 1 => exact iter_go Q I N h d (k + 1) a' (by omega) h2 n (by omega)
    · exact ⟨b, iter_inr h1, h2⟩
/-- Rounds that end: what holds at the end. -/
theorem iter_inv {f : α → Option (α ⊕ β)} {a : α} (Q : β → Prop) (I : Nat → α → Prop) (N : Nat) (hN : N < big)
    (h0 : I 0 a) (h : ∀ k a, k ≤ N → I k a → (∃ a', k < N ∧ f a = some (.inl a') ∧ I (k + 1) a') ∨ ∃ b, f a = some (.inr b) ∧ Q b) : ∃ b, iter big f a = some b ∧ Q b :=
  iter_go Q I N h N 0 a (by omega) h0 big hN
/-- Rounds whose states are told. -/
theorem iter_run {f : α → Option (α ⊕ β)} {a : α} {b : β} (s : Nat → α) (N : Nat) (hN : N < big) (h0 : a = s 0) (h : ∀ i, i < N → f (s i) = some (.inl (s (i + 1)))) (he : f (s N) = some (.inr b)) : iter big f a = some b := by
  obtain ⟨b', h1, h2⟩ := iter_inv (f := f) (a := a) (· = b) (fun k x => x = s k) N hN h0 fun k x hk hx => by
    subst hx
    by_cases hl : k < N
    · exact .inl ⟨_, hl, h k hl, rfl⟩
    · have : k = N := by omega
      subst this
      exact .inr ⟨b, he, rfl⟩
  rw [h1, h2]
theorem bn_run {f : α → Option (α ⊕ β)} {a : α} {k : β → Option γ} {r : Option γ} (b : β) (s : Nat → α) (N : Nat) (hN : N < big) (h0 : a = s 0) (h : ∀ i, i < N → f (s i) = some (.inl (s (i + 1)))) (he : f (s N) = some (.inr b)) (hk : k b = r) : bn (iter big f a) k = r := by
  rw [iter_run s N hN h0 h he]
  exact hk
theorem chk_t {b : Bool} {k : Option β} (h : b = true) : chk b k = k := by subst h; rfl
/-- Code runs, and what it yields is such. -/
def Rn (m : Option α) (Q : α → Prop) : Prop := ∃ v, m = some v ∧ Q v
theorem Rn.some {v : α} {Q : α → Prop} (h : Q v) : Rn (some v) Q := ⟨v, rfl, h⟩
theorem Rn.mono {m : Option α} {Q R : α → Prop} (h : Rn m Q) (hk : ∀ v, Q v → R v) : Rn m R := ⟨h.choose, h.choose_spec.1, hk _ h.choose_spec.2⟩
theorem Rn.lt {a : α} {k : α → Option β} {Q : β → Prop} (h : Rn (k a) Q) : Rn (lt a k) Q := h
theorem Rn.bn {m : Option α} {k : α → Option β} {P : α → Prop} {Q : β → Prop} (h : Rn m P) (hk : ∀ v, P v → Rn (k v) Q) : Rn (bn m k) Q := by
  obtain ⟨v, rfl, hv⟩ := h
  exact hk v hv
theorem Rn.bnE {m : Option α} {k : α → Option β} {v : α} {Q : β → Prop} (h : m = Option.some v) (hk : Rn (k v) Q) : Rn (Go.Proofs.Ytlkhfdccapkcdaa.bn m k) Q := by
  subst h
  exact hk
theorem Rn.chk {b : Bool} {k : Option β} {Q : β → Prop} (h : b = true) (hk : Rn k Q) : Rn (chk b k) Q := by
  subst h
  exact hk
theorem Rn.room {m c : Nat} {k : Option β} {Q : β → Prop} (h : m * c ≤ 140737488355328) (h2 : m ≤ 140737488355328) (hk : Rn k Q) : Rn (Go.Proofs.Ytlkhfdccapkcdaa.chk (Go.Proofs.Ytlkhfdccapkcdaa.room m c) k) Q := Rn.chk (by simp [Go.Proofs.Ytlkhfdccapkcdaa.room, h, h2]) hk
theorem Rn.ite {b : Bool} {x y : Option β} {Q : β → Prop} (h : b = true → Rn x Q) (h2 : b = false → Rn y Q) : Rn (ite' b x y) Q := by
  cases b
  · exact h2 rfl
  · exact h rfl
theorem Rn.sm {s : α ⊕ β} {f : α → Option γ} {g : β → Option γ} {Q : γ → Prop} (h : ∀ a, s = .inl a → Rn (f a) Q) (h2 : ∀ b, s = .inr b → Rn (g b) Q) : Rn (sm s f g) Q := by
  cases s with
  | inl a => exact h a rfl
  | inr b => exact h2 b rfl
/-- Rounds: I holds ahead of each, and N of them are enough. -/
theorem Rn.iter {f : α → Option (α ⊕ β)} {a : α} (Q : β → Prop) (I : Nat → α → Prop) (N : Nat) (hN : N < big) (h0 : I 0 a)
    (h : ∀ k a, k ≤ N → I k a → Rn (f a) fun x => match x with | .inl a' => k < N ∧ I (k + 1) a' | .inr b => Q b) : Rn (iter big f a) Q := by
  refine iter_inv Q I N hN h0 fun k a hk hI => ?_
  obtain ⟨x, h1, h2⟩ := h k a hk hI
  cases x with
  | inl a' => exact .inl ⟨a', h2.1, h1, h2.2⟩
  | inr b => exact .inr ⟨b, h1, h2⟩
theorem chk_room {m c : Nat} {k : Option β} (h : m * c ≤ 140737488355328) (h2 : m ≤ 140737488355328) : chk (room m c) k = k := chk_t (by simp [room, h, h2])
theorem chk_small {c : Nat} {l : List α} {k : Option β} (h : l.length * c ≤ 140737488355328) (h2 : l.length ≤ 140737488355328) : chk (small c l) k = k := chk_t (by simp [small, h, h2])
theorem lenI_eq (l : List α) : lenI l = (l.length : Int) := rfl
theorem nth_some {l : List α} {i : Nat} (h : i < l.length) : nth l (i : Int) = some l[i] := by rw [nth_nat, List.getElem?_eq_getElem h]
end
theorem wrap64 {a : Int} (h : -9223372036854775808 ≤ a) (h2 : a ≤ 9223372036854775807) : IntKind.i64.wrap a = a := by
  simp [IntKind.wrap, IntKind.bits, IntKind.signed]
  omega
theorem addI_64 {a b : Int} (h : -9223372036854775808 ≤ a + b) (h2 : a + b ≤ 9223372036854775807) : addI .i64 a b = a + b := wrap64 h h2
theorem subI_64 {a b : Int} (h : -9223372036854775808 ≤ a - b) (h2 : a - b ≤ 9223372036854775807) : subI .i64 a b = a - b := wrap64 h h2
theorem cvI_64 {a : Int} (h : -9223372036854775808 ≤ a) (h2 : a ≤ 9223372036854775807) : cvI .i64 a = a := wrap64 h h2
end Go.Proofs.Ytlkhfdccapkcdaa

/- Walks, printed: r5_apply, r5_Apply, r5_Raw, r5_Alive, r5_Get, r1_Tag, r1_Crc, r1_Slot, r5_In, r5_All, r13_Add, r13_Answer, r13_Got -/
namespace Go.Proofs.Ytlkhfdccapkcdaa
open Go Go.RowKit
set_option linter.unusedVariables false
set_option linter.unusedSimpArgs false
def r5_apply_sh (n : Nat) (a0 : List Pair) (a1 : Effect) : Option (List Pair) :=
bn (iter n (fun (y1 : Bool × Int × List Pair) =>
lt (lenI a0) fun v4 =>
lt (ltI y1.2.1 v4) fun v5 =>
ite' v5 (bn (bn (bn (lt (notB y1.1) fun v9 =>
ite' v9 (bn (nth a0 y1.2.1) fun v10 =>
lt (geS v10.key a1.key) fun v11 =>
some (v11)) (some (false))) fun (y8 : Bool) =>
lt (y8) fun v12 =>
ite' v12 (chk (room (y1.2.2.length + 1) 96) <|
lt (y1.2.2 ++ [(⟨a1.key, a1.item⟩ : Pair)]) fun v14 =>
some ((true, v14))) (some ((y1.1, y1.2.2)))) fun (y7 : Bool × List Pair) =>
bn (nth a0 y1.2.1) fun v15 =>
lt (neS v15.key a1.key) fun v16 =>
ite' v16 (chk (room (y7.2.length + 1) 96) <|
lt (y7.2 ++ [v15]) fun v18 =>
some ((y7.1, v18))) (some ((y7.1, y7.2)))) fun (y6 : Bool × List Pair) =>
lt (addI .i64 y1.2.1 1) fun v19 =>
some (.inl (y6.1, v19, y6.2))) (some (.inr (y1.1, y1.2.2)))) (a1.gone, 0, [])) fun (y2 : Bool × List Pair) =>
bn (lt (notB y2.1) fun v21 =>
ite' v21 (chk (room (y2.2.length + 1) 96) <|
lt (y2.2 ++ [(⟨a1.key, a1.item⟩ : Pair)]) fun v23 =>
some (v23)) (some (y2.2))) fun (y20 : List Pair) =>
chk (room y20.length 1) <|
some y20
set_option maxRecDepth 8000 in
set_option maxHeartbeats 8000000 in
theorem s_r5_apply {n : Nat} {a0 : List Pair} {a1 : Effect} {r : List Pair} (h : r5_apply_sh n a0 a1 = some r) : Sound Try.prog 103 [.l (.d false 6 (encPair a0)), .g [.s (.string a1.key), .s (.bool a1.gone), .s (.int .i64 a1.item.kind), .s (.string a1.item.s), .d false 2 (encField a1.item.f), .d false 1 (encS a1.item.l), .s (.int .i64 a1.item.exp)]] [] (.l (.d false 6 (encPair r))) [] := by
 unfold r5_apply_sh at h
 refine Sound.of_aw (fn := Try.f103) (c := _) Try.func103 rfl (by simp [Try.f103]) fun cx hG hnb => ?_
 rw [show Try.f103.ntmps = 62 from rfl]
 have hn0 : cx.nb = 0 := hnb
 simp only [st0_mk, initTm, List.map_cons, List.map_nil]
 apply AW.step
 ·simp
  intros; rfl
 apply AW.step
 ·simp
  intros; rfl
 apply AW.step
 ·simp
  intros; rfl
 refine AW.seq ?_
 apply AW.step
 ·simp
  intros; rfl
 refine AW.block ?_
 replace h := bnE h; obtain ⟨y2, g2, h⟩ := h
 refine AW.iterP g2 (mk := fun gh ls q => (⟨[(0, .l (.d false 6 (encPair a0))), (3, .l (.p 0 0)), (5, .l (.r 1 6 0 q.2.2.length)), (6, .l (.s (.bool q.1))), (7, .l (.s (.int .i64 q.2.1)))], [some ⟨36, 7, false, none, [.s (.string a1.key), .s (.bool a1.gone), .s (.int .i64 a1.item.kind), .s (.string a1.item.s), .d false 2 (encField a1.item.f), .d false 1 (encS a1.item.l), .s (.int .i64 a1.item.exp)]⟩, some ⟨125, 6, true, none, lvs (encPair q.2.2)⟩], 62, gh, ls⟩ : St)) (N := fun gh ls => (xP 0 (cx := cx) (fun q => (⟨[(3, .l (.p 0 0)), (5, .l (.r 1 6 0 q.2.length)), (6, .l (.s (.bool q.1)))], [some ⟨36, 7, false, none, [.s (.string a1.key), .s (.bool a1.gone), .s (.int .i64 a1.item.kind), .s (.string a1.item.s), .d false 2 (encField a1.item.f), .d false 1 (encS a1.item.l), .s (.int .i64 a1.item.exp)]⟩, some ⟨125, 6, true, none, lvs (encPair q.2)⟩], 62, gh, ls⟩ : St)))) ?_ noX ?_ ?_
 ·refine W.nilRow 5 125 6 1 (by simp) rfl rfl ?_
  refine Weak.mixN [some 0, some 1] hn0 (by decide) ?_ ?_ rfl
  all_goals first | (simp [inv_cons, inv_nil, pickOb]; done) | rfl
 ·clear h; intro y1 y3 h
  refine AW.seq ?_
  replace h := ltE h; obtain ⟨v4, e4, h⟩ := h
  replace h := ltE h; obtain ⟨v5, e5, h⟩ := h
  apply AW.step
  ·simp [lenI_cast e4, ← e5]
   intros; rfl
  cases v5 with
  | true =>
   replace h := iteT rfl h
   refine AW.cond_true (by simp) ?_
   refine AW.skip ?_
   try simp only [sp_l, sp_r, Post.seq, Post.block, Nat.reduceEqDiff, reduceIte, Nat.zero_ne_one, Nat.one_ne_zero]
   try simp only [sp_l, sp_r, Post.seq, Post.block, Nat.reduceEqDiff, reduceIte, Nat.zero_ne_one, Nat.one_ne_zero]
   replace h := bnE h; obtain ⟨y6, g6, h⟩ := h
   refine AW.flow (p := fun gh ls => (nP (cx := cx) (fun q => (⟨[(0, .l (.d false 6 (encPair a0))), (3, .l (.p 0 0)), (5, .l (.r 1 6 0 q.2.length)), (6, .l (.s (.bool q.1))), (7, .l (.s (.int .i64 y1.2.1)))], [some ⟨36, 7, false, none, [.s (.string a1.key), .s (.bool a1.gone), .s (.int .i64 a1.item.kind), .s (.string a1.item.s), .d false 2 (encField a1.item.f), .d false 1 (encS a1.item.l), .s (.int .i64 a1.item.exp)]⟩, some ⟨125, 6, true, none, lvs (encPair q.2)⟩], 62, gh, ls⟩ : St))) y6) ?_ ?_
   ·replace h := g6; clear g6
    refine AW.block ?_
    replace h := bnE h; obtain ⟨y7, g7, h⟩ := h
    refine AW.flow (p := fun gh ls => (nP (cx := cx) (fun q => (⟨[(0, .l (.d false 6 (encPair a0))), (3, .l (.p 0 0)), (5, .l (.r 1 6 0 q.2.length)), (6, .l (.s (.bool q.1))), (7, .l (.s (.int .i64 y1.2.1)))], [some ⟨36, 7, false, none, [.s (.string a1.key), .s (.bool a1.gone), .s (.int .i64 a1.item.kind), .s (.string a1.item.s), .d false 2 (encField a1.item.f), .d false 1 (encS a1.item.l), .s (.int .i64 a1.item.exp)]⟩, some ⟨125, 6, true, none, lvs (encPair q.2)⟩], 62, gh, ls⟩ : St))) y7) ?_ ?_
    ·replace h := g7; clear g7
     replace h := bnE h; obtain ⟨y8, g8, h⟩ := h
     refine AW.flow (p := fun gh ls => (nP (cx := cx) (fun q => (⟨[(0, .l (.d false 6 (encPair a0))), (3, .l (.p 0 0)), (5, .l (.r 1 6 0 y1.2.2.length)), (6, .l (.s (.bool y1.1))), (7, .l (.s (.int .i64 y1.2.1))), (27, .l (.s (.bool q)))], [some ⟨36, 7, false, none, [.s (.string a1.key), .s (.bool a1.gone), .s (.int .i64 a1.item.kind), .s (.string a1.item.s), .d false 2 (encField a1.item.f), .d false 1 (encS a1.item.l), .s (.int .i64 a1.item.exp)]⟩, some ⟨125, 6, true, none, lvs (encPair y1.2.2)⟩], 62, gh, ls⟩ : St))) y8) ?_ ?_
     ·replace h := g8; clear g8
      replace h := ltE h; obtain ⟨v9, e9, h⟩ := h
      cases v9 with
      | true =>
       replace h := iteT rfl h
       replace h := bnE h; obtain ⟨v10, e10, h⟩ := h
       replace h := ltE h; obtain ⟨v11, e11, h⟩ := h
       apply AW.drawnR (V := [_, _, _, _, _, _, _, _, _, _]) mixed [⟨[0], [], [(6, none)], false⟩, ⟨[0], [0], [(16, some 0)], false⟩, ⟨[0], [0, 1], [(17, some 1)], false⟩, ⟨[0], [0, 1, 2], [(0, none), (18, some 2)], false⟩, ⟨[0], [0, 1, 2], [(7, none), (18, some 2)], false⟩, ⟨[0], [0, 1, 2, 3, 4], [(18, some 2), (19, some 3), (20, some 4)], false⟩, ⟨[0], [0, 1, 2, 3, 4, 5], [(18, some 2), (21, some 5)], false⟩, ⟨[0], [0, 1, 2, 3, 4, 5, 6], [(18, some 2), (22, some 6)], false⟩, ⟨[0], [0, 1, 2], [(3, none), (18, some 2)], false⟩, ⟨[0], [0, 1, 2, 8], [(18, some 2), (24, some 8)], false⟩, ⟨[], [0, 1, 2, 3, 4, 5, 6, 7, 8, 9], [], false⟩, ⟨[], [0, 1, 2, 3, 4, 5, 6, 7, 8, 9, 10], [], false⟩] 10 (by kernel_rfl) (by kernel_rfl)
       ·refine ⟨?_, ?_, ?_, ?_, ?_, ?_, ?_, ?_, ?_, ?_, trivial⟩
        ·intro tm hr
         simp [AllL, rdV] at hr
         simp [hr, ← e9, nth_d e10, ← e11]
         intros; first | exact KD.mk | exact KD.mkN
        ·intro tm hr
         simp [AllL, rdV] at hr
         simp [hr, ← e9, nth_d e10, ← e11]
         intros; first | exact KD.mk | exact KD.mkN
        ·intro tm hr
         simp [AllL, rdV] at hr
         simp [hr, ← e9, nth_d e10, ← e11]
         intros; first | exact KD.mk | exact KD.mkN
        ·intro tm hr
         simp [AllL, rdV] at hr
         simp [hr, ← e9, nth_d e10, ← e11]
         intros; first | exact KD.mk | exact KD.mkN
        ·intro tm hr
         simp [AllL, rdV] at hr
         simp [hr, ← e9, nth_d e10, ← e11]
         intros; first | exact KD.mk | exact KD.mkN
        ·intro tm hr
         simp [AllL, rdV] at hr
         simp [hr, ← e9, nth_d e10, ← e11]
         intros; first | exact KD.mk | exact KD.mkN
        ·intro tm hr
         simp [AllL, rdV] at hr
         simp [hr, ← e9, nth_d e10, ← e11]
         intros; first | exact KD.mk | exact KD.mkN
        ·intro tm hr
         simp [AllL, rdV] at hr
         simp [hr, ← e9, nth_d e10, ← e11]
         intros; first | exact KD.mk | exact KD.mkN
        ·intro tm hr
         simp [AllL, rdV] at hr
         simp [hr, ← e9, nth_d e10, ← e11]
         intros; first | exact KD.mk | exact KD.mkN
        ·intro tm hr
         simp [AllL, rdV] at hr
         simp [hr, ← e9, nth_d e10, ← e11]
         intros; first | exact KD.mk | exact KD.mkN
       ·rfl
       ·simp [tmD, putD, ← e9, nth_d e10, ← e11]; rfl
       ·simp [← e9, nth_d e10, ← e11]
        intros; rfl
       obtain rfl := Option.some.inj h
       refine nP_i ?_
       refine Weak.mixN [some 0, some 1] hn0 (by decide) ?_ ?_ rfl
       all_goals first | (simp [inv_cons, inv_nil, pickOb]; done) | rfl
      | false =>
       replace h := iteF rfl h
       apply AW.drawnR (V := [_, _, _, _, _, _, _, _, _, _]) mixed [⟨[0], [], [(6, none)], false⟩, ⟨[0], [0], [(16, some 0)], false⟩, ⟨[0], [0, 1], [(17, some 1)], false⟩, ⟨[0], [0, 1, 2], [(0, none), (18, some 2)], false⟩, ⟨[0], [0, 1, 2], [(7, none), (18, some 2)], false⟩, ⟨[0], [0, 1, 2, 3, 4], [(18, some 2), (19, some 3), (20, some 4)], false⟩, ⟨[0], [0, 1, 2, 3, 4, 5], [(18, some 2), (21, some 5)], false⟩, ⟨[0], [0, 1, 2, 3, 4, 5, 6], [(18, some 2), (22, some 6)], false⟩, ⟨[0], [0, 1, 2], [(3, none), (18, some 2)], false⟩, ⟨[0], [0, 1, 2, 8], [(18, some 2), (24, some 8)], false⟩, ⟨[], [0, 1, 2, 3, 4, 5, 6, 7, 8, 9], [], false⟩, ⟨[], [0, 1, 2, 3, 4, 5, 6, 7, 8, 9, 10], [], false⟩] 10 (by kernel_rfl) (by kernel_rfl)
       ·refine ⟨?_, ?_, ?_, ?_, ?_, ?_, ?_, ?_, ?_, ?_, trivial⟩
        ·intro tm hr
         simp [AllL, rdV] at hr
         simp [hr, ← e9]
         intros; first | exact KD.mk | exact KD.mkN
        ·intro tm hr
         simp [AllL, rdV] at hr
         simp [hr, ← e9]
         intros; first | exact KD.mk | exact KD.mkN
        ·intro tm hr
         simp [AllL, rdV] at hr
         simp [hr, ← e9]
         intros; first | exact KD.mk | exact KD.mkN
        ·intro tm hr
         simp [AllL, rdV] at hr
         simp [hr, ← e9]
         intros; first | exact KD.mk | exact KD.mkN
        ·intro tm hr
         simp [AllL, rdV] at hr
         simp [hr, ← e9]
         intros; first | exact KD.mk | exact KD.mkN
        ·intro tm hr
         simp [AllL, rdV] at hr
         simp [hr, ← e9]
         intros; first | exact KD.mk | exact KD.mkN
        ·intro tm hr
         simp [AllL, rdV] at hr
         simp [hr, ← e9]
         intros; first | exact KD.mk | exact KD.mkN
        ·intro tm hr
         simp [AllL, rdV] at hr
         simp [hr, ← e9]
         intros; first | exact KD.mk | exact KD.mkN
        ·intro tm hr
         simp [AllL, rdV] at hr
         simp [hr, ← e9]
         intros; first | exact KD.mk | exact KD.mkN
        ·intro tm hr
         simp [AllL, rdV] at hr
         simp [hr, ← e9]
         intros; first | exact KD.mk | exact KD.mkN
       ·rfl
       ·simp [tmD, putD, ← e9]; rfl
       ·simp [← e9]
        intros; rfl
       obtain rfl := Option.some.inj h
       refine nP_i ?_
       refine Weak.mixN [some 0, some 1] hn0 (by decide) ?_ ?_ rfl
       all_goals first | (simp [inv_cons, inv_nil, pickOb]; done) | rfl
     ·rintro e s hp
      obtain ⟨rfl, hw⟩ := hp
      refine ⟨_, hw, ?_⟩
      try simp only [sp_l, sp_r, Post.seq, Post.block, Nat.reduceEqDiff, reduceIte, Nat.zero_ne_one, Nat.one_ne_zero]
      replace h := ltE h; obtain ⟨v12, e12, h⟩ := h
      rw [← e12]
      cases v12 with
      | true =>
       replace h := iteT rfl h
       refine AW.cond_true (by simp) ?_
       replace h := chkE h; obtain ⟨e13, h⟩ := h
       replace h := ltE h; obtain ⟨v14, e14, h⟩ := h
       apply AW.step
       ·simp [← encPair_append, ← e14, app_len1 e14]
        intros
        refine xrow_own ?_
        try simp [← encPair_append, ← e14, app_len1 e14]
        intros
        refine xapp_pushN (acc := encPair y1.2.2) (ys := encPair [(⟨a1.key, a1.item⟩ : Pair)]) (cap := none) (k := 1) tb_el56 tb_ti125 (by simp) (by simp [encPair, lvs]) (encPair_sz _) (by simp) (by simp) (by simpa using (room_d e13).1) ?_
        try simp [← encPair_append, ← e14, app_len1 e14]
        intros; rfl
       apply AW.last
       ·simp
        intros; rfl
       obtain rfl := Option.some.inj h
       refine nP_i ?_
       refine Weak.mixN [some 0, some 3] hn0 (by decide) ?_ ?_ rfl
       all_goals first | (simp [inv_cons, inv_nil, pickOb, lvs_encPair1]; done) | rfl
      | false =>
       replace h := iteF rfl h
       refine AW.cond_false (by simp) ?_
       refine AW.skip ?_
       try simp only [sp_l, sp_r, Post.seq, Post.block, Nat.reduceEqDiff, reduceIte, Nat.zero_ne_one, Nat.one_ne_zero]
       obtain rfl := Option.some.inj h
       refine nP_i ?_
       refine Weak.mixN [some 0, some 1] hn0 (by decide) ?_ ?_ rfl
       all_goals first | (simp [inv_cons, inv_nil, pickOb]; done) | rfl
    ·rintro e s hp
     obtain ⟨rfl, hw⟩ := hp
     refine ⟨_, hw, ?_⟩
     try simp only [sp_l, sp_r, Post.seq, Post.block, Nat.reduceEqDiff, reduceIte, Nat.zero_ne_one, Nat.one_ne_zero]
     replace h := bnE h; obtain ⟨v15, e15, h⟩ := h
     replace h := ltE h; obtain ⟨v16, e16, h⟩ := h
     apply AW.drawnP (V := [_, _, _, _, _, _, _]) mixed [⟨[0], [], [(0, none)], false⟩, ⟨[0], [], [(7, none)], false⟩, ⟨[0], [0, 1], [(36, some 0), (37, some 1)], false⟩, ⟨[0], [0, 1, 2], [(38, some 2)], false⟩, ⟨[0], [0, 1, 2, 3], [(39, some 3)], false⟩, ⟨[0], [], [(3, none)], false⟩, ⟨[0], [5], [(41, some 5)], false⟩, ⟨[], [0, 1, 2, 3, 4, 5, 6], [], false⟩] 7 (by kernel_rfl) (by kernel_rfl)
     ·refine ⟨?_, ?_, ?_, ?_, ?_, ?_, ?_, trivial⟩
      ·intro tm hr
       simp [AllL, rdV] at hr
       simp [hr, nth_d e15, ← e16]
       intros; first | exact KD.mk | exact KD.mkN
      ·intro tm hr
       simp [AllL, rdV] at hr
       simp [hr, nth_d e15, ← e16]
       intros; first | exact KD.mk | exact KD.mkN
      ·intro tm hr
       simp [AllL, rdV] at hr
       simp [hr, nth_d e15, ← e16]
       intros; first | exact KD.mk | exact KD.mkN
      ·intro tm hr
       simp [AllL, rdV] at hr
       simp [hr, nth_d e15, ← e16]
       intros; first | exact KD.mk | exact KD.mkN
      ·intro tm hr
       simp [AllL, rdV] at hr
       simp [hr, nth_d e15, ← e16]
       intros; first | exact KD.mk | exact KD.mkN
      ·intro tm hr
       simp [AllL, rdV] at hr
       simp [hr, nth_d e15, ← e16]
       intros; first | exact KD.mk | exact KD.mkN
      ·intro tm hr
       simp [AllL, rdV] at hr
       simp [hr, nth_d e15, ← e16]
       intros; first | exact KD.mk | exact KD.mkN
     ·rfl
     ·simp [tmD, putD, nth_d e15, ← e16]; rfl
     ·simp [nth_d e15, ← e16]
      intros; rfl
     cases v16 with
     | true =>
      replace h := iteT rfl h
      refine AW.cond_true (by simp) ?_
      replace h := chkE h; obtain ⟨e17, h⟩ := h
      replace h := ltE h; obtain ⟨v18, e18, h⟩ := h
      apply AW.last
      ·simp [nth_d e15, ← encPair_append, ← e18, app_len1 e18]
       intros
       refine xrow_own ?_
       try simp [nth_d e15, ← encPair_append, ← e18, app_len1 e18]
       intros
       refine xapp_pushN (acc := encPair y7.2) (ys := encPair [v15]) (cap := none) (k := 1) tb_el56 tb_ti125 (by simp) (by simp [encPair, lvs]) (encPair_sz _) (by simp) (by simp) (by simpa using (room_d e17).1) ?_
       try simp [nth_d e15, ← encPair_append, ← e18, app_len1 e18]
       intros; rfl
      obtain rfl := Option.some.inj h
      refine nP_i ?_
      refine Weak.mixN [some 0, some 3] hn0 (by decide) ?_ ?_ rfl
      all_goals first | (simp [inv_cons, inv_nil, pickOb, lvs_encPair1]; done) | rfl
     | false =>
      replace h := iteF rfl h
      refine AW.cond_false (by simp) ?_
      refine AW.skip ?_
      try simp only [sp_l, sp_r, Post.seq, Post.block, Nat.reduceEqDiff, reduceIte, Nat.zero_ne_one, Nat.one_ne_zero]
      obtain rfl := Option.some.inj h
      refine nP_i ?_
      refine Weak.mixN [some 0, some 1] hn0 (by decide) ?_ ?_ rfl
      all_goals first | (simp [inv_cons, inv_nil, pickOb]; done) | rfl
   ·rintro e s hp
    obtain ⟨rfl, hw⟩ := hp
    refine ⟨_, hw, ?_⟩
    try simp only [sp_l, sp_r, Post.seq, Post.block, Nat.reduceEqDiff, reduceIte, Nat.zero_ne_one, Nat.one_ne_zero]
    replace h := ltE h; obtain ⟨v19, e19, h⟩ := h
    apply AW.last
    ·simp [← e19]
     intros; rfl
    obtain rfl := Option.some.inj h
    refine nP_i ?_
    refine Weak.mixN [some 0, some 1] hn0 (by decide) ?_ ?_ rfl
    all_goals first | (simp [inv_cons, inv_nil, pickOb]; done) | rfl
  | false =>
   replace h := iteF rfl h
   refine AW.cond_false (by simp) ?_
   refine AW.exit ?_
   try simp only [sp_l, sp_r, Post.seq, Post.block, Nat.reduceEqDiff, reduceIte, Nat.zero_ne_one, Nat.one_ne_zero]
   obtain rfl := Option.some.inj h
   refine xP_i ?_
   refine Weak.mixN [some 0, some 1] hn0 (by decide) ?_ ?_ rfl
   all_goals first | (simp [inv_cons, inv_nil, pickOb]; done) | rfl
 ·rintro e s hp
  obtain ⟨rfl, hw⟩ := hp
  refine ⟨_, hw, ?_⟩
  try simp only [sp_l, sp_r, Post.seq, Post.block, Nat.reduceEqDiff, reduceIte, Nat.zero_ne_one, Nat.one_ne_zero]
  replace h := bnE h; obtain ⟨y20, g20, h⟩ := h
  refine AW.flow (p := fun gh ls => (nP (cx := cx) (fun q => (⟨[(5, .l (.r 0 6 0 q.length))], [some ⟨125, 6, true, none, lvs (encPair q)⟩], 62, gh, ls⟩ : St))) y20) ?_ ?_
  ·replace h := g20; clear g20
   replace h := ltE h; obtain ⟨v21, e21, h⟩ := h
   apply AW.step
   ·simp [← e21]
    intros; rfl
   cases v21 with
   | true =>
    replace h := iteT rfl h
    refine AW.cond_true (by simp) ?_
    replace h := chkE h; obtain ⟨e22, h⟩ := h
    replace h := ltE h; obtain ⟨v23, e23, h⟩ := h
    apply AW.last
    ·simp [← encPair_append, ← e23, app_len1 e23]
     intros
     refine xrow_own ?_
     try simp [← encPair_append, ← e23, app_len1 e23]
     intros
     refine xapp_pushN (acc := encPair y2.2) (ys := encPair [(⟨a1.key, a1.item⟩ : Pair)]) (cap := none) (k := 1) tb_el56 tb_ti125 (by simp) (by simp [encPair, lvs]) (encPair_sz _) (by simp) (by simp) (by simpa using (room_d e22).1) ?_
     try simp [← encPair_append, ← e23, app_len1 e23]
     intros; rfl
    obtain rfl := Option.some.inj h
    refine nP_i ?_
    refine Weak.mixN [some 3] hn0 (by decide) ?_ ?_ rfl
    all_goals first | (simp [inv_cons, inv_nil, pickOb, lvs_encPair1]; done) | rfl
   | false =>
    replace h := iteF rfl h
    refine AW.cond_false (by simp) ?_
    refine AW.skip ?_
    try simp only [sp_l, sp_r, Post.seq, Post.block, Nat.reduceEqDiff, reduceIte, Nat.zero_ne_one, Nat.one_ne_zero]
    obtain rfl := Option.some.inj h
    refine nP_i ?_
    refine Weak.mixN [some 1] hn0 (by decide) ?_ ?_ rfl
    all_goals first | (simp [inv_cons, inv_nil, pickOb]; done) | rfl
  ·rintro e s hp
   obtain ⟨rfl, hw⟩ := hp
   refine ⟨_, hw, ?_⟩
   try simp only [sp_l, sp_r, Post.seq, Post.block, Nat.reduceEqDiff, reduceIte, Nat.zero_ne_one, Nat.one_ne_zero]
   apply AW.step
   ·simp
    intros; rfl
   replace h := chkE h; obtain ⟨e24, h⟩ := h
   refine AW.frzRow 0 (ty := 125) (cap := none) (sz := 6) (es := encPair y20) (by simp) (by omega) (encPair_sz _) (by first | exact (room_d e24).2 | simpa using (room_d e24).2 | simp) (by simp [Tm.frz, AV.frz, LV.frz]; rfl) (by simp [Ob.frz, LV.frz]; rfl) rfl ?_
   obtain rfl := Option.some.inj h
   refine AW.ret ?_
   refine Left.plain hnb (by simp [Try.f103, resV, resC, comp]; rfl) rfl rfl ?_
   simp
theorem en_r5_apply : Enters Try.prog 103 := enters Try.func103 (by kernel_rfl) rfl
def r5_Apply_sh (n : Nat) (a0 : List Pair) (a1 : List Effect) : Option (List Pair) :=
chk (room a0.length 96) <|
chk (room a0.length 1) <|
bn (iter n (fun (y2 : List Pair × Int) =>
lt (lenI a1) fun v6 =>
lt (ltI y2.2 v6) fun v7 =>
ite' v7 (bn (nth a1 y2.2) fun v8 =>
bn (r5_apply_sh n y2.1 v8) fun v9 =>
lt (addI .i64 y2.2 1) fun v10 =>
some (.inl (v9, v10))) (some (.inr y2.1))) (a0, 0)) fun (y3 : List Pair) =>
some y3
set_option maxRecDepth 8000 in
set_option maxHeartbeats 8000000 in
theorem s_r5_Apply {n : Nat} {a0 : List Pair} {a1 : List Effect} {r : List Pair} (h : r5_Apply_sh n a0 a1 = some r) : Sound Try.prog 64 [.l (.d false 6 (encPair a0)), .l (.d false 7 (encEffect a1))] [] (.l (.d false 6 (encPair r))) [] := by
 unfold r5_Apply_sh at h
 refine Sound.of_aw (fn := Try.f64) (c := _) Try.func64 rfl (by simp [Try.f64]) fun cx hG hnb => ?_
 rw [show Try.f64.ntmps = 23 from rfl]
 have hn0 : cx.nb = 0 := hnb
 simp only [st0_mk, initTm, List.map_cons, List.map_nil]
 apply AW.step
 ·simp
  intros; rfl
 replace h := chkE h; obtain ⟨e1, h⟩ := h
 apply AW.step
 ·simp
  intros
  refine xrow_own ?_
  try simp
  intros
  refine xapp_pushN (acc := []) (ys := encPair a0) (cap := none) (k := a0.length) tb_el56 tb_ti125 (by simp) (by rw [src_d]; simp) (by simp) (by simp) (by simp) (by simpa using (room_d e1).1) ?_
  try simp
  intros; rfl
 refine AW.seq ?_
 apply AW.step
 ·simp
  intros; rfl
 refine AW.block ?_
 replace h := chkE h; obtain ⟨e4, h⟩ := h
 replace h := bnE h; obtain ⟨y3, g3, h⟩ := h
 refine AW.iterP g3 (mk := fun gh ls q => (⟨[(1, .l (.d false 7 (encEffect a1))), (5, .l (.d false 6 (encPair q.1))), (6, .l (.s (.int .i64 q.2)))], [], 23, gh, ls⟩ : St)) (N := fun gh ls => (xP 0 (cx := cx) (fun q => (⟨[(5, .l (.d false 6 (encPair q)))], [], 23, gh, ls⟩ : St)))) ?_ noX ?_ ?_
 ·refine W.frzRow 1 (ty := 125) (cap := none) (sz := 6) (es := encPair a0) (by simp) (by omega) (encPair_sz _) (by first | exact (room_d e4).2 | simpa using (room_d e4).2 | simp) (by simp [Tm.frz, AV.frz, LV.frz]; rfl) (by simp [Ob.frz, LV.frz]; rfl) rfl ?_
  refine Weak.mixN [] hn0 (by decide) ?_ ?_ rfl
  all_goals first | (simp [inv_cons, inv_nil, pickOb]; done) | rfl
 ·clear h; intro y2 y5 h
  refine AW.seq ?_
  replace h := ltE h; obtain ⟨v6, e6, h⟩ := h
  replace h := ltE h; obtain ⟨v7, e7, h⟩ := h
  apply AW.step
  ·simp [lenI_cast e6, ← e7]
   intros; rfl
  cases v7 with
  | true =>
   replace h := iteT rfl h
   refine AW.cond_true (by simp) ?_
   refine AW.skip ?_
   try simp only [sp_l, sp_r, Post.seq, Post.block, Nat.reduceEqDiff, reduceIte, Nat.zero_ne_one, Nat.one_ne_zero]
   try simp only [sp_l, sp_r, Post.seq, Post.block, Nat.reduceEqDiff, reduceIte, Nat.zero_ne_one, Nat.one_ne_zero]
   refine AW.seq ?_
   refine AW.block ?_
   replace h := bnE h; obtain ⟨v8, e8, h⟩ := h
   replace h := bnE h; obtain ⟨v9, e9, h⟩ := h
   apply AW.last
   ·simp [nth_d e8]
    intros
    refine xcall_plain en_r5_apply (s_r5_apply e9) rfl ⟨.same rfl, .same rfl, trivial⟩ ?_
    try simp [nth_d e8]
    intros; rfl
   try simp only [sp_l, sp_r, Post.seq, Post.block, Nat.reduceEqDiff, reduceIte, Nat.zero_ne_one, Nat.one_ne_zero]
   replace h := ltE h; obtain ⟨v10, e10, h⟩ := h
   apply AW.last
   ·simp [← e10]
    intros; rfl
   obtain rfl := Option.some.inj h
   refine nP_i ?_
   refine Weak.mixN [] hn0 (by decide) ?_ ?_ rfl
   all_goals first | (simp [inv_cons, inv_nil, pickOb]; done) | rfl
  | false =>
   replace h := iteF rfl h
   refine AW.cond_false (by simp) ?_
   refine AW.exit ?_
   try simp only [sp_l, sp_r, Post.seq, Post.block, Nat.reduceEqDiff, reduceIte, Nat.zero_ne_one, Nat.one_ne_zero]
   obtain rfl := Option.some.inj h
   refine xP_i ?_
   refine Weak.mixN [] hn0 (by decide) ?_ ?_ rfl
   all_goals first | (simp [inv_cons, inv_nil, pickOb]; done) | rfl
 ·rintro e s hp
  obtain ⟨rfl, hw⟩ := hp
  refine ⟨_, hw, ?_⟩
  try simp only [sp_l, sp_r, Post.seq, Post.block, Nat.reduceEqDiff, reduceIte, Nat.zero_ne_one, Nat.one_ne_zero]
  apply AW.step
  ·simp
   intros; rfl
  obtain rfl := Option.some.inj h
  refine AW.ret ?_
  refine Left.plain hnb (by simp [Try.f64, resV, resC, comp]; rfl) rfl rfl ?_
  simp
theorem en_r5_Apply : Enters Try.prog 64 := enters Try.func64 (by kernel_rfl) rfl
def r5_Raw_sh (n : Nat) (a0 : List Pair) (a1 : ByteArray) : Option R5Got :=
bn (iter n (fun (y1 : Int) =>
lt (lenI a0) fun v4 =>
lt (ltI y1 v4) fun v5 =>
ite' v5 (bn (nth a0 y1) fun v6 =>
lt (eqS v6.key a1) fun v7 =>
ite' v7 (some (.inr (.inr (⟨v6.item, true⟩ : R5Got)))) (lt (addI .i64 y1 1) fun v8 =>
some (.inl v8))) (some (.inr (.inl ())))) 0) fun (y2 : Unit ⊕ R5Got) =>
sm y2 (fun y9 => some (⟨(⟨0, ⟨#[]⟩, [], [], 0⟩ : Item), false⟩ : R5Got)) (fun y10 => some y10)
set_option maxRecDepth 8000 in
set_option maxHeartbeats 8000000 in
theorem s_r5_Raw {n : Nat} {a0 : List Pair} {a1 : ByteArray} {r : R5Got} (h : r5_Raw_sh n a0 a1 = some r) : Sound Try.prog 66 [.l (.d false 6 (encPair a0)), .l (.s (.string a1))] [] (.g [.s (.int .i64 r.i.kind), .s (.string r.i.s), .d false 2 (encField r.i.f), .d false 1 (encS r.i.l), .s (.int .i64 r.i.exp), .s (.bool r.ok)]) [] := by
 unfold r5_Raw_sh at h
 refine Sound.of_aw (fn := Try.f66) (c := _) Try.func66 rfl (by simp [Try.f66]) fun cx hG hnb => ?_
 rw [show Try.f66.ntmps = 26 from rfl]
 have hn0 : cx.nb = 0 := hnb
 simp only [st0_mk, initTm, List.map_cons, List.map_nil]
 apply AW.step
 ·simp
  intros; rfl
 refine AW.seq ?_
 apply AW.step
 ·simp
  intros; rfl
 refine AW.block ?_
 replace h := bnE h; obtain ⟨y2, g2, h⟩ := h
 refine AW.iterP g2 (mk := fun gh ls q => (⟨[(0, .l (.d false 6 (encPair a0))), (1, .l (.s (.string a1))), (4, .l (.p 0 0)), (5, .l (.s (.int .i64 q)))], [some ⟨93, 6, false, none, [.s (.int .i64 0), .s (.string ⟨#[]⟩), .s (.slice none 0 0), .s (.slice none 0 0), .s (.int .i64 0), .s (.bool false)]⟩], 26, gh, ls⟩ : St)) (N := fun gh ls => (sp (xP 0 (cx := cx) (fun _ => (⟨[(4, .l (.p 0 0))], [some ⟨93, 6, false, none, [.s (.int .i64 0), .s (.string ⟨#[]⟩), .s (.slice none 0 0), .s (.slice none 0 0), .s (.int .i64 0), .s (.bool false)]⟩], 26, gh, ls⟩ : St))) (rP (cx := cx) (P := Try.prog) Try.f66 (fun q => .g [.s (.int .i64 q.i.kind), .s (.string q.i.s), .d false 2 (encField q.i.f), .d false 1 (encS q.i.l), .s (.int .i64 q.i.exp), .s (.bool q.ok)]) (fun q => [])))) ?_ (noS noX noR) ?_ ?_
 ·refine Weak.mixN [some 0] hn0 (by decide) ?_ ?_ rfl
  all_goals first | (simp [inv_cons, inv_nil, pickOb]; done) | rfl
 ·clear h; intro y1 y3 h
  refine AW.seq ?_
  replace h := ltE h; obtain ⟨v4, e4, h⟩ := h
  replace h := ltE h; obtain ⟨v5, e5, h⟩ := h
  apply AW.step
  ·simp [lenI_cast e4, ← e5]
   intros; rfl
  cases v5 with
  | true =>
   replace h := iteT rfl h
   refine AW.cond_true (by simp) ?_
   refine AW.skip ?_
   try simp only [sp_l, sp_r, Post.seq, Post.block, Nat.reduceEqDiff, reduceIte, Nat.zero_ne_one, Nat.one_ne_zero]
   try simp only [sp_l, sp_r, Post.seq, Post.block, Nat.reduceEqDiff, reduceIte, Nat.zero_ne_one, Nat.one_ne_zero]
   refine AW.seq ?_
   refine AW.block ?_
   replace h := bnE h; obtain ⟨v6, e6, h⟩ := h
   replace h := ltE h; obtain ⟨v7, e7, h⟩ := h
   apply AW.step
   ·simp [nth_d e6, ← e7]
    intros; rfl
   cases v7 with
   | true =>
    replace h := iteT rfl h
    refine AW.cond_true (by simp) ?_
    apply AW.step
    ·simp [nth_d e6]
     intros; rfl
    obtain rfl := Option.some.inj h
    refine AW.ret ?_
    try simp only [sp_l, sp_r, Post.seq, Post.block, Nat.reduceEqDiff, reduceIte, Nat.zero_ne_one, Nat.one_ne_zero]
    refine rP_i ?_
    refine Left.plain hnb (by simp [Try.f66, resV, resC, comp]; rfl) rfl rfl ?_
    simp
   | false =>
    replace h := iteF rfl h
    refine AW.cond_false (by simp) ?_
    refine AW.skip ?_
    try simp only [sp_l, sp_r, Post.seq, Post.block, Nat.reduceEqDiff, reduceIte, Nat.zero_ne_one, Nat.one_ne_zero]
    try simp only [sp_l, sp_r, Post.seq, Post.block, Nat.reduceEqDiff, reduceIte, Nat.zero_ne_one, Nat.one_ne_zero]
    replace h := ltE h; obtain ⟨v8, e8, h⟩ := h
    apply AW.last
    ·simp [← e8]
     intros; rfl
    obtain rfl := Option.some.inj h
    refine nP_i ?_
    refine Weak.mixN [some 0] hn0 (by decide) ?_ ?_ rfl
    all_goals first | (simp [inv_cons, inv_nil, pickOb]; done) | rfl
  | false =>
   replace h := iteF rfl h
   refine AW.cond_false (by simp) ?_
   refine AW.exit ?_
   try simp only [sp_l, sp_r, Post.seq, Post.block, Nat.reduceEqDiff, reduceIte, Nat.zero_ne_one, Nat.one_ne_zero]
   obtain rfl := Option.some.inj h
   try simp only [sp_l, sp_r]
   refine xP_i ?_
   refine Weak.mixN [some 0] hn0 (by decide) ?_ ?_ rfl
   all_goals first | (simp [inv_cons, inv_nil, pickOb]; done) | rfl
 ·rintro e s hp
  rcases y2 with y9 | y10
  ·replace h := smL h
   obtain ⟨rfl, hw⟩ := hp
   refine ⟨_, hw, ?_⟩
   try simp only [sp_l, sp_r, Post.seq, Post.block, Nat.reduceEqDiff, reduceIte, Nat.zero_ne_one, Nat.one_ne_zero]
   apply AW.step
   ·simp
    intros; rfl
   refine AW.nilCellD 0 2 2 rfl rfl rfl rfl ?_
   refine AW.nilCellD 0 3 1 rfl rfl rfl rfl ?_
   obtain rfl := Option.some.inj h
   refine AW.ret ?_
   refine Left.plain hnb (by simp [Try.f66, resV, resC, comp]; rfl) rfl rfl ?_
   simp
  ·replace h := smR h
   obtain ⟨rfl, hl⟩ := hp
   refine ⟨_, Weak.refl _, ?_⟩
   obtain rfl := Option.some.inj h
   exact hl
theorem en_r5_Raw : Enters Try.prog 66 := enters Try.func66 (by kernel_rfl) rfl
def r5_Alive_sh (n : Nat) (a0 : Item) (a1 : Int) : Option Bool :=
bn (lt (eqI a0.exp 0) fun v2 =>
ite' v2 (some (true)) (lt (gtI a0.exp a1) fun v3 =>
some (v3))) fun (y1 : Bool) =>
some y1
set_option maxRecDepth 8000 in
set_option maxHeartbeats 8000000 in
theorem s_r5_Alive {n : Nat} {a0 : Item} {a1 : Int} {r : Bool} (h : r5_Alive_sh n a0 a1 = some r) : Sound Try.prog 101 [.g [.s (.int .i64 a0.kind), .s (.string a0.s), .d false 2 (encField a0.f), .d false 1 (encS a0.l), .s (.int .i64 a0.exp)], .l (.s (.int .i64 a1))] [] (.l (.s (.bool r))) [] := by
 unfold r5_Alive_sh at h
 refine Sound.of_aw (fn := Try.f101) (c := _) Try.func101 rfl (by simp [Try.f101]) fun cx hG hnb => ?_
 rw [show Try.f101.ntmps = 14 from rfl]
 have hn0 : cx.nb = 0 := hnb
 simp only [st0_mk, initTm, List.map_cons, List.map_nil]
 apply AW.step
 ·simp
  intros; rfl
 replace h := bnE h; obtain ⟨y1, g1, h⟩ := h
 refine AW.flow (p := fun gh ls => (nP (cx := cx) (fun q => (⟨[(4, .l (.s (.bool q)))], [], 14, gh, ls⟩ : St))) y1) ?_ ?_
 ·replace h := g1; clear g1
  replace h := ltE h; obtain ⟨v2, e2, h⟩ := h
  cases v2 with
  | true =>
   replace h := iteT rfl h
   apply AW.last
   ·simp [← e2]
    intros; rfl
   obtain rfl := Option.some.inj h
   refine nP_i ?_
   refine Weak.mixN [] hn0 (by decide) ?_ ?_ rfl
   all_goals first | (simp [inv_cons, inv_nil, pickOb]; done) | rfl
  | false =>
   replace h := iteF rfl h
   replace h := ltE h; obtain ⟨v3, e3, h⟩ := h
   apply AW.last
   ·simp [← e2, ← e3]
    intros; rfl
   obtain rfl := Option.some.inj h
   refine nP_i ?_
   refine Weak.mixN [] hn0 (by decide) ?_ ?_ rfl
   all_goals first | (simp [inv_cons, inv_nil, pickOb]; done) | rfl
 ·rintro e s hp
  obtain ⟨rfl, hw⟩ := hp
  refine ⟨_, hw, ?_⟩
  try simp only [sp_l, sp_r, Post.seq, Post.block, Nat.reduceEqDiff, reduceIte, Nat.zero_ne_one, Nat.one_ne_zero]
  obtain rfl := Option.some.inj h
  refine AW.ret ?_
  refine Left.plain hnb (by simp [Try.f101, resV, resC, comp]; rfl) rfl rfl ?_
  simp
theorem en_r5_Alive : Enters Try.prog 101 := enters Try.func101 (by kernel_rfl) rfl
def r5_Get_sh (n : Nat) (a0 : List Pair) (a1 : ByteArray) (a2 : Int) : Option R5Got :=
bn (r5_Raw_sh n a0 a1) fun v1 =>
bn (lt (notB v1.ok) fun v3 =>
ite' v3 (some (true)) (bn (r5_Alive_sh n v1.i a2) fun v4 =>
lt (notB v4) fun v5 =>
some (v5))) fun (y2 : Bool) =>
lt (y2) fun v6 =>
ite' v6 (some (⟨(⟨0, ⟨#[]⟩, [], [], 0⟩ : Item), false⟩ : R5Got)) (some v1)
set_option maxRecDepth 8000 in
set_option maxHeartbeats 8000000 in
theorem s_r5_Get {n : Nat} {a0 : List Pair} {a1 : ByteArray} {a2 : Int} {r : R5Got} (h : r5_Get_sh n a0 a1 a2 = some r) : Sound Try.prog 62 [.l (.d false 6 (encPair a0)), .l (.s (.string a1)), .l (.s (.int .i64 a2))] [] (.g [.s (.int .i64 r.i.kind), .s (.string r.i.s), .d false 2 (encField r.i.f), .d false 1 (encS r.i.l), .s (.int .i64 r.i.exp), .s (.bool r.ok)]) [] := by
 unfold r5_Get_sh at h
 refine Sound.of_aw (fn := Try.f62) (c := _) Try.func62 rfl (by simp [Try.f62]) fun cx hG hnb => ?_
 rw [show Try.f62.ntmps = 23 from rfl]
 have hn0 : cx.nb = 0 := hnb
 simp only [st0_mk, initTm, List.map_cons, List.map_nil]
 apply AW.step
 ·simp
  intros; rfl
 replace h := bnE h; obtain ⟨v1, e1, h⟩ := h
 apply AW.step
 ·simp
  intros
  refine xcall_plain en_r5_Raw (s_r5_Raw e1) rfl ⟨.same rfl, .same rfl, trivial⟩ ?_
  try simp
  intros; rfl
 refine AW.seq ?_
 replace h := bnE h; obtain ⟨y2, g2, h⟩ := h
 refine AW.flow (p := fun gh ls => (nP (cx := cx) (fun q => (⟨[(6, .l (.p 0 0)), (7, .l (.p 1 0)), (20, .l (.s (.bool q)))], [some ⟨93, 6, false, none, [.s (.int .i64 0), .s (.string ⟨#[]⟩), .s (.slice none 0 0), .s (.slice none 0 0), .s (.int .i64 0), .s (.bool false)]⟩, some ⟨93, 6, false, none, [.s (.int .i64 v1.i.kind), .s (.string v1.i.s), .d false 2 (encField v1.i.f), .d false 1 (encS v1.i.l), .s (.int .i64 v1.i.exp), .s (.bool v1.ok)]⟩], 23, gh, ls⟩ : St))) y2) ?_ ?_
 ·replace h := g2; clear g2
  replace h := ltE h; obtain ⟨v3, e3, h⟩ := h
  cases v3 with
  | true =>
   replace h := iteT rfl h
   apply AW.last
   ·simp [← e3]
    intros; rfl
   obtain rfl := Option.some.inj h
   refine nP_i ?_
   refine Weak.mixN [some 0, some 1] hn0 (by decide) ?_ ?_ rfl
   all_goals first | (simp [inv_cons, inv_nil, pickOb]; done) | rfl
  | false =>
   replace h := iteF rfl h
   replace h := bnE h; obtain ⟨v4, e4, h⟩ := h
   replace h := ltE h; obtain ⟨v5, e5, h⟩ := h
   apply AW.last
   ·simp [← e3, ← e5]
    intros
    refine xcall_plain en_r5_Alive (s_r5_Alive e4) rfl ⟨.same rfl, .same rfl, trivial⟩ ?_
    try simp [← e3, ← e5]
    intros; rfl
   obtain rfl := Option.some.inj h
   refine nP_i ?_
   refine Weak.mixN [some 0, some 1] hn0 (by decide) ?_ ?_ rfl
   all_goals first | (simp [inv_cons, inv_nil, pickOb]; done) | rfl
 ·rintro e s hp
  obtain ⟨rfl, hw⟩ := hp
  refine ⟨_, hw, ?_⟩
  try simp only [sp_l, sp_r, Post.seq, Post.block, Nat.reduceEqDiff, reduceIte, Nat.zero_ne_one, Nat.one_ne_zero]
  replace h := ltE h; obtain ⟨v6, e6, h⟩ := h
  rw [← e6]
  cases v6 with
  | true =>
   replace h := iteT rfl h
   refine AW.cond_true (by simp) ?_
   apply AW.step
   ·simp
    intros; rfl
   refine AW.nilCellD 0 2 2 rfl rfl rfl rfl ?_
   refine AW.nilCellD 0 3 1 rfl rfl rfl rfl ?_
   obtain rfl := Option.some.inj h
   refine AW.ret ?_
   refine Left.plain hnb (by simp [Try.f62, resV, resC, comp]; rfl) rfl rfl ?_
   simp
  | false =>
   replace h := iteF rfl h
   refine AW.cond_false (by simp) ?_
   refine AW.skip ?_
   try simp only [sp_l, sp_r, Post.seq, Post.block, Nat.reduceEqDiff, reduceIte, Nat.zero_ne_one, Nat.one_ne_zero]
   try simp only [sp_l, sp_r, Post.seq, Post.block, Nat.reduceEqDiff, reduceIte, Nat.zero_ne_one, Nat.one_ne_zero]
   apply AW.step
   ·simp
    intros; rfl
   obtain rfl := Option.some.inj h
   refine AW.ret ?_
   refine Left.plain hnb (by simp [Try.f62, resV, resC, comp]; rfl) rfl rfl ?_
   simp
theorem en_r5_Get : Enters Try.prog 62 := enters Try.func62 (by kernel_rfl) rfl
def r1_Tag_sh (n : Nat) (a0 : ByteArray) : Option ByteArray :=
bn (iter n (fun (y1 : Int) =>
lt (lenS a0) fun v4 =>
lt (ltI y1 v4) fun v5 =>
ite' v5 (bn (atS a0 y1) fun v6 =>
lt (neI v6 123) fun v8 =>
ite' v8 (lt (addI .i64 y1 1) fun v9 =>
some (.inl v9)) (lt (addI .i64 y1 1) fun v10 =>
bn (iter n (fun (y11 : Int) =>
lt (lenS a0) fun v14 =>
lt (ltI y11 v14) fun v15 =>
ite' v15 (bn (atS a0 y11) fun v16 =>
lt (eqI v16 125) fun v18 =>
ite' v18 (lt (addI .i64 y1 1) fun v19 =>
lt (eqI y11 v19) fun v20 =>
ite' v20 (some (.inr (.inr a0))) (bn (segSlh a0 v19 y11) fun v21 =>
some (.inr (.inr v21)))) (lt (addI .i64 y11 1) fun v23 =>
some (.inl v23))) (some (.inr (.inl ())))) v10) fun (y12 : Unit ⊕ ByteArray) =>
sm y12 (fun y24 => some (.inr (.inr a0))) (fun y25 => some (.inr (.inr y25))))) (some (.inr (.inl ())))) 0) fun (y2 : Unit ⊕ ByteArray) =>
sm y2 (fun y26 => some a0) (fun y27 => some y27)
set_option maxRecDepth 8000 in
set_option maxHeartbeats 8000000 in
theorem s_r1_Tag {n : Nat} {a0 : ByteArray} {r : ByteArray} (h : r1_Tag_sh n a0 = some r) : Sound Try.prog 91 [.l (.s (.string a0))] [] (.l (.s (.string r))) [] := by
 unfold r1_Tag_sh at h
 refine Sound.of_aw (fn := Try.f91) (c := _) Try.func91 rfl (by simp [Try.f91]) fun cx hG hnb => ?_
 rw [show Try.f91.ntmps = 39 from rfl]
 have hn0 : cx.nb = 0 := hnb
 simp only [st0_mk, initTm, List.map_cons, List.map_nil]
 apply AW.step
 ·simp
  intros; rfl
 refine AW.seq ?_
 apply AW.step
 ·simp
  intros; rfl
 refine AW.block ?_
 replace h := bnE h; obtain ⟨y2, g2, h⟩ := h
 refine AW.iterP g2 (mk := fun gh ls q => (⟨[(0, .l (.s (.string a0))), (3, .l (.s (.int .i64 q)))], [], 39, gh, ls⟩ : St)) (N := fun gh ls => (sp (xP 0 (cx := cx) (fun _ => (⟨[(0, .l (.s (.string a0)))], [], 39, gh, ls⟩ : St))) (rP (cx := cx) (P := Try.prog) Try.f91 (fun q => .l (.s (.string q))) (fun q => [])))) ?_ (noS noX noR) ?_ ?_
 ·refine Weak.mixN [] hn0 (by decide) ?_ ?_ rfl
  all_goals first | (simp [inv_cons, inv_nil, pickOb]; done) | rfl
 ·clear h; intro y1 y3 h
  refine AW.seq ?_
  replace h := ltE h; obtain ⟨v4, e4, h⟩ := h
  replace h := ltE h; obtain ⟨v5, e5, h⟩ := h
  apply AW.step
  ·simp [← e4, ← e5]
   intros; rfl
  cases v5 with
  | true =>
   replace h := iteT rfl h
   refine AW.cond_true (by simp) ?_
   refine AW.skip ?_
   try simp only [sp_l, sp_r, Post.seq, Post.block, Nat.reduceEqDiff, reduceIte, Nat.zero_ne_one, Nat.one_ne_zero]
   try simp only [sp_l, sp_r, Post.seq, Post.block, Nat.reduceEqDiff, reduceIte, Nat.zero_ne_one, Nat.one_ne_zero]
   refine AW.seq ?_
   refine AW.block ?_
   refine AW.seq ?_
   replace h := bnE h; obtain ⟨v6, e6, h⟩ := h
   have f7 := atS_d e6
   try simp at f7
   replace h := ltE h; obtain ⟨v8, e8, h⟩ := h
   apply AW.step
   ·simp [f7, ← e8]
    intros; rfl
   cases v8 with
   | true =>
    replace h := iteT rfl h
    refine AW.cond_true (by simp) ?_
    refine AW.exit ?_
    try simp only [sp_l, sp_r, Post.seq, Post.block, Nat.reduceEqDiff, reduceIte, Nat.zero_ne_one, Nat.one_ne_zero]
    try simp only [sp_l, sp_r, Post.seq, Post.block, Nat.reduceEqDiff, reduceIte, Nat.zero_ne_one, Nat.one_ne_zero]
    replace h := ltE h; obtain ⟨v9, e9, h⟩ := h
    apply AW.last
    ·simp [← e9]
     intros; rfl
    obtain rfl := Option.some.inj h
    refine nP_i ?_
    refine Weak.mixN [] hn0 (by decide) ?_ ?_ rfl
    all_goals first | (simp [inv_cons, inv_nil, pickOb]; done) | rfl
   | false =>
    replace h := iteF rfl h
    refine AW.cond_false (by simp) ?_
    refine AW.skip ?_
    try simp only [sp_l, sp_r, Post.seq, Post.block, Nat.reduceEqDiff, reduceIte, Nat.zero_ne_one, Nat.one_ne_zero]
    try simp only [sp_l, sp_r, Post.seq, Post.block, Nat.reduceEqDiff, reduceIte, Nat.zero_ne_one, Nat.one_ne_zero]
    refine AW.seq ?_
    replace h := ltE h; obtain ⟨v10, e10, h⟩ := h
    apply AW.step
    ·simp [← e10]
     intros; rfl
    refine AW.block ?_
    replace h := bnE h; obtain ⟨y12, g12, h⟩ := h
    refine AW.iterP g12 (mk := fun gh ls q => (⟨[(0, .l (.s (.string a0))), (3, .l (.s (.int .i64 y1))), (4, .l (.s (.int .i64 q)))], [], 39, gh, ls⟩ : St)) (N := fun gh ls => (sp (xP 2 (cx := cx) (fun _ => (⟨[(0, .l (.s (.string a0)))], [], 39, gh, ls⟩ : St))) (rP (cx := cx) (P := Try.prog) Try.f91 (fun q => .l (.s (.string q))) (fun q => [])))) ?_ (noS noX noR) ?_ ?_
    ·refine Weak.mixN [] hn0 (by decide) ?_ ?_ rfl
     all_goals first | (simp [inv_cons, inv_nil, pickOb]; done) | rfl
    ·clear h; intro y11 y13 h
     refine AW.seq ?_
     replace h := ltE h; obtain ⟨v14, e14, h⟩ := h
     replace h := ltE h; obtain ⟨v15, e15, h⟩ := h
     apply AW.step
     ·simp [← e14, ← e15]
      intros; rfl
     cases v15 with
     | true =>
      replace h := iteT rfl h
      refine AW.cond_true (by simp) ?_
      refine AW.skip ?_
      try simp only [sp_l, sp_r, Post.seq, Post.block, Nat.reduceEqDiff, reduceIte, Nat.zero_ne_one, Nat.one_ne_zero]
      try simp only [sp_l, sp_r, Post.seq, Post.block, Nat.reduceEqDiff, reduceIte, Nat.zero_ne_one, Nat.one_ne_zero]
      refine AW.seq ?_
      refine AW.block ?_
      replace h := bnE h; obtain ⟨v16, e16, h⟩ := h
      have f17 := atS_d e16
      try simp at f17
      replace h := ltE h; obtain ⟨v18, e18, h⟩ := h
      apply AW.step
      ·simp [f17, ← e18]
       intros; rfl
      cases v18 with
      | true =>
       replace h := iteT rfl h
       refine AW.cond_true (by simp) ?_
       refine AW.seq ?_
       replace h := ltE h; obtain ⟨v19, e19, h⟩ := h
       replace h := ltE h; obtain ⟨v20, e20, h⟩ := h
       apply AW.step
       ·simp [← e19, ← e20]
        intros; rfl
       cases v20 with
       | true =>
        replace h := iteT rfl h
        refine AW.cond_true (by simp) ?_
        apply AW.step
        ·simp
         intros; rfl
        obtain rfl := Option.some.inj h
        refine AW.ret ?_
        try simp only [sp_l, sp_r, Post.seq, Post.block, Nat.reduceEqDiff, reduceIte, Nat.zero_ne_one, Nat.one_ne_zero]
        refine rP_i ?_
        refine Left.plain hnb (by simp [Try.f91, resV, resC, comp]; rfl) rfl rfl ?_
        simp
       | false =>
        replace h := iteF rfl h
        refine AW.cond_false (by simp) ?_
        refine AW.skip ?_
        try simp only [sp_l, sp_r, Post.seq, Post.block, Nat.reduceEqDiff, reduceIte, Nat.zero_ne_one, Nat.one_ne_zero]
        try simp only [sp_l, sp_r, Post.seq, Post.block, Nat.reduceEqDiff, reduceIte, Nat.zero_ne_one, Nat.one_ne_zero]
        replace h := bnE h; obtain ⟨v21, e21, h⟩ := h
        have f22 := segSlh_d e21
        try simp [← e19] at f22
        apply AW.step
        ·simp [← e19, f22]
         intros; rfl
        obtain rfl := Option.some.inj h
        refine AW.ret ?_
        try simp only [sp_l, sp_r, Post.seq, Post.block, Nat.reduceEqDiff, reduceIte, Nat.zero_ne_one, Nat.one_ne_zero]
        refine rP_i ?_
        refine Left.plain hnb (by simp [Try.f91, resV, resC, comp]; rfl) rfl rfl ?_
        simp
      | false =>
       replace h := iteF rfl h
       refine AW.cond_false (by simp) ?_
       refine AW.skip ?_
       try simp only [sp_l, sp_r, Post.seq, Post.block, Nat.reduceEqDiff, reduceIte, Nat.zero_ne_one, Nat.one_ne_zero]
       try simp only [sp_l, sp_r, Post.seq, Post.block, Nat.reduceEqDiff, reduceIte, Nat.zero_ne_one, Nat.one_ne_zero]
       replace h := ltE h; obtain ⟨v23, e23, h⟩ := h
       apply AW.last
       ·simp [← e23]
        intros; rfl
       obtain rfl := Option.some.inj h
       refine nP_i ?_
       refine Weak.mixN [] hn0 (by decide) ?_ ?_ rfl
       all_goals first | (simp [inv_cons, inv_nil, pickOb]; done) | rfl
     | false =>
      replace h := iteF rfl h
      refine AW.cond_false (by simp) ?_
      refine AW.exit ?_
      try simp only [sp_l, sp_r, Post.seq, Post.block, Nat.reduceEqDiff, reduceIte, Nat.zero_ne_one, Nat.one_ne_zero]
      obtain rfl := Option.some.inj h
      try simp only [sp_l, sp_r]
      refine xP_i ?_
      refine Weak.mixN [] hn0 (by decide) ?_ ?_ rfl
      all_goals first | (simp [inv_cons, inv_nil, pickOb]; done) | rfl
    ·rintro e s hp
     rcases y12 with y24 | y25
     ·replace h := smL h
      obtain ⟨rfl, hw⟩ := hp
      refine ⟨_, hw, ?_⟩
      try simp only [sp_l, sp_r, Post.seq, Post.block, Nat.reduceEqDiff, reduceIte, Nat.zero_ne_one, Nat.one_ne_zero]
      apply AW.step
      ·simp
       intros; rfl
      obtain rfl := Option.some.inj h
      refine AW.ret ?_
      try simp only [sp_l, sp_r, Post.seq, Post.block, Nat.reduceEqDiff, reduceIte, Nat.zero_ne_one, Nat.one_ne_zero]
      refine rP_i ?_
      refine Left.plain hnb (by simp [Try.f91, resV, resC, comp]; rfl) rfl rfl ?_
      simp
     ·replace h := smR h
      obtain ⟨rfl, hl⟩ := hp
      refine ⟨_, Weak.refl _, ?_⟩
      obtain rfl := Option.some.inj h
      first | exact rP_i hl | (simp only [sp_l, sp_r]; exact rP_i hl) | (simp only [sp_l, sp_r, Post.seq, Post.block, Nat.reduceEqDiff, reduceIte, Nat.zero_ne_one, Nat.one_ne_zero]; exact rP_i hl)
  | false =>
   replace h := iteF rfl h
   refine AW.cond_false (by simp) ?_
   refine AW.exit ?_
   try simp only [sp_l, sp_r, Post.seq, Post.block, Nat.reduceEqDiff, reduceIte, Nat.zero_ne_one, Nat.one_ne_zero]
   obtain rfl := Option.some.inj h
   try simp only [sp_l, sp_r]
   refine xP_i ?_
   refine Weak.mixN [] hn0 (by decide) ?_ ?_ rfl
   all_goals first | (simp [inv_cons, inv_nil, pickOb]; done) | rfl
 ·rintro e s hp
  rcases y2 with y26 | y27
  ·replace h := smL h
   obtain ⟨rfl, hw⟩ := hp
   refine ⟨_, hw, ?_⟩
   try simp only [sp_l, sp_r, Post.seq, Post.block, Nat.reduceEqDiff, reduceIte, Nat.zero_ne_one, Nat.one_ne_zero]
   apply AW.step
   ·simp
    intros; rfl
   obtain rfl := Option.some.inj h
   refine AW.ret ?_
   refine Left.plain hnb (by simp [Try.f91, resV, resC, comp]; rfl) rfl rfl ?_
   simp
  ·replace h := smR h
   obtain ⟨rfl, hl⟩ := hp
   refine ⟨_, Weak.refl _, ?_⟩
   obtain rfl := Option.some.inj h
   exact hl
theorem en_r1_Tag : Enters Try.prog 91 := enters Try.func91 (by kernel_rfl) rfl
def r1_Crc_sh (n : Nat) (a0 : ByteArray) : Option Int :=
bn (iter n (fun (y1 : Int × Int) =>
lt (lenS a0) fun v4 =>
lt (ltI y1.2 v4) fun v5 =>
ite' v5 (bn (atS a0 y1.2) fun v6 =>
lt (cvI .i64 v6) fun v8 =>
bn (shlI .i64 v8 8) fun v9 =>
lt (xorI .i64 y1.1 v9) fun v10 =>
bn (iter n (fun (y11 : Int × Int) =>
lt (ltI y11.2 8) fun v14 =>
ite' v14 (bn (bn (shlI .i64 y11.1 1) fun v16 =>
lt (geI v16 65536) fun v17 =>
ite' v17 (lt (xorI .i64 v16 4129) fun v18 =>
lt (andI .i64 v18 65535) fun v19 =>
some (v19)) (some (v16))) fun (y15 : Int) =>
lt (addI .i64 y11.2 1) fun v20 =>
some (.inl (y15, v20))) (some (.inr y11.1))) (v10, 0)) fun (y12 : Int) =>
lt (addI .i64 y1.2 1) fun v21 =>
some (.inl (y12, v21))) (some (.inr y1.1))) (0, 0)) fun (y2 : Int) =>
some y2
set_option maxRecDepth 8000 in
set_option maxHeartbeats 8000000 in
theorem s_r1_Crc {n : Nat} {a0 : ByteArray} {r : Int} (h : r1_Crc_sh n a0 = some r) : Sound Try.prog 90 [.l (.s (.string a0))] [] (.l (.s (.int .i64 r))) [] := by
 unfold r1_Crc_sh at h
 refine Sound.of_aw (fn := Try.f90) (c := _) Try.func90 rfl (by simp [Try.f90]) fun cx hG hnb => ?_
 rw [show Try.f90.ntmps = 31 from rfl]
 have hn0 : cx.nb = 0 := hnb
 simp only [st0_mk, initTm, List.map_cons, List.map_nil]
 apply AW.step
 ·simp
  intros; rfl
 apply AW.step
 ·simp
  intros; rfl
 refine AW.seq ?_
 apply AW.step
 ·simp
  intros; rfl
 refine AW.block ?_
 replace h := bnE h; obtain ⟨y2, g2, h⟩ := h
 refine AW.iterP g2 (mk := fun gh ls q => (⟨[(0, .l (.s (.string a0))), (3, .l (.s (.int .i64 q.1))), (4, .l (.s (.int .i64 q.2)))], [], 31, gh, ls⟩ : St)) (N := fun gh ls => (xP 0 (cx := cx) (fun q => (⟨[(3, .l (.s (.int .i64 q)))], [], 31, gh, ls⟩ : St)))) ?_ noX ?_ ?_
 ·refine Weak.mixN [] hn0 (by decide) ?_ ?_ rfl
  all_goals first | (simp [inv_cons, inv_nil, pickOb]; done) | rfl
 ·clear h; intro y1 y3 h
  refine AW.seq ?_
  replace h := ltE h; obtain ⟨v4, e4, h⟩ := h
  replace h := ltE h; obtain ⟨v5, e5, h⟩ := h
  apply AW.step
  ·simp [← e4, ← e5]
   intros; rfl
  cases v5 with
  | true =>
   replace h := iteT rfl h
   refine AW.cond_true (by simp) ?_
   refine AW.skip ?_
   try simp only [sp_l, sp_r, Post.seq, Post.block, Nat.reduceEqDiff, reduceIte, Nat.zero_ne_one, Nat.one_ne_zero]
   try simp only [sp_l, sp_r, Post.seq, Post.block, Nat.reduceEqDiff, reduceIte, Nat.zero_ne_one, Nat.one_ne_zero]
   refine AW.seq ?_
   refine AW.block ?_
   replace h := bnE h; obtain ⟨v6, e6, h⟩ := h
   have f7 := atS_d e6
   try simp at f7
   replace h := ltE h; obtain ⟨v8, e8, h⟩ := h
   replace h := bnE h; obtain ⟨v9, e9, h⟩ := h
   replace h := ltE h; obtain ⟨v10, e10, h⟩ := h
   apply AW.step
   ·simp [f7, ← e8, e9, ← e10]
    intros; rfl
   apply AW.step
   ·simp
    intros; rfl
   refine AW.block ?_
   replace h := bnE h; obtain ⟨y12, g12, h⟩ := h
   refine AW.iterP g12 (mk := fun gh ls q => (⟨[(0, .l (.s (.string a0))), (3, .l (.s (.int .i64 q.1))), (4, .l (.s (.int .i64 y1.2))), (5, .l (.s (.int .i64 q.2)))], [], 31, gh, ls⟩ : St)) (N := fun gh ls => (xP 2 (cx := cx) (fun q => (⟨[(0, .l (.s (.string a0))), (3, .l (.s (.int .i64 q))), (4, .l (.s (.int .i64 y1.2)))], [], 31, gh, ls⟩ : St)))) ?_ noX ?_ ?_
   ·refine Weak.mixN [] hn0 (by decide) ?_ ?_ rfl
    all_goals first | (simp [inv_cons, inv_nil, pickOb]; done) | rfl
   ·clear h; intro y11 y13 h
    refine AW.seq ?_
    replace h := ltE h; obtain ⟨v14, e14, h⟩ := h
    apply AW.step
    ·simp [← e14]
     intros; rfl
    cases v14 with
    | true =>
     replace h := iteT rfl h
     refine AW.cond_true (by simp) ?_
     refine AW.skip ?_
     try simp only [sp_l, sp_r, Post.seq, Post.block, Nat.reduceEqDiff, reduceIte, Nat.zero_ne_one, Nat.one_ne_zero]
     try simp only [sp_l, sp_r, Post.seq, Post.block, Nat.reduceEqDiff, reduceIte, Nat.zero_ne_one, Nat.one_ne_zero]
     replace h := bnE h; obtain ⟨y15, g15, h⟩ := h
     refine AW.flow (p := fun gh ls => (nP (cx := cx) (fun q => (⟨[(0, .l (.s (.string a0))), (3, .l (.s (.int .i64 q))), (4, .l (.s (.int .i64 y1.2))), (5, .l (.s (.int .i64 y11.2)))], [], 31, gh, ls⟩ : St))) y15) ?_ ?_
     ·replace h := g15; clear g15
      refine AW.block ?_
      replace h := bnE h; obtain ⟨v16, e16, h⟩ := h
      apply AW.step
      ·simp [e16]
       intros; rfl
      replace h := ltE h; obtain ⟨v17, e17, h⟩ := h
      apply AW.step
      ·simp [← e17]
       intros; rfl
      cases v17 with
      | true =>
       replace h := iteT rfl h
       refine AW.cond_true (by simp) ?_
       replace h := ltE h; obtain ⟨v18, e18, h⟩ := h
       replace h := ltE h; obtain ⟨v19, e19, h⟩ := h
       apply AW.last
       ·simp [← e18, ← e19]
        intros; rfl
       obtain rfl := Option.some.inj h
       refine nP_i ?_
       refine Weak.mixN [] hn0 (by decide) ?_ ?_ rfl
       all_goals first | (simp [inv_cons, inv_nil, pickOb]; done) | rfl
      | false =>
       replace h := iteF rfl h
       refine AW.cond_false (by simp) ?_
       refine AW.skip ?_
       try simp only [sp_l, sp_r, Post.seq, Post.block, Nat.reduceEqDiff, reduceIte, Nat.zero_ne_one, Nat.one_ne_zero]
       obtain rfl := Option.some.inj h
       refine nP_i ?_
       refine Weak.mixN [] hn0 (by decide) ?_ ?_ rfl
       all_goals first | (simp [inv_cons, inv_nil, pickOb]; done) | rfl
     ·rintro e s hp
      obtain ⟨rfl, hw⟩ := hp
      refine ⟨_, hw, ?_⟩
      try simp only [sp_l, sp_r, Post.seq, Post.block, Nat.reduceEqDiff, reduceIte, Nat.zero_ne_one, Nat.one_ne_zero]
      replace h := ltE h; obtain ⟨v20, e20, h⟩ := h
      apply AW.last
      ·simp [← e20]
       intros; rfl
      obtain rfl := Option.some.inj h
      refine nP_i ?_
      refine Weak.mixN [] hn0 (by decide) ?_ ?_ rfl
      all_goals first | (simp [inv_cons, inv_nil, pickOb]; done) | rfl
    | false =>
     replace h := iteF rfl h
     refine AW.cond_false (by simp) ?_
     refine AW.exit ?_
     try simp only [sp_l, sp_r, Post.seq, Post.block, Nat.reduceEqDiff, reduceIte, Nat.zero_ne_one, Nat.one_ne_zero]
     obtain rfl := Option.some.inj h
     refine xP_i ?_
     refine Weak.mixN [] hn0 (by decide) ?_ ?_ rfl
     all_goals first | (simp [inv_cons, inv_nil, pickOb]; done) | rfl
   ·rintro e s hp
    obtain ⟨rfl, hw⟩ := hp
    refine ⟨_, hw, ?_⟩
    try simp only [sp_l, sp_r, Post.seq, Post.block, Nat.reduceEqDiff, reduceIte, Nat.zero_ne_one, Nat.one_ne_zero]
    replace h := ltE h; obtain ⟨v21, e21, h⟩ := h
    apply AW.last
    ·simp [← e21]
     intros; rfl
    obtain rfl := Option.some.inj h
    refine nP_i ?_
    refine Weak.mixN [] hn0 (by decide) ?_ ?_ rfl
    all_goals first | (simp [inv_cons, inv_nil, pickOb]; done) | rfl
  | false =>
   replace h := iteF rfl h
   refine AW.cond_false (by simp) ?_
   refine AW.exit ?_
   try simp only [sp_l, sp_r, Post.seq, Post.block, Nat.reduceEqDiff, reduceIte, Nat.zero_ne_one, Nat.one_ne_zero]
   obtain rfl := Option.some.inj h
   refine xP_i ?_
   refine Weak.mixN [] hn0 (by decide) ?_ ?_ rfl
   all_goals first | (simp [inv_cons, inv_nil, pickOb]; done) | rfl
 ·rintro e s hp
  obtain ⟨rfl, hw⟩ := hp
  refine ⟨_, hw, ?_⟩
  try simp only [sp_l, sp_r, Post.seq, Post.block, Nat.reduceEqDiff, reduceIte, Nat.zero_ne_one, Nat.one_ne_zero]
  apply AW.step
  ·simp
   intros; rfl
  obtain rfl := Option.some.inj h
  refine AW.ret ?_
  refine Left.plain hnb (by simp [Try.f90, resV, resC, comp]; rfl) rfl rfl ?_
  simp
theorem en_r1_Crc : Enters Try.prog 90 := enters Try.func90 (by kernel_rfl) rfl
def r1_Slot_sh (n : Nat) (a0 : ByteArray) : Option Int :=
bn (r1_Tag_sh n a0) fun v1 =>
bn (r1_Crc_sh n v1) fun v2 =>
bn (remI .i64 v2 16384) fun v3 =>
some v3
set_option maxRecDepth 8000 in
set_option maxHeartbeats 8000000 in
theorem s_r1_Slot {n : Nat} {a0 : ByteArray} {r : Int} (h : r1_Slot_sh n a0 = some r) : Sound Try.prog 52 [.l (.s (.string a0))] [] (.l (.s (.int .i64 r))) [] := by
 unfold r1_Slot_sh at h
 refine Sound.of_aw (fn := Try.f52) (c := _) Try.func52 rfl (by simp [Try.f52]) fun cx hG hnb => ?_
 rw [show Try.f52.ntmps = 7 from rfl]
 have hn0 : cx.nb = 0 := hnb
 simp only [st0_mk, initTm, List.map_cons, List.map_nil]
 apply AW.step
 ·simp
  intros; rfl
 replace h := bnE h; obtain ⟨v1, e1, h⟩ := h
 replace h := bnE h; obtain ⟨v2, e2, h⟩ := h
 replace h := bnE h; obtain ⟨v3, e3, h⟩ := h
 apply AW.step
 ·simp [e3]
  intros
  refine xcall_plain en_r1_Tag (s_r1_Tag e1) rfl ⟨.same rfl, trivial⟩ ?_
  try simp [e3]
  intros
  refine xcall_plain en_r1_Crc (s_r1_Crc e2) rfl ⟨.same rfl, trivial⟩ ?_
  try simp [e3]
  intros; rfl
 obtain rfl := Option.some.inj h
 refine AW.ret ?_
 refine Left.plain hnb (by simp [Try.f52, resV, resC, comp]; rfl) rfl rfl ?_
 simp
theorem en_r1_Slot : Enters Try.prog 52 := enters Try.func52 (by kernel_rfl) rfl
def r5_In_sh (n : Nat) (a0 : List Pair) (a1 : Int) : Option (List ByteArray) :=
bn (iter n (fun (y1 : Int × List ByteArray) =>
lt (lenI a0) fun v4 =>
lt (ltI y1.1 v4) fun v5 =>
ite' v5 (bn (bn (nth a0 y1.1) fun v7 =>
bn (r1_Slot_sh n v7.key) fun v8 =>
lt (eqI v8 a1) fun v9 =>
ite' v9 (chk (room (y1.2.length + 1) 16) <|
lt (y1.2 ++ [v7.key]) fun v11 =>
some (v11)) (some (y1.2))) fun (y6 : List ByteArray) =>
lt (addI .i64 y1.1 1) fun v12 =>
some (.inl (v12, y6))) (some (.inr y1.2))) (0, [])) fun (y2 : List ByteArray) =>
chk (room y2.length 1) <|
some y2
set_option maxRecDepth 8000 in
set_option maxHeartbeats 8000000 in
theorem s_r5_In {n : Nat} {a0 : List Pair} {a1 : Int} {r : List ByteArray} (h : r5_In_sh n a0 a1 = some r) : Sound Try.prog 65 [.l (.d false 6 (encPair a0)), .l (.s (.int .i64 a1))] [] (.l (.d false 1 (encS r))) [] := by
 unfold r5_In_sh at h
 refine Sound.of_aw (fn := Try.f65) (c := _) Try.func65 rfl (by simp [Try.f65]) fun cx hG hnb => ?_
 rw [show Try.f65.ntmps = 30 from rfl]
 have hn0 : cx.nb = 0 := hnb
 simp only [st0_mk, initTm, List.map_cons, List.map_nil]
 apply AW.step
 ·simp
  intros; rfl
 apply AW.step
 ·simp
  intros; rfl
 refine AW.seq ?_
 apply AW.step
 ·simp
  intros; rfl
 refine AW.block ?_
 replace h := bnE h; obtain ⟨y2, g2, h⟩ := h
 refine AW.iterP g2 (mk := fun gh ls q => (⟨[(0, .l (.d false 6 (encPair a0))), (1, .l (.s (.int .i64 a1))), (5, .l (.r 0 1 0 q.2.length)), (6, .l (.s (.int .i64 q.1)))], [some ⟨9, 1, true, none, lvs (encS q.2)⟩], 30, gh, ls⟩ : St)) (N := fun gh ls => (xP 0 (cx := cx) (fun q => (⟨[(5, .l (.r 0 1 0 q.length))], [some ⟨9, 1, true, none, lvs (encS q)⟩], 30, gh, ls⟩ : St)))) ?_ noX ?_ ?_
 ·refine W.nilRow 5 9 1 0 (by simp) rfl rfl ?_
  refine Weak.mixN [some 0] hn0 (by decide) ?_ ?_ rfl
  all_goals first | (simp [inv_cons, inv_nil, pickOb]; done) | rfl
 ·clear h; intro y1 y3 h
  refine AW.seq ?_
  replace h := ltE h; obtain ⟨v4, e4, h⟩ := h
  replace h := ltE h; obtain ⟨v5, e5, h⟩ := h
  apply AW.step
  ·simp [lenI_cast e4, ← e5]
   intros; rfl
  cases v5 with
  | true =>
   replace h := iteT rfl h
   refine AW.cond_true (by simp) ?_
   refine AW.skip ?_
   try simp only [sp_l, sp_r, Post.seq, Post.block, Nat.reduceEqDiff, reduceIte, Nat.zero_ne_one, Nat.one_ne_zero]
   try simp only [sp_l, sp_r, Post.seq, Post.block, Nat.reduceEqDiff, reduceIte, Nat.zero_ne_one, Nat.one_ne_zero]
   replace h := bnE h; obtain ⟨y6, g6, h⟩ := h
   refine AW.flow (p := fun gh ls => (nP (cx := cx) (fun q => (⟨[(0, .l (.d false 6 (encPair a0))), (1, .l (.s (.int .i64 a1))), (5, .l (.r 0 1 0 q.length)), (6, .l (.s (.int .i64 y1.1)))], [some ⟨9, 1, true, none, lvs (encS q)⟩], 30, gh, ls⟩ : St))) y6) ?_ ?_
   ·replace h := g6; clear g6
    refine AW.block ?_
    replace h := bnE h; obtain ⟨v7, e7, h⟩ := h
    replace h := bnE h; obtain ⟨v8, e8, h⟩ := h
    replace h := ltE h; obtain ⟨v9, e9, h⟩ := h
    apply AW.step
    ·simp [nth_d e7, ← e9]
     intros
     refine xcall_plain en_r1_Slot (s_r1_Slot e8) rfl ⟨.same rfl, trivial⟩ ?_
     try simp [nth_d e7, ← e9]
     intros; rfl
    cases v9 with
    | true =>
     replace h := iteT rfl h
     refine AW.cond_true (by simp) ?_
     replace h := chkE h; obtain ⟨e10, h⟩ := h
     replace h := ltE h; obtain ⟨v11, e11, h⟩ := h
     apply AW.last
     ·simp [nth_d e7, ← encS_append, ← e11, app_len1 e11]
      intros
      refine xrow_own ?_
      try simp [nth_d e7, ← encS_append, ← e11, app_len1 e11]
      intros
      refine xapp_pushN (acc := encS y1.2) (ys := encS [v7.key]) (cap := none) (k := 1) tb_el32 tb_ti9 (by simp) (by simp [encS, lvs]) (encS_sz _) (by simp) (by simp) (by simpa using (room_d e10).1) ?_
      try simp [nth_d e7, ← encS_append, ← e11, app_len1 e11]
      intros; rfl
     obtain rfl := Option.some.inj h
     refine nP_i ?_
     refine Weak.mixN [some 2] hn0 (by decide) ?_ ?_ rfl
     all_goals first | (simp [inv_cons, inv_nil, pickOb, lvs_encS1]; done) | rfl
    | false =>
     replace h := iteF rfl h
     refine AW.cond_false (by simp) ?_
     refine AW.skip ?_
     try simp only [sp_l, sp_r, Post.seq, Post.block, Nat.reduceEqDiff, reduceIte, Nat.zero_ne_one, Nat.one_ne_zero]
     obtain rfl := Option.some.inj h
     refine nP_i ?_
     refine Weak.mixN [some 0] hn0 (by decide) ?_ ?_ rfl
     all_goals first | (simp [inv_cons, inv_nil, pickOb]; done) | rfl
   ·rintro e s hp
    obtain ⟨rfl, hw⟩ := hp
    refine ⟨_, hw, ?_⟩
    try simp only [sp_l, sp_r, Post.seq, Post.block, Nat.reduceEqDiff, reduceIte, Nat.zero_ne_one, Nat.one_ne_zero]
    replace h := ltE h; obtain ⟨v12, e12, h⟩ := h
    apply AW.last
    ·simp [← e12]
     intros; rfl
    obtain rfl := Option.some.inj h
    refine nP_i ?_
    refine Weak.mixN [some 0] hn0 (by decide) ?_ ?_ rfl
    all_goals first | (simp [inv_cons, inv_nil, pickOb]; done) | rfl
  | false =>
   replace h := iteF rfl h
   refine AW.cond_false (by simp) ?_
   refine AW.exit ?_
   try simp only [sp_l, sp_r, Post.seq, Post.block, Nat.reduceEqDiff, reduceIte, Nat.zero_ne_one, Nat.one_ne_zero]
   obtain rfl := Option.some.inj h
   refine xP_i ?_
   refine Weak.mixN [some 0] hn0 (by decide) ?_ ?_ rfl
   all_goals first | (simp [inv_cons, inv_nil, pickOb]; done) | rfl
 ·rintro e s hp
  obtain ⟨rfl, hw⟩ := hp
  refine ⟨_, hw, ?_⟩
  try simp only [sp_l, sp_r, Post.seq, Post.block, Nat.reduceEqDiff, reduceIte, Nat.zero_ne_one, Nat.one_ne_zero]
  apply AW.step
  ·simp
   intros; rfl
  replace h := chkE h; obtain ⟨e13, h⟩ := h
  refine AW.frzRow 0 (ty := 9) (cap := none) (sz := 1) (es := encS y2) (by simp) (by omega) (encS_sz _) (by first | exact (room_d e13).2 | simpa using (room_d e13).2 | simp) (by simp [Tm.frz, AV.frz, LV.frz]; rfl) (by simp [Ob.frz, LV.frz]; rfl) rfl ?_
  obtain rfl := Option.some.inj h
  refine AW.ret ?_
  refine Left.plain hnb (by simp [Try.f65, resV, resC, comp]; rfl) rfl rfl ?_
  simp
theorem en_r5_In : Enters Try.prog 65 := enters Try.func65 (by kernel_rfl) rfl
def r5_All_sh (n : Nat) (a0 : List Pair) : Option (List Effect) :=
bn (iter n (fun (y1 : Int × List Effect) =>
lt (lenI a0) fun v4 =>
lt (ltI y1.1 v4) fun v5 =>
ite' v5 (bn (nth a0 y1.1) fun v6 =>
chk (room (y1.2.length + 1) 104) <|
lt (y1.2 ++ [(⟨v6.key, false, v6.item⟩ : Effect)]) fun v8 =>
lt (addI .i64 y1.1 1) fun v9 =>
some (.inl (v9, v8))) (some (.inr y1.2))) (0, [])) fun (y2 : List Effect) =>
chk (room y2.length 1) <|
some y2
set_option maxRecDepth 8000 in
set_option maxHeartbeats 8000000 in
theorem s_r5_All {n : Nat} {a0 : List Pair} {r : List Effect} (h : r5_All_sh n a0 = some r) : Sound Try.prog 67 [.l (.d false 6 (encPair a0))] [] (.l (.d false 7 (encEffect r))) [] := by
 unfold r5_All_sh at h
 refine Sound.of_aw (fn := Try.f67) (c := _) Try.func67 rfl (by simp [Try.f67]) fun cx hG hnb => ?_
 rw [show Try.f67.ntmps = 26 from rfl]
 have hn0 : cx.nb = 0 := hnb
 simp only [st0_mk, initTm, List.map_cons, List.map_nil]
 apply AW.step
 ·simp
  intros; rfl
 apply AW.step
 ·simp
  intros; rfl
 refine AW.seq ?_
 apply AW.step
 ·simp
  intros; rfl
 refine AW.block ?_
 replace h := bnE h; obtain ⟨y2, g2, h⟩ := h
 refine AW.iterP g2 (mk := fun gh ls q => (⟨[(0, .l (.d false 6 (encPair a0))), (3, .l (.r 0 7 0 q.2.length)), (4, .l (.s (.int .i64 q.1)))], [some ⟨36, 7, true, none, lvs (encEffect q.2)⟩], 26, gh, ls⟩ : St)) (N := fun gh ls => (xP 0 (cx := cx) (fun q => (⟨[(3, .l (.r 0 7 0 q.length))], [some ⟨36, 7, true, none, lvs (encEffect q)⟩], 26, gh, ls⟩ : St)))) ?_ noX ?_ ?_
 ·refine W.nilRow 3 36 7 0 (by simp) rfl rfl ?_
  refine Weak.mixN [some 0] hn0 (by decide) ?_ ?_ rfl
  all_goals first | (simp [inv_cons, inv_nil, pickOb]; done) | rfl
 ·clear h; intro y1 y3 h
  refine AW.seq ?_
  replace h := ltE h; obtain ⟨v4, e4, h⟩ := h
  replace h := ltE h; obtain ⟨v5, e5, h⟩ := h
  apply AW.step
  ·simp [lenI_cast e4, ← e5]
   intros; rfl
  cases v5 with
  | true =>
   replace h := iteT rfl h
   refine AW.cond_true (by simp) ?_
   refine AW.skip ?_
   try simp only [sp_l, sp_r, Post.seq, Post.block, Nat.reduceEqDiff, reduceIte, Nat.zero_ne_one, Nat.one_ne_zero]
   try simp only [sp_l, sp_r, Post.seq, Post.block, Nat.reduceEqDiff, reduceIte, Nat.zero_ne_one, Nat.one_ne_zero]
   refine AW.seq ?_
   refine AW.block ?_
   replace h := bnE h; obtain ⟨v6, e6, h⟩ := h
   replace h := chkE h; obtain ⟨e7, h⟩ := h
   replace h := ltE h; obtain ⟨v8, e8, h⟩ := h
   apply AW.drawnF (V := [_, _, _, _, _, _, _, _, _, _, _, _, _]) (M := [[some ⟨36, 7, true, none, lvs (encEffect y1.2)⟩], [some ⟨36, 7, true, none, lvs (encEffect y1.2)⟩, some ⟨36, 7, true, none, [.s (.string v6.key), .s (.bool false), .s (.int .i64 v6.item.kind), .s (.string v6.item.s), .d false 2 (encField v6.item.f), .d false 1 (encS v6.item.l), .s (.int .i64 v6.item.exp)]⟩]]) mixed [⟨[0, 1], [], [(3, none)], false⟩, ⟨[0], [], [(0, none)], false⟩, ⟨[0], [], [(4, none)], false⟩, ⟨[0], [1, 2], [(12, some 1), (13, some 2)], false⟩, ⟨[0], [1, 2, 3], [(14, some 3)], false⟩, ⟨[0], [1, 2, 3, 4], [(15, some 4)], false⟩, ⟨[0], [], [(0, none)], false⟩, ⟨[0], [], [(4, none)], false⟩, ⟨[0], [6, 7], [(17, some 6), (18, some 7)], false⟩, ⟨[0], [6, 7, 8], [(19, some 8)], false⟩, ⟨[0], [6, 7, 8, 9], [(20, some 9)], false⟩, ⟨[0], [1, 2, 3, 4, 5, 6, 7, 8, 9, 10], [(16, some 5), (21, some 10)], false⟩, ⟨[0], [1, 2, 3, 4, 5, 6, 7, 8, 9, 10, 11], [(22, some 11)], true⟩, ⟨[], [0, 1, 2, 3, 4, 5, 6, 7, 8, 9, 10, 11, 12], [], false⟩, ⟨[], [0, 1, 2, 3, 4, 5, 6, 7, 8, 9, 10, 11, 12, 13], [], false⟩] 13 1 (by kernel_rfl) (by kernel_rfl)
   ·rfl
   ·refine ⟨⟨?_, ?_⟩, ?_, ?_, ?_, ?_, ?_, ?_, ?_, ?_, ?_, ?_, ?_, ?_, trivial⟩
    ·intro tm hr
     simp [AllL, rdV] at hr
     simp [hr, nth_d e6, ← encEffect_append, ← e8, app_len1 e8]
     intros; first | exact KD.mk | exact KD.mkN
    ·intro tm hr
     simp [AllL, rdV] at hr
     simp [hr, nth_d e6, ← encEffect_append, ← e8, app_len1 e8]
     intros; first | exact KD.mk | exact KD.mkN
    ·intro tm hr
     simp [AllL, rdV] at hr
     simp [hr, nth_d e6, ← encEffect_append, ← e8, app_len1 e8]
     intros; first | exact KD.mk | exact KD.mkN
    ·intro tm hr
     simp [AllL, rdV] at hr
     simp [hr, nth_d e6, ← encEffect_append, ← e8, app_len1 e8]
     intros; first | exact KD.mk | exact KD.mkN
    ·intro tm hr
     simp [AllL, rdV] at hr
     simp [hr, nth_d e6, ← encEffect_append, ← e8, app_len1 e8]
     intros; first | exact KD.mk | exact KD.mkN
    ·intro tm hr
     simp [AllL, rdV] at hr
     simp [hr, nth_d e6, ← encEffect_append, ← e8, app_len1 e8]
     intros; first | exact KD.mk | exact KD.mkN
    ·intro tm hr
     simp [AllL, rdV] at hr
     simp [hr, nth_d e6, ← encEffect_append, ← e8, app_len1 e8]
     intros; first | exact KD.mk | exact KD.mkN
    ·intro tm hr
     simp [AllL, rdV] at hr
     simp [hr, nth_d e6, ← encEffect_append, ← e8, app_len1 e8]
     intros; first | exact KD.mk | exact KD.mkN
    ·intro tm hr
     simp [AllL, rdV] at hr
     simp [hr, nth_d e6, ← encEffect_append, ← e8, app_len1 e8]
     intros; first | exact KD.mk | exact KD.mkN
    ·intro tm hr
     simp [AllL, rdV] at hr
     simp [hr, nth_d e6, ← encEffect_append, ← e8, app_len1 e8]
     intros; first | exact KD.mk | exact KD.mkN
    ·intro tm hr
     simp [AllL, rdV] at hr
     simp [hr, nth_d e6, ← encEffect_append, ← e8, app_len1 e8]
     intros; first | exact KD.mk | exact KD.mkN
    ·intro tm hr
     simp [AllL, rdV] at hr
     simp [hr, nth_d e6, ← encEffect_append, ← e8, app_len1 e8]
     intros; first | exact KD.mk | exact KD.mkN
    ·intro tm hr
     simp [AllL, rdV] at hr
     simp [hr, nth_d e6, ← encEffect_append, ← e8, app_len1 e8]
     intros; first | exact KD.mk | exact KD.mkN
    ·intro tm hr
     simp [AllL, rdV] at hr
     simp [hr, nth_d e6, ← encEffect_append, ← e8, app_len1 e8]
     intros
     refine xrow_own ?_
     try simp [nth_d e6, ← encEffect_append, ← e8, app_len1 e8]
     intros; first | exact KD.mk | exact KD.mkN
   ·rfl
   ·simp [tmD, putD, nth_d e6, ← encEffect_append, ← e8, app_len1 e8]; rfl
   ·simp [nth_d e6, ← encEffect_append, ← e8, app_len1 e8]
    intros
    refine xapp_pushN (acc := encEffect y1.2) (ys := encEffect [(⟨v6.key, false, v6.item⟩ : Effect)]) (cap := none) (k := 1) tb_el24 tb_ti36 (by simp) (by simp [encEffect, lvs]) (encEffect_sz _) (by simp) (by simp) (by simpa using (room_d e7).1) ?_
    try simp [nth_d e6, ← encEffect_append, ← e8, app_len1 e8]
    intros; rfl
   try simp only [sp_l, sp_r, Post.seq, Post.block, Nat.reduceEqDiff, reduceIte, Nat.zero_ne_one, Nat.one_ne_zero]
   replace h := ltE h; obtain ⟨v9, e9, h⟩ := h
   apply AW.last
   ·simp [← e9]
    intros; rfl
   obtain rfl := Option.some.inj h
   refine nP_i ?_
   refine Weak.mixN [some 2] hn0 (by decide) ?_ ?_ rfl
   all_goals first | (simp [inv_cons, inv_nil, pickOb, lvs_encEffect1]; done) | rfl
  | false =>
   replace h := iteF rfl h
   refine AW.cond_false (by simp) ?_
   refine AW.exit ?_
   try simp only [sp_l, sp_r, Post.seq, Post.block, Nat.reduceEqDiff, reduceIte, Nat.zero_ne_one, Nat.one_ne_zero]
   obtain rfl := Option.some.inj h
   refine xP_i ?_
   refine Weak.mixN [some 0] hn0 (by decide) ?_ ?_ rfl
   all_goals first | (simp [inv_cons, inv_nil, pickOb]; done) | rfl
 ·rintro e s hp
  obtain ⟨rfl, hw⟩ := hp
  refine ⟨_, hw, ?_⟩
  try simp only [sp_l, sp_r, Post.seq, Post.block, Nat.reduceEqDiff, reduceIte, Nat.zero_ne_one, Nat.one_ne_zero]
  apply AW.step
  ·simp
   intros; rfl
  replace h := chkE h; obtain ⟨e10, h⟩ := h
  refine AW.frzRow 0 (ty := 36) (cap := none) (sz := 7) (es := encEffect y2) (by simp) (by omega) (encEffect_sz _) (by first | exact (room_d e10).2 | simpa using (room_d e10).2 | simp) (by simp [Tm.frz, AV.frz, LV.frz]; rfl) (by simp [Ob.frz, LV.frz]; rfl) rfl ?_
  obtain rfl := Option.some.inj h
  refine AW.ret ?_
  refine Left.plain hnb (by simp [Try.f67, resV, resC, comp]; rfl) rfl rfl ?_
  simp
theorem en_r5_All : Enters Try.prog 67 := enters Try.func67 (by kernel_rfl) rfl
end Go.Proofs.Ytlkhfdccapkcdaa

