/- Walks: fields set and taken away. -/
import Derived.Test.YtlkhfdccapkcdaaG5
namespace Go.Proofs.Ytlkhfdccapkcdaa
open Go Go.RowKit
set_option linter.unusedVariables false
set_option linter.unusedSimpArgs false
def setF (l : List Field) (name val : ByteArray) : List Field :=
  if hasField l name = true then l.set (seekField l name) ⟨(l.getD (seekField l name) default).name, val⟩ else insA l (seekField l name) ⟨name, val⟩
theorem setF_le (l : List Field) (name val : ByteArray) : (setF l name val).length ≤ l.length + 1 := by
  unfold setF
  split
  · simp
  · rw [insA_length l _ _ (seekField_le l name)]
    exact Nat.le_refl _
set_option maxRecDepth 8000 in
set_option maxHeartbeats 8000000 in
theorem s_hSet (l : List Field) (name val : ByteArray) (hl : l.length ≤ 100000000) : Sound Try.prog 21 [.l (.d true 2 ((encField l))), .l (.s (.string name)), .l (.s (.string val))] [] (.l (.r 0 2 0 (setF l name val).length)) [some ⟨105, 2, true, none, lvs (encField (setF l name val))⟩] := by
  refine Sound.of_aw (fn := Try.f21) (c := _) Try.func21 rfl (by simp [Try.f21]) fun cx hG hnb => ?_
  rw [show Try.f21.ntmps = 33 from rfl]
  have hn0 : cx.nb = 0 := hnb
  have hle := seekField_le l name
  refine AW.step (by simp; rfl) ?_
  apply AW.step
  · simp
    refine xcall_plain en_hFind (s_hFind _ _) rfl ⟨.d _ _ _, .same rfl, trivial⟩ ?_
    try simp
    rfl
  apply AW.step
  · simp
    refine xcall_new en_cloneField (s_cloneField _ (by omega)) rfl (by simp) ⟨.d _ _ _, trivial⟩ ?_
    try simp
    rfl
  refine AW.seq ?_
  refine AW.step (by simp; rfl) ?_
  refine AW.cond rfl (fun h3 => ?_) (fun h3 => ?_)
  · simp at h3
    have hf : setF l name val = insA l (seekField l name) ⟨name, val⟩ := if_neg (by simp [h3])
    have hfl := insA_length l (seekField l name) (⟨name, val⟩ : Field) hle
    apply AW.step
    · simp
      repeat refine ⟨by omega, ?_⟩
      refine xcall_rows [0, 1] en_insField (s_insField l (seekField l name) ⟨name, val⟩ hle (by omega)) (by simp) (by simp [pickOb, lvs_encField1]) rfl rfl rfl (by simp) (by simp) ⟨.l (.own (by simp)), .l (.s _), .l (.own (by simp)), trivial⟩ ?_
      try simp
      rfl
    refine AW.ret ?_
    refine Left.of (av := _) (by simp [Try.f21, resV, resC, comp]; rfl) ?_
    exact LeftV.nowN 1 hn0 (by simp [hf]) (by simp [hf, hfl]) rfl
  · simp at h3
    obtain ⟨x, hx⟩ := hasField_at l name h3
    have hlt : seekField l name < l.length := (List.getElem?_eq_some_iff.1 hx).1
    have hlv : (lvs (encField l)).length = l.length * 2 := by rw [lvs_length (encField_sz l)]; simp
    have hf : setF l name val = l.set (seekField l name) ⟨x.name, val⟩ := by rw [setF, if_pos h3]; simp [hx]
    have hset : setAt (lvs (encField l)) (seekField l name * 2 + 1) [.s (.string val)] = lvs (encField (setF l name val)) := by
      rw [setAt_lvs (e := [.v (.string x.name), .v (.string x.val)]) (e' := [.v (.string x.name), .v (.string val)]) (seekField l name) (encField_sz l) (by simp [hx]) rfl (by simp), hf]
      simp [encField, List.map_set]
    rw [setAt_cons, setAt_nil] at hset
    refine AW.skip ?_
    simp only [Post.seq, Post.block, if_true]
    refine AW.step (by simp [hlv, hset, hlt]; (repeat refine ⟨by omega, ?_⟩); rfl) ?_
    refine AW.step (by simp; rfl) ?_
    refine AW.ret ?_
    refine Left.of (av := _) (by simp [Try.f21, resV, resC, comp]; rfl) ?_
    exact LeftV.nowN 1 hn0 (by simp) (by simp [hf]) rfl
theorem en_hSet : Enters Try.prog 21 := enters Try.func21 (by kernel_rfl) rfl
def delF (l : List Field) (name : ByteArray) : List Field := if hasField l name = true then delA l (seekField l name) else l
theorem delF_le (l : List Field) (name : ByteArray) : (delF l name).length ≤ l.length := by
  unfold delF
  split
  · simp [delA]
    omega
  · exact Nat.le_refl _
set_option maxRecDepth 8000 in
set_option maxHeartbeats 8000000 in
theorem s_hDel (l : List Field) (name : ByteArray) (hl : l.length ≤ 100000000) : Sound Try.prog 24 [.l (.d true 2 ((encField l))), .l (.s (.string name))] [] (.l (.r 0 2 0 (delF l name).length)) [some ⟨105, 2, true, none, lvs (encField (delF l name))⟩] := by
  refine Sound.of_aw (fn := Try.f24) (c := _) Try.func24 rfl (by simp [Try.f24]) fun cx hG hnb => ?_
  rw [show Try.f24.ntmps = 24 from rfl]
  have hn0 : cx.nb = 0 := hnb
  refine AW.step (by simp; rfl) ?_
  apply AW.step
  · simp
    refine xcall_plain en_hFind (s_hFind _ _) rfl ⟨.d _ _ _, .same rfl, trivial⟩ ?_
    try simp
    rfl
  apply AW.step
  · simp
    refine xcall_new en_cloneField (s_cloneField _ (by omega)) rfl (by simp) ⟨.d _ _ _, trivial⟩ ?_
    try simp
    rfl
  refine AW.seq ?_
  refine AW.step (by simp; rfl) ?_
  refine AW.cond rfl (fun h3 => ?_) (fun h3 => ?_)
  · simp at h3
    have hf : delF l name = l := if_neg (by simp [h3])
    refine AW.step (by simp; rfl) ?_
    refine AW.ret ?_
    refine Left.of (av := _) (by simp [Try.f24, resV, resC, comp]; rfl) ?_
    exact LeftV.nowN 1 hn0 (by simp [hf]) (by simp [hf]) rfl
  · simp at h3
    obtain ⟨x, hx⟩ := hasField_at l name h3
    have hlt : seekField l name < l.length := (List.getElem?_eq_some_iff.1 hx).1
    have hf : delF l name = delA l (seekField l name) := if_pos h3
    have hfl := delA_length l (seekField l name) hlt
    have hw := i64_succ (show seekField l name + 1 ≤ 9223372036854775807 by omega)
    refine AW.skip ?_
    simp only [Post.seq, Post.block, if_true]
    apply AW.step
    · simp [hw]
      repeat refine ⟨by omega, ?_⟩
      refine xcall_rows [0] en_delField (s_delField l (seekField l name) hlt (by omega)) (by simp) (by simp [pickOb]) rfl rfl rfl (by simp) (by simp) ⟨.l (.own (by simp)), .l (.s _), .l (.s _), trivial⟩ ?_
      try simp [hw]
      rfl
    refine AW.ret ?_
    refine Left.of (av := _) (by simp [Try.f24, resV, resC, comp, hw]; rfl) ?_
    exact LeftV.nowN 1 hn0 (by simp [hf]) (by simp [hf, hfl]) rfl
theorem en_hDel : Enters Try.prog 24 := enters Try.func24 (by kernel_rfl) rfl
theorem z_hSet (l : List Field) (name val : ByteArray) (hl : l.length ≤ 100000000) : Sound Try.prog 21 [.l (.d true 2 (encField l)), .l (.s (.string name)), .l (.s (.string val))] [] (.l (.d false 2 (encField (setF l name val)))) [] :=
  (s_hSet l name val hl).frz (by simp) (by omega) (encField_sz _) (by have := setF_le l name val; omega)
theorem z_hDel (l : List Field) (name : ByteArray) (hl : l.length ≤ 100000000) : Sound Try.prog 24 [.l (.d true 2 (encField l)), .l (.s (.string name))] [] (.l (.d false 2 (encField (delF l name)))) [] :=
  (s_hDel l name hl).frz (by simp) (by omega) (encField_sz _) (by have := delF_le l name; omega)
end Go.Proofs.Ytlkhfdccapkcdaa
