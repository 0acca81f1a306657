/- Walks: lists copied, lists held against one another. -/
import Derived.Test.YtlkhfdccapkcdaaG1
namespace Go.Proofs.Ytlkhfdccapkcdaa
open Go Go.RowKit
set_option linter.unusedVariables false
set_option linter.unusedSimpArgs false
set_option maxRecDepth 8000 in
theorem s_cloneField (l : List Field) (hl : l.length ≤ 1000000000) : Sound Try.prog 75 [.l (.d true 2 ((encField l)))] [] (.l (.r 0 2 0 l.length)) [some ⟨105, 2, true, none, lvs (encField l)⟩] := by
  refine Sound.of_aw (fn := Try.f75) (c := _) Try.func75 rfl (by simp [Try.f75]) fun cx hG hnb => ?_
  rw [show Try.f75.ntmps = 8 from rfl]
  have hn0 : cx.nb = 0 := hnb
  refine AW.step (by simp; rfl) ?_
  refine AW.seq ?_
  refine AW.stepN (fun s => ∃ b : Bool, (encField l ≠ [] → b = false) ∧ s = ⟨[(4, .l (.s (.bool b))), (3, .l (.d true 2 (encField l))), (2, .l (.s (.slice none 0 0))), (0, .l (.d true 2 (encField l)))], [], 8, [], none⟩) ?_ ?_
  · simp
  rintro s ⟨b, hb, rfl⟩
  refine AW.cond rfl (fun h => ?_) (fun h => AW.skip ?_)
  · have he : l = [] := by
      cases l with
      | nil => rfl
      | cons x l => simp at hb; rw [hb] at h; simp at h
    subst he
    refine AW.step (by simp; rfl) ?_
    refine AW.ret (Left.of (av := .l (.s (.slice none 0 0))) (by simp [Try.f75, resV, resC]) ?_)
    refine LeftV.weak (Weak.nilRow 0 105 2 rfl) ?_
    refine LeftV.now hnb [some 0] (fun i j o hi hj => ?_) rfl ?_ ?_
    · cases i <;> cases j <;> simp_all
    · simp [pickOb, St.add, Ob.ren, lvs]
    · rfl
  · simp only [Post.seq]
    apply AW.step
    · simp [Value.oneCell']
      refine xapp_grow (q := (l.length, lvs (encField l))) (z := ⟨105, 2, true, none, []⟩) tb_el31 tb_ti105 (by simp) (by simp [encField_lvsA]) (by simp) (by simp) (by simp) (by simp; omega) ?_
      simp [St.grow, obsBut, lvs_ren]
      rfl
    refine AW.ret (Left.of (av := .l (.r 0 2 0 l.length)) (by simp [Try.f75, resV, resC]) ?_)
    refine LeftV.now hnb [some 0] (fun i j o hi hj => ?_) rfl ?_ rfl
    · cases i <;> cases j <;> simp_all
    · simp [pickOb, Ob.ren, lvs_ren]
theorem en_cloneField : Enters Try.prog 75 := enters Try.func75 (by kernel_rfl) rfl
theorem z_cloneField (l : List Field) (hl : l.length ≤ 1000000000) : Sound Try.prog 75 [.l (.d true 2 (encField l))] [] (.l (.d false 2 (encField l))) [] :=
  (s_cloneField l hl).frz (by simp) (by omega) (encField_sz l) (by omega)
set_option maxRecDepth 8000 in
theorem s_cloneString (l : List ByteArray) (hl : l.length ≤ 1000000000) : Sound Try.prog 122 [.l (.d true 1 ((encS l)))] [] (.l (.r 0 1 0 l.length)) [some ⟨9, 1, true, none, lvs (encS l)⟩] := by
  refine Sound.of_aw (fn := Try.f122) (c := _) Try.func122 rfl (by simp [Try.f122]) fun cx hG hnb => ?_
  rw [show Try.f122.ntmps = 8 from rfl]
  have hn0 : cx.nb = 0 := hnb
  refine AW.step (by simp; rfl) ?_
  refine AW.seq ?_
  refine AW.stepN (fun s => ∃ b : Bool, (encS l ≠ [] → b = false) ∧ s = ⟨[(4, .l (.s (.bool b))), (3, .l (.d true 1 (encS l))), (2, .l (.s (.slice none 0 0))), (0, .l (.d true 1 (encS l)))], [], 8, [], none⟩) ?_ ?_
  · simp
  rintro s ⟨b, hb, rfl⟩
  refine AW.cond rfl (fun h => ?_) (fun h => AW.skip ?_)
  · have he : l = [] := by
      cases l with
      | nil => rfl
      | cons x l => simp at hb; rw [hb] at h; simp at h
    subst he
    refine AW.step (by simp; rfl) ?_
    refine AW.ret (Left.of (av := .l (.s (.slice none 0 0))) (by simp [Try.f122, resV, resC]) ?_)
    refine LeftV.weak (Weak.nilRow 0 9 1 rfl) ?_
    refine LeftV.now hnb [some 0] (fun i j o hi hj => ?_) rfl ?_ ?_
    · cases i <;> cases j <;> simp_all
    · simp [pickOb, St.add, Ob.ren, lvs]
    · rfl
  · simp only [Post.seq]
    apply AW.step
    · simp [Value.oneCell']
      refine xapp_grow (q := (l.length, lvs (encS l))) (z := ⟨9, 1, true, none, []⟩) tb_el32 tb_ti9 (by simp) (by simp [encS_lvsA]) (by simp) (by simp) (by simp) (by simp; omega) ?_
      simp [St.grow, obsBut, lvs_ren]
      rfl
    refine AW.ret (Left.of (av := .l (.r 0 1 0 l.length)) (by simp [Try.f122, resV, resC]) ?_)
    refine LeftV.now hnb [some 0] (fun i j o hi hj => ?_) rfl ?_ rfl
    · cases i <;> cases j <;> simp_all
    · simp [pickOb, Ob.ren, lvs_ren]
theorem en_cloneString : Enters Try.prog 122 := enters Try.func122 (by kernel_rfl) rfl
theorem z_cloneString (l : List ByteArray) (hl : l.length ≤ 1000000000) : Sound Try.prog 122 [.l (.d true 1 (encS l))] [] (.l (.d false 1 (encS l))) [] :=
  (s_cloneString l hl).frz (by simp) (by omega) (encS_sz l) (by omega)
set_option maxRecDepth 8000 in
theorem s_clonePair (l : List Pair) (hl : l.length ≤ 1000000000) : Sound Try.prog 95 [.l (.d false 6 ((encPair l)))] [] (.l (.r 0 6 0 l.length)) [some ⟨125, 6, true, none, lvs (encPair l)⟩] := by
  refine Sound.of_aw (fn := Try.f95) (c := _) Try.func95 rfl (by simp [Try.f95]) fun cx hG hnb => ?_
  rw [show Try.f95.ntmps = 8 from rfl]
  have hn0 : cx.nb = 0 := hnb
  refine AW.step (by simp; rfl) ?_
  refine AW.seq ?_
  refine AW.stepN (fun s => ∃ b : Bool, (encPair l ≠ [] → b = false) ∧ s = ⟨[(4, .l (.s (.bool b))), (3, .l (.d false 6 (encPair l))), (2, .l (.s (.slice none 0 0))), (0, .l (.d false 6 (encPair l)))], [], 8, [], none⟩) ?_ ?_
  · simp
  rintro s ⟨b, hb, rfl⟩
  refine AW.cond rfl (fun h => ?_) (fun h => AW.skip ?_)
  · have he : l = [] := by
      cases l with
      | nil => rfl
      | cons x l => simp at hb; rw [hb] at h; simp at h
    subst he
    refine AW.step (by simp; rfl) ?_
    refine AW.ret (Left.of (av := .l (.s (.slice none 0 0))) (by simp [Try.f95, resV, resC]) ?_)
    refine LeftV.weak (Weak.nilRow 0 125 6 rfl) ?_
    refine LeftV.now hnb [some 0] (fun i j o hi hj => ?_) rfl ?_ ?_
    · cases i <;> cases j <;> simp_all
    · simp [pickOb, St.add, Ob.ren, lvs]
    · rfl
  · simp only [Post.seq]
    apply AW.step
    · simp [Value.oneCell']
      refine xapp_grow (q := (l.length, lvs (encPair l))) (z := ⟨125, 6, true, none, []⟩) tb_el56 tb_ti125 (by simp) (by simp [← lvs_eq]) (by simp) (by simp) (by simp) (by simp; omega) ?_
      simp [St.grow, obsBut, lvs_ren]
      rfl
    refine AW.ret (Left.of (av := .l (.r 0 6 0 l.length)) (by simp [Try.f95, resV, resC]) ?_)
    refine LeftV.now hnb [some 0] (fun i j o hi hj => ?_) rfl ?_ rfl
    · cases i <;> cases j <;> simp_all
    · simp [pickOb, Ob.ren, lvs_ren]
theorem en_clonePair : Enters Try.prog 95 := enters Try.func95 (by kernel_rfl) rfl
theorem z_clonePair (l : List Pair) (hl : l.length ≤ 1000000000) : Sound Try.prog 95 [.l (.d false 6 (encPair l))] [] (.l (.d false 6 (encPair l))) [] :=
  (s_clonePair l hl).frz (by simp) (by omega) (encPair_sz l) (by omega)
set_option maxRecDepth 8000 in
theorem s_cloneEffect (l : List Effect) (hl : l.length ≤ 1000000000) : Sound Try.prog 116 [.l (.d false 7 ((encEffect l)))] [] (.l (.r 0 7 0 l.length)) [some ⟨36, 7, true, none, lvs (encEffect l)⟩] := by
  refine Sound.of_aw (fn := Try.f116) (c := _) Try.func116 rfl (by simp [Try.f116]) fun cx hG hnb => ?_
  rw [show Try.f116.ntmps = 8 from rfl]
  have hn0 : cx.nb = 0 := hnb
  refine AW.step (by simp; rfl) ?_
  refine AW.seq ?_
  refine AW.stepN (fun s => ∃ b : Bool, (encEffect l ≠ [] → b = false) ∧ s = ⟨[(4, .l (.s (.bool b))), (3, .l (.d false 7 (encEffect l))), (2, .l (.s (.slice none 0 0))), (0, .l (.d false 7 (encEffect l)))], [], 8, [], none⟩) ?_ ?_
  · simp
  rintro s ⟨b, hb, rfl⟩
  refine AW.cond rfl (fun h => ?_) (fun h => AW.skip ?_)
  · have he : l = [] := by
      cases l with
      | nil => rfl
      | cons x l => simp at hb; rw [hb] at h; simp at h
    subst he
    refine AW.step (by simp; rfl) ?_
    refine AW.ret (Left.of (av := .l (.s (.slice none 0 0))) (by simp [Try.f116, resV, resC]) ?_)
    refine LeftV.weak (Weak.nilRow 0 36 7 rfl) ?_
    refine LeftV.now hnb [some 0] (fun i j o hi hj => ?_) rfl ?_ ?_
    · cases i <;> cases j <;> simp_all
    · simp [pickOb, St.add, Ob.ren, lvs]
    · rfl
  · simp only [Post.seq]
    apply AW.step
    · simp [Value.oneCell']
      refine xapp_grow (q := (l.length, lvs (encEffect l))) (z := ⟨36, 7, true, none, []⟩) tb_el24 tb_ti36 (by simp) (by simp [← lvs_eq]) (by simp) (by simp) (by simp) (by simp; omega) ?_
      simp [St.grow, obsBut, lvs_ren]
      rfl
    refine AW.ret (Left.of (av := .l (.r 0 7 0 l.length)) (by simp [Try.f116, resV, resC]) ?_)
    refine LeftV.now hnb [some 0] (fun i j o hi hj => ?_) rfl ?_ rfl
    · cases i <;> cases j <;> simp_all
    · simp [pickOb, Ob.ren, lvs_ren]
theorem en_cloneEffect : Enters Try.prog 116 := enters Try.func116 (by kernel_rfl) rfl
theorem z_cloneEffect (l : List Effect) (hl : l.length ≤ 1000000000) : Sound Try.prog 116 [.l (.d false 7 (encEffect l))] [] (.l (.d false 7 (encEffect l))) [] :=
  (s_cloneEffect l hl).frz (by simp) (by omega) (encEffect_sz l) (by omega)
end Go.Proofs.Ytlkhfdccapkcdaa
