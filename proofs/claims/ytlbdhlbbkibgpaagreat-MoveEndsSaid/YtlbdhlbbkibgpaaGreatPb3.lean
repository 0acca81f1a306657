/- Part 3 of the proof. -/
import Derived.Test.YtlbdhlbbkibgpaaGreatPb2
set_option linter.unusedVariables false
set_option linter.unusedSimpArgs false
set_option linter.constructorNameAsVariable false
set_option maxRecDepth 8000
set_option maxHeartbeats 8000000
namespace Go.Proofs.YtlbdhlbbkibgpaaGreat
open Go Go.RowKit
def small {α:Type} (c:Nat) (l:List α):Bool:=decide (l.length*c≤140737488355328∧l.length≤140737488355328)
theorem AP {α:Type} {c:Nat} {l:List α} (h:small c l=true):l.length*c≤140737488355328∧l.length≤140737488355328:=by simpa [small] using h
set_option maxRecDepth 8000 in
theorem IC (l:List (List Int)) (hl:l.length*24≤140737488355328∧l.length≤140737488355328):Sound Tryz.prog 71 [.l (.d false 1 ((encLI l)))] [] (.l (.r 0 1 0 l.length)) [some ⟨33,1,true,none,lvs (encLI l)⟩]:=by
 refine Sound.of_aw (fn:=Tryz.f71) (c:=_) Tryz.func71 rfl (by simp[Tryz.f71]) fun cx hG hnb=>?_
 rw[show Tryz.f71.ntmps=8 from rfl]
 have hn0:cx.nb=0:=hnb
 refine AW.step (by simp;rfl) ?_
 refine AW.seq ?_
 refine AW.stepN (fun s=>∃ b:Bool,(encLI l≠[]→b=false)∧s=⟨[(4,.l (.s (.bool b))),(3,.l (.d false 1 (encLI l))),(2,.l (.s (.slice none 0 0))),(0,.l (.d false 1 (encLI l)))],[],8,[],none⟩) ?_ ?_
 ·simp
 rintro s ⟨b,hb,rfl⟩
 refine AW.cond rfl (fun h=>?_) (fun h=>AW.skip ?_)
 ·have he:l=[]:=by
   cases l with
   |nil=>rfl
   |cons x l=>simp at hb;rw[hb] at h;simp at h
  subst he
  refine AW.step (by simp;rfl) ?_
  refine AW.ret (Left.of (av:=.l (.s (.slice none 0 0))) (by simp[Tryz.f71,resV,resC]) ?_)
  refine LeftV.weak (Weak.nilRow 0 33 1 rfl) ?_
  refine LeftV.now hnb [some 0] (fun i j o hi hj=>?_) rfl ?_ ?_
  ·cases i <;> cases j <;> simp_all
  ·simp[pickOb,St.add,Ob.ren,lvs]
  ·rfl
 ·simp only[Post.seq]
  apply AW.step
  ·simp[Value.oneCell']
   refine Ay ?_
   try simp
   refine BS (q:=(l.length,lvs (encLI l))) (z:=⟨33,1,true,none,[]⟩) Iw It (by simp) (by simp[← HY]) (by simp) (by simp) (by simp) (by simp;omega) ?_
   simp[St.grow,obsBut,A7]
   rfl
  refine AW.ret (Left.of (av:=.l (.r 0 1 0 l.length)) (by simp[Tryz.f71,resV,resC]) ?_)
  refine LeftV.now hnb [some 0] (fun i j o hi hj=>?_) rfl ?_ rfl
  ·cases i <;> cases j <;> simp_all
  ·simp[pickOb,Ob.ren,A7]
theorem HC:Enters Tryz.prog 71:=enters Tryz.func71 (by kernel_rfl) rfl
set_option maxRecDepth 8000 in
theorem FX (l:List Claim) (hl:l.length*32≤140737488355328∧l.length≤140737488355328):Sound Tryz.prog 64 [.l (.d true 4 ((encClaim l)))] [] (.l (.r 0 4 0 l.length)) [some ⟨81,4,true,none,lvs (encClaim l)⟩]:=by
 refine Sound.of_aw (fn:=Tryz.f64) (c:=_) Tryz.func64 rfl (by simp[Tryz.f64]) fun cx hG hnb=>?_
 rw[show Tryz.f64.ntmps=8 from rfl]
 have hn0:cx.nb=0:=hnb
 refine AW.step (by simp;rfl) ?_
 refine AW.seq ?_
 refine AW.stepN (fun s=>∃ b:Bool,(encClaim l≠[]→b=false)∧s=⟨[(4,.l (.s (.bool b))),(3,.l (.d true 4 (encClaim l))),(2,.l (.s (.slice none 0 0))),(0,.l (.d true 4 (encClaim l)))],[],8,[],none⟩) ?_ ?_
 ·simp
 rintro s ⟨b,hb,rfl⟩
 refine AW.cond rfl (fun h=>?_) (fun h=>AW.skip ?_)
 ·have he:l=[]:=by
   cases l with
   |nil=>rfl
   |cons x l=>simp at hb;rw[hb] at h;simp at h
  subst he
  refine AW.step (by simp;rfl) ?_
  refine AW.ret (Left.of (av:=.l (.s (.slice none 0 0))) (by simp[Tryz.f64,resV,resC]) ?_)
  refine LeftV.weak (Weak.nilRow 0 81 4 rfl) ?_
  refine LeftV.now hnb [some 0] (fun i j o hi hj=>?_) rfl ?_ ?_
  ·cases i <;> cases j <;> simp_all
  ·simp[pickOb,St.add,Ob.ren,lvs]
  ·rfl
 ·simp only[Post.seq]
  apply AW.step
  ·simp[Value.oneCell']
   refine Ay ?_
   try simp
   refine BS (q:=(l.length,lvs (encClaim l))) (z:=⟨81,4,true,none,[]⟩) G3 G2 (by simp) (by simp[Jr]) (by simp) (by simp) (by simp) (by simp;omega) ?_
   simp[St.grow,obsBut,A7]
   rfl
  refine AW.ret (Left.of (av:=.l (.r 0 4 0 l.length)) (by simp[Tryz.f64,resV,resC]) ?_)
  refine LeftV.now hnb [some 0] (fun i j o hi hj=>?_) rfl ?_ rfl
  ·cases i <;> cases j <;> simp_all
  ·simp[pickOb,Ob.ren,A7]
theorem Fs:Enters Tryz.prog 64:=enters Tryz.func64 (by kernel_rfl) rfl
set_option maxRecDepth 8000 in
theorem Er (l:List Effect) (hl:l.length*104≤140737488355328∧l.length≤140737488355328):Sound Tryz.prog 69 [.l (.d false 7 ((encEffect l)))] [] (.l (.r 0 7 0 l.length)) [some ⟨59,7,true,none,lvs (encEffect l)⟩]:=by
 refine Sound.of_aw (fn:=Tryz.f69) (c:=_) Tryz.func69 rfl (by simp[Tryz.f69]) fun cx hG hnb=>?_
 rw[show Tryz.f69.ntmps=8 from rfl]
 have hn0:cx.nb=0:=hnb
 refine AW.step (by simp;rfl) ?_
 refine AW.seq ?_
 refine AW.stepN (fun s=>∃ b:Bool,(encEffect l≠[]→b=false)∧s=⟨[(4,.l (.s (.bool b))),(3,.l (.d false 7 (encEffect l))),(2,.l (.s (.slice none 0 0))),(0,.l (.d false 7 (encEffect l)))],[],8,[],none⟩) ?_ ?_
 ·simp
 rintro s ⟨b,hb,rfl⟩
 refine AW.cond rfl (fun h=>?_) (fun h=>AW.skip ?_)
 ·have he:l=[]:=by
   cases l with
   |nil=>rfl
   |cons x l=>simp at hb;rw[hb] at h;simp at h
  subst he
  refine AW.step (by simp;rfl) ?_
  refine AW.ret (Left.of (av:=.l (.s (.slice none 0 0))) (by simp[Tryz.f69,resV,resC]) ?_)
  refine LeftV.weak (Weak.nilRow 0 59 7 rfl) ?_
  refine LeftV.now hnb [some 0] (fun i j o hi hj=>?_) rfl ?_ ?_
  ·cases i <;> cases j <;> simp_all
  ·simp[pickOb,St.add,Ob.ren,lvs]
  ·rfl
 ·simp only[Post.seq]
  apply AW.step
  ·simp[Value.oneCell']
   refine Ay ?_
   try simp
   refine BS (q:=(l.length,lvs (encEffect l))) (z:=⟨59,7,true,none,[]⟩) Iv Iu (by simp) (by simp[← HY]) (by simp) (by simp) (by simp) (by simp;omega) ?_
   simp[St.grow,obsBut,A7]
   rfl
  refine AW.ret (Left.of (av:=.l (.r 0 7 0 l.length)) (by simp[Tryz.f69,resV,resC]) ?_)
  refine LeftV.now hnb [some 0] (fun i j o hi hj=>?_) rfl ?_ rfl
  ·cases i <;> cases j <;> simp_all
  ·simp[pickOb,Ob.ren,A7]
theorem Ed:Enters Tryz.prog 69:=enters Tryz.func69 (by kernel_rfl) rfl
set_option maxRecDepth 8000 in
theorem H4 (l:List Field) (hl:l.length*32≤140737488355328∧l.length≤140737488355328):Sound Tryz.prog 98 [.l (.d true 2 ((encField l)))] [] (.l (.r 0 2 0 l.length)) [some ⟨157,2,true,none,lvs (encField l)⟩]:=by
 refine Sound.of_aw (fn:=Tryz.f98) (c:=_) Tryz.func98 rfl (by simp[Tryz.f98]) fun cx hG hnb=>?_
 rw[show Tryz.f98.ntmps=8 from rfl]
 have hn0:cx.nb=0:=hnb
 refine AW.step (by simp;rfl) ?_
 refine AW.seq ?_
 refine AW.stepN (fun s=>∃ b:Bool,(encField l≠[]→b=false)∧s=⟨[(4,.l (.s (.bool b))),(3,.l (.d true 2 (encField l))),(2,.l (.s (.slice none 0 0))),(0,.l (.d true 2 (encField l)))],[],8,[],none⟩) ?_ ?_
 ·simp
 rintro s ⟨b,hb,rfl⟩
 refine AW.cond rfl (fun h=>?_) (fun h=>AW.skip ?_)
 ·have he:l=[]:=by
   cases l with
   |nil=>rfl
   |cons x l=>simp at hb;rw[hb] at h;simp at h
  subst he
  refine AW.step (by simp;rfl) ?_
  refine AW.ret (Left.of (av:=.l (.s (.slice none 0 0))) (by simp[Tryz.f98,resV,resC]) ?_)
  refine LeftV.weak (Weak.nilRow 0 157 2 rfl) ?_
  refine LeftV.now hnb [some 0] (fun i j o hi hj=>?_) rfl ?_ ?_
  ·cases i <;> cases j <;> simp_all
  ·simp[pickOb,St.add,Ob.ren,lvs]
  ·rfl
 ·simp only[Post.seq]
  apply AW.step
  ·simp[Value.oneCell']
   refine Ay ?_
   try simp
   refine BS (q:=(l.length,lvs (encField l))) (z:=⟨157,2,true,none,[]⟩) G4 FT (by simp) (by simp[Jn]) (by simp) (by simp) (by simp) (by simp;omega) ?_
   simp[St.grow,obsBut,A7]
   rfl
  refine AW.ret (Left.of (av:=.l (.r 0 2 0 l.length)) (by simp[Tryz.f98,resV,resC]) ?_)
  refine LeftV.now hnb [some 0] (fun i j o hi hj=>?_) rfl ?_ rfl
  ·cases i <;> cases j <;> simp_all
  ·simp[pickOb,Ob.ren,A7]
theorem Hk:Enters Tryz.prog 98:=enters Tryz.func98 (by kernel_rfl) rfl
set_option maxRecDepth 8000 in
theorem GE (l:List Move) (hl:l.length*40≤140737488355328∧l.length≤140737488355328):Sound Tryz.prog 65 [.l (.d true 4 ((encMove l)))] [] (.l (.r 0 4 0 l.length)) [some ⟨92,4,true,none,lvs (encMove l)⟩]:=by
 refine Sound.of_aw (fn:=Tryz.f65) (c:=_) Tryz.func65 rfl (by simp[Tryz.f65]) fun cx hG hnb=>?_
 rw[show Tryz.f65.ntmps=8 from rfl]
 have hn0:cx.nb=0:=hnb
 refine AW.step (by simp;rfl) ?_
 refine AW.seq ?_
 refine AW.stepN (fun s=>∃ b:Bool,(encMove l≠[]→b=false)∧s=⟨[(4,.l (.s (.bool b))),(3,.l (.d true 4 (encMove l))),(2,.l (.s (.slice none 0 0))),(0,.l (.d true 4 (encMove l)))],[],8,[],none⟩) ?_ ?_
 ·simp
 rintro s ⟨b,hb,rfl⟩
 refine AW.cond rfl (fun h=>?_) (fun h=>AW.skip ?_)
 ·have he:l=[]:=by
   cases l with
   |nil=>rfl
   |cons x l=>simp at hb;rw[hb] at h;simp at h
  subst he
  refine AW.step (by simp;rfl) ?_
  refine AW.ret (Left.of (av:=.l (.s (.slice none 0 0))) (by simp[Tryz.f65,resV,resC]) ?_)
  refine LeftV.weak (Weak.nilRow 0 92 4 rfl) ?_
  refine LeftV.now hnb [some 0] (fun i j o hi hj=>?_) rfl ?_ ?_
  ·cases i <;> cases j <;> simp_all
  ·simp[pickOb,St.add,Ob.ren,lvs]
  ·rfl
 ·simp only[Post.seq]
  apply AW.step
  ·simp[Value.oneCell']
   refine Ay ?_
   try simp
   refine BS (q:=(l.length,lvs (encMove l))) (z:=⟨92,4,true,none,[]⟩) CR Dj (by simp) (by simp[Kh]) (by simp) (by simp) (by simp) (by simp;omega) ?_
   simp[St.grow,obsBut,A7]
   rfl
  refine AW.ret (Left.of (av:=.l (.r 0 4 0 l.length)) (by simp[Tryz.f65,resV,resC]) ?_)
  refine LeftV.now hnb [some 0] (fun i j o hi hj=>?_) rfl ?_ rfl
  ·cases i <;> cases j <;> simp_all
  ·simp[pickOb,Ob.ren,A7]
theorem FY:Enters Tryz.prog 65:=enters Tryz.func65 (by kernel_rfl) rfl
set_option maxRecDepth 8000 in
theorem Fm (l:List Pair) (hl:l.length*96≤140737488355328∧l.length≤140737488355328):Sound Tryz.prog 68 [.l (.d false 6 ((encPair l)))] [] (.l (.r 0 6 0 l.length)) [some ⟨114,6,true,none,lvs (encPair l)⟩]:=by
 refine Sound.of_aw (fn:=Tryz.f68) (c:=_) Tryz.func68 rfl (by simp[Tryz.f68]) fun cx hG hnb=>?_
 rw[show Tryz.f68.ntmps=8 from rfl]
 have hn0:cx.nb=0:=hnb
 refine AW.step (by simp;rfl) ?_
 refine AW.seq ?_
 refine AW.stepN (fun s=>∃ b:Bool,(encPair l≠[]→b=false)∧s=⟨[(4,.l (.s (.bool b))),(3,.l (.d false 6 (encPair l))),(2,.l (.s (.slice none 0 0))),(0,.l (.d false 6 (encPair l)))],[],8,[],none⟩) ?_ ?_
 ·simp
 rintro s ⟨b,hb,rfl⟩
 refine AW.cond rfl (fun h=>?_) (fun h=>AW.skip ?_)
 ·have he:l=[]:=by
   cases l with
   |nil=>rfl
   |cons x l=>simp at hb;rw[hb] at h;simp at h
  subst he
  refine AW.step (by simp;rfl) ?_
  refine AW.ret (Left.of (av:=.l (.s (.slice none 0 0))) (by simp[Tryz.f68,resV,resC]) ?_)
  refine LeftV.weak (Weak.nilRow 0 114 6 rfl) ?_
  refine LeftV.now hnb [some 0] (fun i j o hi hj=>?_) rfl ?_ ?_
  ·cases i <;> cases j <;> simp_all
  ·simp[pickOb,St.add,Ob.ren,lvs]
  ·rfl
 ·simp only[Post.seq]
  apply AW.step
  ·simp[Value.oneCell']
   refine Ay ?_
   try simp
   refine BS (q:=(l.length,lvs (encPair l))) (z:=⟨114,6,true,none,[]⟩) BP BA (by simp) (by simp[← HY]) (by simp) (by simp) (by simp) (by simp;omega) ?_
   simp[St.grow,obsBut,A7]
   rfl
  refine AW.ret (Left.of (av:=.l (.r 0 6 0 l.length)) (by simp[Tryz.f68,resV,resC]) ?_)
  refine LeftV.now hnb [some 0] (fun i j o hi hj=>?_) rfl ?_ rfl
  ·cases i <;> cases j <;> simp_all
  ·simp[pickOb,Ob.ren,A7]
theorem ES:Enters Tryz.prog 68:=enters Tryz.func68 (by kernel_rfl) rfl
set_option maxRecDepth 8000 in
theorem GF (l:List Seen) (hl:l.length*24≤140737488355328∧l.length≤140737488355328):Sound Tryz.prog 66 [.l (.d true 3 ((encSeen l)))] [] (.l (.r 0 3 0 l.length)) [some ⟨100,3,true,none,lvs (encSeen l)⟩]:=by
 refine Sound.of_aw (fn:=Tryz.f66) (c:=_) Tryz.func66 rfl (by simp[Tryz.f66]) fun cx hG hnb=>?_
 rw[show Tryz.f66.ntmps=8 from rfl]
 have hn0:cx.nb=0:=hnb
 refine AW.step (by simp;rfl) ?_
 refine AW.seq ?_
 refine AW.stepN (fun s=>∃ b:Bool,(encSeen l≠[]→b=false)∧s=⟨[(4,.l (.s (.bool b))),(3,.l (.d true 3 (encSeen l))),(2,.l (.s (.slice none 0 0))),(0,.l (.d true 3 (encSeen l)))],[],8,[],none⟩) ?_ ?_
 ·simp
 rintro s ⟨b,hb,rfl⟩
 refine AW.cond rfl (fun h=>?_) (fun h=>AW.skip ?_)
 ·have he:l=[]:=by
   cases l with
   |nil=>rfl
   |cons x l=>simp at hb;rw[hb] at h;simp at h
  subst he
  refine AW.step (by simp;rfl) ?_
  refine AW.ret (Left.of (av:=.l (.s (.slice none 0 0))) (by simp[Tryz.f66,resV,resC]) ?_)
  refine LeftV.weak (Weak.nilRow 0 100 3 rfl) ?_
  refine LeftV.now hnb [some 0] (fun i j o hi hj=>?_) rfl ?_ ?_
  ·cases i <;> cases j <;> simp_all
  ·simp[pickOb,St.add,Ob.ren,lvs]
  ·rfl
 ·simp only[Post.seq]
  apply AW.step
  ·simp[Value.oneCell']
   refine Ay ?_
   try simp
   refine BS (q:=(l.length,lvs (encSeen l))) (z:=⟨100,3,true,none,[]⟩) Dk C5 (by simp) (by simp[Kk]) (by simp) (by simp) (by simp) (by simp;omega) ?_
   simp[St.grow,obsBut,A7]
   rfl
  refine AW.ret (Left.of (av:=.l (.r 0 3 0 l.length)) (by simp[Tryz.f66,resV,resC]) ?_)
  refine LeftV.now hnb [some 0] (fun i j o hi hj=>?_) rfl ?_ rfl
  ·cases i <;> cases j <;> simp_all
  ·simp[pickOb,Ob.ren,A7]
theorem FZ:Enters Tryz.prog 66:=enters Tryz.func66 (by kernel_rfl) rfl
set_option maxRecDepth 8000 in
theorem E5 (l:List Int) (hl:l.length*8≤140737488355328∧l.length≤140737488355328):Sound Tryz.prog 67 [.l (.d true 1 ((encI l)))] [] (.l (.r 0 1 0 l.length)) [some ⟨3,1,true,none,lvs (encI l)⟩]:=by
 refine Sound.of_aw (fn:=Tryz.f67) (c:=_) Tryz.func67 rfl (by simp[Tryz.f67]) fun cx hG hnb=>?_
 rw[show Tryz.f67.ntmps=8 from rfl]
 have hn0:cx.nb=0:=hnb
 refine AW.step (by simp;rfl) ?_
 refine AW.seq ?_
 refine AW.stepN (fun s=>∃ b:Bool,(encI l≠[]→b=false)∧s=⟨[(4,.l (.s (.bool b))),(3,.l (.d true 1 (encI l))),(2,.l (.s (.slice none 0 0))),(0,.l (.d true 1 (encI l)))],[],8,[],none⟩) ?_ ?_
 ·simp
 rintro s ⟨b,hb,rfl⟩
 refine AW.cond rfl (fun h=>?_) (fun h=>AW.skip ?_)
 ·have he:l=[]:=by
   cases l with
   |nil=>rfl
   |cons x l=>simp at hb;rw[hb] at h;simp at h
  subst he
  refine AW.step (by simp;rfl) ?_
  refine AW.ret (Left.of (av:=.l (.s (.slice none 0 0))) (by simp[Tryz.f67,resV,resC]) ?_)
  refine LeftV.weak (Weak.nilRow 0 3 1 rfl) ?_
  refine LeftV.now hnb [some 0] (fun i j o hi hj=>?_) rfl ?_ ?_
  ·cases i <;> cases j <;> simp_all
  ·simp[pickOb,St.add,Ob.ren,lvs]
  ·rfl
 ·simp only[Post.seq]
  apply AW.step
  ·simp[Value.oneCell']
   refine Ay ?_
   try simp
   refine BS (q:=(l.length,lvs (encI l))) (z:=⟨3,1,true,none,[]⟩) LF MR (by simp) (by simp[MT]) (by simp) (by simp) (by simp) (by simp;omega) ?_
   simp[St.grow,obsBut,A7]
   rfl
  refine AW.ret (Left.of (av:=.l (.r 0 1 0 l.length)) (by simp[Tryz.f67,resV,resC]) ?_)
  refine LeftV.now hnb [some 0] (fun i j o hi hj=>?_) rfl ?_ rfl
  ·cases i <;> cases j <;> simp_all
  ·simp[pickOb,Ob.ren,A7]
theorem Dn:Enters Tryz.prog 67:=enters Tryz.func67 (by kernel_rfl) rfl
theorem Kl (l:List Int) (hl:l.length*8≤140737488355328∧l.length≤140737488355328):Sound Tryz.prog 67 [.l (.d true 1 (encI l))] [] (.l (.d false 1 (encI l))) [] :=
 (E5 l hl).frz (by simp) (by omega) (Dl l) (by omega)
set_option maxRecDepth 8000 in
theorem M4 (l:List ByteArray) (hl:l.length*16≤140737488355328∧l.length≤140737488355328):Sound Tryz.prog 99 [.l (.d true 1 ((encS l)))] [] (.l (.r 0 1 0 l.length)) [some ⟨9,1,true,none,lvs (encS l)⟩]:=by
 refine Sound.of_aw (fn:=Tryz.f99) (c:=_) Tryz.func99 rfl (by simp[Tryz.f99]) fun cx hG hnb=>?_
 rw[show Tryz.f99.ntmps=8 from rfl]
 have hn0:cx.nb=0:=hnb
 refine AW.step (by simp;rfl) ?_
 refine AW.seq ?_
 refine AW.stepN (fun s=>∃ b:Bool,(encS l≠[]→b=false)∧s=⟨[(4,.l (.s (.bool b))),(3,.l (.d true 1 (encS l))),(2,.l (.s (.slice none 0 0))),(0,.l (.d true 1 (encS l)))],[],8,[],none⟩) ?_ ?_
 ·simp
 rintro s ⟨b,hb,rfl⟩
 refine AW.cond rfl (fun h=>?_) (fun h=>AW.skip ?_)
 ·have he:l=[]:=by
   cases l with
   |nil=>rfl
   |cons x l=>simp at hb;rw[hb] at h;simp at h
  subst he
  refine AW.step (by simp;rfl) ?_
  refine AW.ret (Left.of (av:=.l (.s (.slice none 0 0))) (by simp[Tryz.f99,resV,resC]) ?_)
  refine LeftV.weak (Weak.nilRow 0 9 1 rfl) ?_
  refine LeftV.now hnb [some 0] (fun i j o hi hj=>?_) rfl ?_ ?_
  ·cases i <;> cases j <;> simp_all
  ·simp[pickOb,St.add,Ob.ren,lvs]
  ·rfl
 ·simp only[Post.seq]
  apply AW.step
  ·simp[Value.oneCell']
   refine Ay ?_
   try simp
   refine BS (q:=(l.length,lvs (encS l))) (z:=⟨9,1,true,none,[]⟩) D2 Ew (by simp) (by simp[Fk]) (by simp) (by simp) (by simp) (by simp;omega) ?_
   simp[St.grow,obsBut,A7]
   rfl
  refine AW.ret (Left.of (av:=.l (.r 0 1 0 l.length)) (by simp[Tryz.f99,resV,resC]) ?_)
  refine LeftV.now hnb [some 0] (fun i j o hi hj=>?_) rfl ?_ rfl
  ·cases i <;> cases j <;> simp_all
  ·simp[pickOb,Ob.ren,A7]
theorem LO:Enters Tryz.prog 99:=enters Tryz.func99 (by kernel_rfl) rfl
def insL {α:Type} (l:List α) (i:Nat) (x:α):List α:=l.take i++x::l.drop i
theorem Es {α:Type} (l:List α) (i:Nat) (x:α) (h:i≤l.length):(insL l i x).length=l.length+1:=by
 simp[insL]
 omega
def delL {α:Type} (l:List α) (i:Nat):List α:=l.take i++l.drop (i+1)
theorem K7 {α:Type} (l:List α) (i:Nat) (h:i<l.length):(delL l i).length=l.length - 1:=by
 simp[delL]
 omega
def insB {α:Type} (l:List α) (i:Int):Bool:=decide (0≤i∧i≤l.length∧l.length≤1000000000)
def delB {α:Type} (l:List α) (i j:Int):Bool:=decide (0≤i∧i<l.length∧j=i+1∧l.length≤1000000000)
theorem Bl {α:Type} {l m:List α} {i:Int} {x:α} (h:insB l i=true) (e:m=insL l i.toNat x):l.length+1=m.length:=by
 simp[insB] at h
 rw[e,Es l i.toNat x (by omega)]
theorem Km {α:Type} {l m:List α} {i j:Int} (h:delB l i j=true) (e:m=delL l i.toNat):l.length - 1=m.length:=by
 simp[delB] at h
 rw[e,K7 l i.toNat (by omega)]
set_option maxRecDepth 8000 in
set_option maxHeartbeats 8000000 in
theorem M5 (l:List Pair) (i:Nat) (hi:i<l.length) (hl:l.length≤1000000000):Sound Tryz.prog 109 [.l (.r 0 6 0 l.length),.l (.s (.int .i64 i)),.l (.s (.int .i64 (((i+1:Nat):Int))))] [⟨114,6,true,none,lvs (encPair l)⟩] (.l (.r 0 6 0 (l.length - 1))) [some ⟨114,6,true,none,lvs (encPair (delL l i))⟩]:=by
 refine Sound.of_aw (fn:=Tryz.f109) (c:=_) Tryz.func109 rfl (by simp[Tryz.f109]) fun cx hG hnb=>?_
 rw[show Tryz.f109.ntmps=33 from rfl]
 have hn0:cx.nb=1:=hnb
 have hlv:(lvs (encPair l)).length=l.length*6:=by rw[Ax (Av l)];simp
 have hn1:i+(l.length - (i+1))=l.length - 1:=by omega
 obtain⟨es5,he5⟩:∃ es5,es5=(encPair l).take i++((encPair l).drop (i+1)).take (l.length - (i+1))++(encPair l).drop (i+(((encPair l).drop (i+1)).take (l.length - (i+1))).length):=⟨_,rfl⟩
 have hF:(((encPair l).drop (i+1)).take (l.length - (i+1)))=(encPair l).drop (i+1):=List.take_of_length_le (by simp)
 have hs5:∀ e∈es5,e.length=6:=by
  intro e he
  rw[he5,hF] at he
  simp only[List.mem_append] at he
  rcases he with (h|h)|h
  ·exact Av l e (List.mem_of_mem_take h)
  ·exact Av l e (List.mem_of_mem_drop h)
  ·exact Av l e (List.mem_of_mem_drop h)
 have hn5:es5.length=l.length:=by
  rw[he5,hF]
  simp
  omega
 have hv5:(lvs es5).length=l.length*6:=by rw[Ax hs5,hn5]
 have hend:es5.take (l.length - 1)=encPair (delL l i):=by
  rw[he5,hF,List.take_left' (by simp;omega)]
  simp[encPair,delL]
 have hset:setAt (lvs (encPair l)) (i*6) (lvs (((encPair l).drop (i+1)).take (l.length - (i+1))))=lvs es5:=by
  rw[he5]
  exact C4 (Av l) (fun e he=>Av l e (List.mem_of_mem_drop (List.mem_of_mem_take he))) (by rw[hF];simp;omega)
 refine AW.step (by simp[hlv];rfl) ?_
 refine AW.step (by simp[hlv];(repeat refine⟨by omega,?_⟩);rfl) ?_
 refine AW.seq ?_
 refine AW.step (by simp[hlv];rfl) ?_
 refine AW.cond rfl (fun h2=>?_) (fun h2=>?_)
 ·simp at h2
  omega
 ·try simp at h2
  refine AW.skip ?_
  simp only[Post.seq,Post.block,if_true]
  refine AW.step (by simp[hlv];rfl) ?_
  apply AW.drawnP (V:=[_,_,_,_,_,_]) mixed [⟨[0],[],[(0,none)],false⟩,⟨[0],[],[(1,none)],false⟩,⟨[0],[0,1],[(20,some 0),(21,some 1)],false⟩,⟨[0],[],[(0,none)],false⟩,⟨[0],[],[(2,none)],false⟩,⟨[0],[3,4],[(23,some 3),(24,some 4)],false⟩,⟨[],[0,1,2,3,4,5],[],false⟩,⟨[],[0,1,2,3,4,5,6],[],false⟩] 6 (by kernel_rfl) (by kernel_rfl)
  ·refine⟨?_,?_,?_,?_,?_,?_,trivial⟩
   ·intro tm hr
    simp[AllL,rdV] at hr
    simp[hr,hlv,hn1]
    repeat refine⟨by omega,?_⟩
    exact KD.mk
   ·intro tm hr
    simp[AllL,rdV] at hr
    simp[hr,hlv,hn1]
    repeat refine⟨by omega,?_⟩
    exact KD.mk
   ·intro tm hr
    simp[AllL,rdV] at hr
    simp[hr,hlv,hn1]
    repeat refine⟨by omega,?_⟩
    exact KD.mk
   ·intro tm hr
    simp[AllL,rdV] at hr
    simp[hr,hlv,hn1]
    repeat refine⟨by omega,?_⟩
    exact KD.mk
   ·intro tm hr
    simp[AllL,rdV] at hr
    simp[hr,hlv,hn1]
    repeat refine⟨by omega,?_⟩
    exact KD.mk
   ·intro tm hr
    simp[AllL,rdV] at hr
    simp[hr,hlv,hn1]
    repeat refine⟨by omega,?_⟩
    exact KD.mk
  ·rfl
  ·simp[tmD,putD,hlv,hn1];rfl
  ·simp[hlv,hn1]
   repeat refine⟨by omega,?_⟩
   refine LC (z:=⟨114,6,true,none,lvs (encPair l)⟩) (q:=(l.length - (i+1),lvs (((encPair l).drop (i+1)).take (l.length - (i+1))))) BP BA ⟨rfl,by decide,by decide⟩ (LE (cap:=none) rfl (Av l) (by omega) (by simp)) rfl ⟨rfl,rfl,rfl,rfl⟩ (by simp[hlv];omega) ?_
   simp[hset]
   try simp[hlv,hn1]
   rfl
  refine AW.step (by simp[hlv,hv5,hset];(repeat refine⟨by omega,?_⟩);rfl) ?_
  refine AW.step (by simp[hlv];rfl) ?_
  refine AW.ret ?_
  refine Left.of (av:=_) (by simp[Tryz.f109,resV,resC,comp,hlv];rfl) ?_
  refine LeftV.shrink 0 ((l.length - 1)*6) rfl rfl rfl rfl ?_
  refine LeftV.rows [some 0] (by simp;omega) Py rfl rfl ?_ (by simp)
  simp[pickOb,H1,Ev hs5,hend]
theorem Mf:Enters Tryz.prog 109:=enters Tryz.func109 (by kernel_rfl) rfl
theorem OW (l:List Pair) (i j:Int) (h:delB l i j=true):Sound Tryz.prog 109 [.l (.r 0 6 0 l.length),.l (.s (.int .i64 i)),.l (.s (.int .i64 j))] [⟨114,6,true,none,lvs (encPair l)⟩] (.l (.r 0 6 0 (l.length - 1)))
  [some ⟨114,6,true,none,lvs (encPair (delL l i.toNat))⟩]:=by
 simp[delB] at h
 have:=M5 l i.toNat (by omega) (by omega)
 rwa [show ((i.toNat:Nat):Int)=i by omega,show ((i.toNat+1:Nat):Int)=j by omega] at this
set_option maxRecDepth 8000 in
set_option maxHeartbeats 8000000 in
theorem M6 (l:List Move) (i:Nat) (x:Move) (hi:i≤l.length) (hl:l.length≤1000000000):Sound Tryz.prog 36 [.l (.r 0 4 0 l.length),.l (.s (.int .i64 i)),.l (.r 1 4 0 1)] [⟨92,4,true,none,lvs (encMove l)⟩,⟨92,4,true,none,lvs (encMove [x])⟩] (.l (.r 0 4 0 (l.length+1))) [some ⟨92,4,true,none,lvs (encMove (insL l i x))⟩,some ⟨92,4,true,none,lvs (encMove [x])⟩]:=by
 refine Sound.of_aw (fn:=Tryz.f36) (c:=_) Tryz.func36 rfl (by simp[Tryz.f36]) fun cx hG hnb=>?_
 rw[show Tryz.f36.ntmps=95 from rfl]
 have hn0:cx.nb=2:=hnb
 have hlv:(lvs (encMove l)).length=l.length*4:=by rw[Ax (AB l)];simp
 have hw1:=C3 (show l.length+1≤9223372036854775807 by omega)
 have hlx:(lvs (encMove [x])).length=4:=by rw[Ax (AB _)];simp
 refine AW.step (by simp[hi,hw1];rfl) ?_
 refine AW.step (by simp[hi,hw1,hlv];rfl) ?_
 refine AW.step (by simp[hi,hw1];rfl) ?_
 refine AW.seq ?_
 refine AW.step (by simp[hi,hw1];rfl) ?_
 refine AW.cond rfl (fun h3=>?_) (fun h3=>?_)
 ·simp at h3
 ·try simp at h3
  refine AW.skip ?_
  simp only[Post.seq,Post.block,if_true]
  refine AW.step (by simp[hi,hw1];rfl) ?_
  refine AW.seq ?_
  refine AW.step (by simp[hi,hw1];rfl) ?_
  refine AW.cond rfl (fun h6=>?_) (fun h6=>?_)
  ·simp at h6
   have hins:insL l i x=l++[x]:=by simp[insL,show i=l.length by omega]
   apply AW.step
   ·simp[hi,hw1]
    refine Fg (acc:=encMove l) (ys:=encMove [x]) (cap:=none) (k:=1) CR Dj (by simp) (Is (e:=92) (cap:=none) (by simp) (AB _) (by simp)) (AB _) (by simp) (by simp) (by omega) ?_
    simp[St.grow,obsBut,← Dm,← hins]
    try simp[hi,hw1]
    rfl
   refine AW.ret ?_
   refine Left.of (av:=_) (by simp[Tryz.f36,resV,resC,comp,hi,hw1];rfl) ?_
   exact LeftV.rows [some 0,some 1] (by simp;omega) (CQ (by omega)) rfl rfl (by simp[pickOb,hi,hw1]) (by simp[hi,hw1])
  ·simp at h6
   have hil:i<l.length:=by omega
   have hin:(i:Int)+(l.length+1 - i:Nat)=l.length+1:=by omega
   have hin2:i+(l.length+1 - i)=l.length+1:=by omega
   have hw2:=C3 (show i+1≤9223372036854775807 by omega)
   refine AW.skip ?_
   simp only[Post.seq,Post.block,if_true]
   refine AW.seq ?_
   apply AW.stepK
   simp[hi,hw1]
   refine Hz CR rfl rfl fun c hc1 _ hc3=>?_
   simp[hw1]
   unfold KK
   refine AW.cond rfl (fun h8=>?_) (fun h8=>?_)
   ·simp at h8
    have hcl:c=l.length:=by omega
    obtain⟨es2,he2⟩:∃ es2,es2=(encMove l).take i++List.replicate (l.length+1 - i) [.v (.int .i64 0),.v (.int .i64 0),.v (.int .i64 0),.v (.string ⟨#[]⟩)]:=⟨_,rfl⟩
    have hs2:∀ e∈es2,e.length=4:=by
     intro e he
     rw[he2] at he
     rcases List.mem_append.1 he with h|h
     ·exact AB l e (List.mem_of_mem_take h)
     ·rw[(List.mem_replicate.1 h).2];rfl
    have hn2:es2.length=l.length+1:=by rw[he2];simp;omega
    have hv2:(lvs es2).length=(l.length+1)*4:=by rw[Ax hs2,hn2]
    obtain⟨es3,he3⟩:∃ es3,es3=es2.take i++encMove [x]++es2.drop (i+1):=⟨_,rfl⟩
    have hs3:∀ e∈es3,e.length=4:=by
     intro e he
     rw[he3] at he
     simp only[List.mem_append] at he
     rcases he with (h|h)|h
     ·exact hs2 e (List.mem_of_mem_take h)
     ·exact AB _ e h
     ·exact hs2 e (List.mem_of_mem_drop h)
    have hn3:es3.length=l.length+1:=by rw[he3];simp[hn2];omega
    have hv3:(lvs es3).length=(l.length+1)*4:=by rw[Ax hs3,hn3]
    have hend:es3.take (i+1)++((encMove l).drop i).take (l.length - i)=encMove (insL l i x):=by
     rw[List.take_of_length_le (l:=(encMove l).drop i) (by simp)]
     rw[he3,List.take_append_of_le_length (by simp[hn2];omega),List.take_of_length_le (by simp;omega),he2,List.take_append_of_le_length (by simp;omega)]
     simp[encMove,insL,List.take_take]
    apply AW.step
    ·simp[hi,hw1,hlv]
     repeat refine⟨by omega,?_⟩
     refine Gy (zr:=[.v (.int .i64 0),.v (.int .i64 0),.v (.int .i64 0),.v (.string ⟨#[]⟩)]) (es:=encMove l) CR Dj rfl ⟨rfl,rfl,by omega⟩ rfl rfl (AB _) (by simp;omega) (l.length+1 - i) (by rw[Fz (by omega) (by omega)];omega) (by omega) (by omega) (by omega) (by omega) ?_
     simp[hin2]
     try simp[hi,hw1,hlv]
     rfl
    apply AW.step
    ·simp[hi,hw1,hv2,← he2]
     repeat refine⟨by omega,?_⟩
     refine Bw CR Dj rfl (by simp[hv2]) (by omega) 1 (by omega) (by omega) (Ea (cap:=none) rfl (AB [x]) (by simp)) (C4 (fs:=encMove [x]) hs2 (AB _) (by simp[hn2];omega)) ?_
     simp[← he3]
     try simp[hi,hw1,hv2,← he2]
     rfl
    apply AW.drawnP (V:=[_,_,_,_,_,_,_,_]) mixed [⟨[0],[],[(9,none)],false⟩,⟨[0],[],[(1,none)],false⟩,⟨[0],[],[(7,none)],false⟩,⟨[0],[1,2],[(47,some 1),(48,some 2)],false⟩,⟨[0],[0,1,2,3],[(46,some 0),(49,some 3)],false⟩,⟨[0],[],[(0,none)],false⟩,⟨[0],[],[(1,none)],false⟩,⟨[0],[5,6],[(51,some 5),(52,some 6)],false⟩,⟨[],[0,1,2,3,4,5,6,7],[],false⟩] 8 (by kernel_rfl) (by kernel_rfl)
    ·refine⟨?_,?_,?_,?_,?_,?_,?_,?_,trivial⟩
     ·intro tm hr
      simp[AllL,rdV] at hr
      simp[hr,hi,hw1,hv3,hw2,hlv]
      repeat refine⟨by omega,?_⟩
      exact KD.mk
     ·intro tm hr
      simp[AllL,rdV] at hr
      simp[hr,hi,hw1,hv3,hw2,hlv]
      repeat refine⟨by omega,?_⟩
      exact KD.mk
     ·intro tm hr
      simp[AllL,rdV] at hr
      simp[hr,hi,hw1,hv3,hw2,hlv]
      repeat refine⟨by omega,?_⟩
      exact KD.mk
     ·intro tm hr
      simp[AllL,rdV] at hr
      simp[hr,hi,hw1,hv3,hw2,hlv]
      repeat refine⟨by omega,?_⟩
      exact KD.mk
     ·intro tm hr
      simp[AllL,rdV] at hr
      simp[hr,hi,hw1,hv3,hw2,hlv]
      repeat refine⟨by omega,?_⟩
      exact KD.mk
     ·intro tm hr
      simp[AllL,rdV] at hr
      simp[hr,hi,hw1,hv3,hw2,hlv]
      repeat refine⟨by omega,?_⟩
      exact KD.mk
     ·intro tm hr
      simp[AllL,rdV] at hr
      simp[hr,hi,hw1,hv3,hw2,hlv]
      repeat refine⟨by omega,?_⟩
      exact KD.mk
     ·intro tm hr
      simp[AllL,rdV] at hr
      simp[hr,hi,hw1,hv3,hw2,hlv]
      repeat refine⟨by omega,?_⟩
      exact KD.mk
    ·rfl
    ·simp[tmD,putD,hi,hw1,hv3,hw2,hlv];rfl
    ·simp[hi,hw1,hv3,hw2,hlv]
     repeat refine⟨by omega,?_⟩
     refine Bw CR Dj rfl (by simp[hv3]) (by omega) (l.length - i) (by omega) (by omega) (Ea (cap:=some c) rfl (AB l) (by simp;omega)) (FS (fs:=((encMove l).drop i).take (l.length - i)) hs3 (fun e he=>AB l e (List.mem_of_mem_drop (List.mem_of_mem_take he))) (by omega) (by simp[hn3];omega)) ?_
     try simp[hend]
     try simp[hi,hw1,hv3,hw2,hlv]
     rfl
    refine AW.step (by simp[hi,hw1];rfl) ?_
    refine AW.ret ?_
    refine Left.of (av:=_) (by simp[Tryz.f36,resV,resC,comp,hi,hw1];rfl) ?_
    exact LeftV.rows [some 2,some 1] (by simp;omega) (CQ (by omega)) rfl rfl (by simp[pickOb,hi,hw1]) (by simp[hi,hw1])
   ·have hc':l.length+1≤c:=by
     simp at h8
     omega
    refine AW.room 0 4 rfl rfl rfl (by simp[hlv];omega) rfl rfl ?_
    have hlv3:(lvs (encMove l)++[LV.u,LV.u,LV.u,LV.u]).length=(l.length+1)*4:=by simp[hlv];omega
    refine AW.skip ?_
    simp only[Post.seq,Post.block,if_true]
    refine AW.step (by simp[hi,hw1,hlv3,hlv];(repeat refine⟨by omega,?_⟩);rfl) ?_
    refine AW.seq ?_
    apply AW.step
    ·simp[hi,hw1,hlv3,hw2]
     repeat refine⟨by omega,?_⟩
     refine Eo (t:=26) (tb:=4) Tryz.func74 (by kernel_rfl) (by kernel_rfl) (by kernel_rfl) (by kernel_rfl) CR Dj rfl rfl (by omega) (by simp) ?_
     try simp[hi,hw1,hlv3,hw2]
     rfl
    refine AW.cond rfl (fun h14=>?_) (fun h14=>?_)
    ·try simp at h14
     apply AW.drawnP (V:=[_,_,_,_,_,_,_,_]) mixed [⟨[0],[],[(0,none)],false⟩,⟨[0],[],[(1,none)],false⟩,⟨[0],[],[(7,none)],false⟩,⟨[0],[1,2],[(70,some 1),(71,some 2)],false⟩,⟨[0],[0,1,2,3],[(69,some 0),(72,some 3)],false⟩,⟨[0],[],[(0,none)],false⟩,⟨[0],[],[(1,none)],false⟩,⟨[0],[5,6],[(74,some 5),(75,some 6)],false⟩,⟨[],[0,1,2,3,4,5,6,7],[],false⟩] 8 (by kernel_rfl) (by kernel_rfl)
     ·refine⟨?_,?_,?_,?_,?_,?_,?_,?_,trivial⟩
      ·intro tm hr
       simp[AllL,rdV] at hr
       simp[hr,hi,hw1,hlv3,hw2]
       repeat refine⟨by omega,?_⟩
       exact KD.mk
      ·intro tm hr
       simp[AllL,rdV] at hr
       simp[hr,hi,hw1,hlv3,hw2]
       repeat refine⟨by omega,?_⟩
       exact KD.mk
      ·intro tm hr
       simp[AllL,rdV] at hr
       simp[hr,hi,hw1,hlv3,hw2]
       repeat refine⟨by omega,?_⟩
       exact KD.mk
      ·intro tm hr
       simp[AllL,rdV] at hr
       simp[hr,hi,hw1,hlv3,hw2]
       repeat refine⟨by omega,?_⟩
       exact KD.mk
      ·intro tm hr
       simp[AllL,rdV] at hr
       simp[hr,hi,hw1,hlv3,hw2]
       repeat refine⟨by omega,?_⟩
       exact KD.mk
      ·intro tm hr
       simp[AllL,rdV] at hr
       simp[hr,hi,hw1,hlv3,hw2]
       repeat refine⟨by omega,?_⟩
       exact KD.mk
      ·intro tm hr
       simp[AllL,rdV] at hr
       simp[hr,hi,hw1,hlv3,hw2]
       repeat refine⟨by omega,?_⟩
       exact KD.mk
      ·intro tm hr
       simp[AllL,rdV] at hr
       simp[hr,hi,hw1,hlv3,hw2]
       repeat refine⟨by omega,?_⟩
       exact KD.mk
     ·rfl
     ·simp[tmD,putD,hi,hw1,hlv3,hw2];rfl
     ·simp[hi,hw1,hlv3,hw2]
      repeat refine⟨by omega,?_⟩
      refine Bw CR Dj rfl (by simp[hlv3]) (by omega) (l.length - i) (by omega) (by omega) (G1 (cap:=some c) (us:=[.u,.u,.u,.u]) rfl (AB l) (by simp;omega)) (Fh (fs:=((encMove l).drop i).take (l.length - i)) (AB l) (fun e he=>AB l e (List.mem_of_mem_drop (List.mem_of_mem_take he))) (by simp;omega) (by simp;omega)) ?_
      try simp[hi,hw1,hlv3,hw2]
      rfl
     obtain⟨es4,he4⟩:∃ es4,es4=(encMove l).take (i+1)++((encMove l).drop i).take (l.length - i):=⟨_,rfl⟩
     have hs4:∀ e∈es4,e.length=4:=by
      intro e he
      rw[he4] at he
      rcases List.mem_append.1 he with h|h
      ·exact AB l e (List.mem_of_mem_take h)
      ·exact AB l e (List.mem_of_mem_drop (List.mem_of_mem_take h))
     have hn4:es4.length=l.length+1:=by rw[he4];simp;omega
     have hend:es4.take i++encMove [x]++es4.drop (i+1)=encMove (insL l i x):=by
      have hA:((encMove l).take (i+1)).length=i+1:=by simp;omega
      rw[he4,List.drop_left' hA,List.take_append_of_le_length (by omega),List.take_take,Nat.min_eq_left (by omega),List.take_of_length_le (l:=(encMove l).drop i) (by simp)]
      simp[encMove,insL]
     have hv4:(lvs es4).length=(l.length+1)*4:=by rw[Ax hs4,hn4]
     simp only[← he4]
     apply AW.step
     ·simp[hi,hw1,hv4]
      repeat refine⟨by omega,?_⟩
      refine Bw CR Dj rfl (by simp[hv4]) (by omega) 1 (by omega) (by omega) (Ea (cap:=none) rfl (AB [x]) (by simp)) (C4 (fs:=encMove [x]) hs4 (AB _) (by rw[hn4,Iy];simp;omega)) ?_
      simp[hend]
      try simp[hi,hw1,hv4]
      rfl
     refine AW.step (by simp[hi,hw1];rfl) ?_
     refine AW.ret ?_
     refine Left.of (av:=_) (by simp[Tryz.f36,resV,resC,comp,hi,hw1];rfl) ?_
     refine LeftV.shrink 0 ((l.length+1)*4) rfl rfl rfl rfl ?_
     have hlf:(lvs (encMove (insL l i x))).take ((l.length+1)*4)=lvs (encMove (insL l i x)):=List.take_of_length_le (by rw[Ax (AB _)];simp[Es l i x hi])
     exact LeftV.rows [some 0,some 1] (by simp;omega) (CQ (by omega)) rfl rfl (by simp[pickOb,hlf]) (by simp)
    ·simp at h14
theorem Mg:Enters Tryz.prog 36:=enters Tryz.func36 (by kernel_rfl) rfl
theorem OX (l:List Move) (i:Int) (x:Move) (h:insB l i=true):Sound Tryz.prog 36 [.l (.r 0 4 0 l.length),.l (.s (.int .i64 i)),.l (.r 1 4 0 1)] [⟨92,4,true,none,lvs (encMove l)⟩,⟨92,4,true,none,lvs (encMove [x])⟩] (.l (.r 0 4 0 (l.length+1)))
  [some ⟨92,4,true,none,lvs (encMove (insL l i.toNat x))⟩,some ⟨92,4,true,none,lvs (encMove [x])⟩]:=by
 simp[insB] at h
 have:=M6 l i.toNat x (by omega) (by omega)
 rwa [show ((i.toNat:Nat):Int)=i by omega] at this
set_option maxRecDepth 8000 in
set_option maxHeartbeats 8000000 in
theorem M7 (l:List Pair) (i:Nat) (x:Pair) (hi:i≤l.length) (hl:l.length≤1000000000):Sound Tryz.prog 110 [.l (.r 0 6 0 l.length),.l (.s (.int .i64 i)),.l (.r 1 6 0 1)] [⟨114,6,true,none,lvs (encPair l)⟩,⟨114,6,true,none,lvs (encPair [x])⟩] (.l (.r 0 6 0 (l.length+1))) [some ⟨114,6,true,none,lvs (encPair (insL l i x))⟩,some ⟨114,6,true,none,lvs (encPair [x])⟩]:=by
 refine Sound.of_aw (fn:=Tryz.f110) (c:=_) Tryz.func110 rfl (by simp[Tryz.f110]) fun cx hG hnb=>?_
 rw[show Tryz.f110.ntmps=95 from rfl]
 have hn0:cx.nb=2:=hnb
 have hlv:(lvs (encPair l)).length=l.length*6:=by rw[Ax (Av l)];simp
 have hw1:=C3 (show l.length+1≤9223372036854775807 by omega)
 have hlx:(lvs (encPair [x])).length=6:=by rw[Ax (Av _)];simp
 refine AW.step (by simp[hi,hw1];rfl) ?_
 refine AW.step (by simp[hi,hw1,hlv];rfl) ?_
 refine AW.step (by simp[hi,hw1];rfl) ?_
 refine AW.seq ?_
 refine AW.step (by simp[hi,hw1];rfl) ?_
 refine AW.cond rfl (fun h3=>?_) (fun h3=>?_)
 ·simp at h3
 ·try simp at h3
  refine AW.skip ?_
  simp only[Post.seq,Post.block,if_true]
  refine AW.step (by simp[hi,hw1];rfl) ?_
  refine AW.seq ?_
  refine AW.step (by simp[hi,hw1];rfl) ?_
  refine AW.cond rfl (fun h6=>?_) (fun h6=>?_)
  ·simp at h6
   have hins:insL l i x=l++[x]:=by simp[insL,show i=l.length by omega]
   apply AW.step
   ·simp[hi,hw1]
    refine Fg (acc:=encPair l) (ys:=encPair [x]) (cap:=none) (k:=1) BP BA (by simp) (Is (e:=114) (cap:=none) (by simp) (Av _) (by simp)) (Av _) (by simp) (by simp) (by omega) ?_
    simp[St.grow,obsBut,← A8,← hins]
    try simp[hi,hw1]
    rfl
   refine AW.ret ?_
   refine Left.of (av:=_) (by simp[Tryz.f110,resV,resC,comp,hi,hw1];rfl) ?_
   exact LeftV.rows [some 0,some 1] (by simp;omega) (CQ (by omega)) rfl rfl (by simp[pickOb,hi,hw1]) (by simp[hi,hw1])
  ·simp at h6
   have hil:i<l.length:=by omega
   have hin:(i:Int)+(l.length+1 - i:Nat)=l.length+1:=by omega
   have hin2:i+(l.length+1 - i)=l.length+1:=by omega
   have hw2:=C3 (show i+1≤9223372036854775807 by omega)
   refine AW.skip ?_
   simp only[Post.seq,Post.block,if_true]
   refine AW.seq ?_
   apply AW.stepK
   simp[hi,hw1]
   refine Hz BP rfl rfl fun c hc1 _ hc3=>?_
   simp[hw1]
   unfold KK
   refine AW.cond rfl (fun h8=>?_) (fun h8=>?_)
   ·simp at h8
    have hcl:c=l.length:=by omega
    obtain⟨es2,he2⟩:∃ es2,es2=(encPair l).take i++List.replicate (l.length+1 - i) [.v (.string ⟨#[]⟩),.v (.int .i64 0),.v (.string ⟨#[]⟩),.v (.slice none 0 0),.v (.slice none 0 0),.v (.int .i64 0)]:=⟨_,rfl⟩
    have hs2:∀ e∈es2,e.length=6:=by
     intro e he
     rw[he2] at he
     rcases List.mem_append.1 he with h|h
     ·exact Av l e (List.mem_of_mem_take h)
     ·rw[(List.mem_replicate.1 h).2];rfl
    have hn2:es2.length=l.length+1:=by rw[he2];simp;omega
    have hv2:(lvs es2).length=(l.length+1)*6:=by rw[Ax hs2,hn2]
    obtain⟨es3,he3⟩:∃ es3,es3=es2.take i++encPair [x]++es2.drop (i+1):=⟨_,rfl⟩
    have hs3:∀ e∈es3,e.length=6:=by
     intro e he
     rw[he3] at he
     simp only[List.mem_append] at he
     rcases he with (h|h)|h
     ·exact hs2 e (List.mem_of_mem_take h)
     ·exact Av _ e h
     ·exact hs2 e (List.mem_of_mem_drop h)
    have hn3:es3.length=l.length+1:=by rw[he3];simp[hn2];omega
    have hv3:(lvs es3).length=(l.length+1)*6:=by rw[Ax hs3,hn3]
    have hend:es3.take (i+1)++((encPair l).drop i).take (l.length - i)=encPair (insL l i x):=by
     rw[List.take_of_length_le (l:=(encPair l).drop i) (by simp)]
     rw[he3,List.take_append_of_le_length (by simp[hn2];omega),List.take_of_length_le (by simp;omega),he2,List.take_append_of_le_length (by simp;omega)]
     simp[encPair,insL,List.take_take]
    apply AW.step
    ·simp[hi,hw1,hlv]
     repeat refine⟨by omega,?_⟩
     refine Gy (zr:=[.v (.string ⟨#[]⟩),.v (.int .i64 0),.v (.string ⟨#[]⟩),.v (.slice none 0 0),.v (.slice none 0 0),.v (.int .i64 0)]) (es:=encPair l) BP BA rfl ⟨rfl,rfl,by omega⟩ rfl rfl (Av _) (by simp;omega) (l.length+1 - i) (by rw[Fz (by omega) (by omega)];omega) (by omega) (by omega) (by omega) (by omega) ?_
     simp[hin2]
     try simp[hi,hw1,hlv]
     rfl
    apply AW.step
    ·simp[hi,hw1,hv2,← he2]
     repeat refine⟨by omega,?_⟩
     refine Bw BP BA rfl (by simp[hv2]) (by omega) 1 (by omega) (by omega) (Ea (cap:=none) rfl (Av [x]) (by simp)) (C4 (fs:=encPair [x]) hs2 (Av _) (by simp[hn2];omega)) ?_
     simp[← he3]
     try simp[hi,hw1,hv2,← he2]
     rfl
    apply AW.drawnP (V:=[_,_,_,_,_,_,_,_]) mixed [⟨[0],[],[(9,none)],false⟩,⟨[0],[],[(1,none)],false⟩,⟨[0],[],[(7,none)],false⟩,⟨[0],[1,2],[(47,some 1),(48,some 2)],false⟩,⟨[0],[0,1,2,3],[(46,some 0),(49,some 3)],false⟩,⟨[0],[],[(0,none)],false⟩,⟨[0],[],[(1,none)],false⟩,⟨[0],[5,6],[(51,some 5),(52,some 6)],false⟩,⟨[],[0,1,2,3,4,5,6,7],[],false⟩] 8 (by kernel_rfl) (by kernel_rfl)
    ·refine⟨?_,?_,?_,?_,?_,?_,?_,?_,trivial⟩
     ·intro tm hr
      simp[AllL,rdV] at hr
      simp[hr,hi,hw1,hv3,hw2,hlv]
      repeat refine⟨by omega,?_⟩
      exact KD.mk
     ·intro tm hr
      simp[AllL,rdV] at hr
      simp[hr,hi,hw1,hv3,hw2,hlv]
      repeat refine⟨by omega,?_⟩
      exact KD.mk
     ·intro tm hr
      simp[AllL,rdV] at hr
      simp[hr,hi,hw1,hv3,hw2,hlv]
      repeat refine⟨by omega,?_⟩
      exact KD.mk
     ·intro tm hr
      simp[AllL,rdV] at hr
      simp[hr,hi,hw1,hv3,hw2,hlv]
      repeat refine⟨by omega,?_⟩
      exact KD.mk
     ·intro tm hr
      simp[AllL,rdV] at hr
      simp[hr,hi,hw1,hv3,hw2,hlv]
      repeat refine⟨by omega,?_⟩
      exact KD.mk
     ·intro tm hr
      simp[AllL,rdV] at hr
      simp[hr,hi,hw1,hv3,hw2,hlv]
      repeat refine⟨by omega,?_⟩
      exact KD.mk
     ·intro tm hr
      simp[AllL,rdV] at hr
      simp[hr,hi,hw1,hv3,hw2,hlv]
      repeat refine⟨by omega,?_⟩
      exact KD.mk
     ·intro tm hr
      simp[AllL,rdV] at hr
      simp[hr,hi,hw1,hv3,hw2,hlv]
      repeat refine⟨by omega,?_⟩
      exact KD.mk
    ·rfl
    ·simp[tmD,putD,hi,hw1,hv3,hw2,hlv];rfl
    ·simp[hi,hw1,hv3,hw2,hlv]
     repeat refine⟨by omega,?_⟩
     refine Bw BP BA rfl (by simp[hv3]) (by omega) (l.length - i) (by omega) (by omega) (Ea (cap:=some c) rfl (Av l) (by simp;omega)) (FS (fs:=((encPair l).drop i).take (l.length - i)) hs3 (fun e he=>Av l e (List.mem_of_mem_drop (List.mem_of_mem_take he))) (by omega) (by simp[hn3];omega)) ?_
     try simp[hend]
     try simp[hi,hw1,hv3,hw2,hlv]
     rfl
    refine AW.step (by simp[hi,hw1];rfl) ?_
    refine AW.ret ?_
    refine Left.of (av:=_) (by simp[Tryz.f110,resV,resC,comp,hi,hw1];rfl) ?_
    exact LeftV.rows [some 2,some 1] (by simp;omega) (CQ (by omega)) rfl rfl (by simp[pickOb,hi,hw1]) (by simp[hi,hw1])
   ·have hc':l.length+1≤c:=by
     simp at h8
     omega
    refine AW.room 0 6 rfl rfl rfl (by simp[hlv];omega) rfl rfl ?_
    have hlv3:(lvs (encPair l)++[LV.u,LV.u,LV.u,LV.u,LV.u,LV.u]).length=(l.length+1)*6:=by simp[hlv];omega
    refine AW.skip ?_
    simp only[Post.seq,Post.block,if_true]
    refine AW.step (by simp[hi,hw1,hlv3,hlv];(repeat refine⟨by omega,?_⟩);rfl) ?_
    refine AW.seq ?_
    apply AW.step
    ·simp[hi,hw1,hlv3,hw2]
     repeat refine⟨by omega,?_⟩
     refine Eo (t:=25) (tb:=4) Tryz.func129 (by kernel_rfl) (by kernel_rfl) (by kernel_rfl) (by kernel_rfl) BP BA rfl rfl (by omega) (by simp) ?_
     try simp[hi,hw1,hlv3,hw2]
     rfl
    refine AW.cond rfl (fun h14=>?_) (fun h14=>?_)
    ·try simp at h14
     apply AW.drawnP (V:=[_,_,_,_,_,_,_,_]) mixed [⟨[0],[],[(0,none)],false⟩,⟨[0],[],[(1,none)],false⟩,⟨[0],[],[(7,none)],false⟩,⟨[0],[1,2],[(70,some 1),(71,some 2)],false⟩,⟨[0],[0,1,2,3],[(69,some 0),(72,some 3)],false⟩,⟨[0],[],[(0,none)],false⟩,⟨[0],[],[(1,none)],false⟩,⟨[0],[5,6],[(74,some 5),(75,some 6)],false⟩,⟨[],[0,1,2,3,4,5,6,7],[],false⟩] 8 (by kernel_rfl) (by kernel_rfl)
     ·refine⟨?_,?_,?_,?_,?_,?_,?_,?_,trivial⟩
      ·intro tm hr
       simp[AllL,rdV] at hr
       simp[hr,hi,hw1,hlv3,hw2]
       repeat refine⟨by omega,?_⟩
       exact KD.mk
      ·intro tm hr
       simp[AllL,rdV] at hr
       simp[hr,hi,hw1,hlv3,hw2]
       repeat refine⟨by omega,?_⟩
       exact KD.mk
      ·intro tm hr
       simp[AllL,rdV] at hr
       simp[hr,hi,hw1,hlv3,hw2]
       repeat refine⟨by omega,?_⟩
       exact KD.mk
      ·intro tm hr
       simp[AllL,rdV] at hr
       simp[hr,hi,hw1,hlv3,hw2]
       repeat refine⟨by omega,?_⟩
       exact KD.mk
      ·intro tm hr
       simp[AllL,rdV] at hr
       simp[hr,hi,hw1,hlv3,hw2]
       repeat refine⟨by omega,?_⟩
       exact KD.mk
      ·intro tm hr
       simp[AllL,rdV] at hr
       simp[hr,hi,hw1,hlv3,hw2]
       repeat refine⟨by omega,?_⟩
       exact KD.mk
      ·intro tm hr
       simp[AllL,rdV] at hr
       simp[hr,hi,hw1,hlv3,hw2]
       repeat refine⟨by omega,?_⟩
       exact KD.mk
      ·intro tm hr
       simp[AllL,rdV] at hr
       simp[hr,hi,hw1,hlv3,hw2]
       repeat refine⟨by omega,?_⟩
       exact KD.mk
     ·rfl
     ·simp[tmD,putD,hi,hw1,hlv3,hw2];rfl
     ·simp[hi,hw1,hlv3,hw2]
      repeat refine⟨by omega,?_⟩
      refine Bw BP BA rfl (by simp[hlv3]) (by omega) (l.length - i) (by omega) (by omega) (G1 (cap:=some c) (us:=[.u,.u,.u,.u,.u,.u]) rfl (Av l) (by simp;omega)) (Fh (fs:=((encPair l).drop i).take (l.length - i)) (Av l) (fun e he=>Av l e (List.mem_of_mem_drop (List.mem_of_mem_take he))) (by simp;omega) (by simp;omega)) ?_
      try simp[hi,hw1,hlv3,hw2]
      rfl
     obtain⟨es4,he4⟩:∃ es4,es4=(encPair l).take (i+1)++((encPair l).drop i).take (l.length - i):=⟨_,rfl⟩
     have hs4:∀ e∈es4,e.length=6:=by
      intro e he
      rw[he4] at he
      rcases List.mem_append.1 he with h|h
      ·exact Av l e (List.mem_of_mem_take h)
      ·exact Av l e (List.mem_of_mem_drop (List.mem_of_mem_take h))
     have hn4:es4.length=l.length+1:=by rw[he4];simp;omega
     have hend:es4.take i++encPair [x]++es4.drop (i+1)=encPair (insL l i x):=by
      have hA:((encPair l).take (i+1)).length=i+1:=by simp;omega
      rw[he4,List.drop_left' hA,List.take_append_of_le_length (by omega),List.take_take,Nat.min_eq_left (by omega),List.take_of_length_le (l:=(encPair l).drop i) (by simp)]
      simp[encPair,insL]
     have hv4:(lvs es4).length=(l.length+1)*6:=by rw[Ax hs4,hn4]
     simp only[← he4]
     apply AW.step
     ·simp[hi,hw1,hv4]
      repeat refine⟨by omega,?_⟩
      refine Bw BP BA rfl (by simp[hv4]) (by omega) 1 (by omega) (by omega) (Ea (cap:=none) rfl (Av [x]) (by simp)) (C4 (fs:=encPair [x]) hs4 (Av _) (by rw[hn4,Ix];simp;omega)) ?_
      simp[hend]
      try simp[hi,hw1,hv4]
      rfl
     refine AW.step (by simp[hi,hw1];rfl) ?_
     refine AW.ret ?_
     refine Left.of (av:=_) (by simp[Tryz.f110,resV,resC,comp,hi,hw1];rfl) ?_
     refine LeftV.shrink 0 ((l.length+1)*6) rfl rfl rfl rfl ?_
     have hlf:(lvs (encPair (insL l i x))).take ((l.length+1)*6)=lvs (encPair (insL l i x)):=List.take_of_length_le (by rw[Ax (Av _)];simp[Es l i x hi])
     exact LeftV.rows [some 0,some 1] (by simp;omega) (CQ (by omega)) rfl rfl (by simp[pickOb,hlf]) (by simp)
    ·simp at h14
theorem Mh:Enters Tryz.prog 110:=enters Tryz.func110 (by kernel_rfl) rfl
theorem OY (l:List Pair) (i:Int) (x:Pair) (h:insB l i=true):Sound Tryz.prog 110 [.l (.r 0 6 0 l.length),.l (.s (.int .i64 i)),.l (.r 1 6 0 1)] [⟨114,6,true,none,lvs (encPair l)⟩,⟨114,6,true,none,lvs (encPair [x])⟩] (.l (.r 0 6 0 (l.length+1)))
  [some ⟨114,6,true,none,lvs (encPair (insL l i.toNat x))⟩,some ⟨114,6,true,none,lvs (encPair [x])⟩]:=by
 simp[insB] at h
 have:=M7 l i.toNat x (by omega) (by omega)
 rwa [show ((i.toNat:Nat):Int)=i by omega] at this
set_option maxRecDepth 8000 in
set_option maxHeartbeats 8000000 in
theorem M8 (l:List Seen) (i:Nat) (x:Seen) (hi:i≤l.length) (hl:l.length≤1000000000):Sound Tryz.prog 53 [.l (.r 0 3 0 l.length),.l (.s (.int .i64 i)),.l (.r 1 3 0 1)] [⟨100,3,true,none,lvs (encSeen l)⟩,⟨100,3,true,none,lvs (encSeen [x])⟩] (.l (.r 0 3 0 (l.length+1))) [some ⟨100,3,true,none,lvs (encSeen (insL l i x))⟩,some ⟨100,3,true,none,lvs (encSeen [x])⟩]:=by
 refine Sound.of_aw (fn:=Tryz.f53) (c:=_) Tryz.func53 rfl (by simp[Tryz.f53]) fun cx hG hnb=>?_
 rw[show Tryz.f53.ntmps=95 from rfl]
 have hn0:cx.nb=2:=hnb
 have hlv:(lvs (encSeen l)).length=l.length*3:=by rw[Ax (AK l)];simp
 have hw1:=C3 (show l.length+1≤9223372036854775807 by omega)
 have hlx:(lvs (encSeen [x])).length=3:=by rw[Ax (AK _)];simp
 refine AW.step (by simp[hi,hw1];rfl) ?_
 refine AW.step (by simp[hi,hw1,hlv];rfl) ?_
 refine AW.step (by simp[hi,hw1];rfl) ?_
 refine AW.seq ?_
 refine AW.step (by simp[hi,hw1];rfl) ?_
 refine AW.cond rfl (fun h3=>?_) (fun h3=>?_)
 ·simp at h3
 ·try simp at h3
  refine AW.skip ?_
  simp only[Post.seq,Post.block,if_true]
  refine AW.step (by simp[hi,hw1];rfl) ?_
  refine AW.seq ?_
  refine AW.step (by simp[hi,hw1];rfl) ?_
  refine AW.cond rfl (fun h6=>?_) (fun h6=>?_)
  ·simp at h6
   have hins:insL l i x=l++[x]:=by simp[insL,show i=l.length by omega]
   apply AW.step
   ·simp[hi,hw1]
    refine Fg (acc:=encSeen l) (ys:=encSeen [x]) (cap:=none) (k:=1) Dk C5 (by simp) (Is (e:=100) (cap:=none) (by simp) (AK _) (by simp)) (AK _) (by simp) (by simp) (by omega) ?_
    simp[St.grow,obsBut,← IA,← hins]
    try simp[hi,hw1]
    rfl
   refine AW.ret ?_
   refine Left.of (av:=_) (by simp[Tryz.f53,resV,resC,comp,hi,hw1];rfl) ?_
   exact LeftV.rows [some 0,some 1] (by simp;omega) (CQ (by omega)) rfl rfl (by simp[pickOb,hi,hw1]) (by simp[hi,hw1])
  ·simp at h6
   have hil:i<l.length:=by omega
   have hin:(i:Int)+(l.length+1 - i:Nat)=l.length+1:=by omega
   have hin2:i+(l.length+1 - i)=l.length+1:=by omega
   have hw2:=C3 (show i+1≤9223372036854775807 by omega)
   refine AW.skip ?_
   simp only[Post.seq,Post.block,if_true]
   refine AW.seq ?_
   apply AW.stepK
   simp[hi,hw1]
   refine Hz Dk rfl rfl fun c hc1 _ hc3=>?_
   simp[hw1]
   unfold KK
   refine AW.cond rfl (fun h8=>?_) (fun h8=>?_)
   ·simp at h8
    have hcl:c=l.length:=by omega
    obtain⟨es2,he2⟩:∃ es2,es2=(encSeen l).take i++List.replicate (l.length+1 - i) [.v (.int .i64 0),.v (.int .i64 0),.v (.int .i64 0)]:=⟨_,rfl⟩
    have hs2:∀ e∈es2,e.length=3:=by
     intro e he
     rw[he2] at he
     rcases List.mem_append.1 he with h|h
     ·exact AK l e (List.mem_of_mem_take h)
     ·rw[(List.mem_replicate.1 h).2];rfl
    have hn2:es2.length=l.length+1:=by rw[he2];simp;omega
    have hv2:(lvs es2).length=(l.length+1)*3:=by rw[Ax hs2,hn2]
    obtain⟨es3,he3⟩:∃ es3,es3=es2.take i++encSeen [x]++es2.drop (i+1):=⟨_,rfl⟩
    have hs3:∀ e∈es3,e.length=3:=by
     intro e he
     rw[he3] at he
     simp only[List.mem_append] at he
     rcases he with (h|h)|h
     ·exact hs2 e (List.mem_of_mem_take h)
     ·exact AK _ e h
     ·exact hs2 e (List.mem_of_mem_drop h)
    have hn3:es3.length=l.length+1:=by rw[he3];simp[hn2];omega
    have hv3:(lvs es3).length=(l.length+1)*3:=by rw[Ax hs3,hn3]
    have hend:es3.take (i+1)++((encSeen l).drop i).take (l.length - i)=encSeen (insL l i x):=by
     rw[List.take_of_length_le (l:=(encSeen l).drop i) (by simp)]
     rw[he3,List.take_append_of_le_length (by simp[hn2];omega),List.take_of_length_le (by simp;omega),he2,List.take_append_of_le_length (by simp;omega)]
     simp[encSeen,insL,List.take_take]
    apply AW.step
    ·simp[hi,hw1,hlv]
     repeat refine⟨by omega,?_⟩
     refine Gy (zr:=[.v (.int .i64 0),.v (.int .i64 0),.v (.int .i64 0)]) (es:=encSeen l) Dk C5 rfl ⟨rfl,rfl,by omega⟩ rfl rfl (AK _) (by simp;omega) (l.length+1 - i) (by rw[Fz (by omega) (by omega)];omega) (by omega) (by omega) (by omega) (by omega) ?_
     simp[hin2]
     try simp[hi,hw1,hlv]
     rfl
    apply AW.step
    ·simp[hi,hw1,hv2,← he2]
     repeat refine⟨by omega,?_⟩
     refine Bw Dk C5 rfl (by simp[hv2]) (by omega) 1 (by omega) (by omega) (Ea (cap:=none) rfl (AK [x]) (by simp)) (C4 (fs:=encSeen [x]) hs2 (AK _) (by simp[hn2];omega)) ?_
     simp[← he3]
     try simp[hi,hw1,hv2,← he2]
     rfl
    apply AW.drawnP (V:=[_,_,_,_,_,_,_,_]) mixed [⟨[0],[],[(9,none)],false⟩,⟨[0],[],[(1,none)],false⟩,⟨[0],[],[(7,none)],false⟩,⟨[0],[1,2],[(47,some 1),(48,some 2)],false⟩,⟨[0],[0,1,2,3],[(46,some 0),(49,some 3)],false⟩,⟨[0],[],[(0,none)],false⟩,⟨[0],[],[(1,none)],false⟩,⟨[0],[5,6],[(51,some 5),(52,some 6)],false⟩,⟨[],[0,1,2,3,4,5,6,7],[],false⟩] 8 (by kernel_rfl) (by kernel_rfl)
    ·refine⟨?_,?_,?_,?_,?_,?_,?_,?_,trivial⟩
     ·intro tm hr
      simp[AllL,rdV] at hr
      simp[hr,hi,hw1,hv3,hw2,hlv]
      repeat refine⟨by omega,?_⟩
      exact KD.mk
     ·intro tm hr
      simp[AllL,rdV] at hr
      simp[hr,hi,hw1,hv3,hw2,hlv]
      repeat refine⟨by omega,?_⟩
      exact KD.mk
     ·intro tm hr
      simp[AllL,rdV] at hr
      simp[hr,hi,hw1,hv3,hw2,hlv]
      repeat refine⟨by omega,?_⟩
      exact KD.mk
     ·intro tm hr
      simp[AllL,rdV] at hr
      simp[hr,hi,hw1,hv3,hw2,hlv]
      repeat refine⟨by omega,?_⟩
      exact KD.mk
     ·intro tm hr
      simp[AllL,rdV] at hr
      simp[hr,hi,hw1,hv3,hw2,hlv]
      repeat refine⟨by omega,?_⟩
      exact KD.mk
     ·intro tm hr
      simp[AllL,rdV] at hr
      simp[hr,hi,hw1,hv3,hw2,hlv]
      repeat refine⟨by omega,?_⟩
      exact KD.mk
     ·intro tm hr
      simp[AllL,rdV] at hr
      simp[hr,hi,hw1,hv3,hw2,hlv]
      repeat refine⟨by omega,?_⟩
      exact KD.mk
     ·intro tm hr
      simp[AllL,rdV] at hr
      simp[hr,hi,hw1,hv3,hw2,hlv]
      repeat refine⟨by omega,?_⟩
      exact KD.mk
    ·rfl
    ·simp[tmD,putD,hi,hw1,hv3,hw2,hlv];rfl
    ·simp[hi,hw1,hv3,hw2,hlv]
     repeat refine⟨by omega,?_⟩
     refine Bw Dk C5 rfl (by simp[hv3]) (by omega) (l.length - i) (by omega) (by omega) (Ea (cap:=some c) rfl (AK l) (by simp;omega)) (FS (fs:=((encSeen l).drop i).take (l.length - i)) hs3 (fun e he=>AK l e (List.mem_of_mem_drop (List.mem_of_mem_take he))) (by omega) (by simp[hn3];omega)) ?_
     try simp[hend]
     try simp[hi,hw1,hv3,hw2,hlv]
     rfl
    refine AW.step (by simp[hi,hw1];rfl) ?_
    refine AW.ret ?_
    refine Left.of (av:=_) (by simp[Tryz.f53,resV,resC,comp,hi,hw1];rfl) ?_
    exact LeftV.rows [some 2,some 1] (by simp;omega) (CQ (by omega)) rfl rfl (by simp[pickOb,hi,hw1]) (by simp[hi,hw1])
   ·have hc':l.length+1≤c:=by
     simp at h8
     omega
    refine AW.room 0 3 rfl rfl rfl (by simp[hlv];omega) rfl rfl ?_
    have hlv3:(lvs (encSeen l)++[LV.u,LV.u,LV.u]).length=(l.length+1)*3:=by simp[hlv];omega
    refine AW.skip ?_
    simp only[Post.seq,Post.block,if_true]
    refine AW.step (by simp[hi,hw1,hlv3,hlv];(repeat refine⟨by omega,?_⟩);rfl) ?_
    refine AW.seq ?_
    apply AW.step
    ·simp[hi,hw1,hlv3,hw2]
     repeat refine⟨by omega,?_⟩
     refine Eo (t:=27) (tb:=4) Tryz.func89 (by kernel_rfl) (by kernel_rfl) (by kernel_rfl) (by kernel_rfl) Dk C5 rfl rfl (by omega) (by simp) ?_
     try simp[hi,hw1,hlv3,hw2]
     rfl
    refine AW.cond rfl (fun h14=>?_) (fun h14=>?_)
    ·try simp at h14
     apply AW.drawnP (V:=[_,_,_,_,_,_,_,_]) mixed [⟨[0],[],[(0,none)],false⟩,⟨[0],[],[(1,none)],false⟩,⟨[0],[],[(7,none)],false⟩,⟨[0],[1,2],[(70,some 1),(71,some 2)],false⟩,⟨[0],[0,1,2,3],[(69,some 0),(72,some 3)],false⟩,⟨[0],[],[(0,none)],false⟩,⟨[0],[],[(1,none)],false⟩,⟨[0],[5,6],[(74,some 5),(75,some 6)],false⟩,⟨[],[0,1,2,3,4,5,6,7],[],false⟩] 8 (by kernel_rfl) (by kernel_rfl)
     ·refine⟨?_,?_,?_,?_,?_,?_,?_,?_,trivial⟩
      ·intro tm hr
       simp[AllL,rdV] at hr
       simp[hr,hi,hw1,hlv3,hw2]
       repeat refine⟨by omega,?_⟩
       exact KD.mk
      ·intro tm hr
       simp[AllL,rdV] at hr
       simp[hr,hi,hw1,hlv3,hw2]
       repeat refine⟨by omega,?_⟩
       exact KD.mk
      ·intro tm hr
       simp[AllL,rdV] at hr
       simp[hr,hi,hw1,hlv3,hw2]
       repeat refine⟨by omega,?_⟩
       exact KD.mk
      ·intro tm hr
       simp[AllL,rdV] at hr
       simp[hr,hi,hw1,hlv3,hw2]
       repeat refine⟨by omega,?_⟩
       exact KD.mk
      ·intro tm hr
       simp[AllL,rdV] at hr
       simp[hr,hi,hw1,hlv3,hw2]
       repeat refine⟨by omega,?_⟩
       exact KD.mk
      ·intro tm hr
       simp[AllL,rdV] at hr
       simp[hr,hi,hw1,hlv3,hw2]
       repeat refine⟨by omega,?_⟩
       exact KD.mk
      ·intro tm hr
       simp[AllL,rdV] at hr
       simp[hr,hi,hw1,hlv3,hw2]
       repeat refine⟨by omega,?_⟩
       exact KD.mk
      ·intro tm hr
       simp[AllL,rdV] at hr
       simp[hr,hi,hw1,hlv3,hw2]
       repeat refine⟨by omega,?_⟩
       exact KD.mk
     ·rfl
     ·simp[tmD,putD,hi,hw1,hlv3,hw2];rfl
     ·simp[hi,hw1,hlv3,hw2]
      repeat refine⟨by omega,?_⟩
      refine Bw Dk C5 rfl (by simp[hlv3]) (by omega) (l.length - i) (by omega) (by omega) (G1 (cap:=some c) (us:=[.u,.u,.u]) rfl (AK l) (by simp;omega)) (Fh (fs:=((encSeen l).drop i).take (l.length - i)) (AK l) (fun e he=>AK l e (List.mem_of_mem_drop (List.mem_of_mem_take he))) (by simp;omega) (by simp;omega)) ?_
      try simp[hi,hw1,hlv3,hw2]
      rfl
     obtain⟨es4,he4⟩:∃ es4,es4=(encSeen l).take (i+1)++((encSeen l).drop i).take (l.length - i):=⟨_,rfl⟩
     have hs4:∀ e∈es4,e.length=3:=by
      intro e he
      rw[he4] at he
      rcases List.mem_append.1 he with h|h
      ·exact AK l e (List.mem_of_mem_take h)
      ·exact AK l e (List.mem_of_mem_drop (List.mem_of_mem_take h))
     have hn4:es4.length=l.length+1:=by rw[he4];simp;omega
     have hend:es4.take i++encSeen [x]++es4.drop (i+1)=encSeen (insL l i x):=by
      have hA:((encSeen l).take (i+1)).length=i+1:=by simp;omega
      rw[he4,List.drop_left' hA,List.take_append_of_le_length (by omega),List.take_take,Nat.min_eq_left (by omega),List.take_of_length_le (l:=(encSeen l).drop i) (by simp)]
      simp[encSeen,insL]
     have hv4:(lvs es4).length=(l.length+1)*3:=by rw[Ax hs4,hn4]
     simp only[← he4]
     apply AW.step
     ·simp[hi,hw1,hv4]
      repeat refine⟨by omega,?_⟩
      refine Bw Dk C5 rfl (by simp[hv4]) (by omega) 1 (by omega) (by omega) (Ea (cap:=none) rfl (AK [x]) (by simp)) (C4 (fs:=encSeen [x]) hs4 (AK _) (by rw[hn4,Iz];simp;omega)) ?_
      simp[hend]
      try simp[hi,hw1,hv4]
      rfl
     refine AW.step (by simp[hi,hw1];rfl) ?_
     refine AW.ret ?_
     refine Left.of (av:=_) (by simp[Tryz.f53,resV,resC,comp,hi,hw1];rfl) ?_
     refine LeftV.shrink 0 ((l.length+1)*3) rfl rfl rfl rfl ?_
     have hlf:(lvs (encSeen (insL l i x))).take ((l.length+1)*3)=lvs (encSeen (insL l i x)):=List.take_of_length_le (by rw[Ax (AK _)];simp[Es l i x hi])
     exact LeftV.rows [some 0,some 1] (by simp;omega) (CQ (by omega)) rfl rfl (by simp[pickOb,hlf]) (by simp)
    ·simp at h14
theorem Mi:Enters Tryz.prog 53:=enters Tryz.func53 (by kernel_rfl) rfl
theorem OZ (l:List Seen) (i:Int) (x:Seen) (h:insB l i=true):Sound Tryz.prog 53 [.l (.r 0 3 0 l.length),.l (.s (.int .i64 i)),.l (.r 1 3 0 1)] [⟨100,3,true,none,lvs (encSeen l)⟩,⟨100,3,true,none,lvs (encSeen [x])⟩] (.l (.r 0 3 0 (l.length+1)))
  [some ⟨100,3,true,none,lvs (encSeen (insL l i.toNat x))⟩,some ⟨100,3,true,none,lvs (encSeen [x])⟩]:=by
 simp[insB] at h
 have:=M8 l i.toNat x (by omega) (by omega)
 rwa [show ((i.toNat:Nat):Int)=i by omega] at this
theorem i64_0:IntKind.i64.wrap 0=0:=by decide
def flatL {α:Type} (ss:List (List α)) (i:Nat):List α:=(ss.take i).flatten
theorem I9 {α:Type} {ss:List (List α)} {i:Nat} {x:List α} (hx:ss[i]?=some x):flatL ss (i+1)=flatL ss i++x:=by unfold flatL;rw[← MY hx];simp
theorem GG {α:Type} (ss:List (List α)) (i:Nat):(flatL ss i).length≤(flatL ss ss.length).length:=by
 have:flatL ss ss.length=flatL ss i++(ss.drop i).flatten:=by unfold flatL;rw[← List.flatten_append,List.take_append_drop,List.take_length]
 rw[this]
 simp
theorem ID {α:Type} (ss:List (List α)):flatL ss 0=[]:=rfl
theorem Ja {α:Type} (ss:List (List α)):flatL ss ss.length=ss.flatten:=by unfold flatL;rw[List.take_length]
def catB {α:Type} (ss:List (List α)):Bool:=decide (ss.flatten.length≤1000000000∧ss.length≤1000000000)
def Bi:List Value:=[.string ⟨#[]⟩,.bool false,.int .i64 0,.string ⟨#[]⟩,.slice none 0 0,.slice none 0 0,.int .i64 0]
set_option maxRecDepth 8000 in
set_option maxHeartbeats 8000000 in
theorem K8 (n:Nat) (hn:n≤1000000000):Sound Tryz.prog 132 [.l (.s (.slice none 0 0)),.l (.s (.int .i64 n))] [] (.l (.r 0 7 0 0)) [some ⟨59,7,true,none,(repZ n Bi).map .s⟩]:=by
 refine Sound.of_aw (fn:=Tryz.f132) (c:=_) Tryz.func132 rfl (by simp[Tryz.f132]) fun cx hG hnb=>?_
 rw[show Tryz.f132.ntmps=27 from rfl]
 have hn0:cx.nb=0:=hnb
 refine AW.step (by simp;rfl) ?_
 refine AW.seq ?_
 refine AW.step (by simp;rfl) ?_
 refine AW.cond rfl (fun h1=>?_) (fun h1=>?_)
 ·simp at h1
  omega
 ·try simp at h1
  refine AW.skip ?_
  simp only[Post.seq,Post.block,if_true]
  refine AW.seq ?_
  refine AW.step (by simp[i64_0,Fz (show (-9223372036854775808:Int)≤(n:Int) by omega) (show (n:Int)≤9223372036854775807 by omega)];rfl) ?_
  refine AW.step (by simp;rfl) ?_
  refine AW.cond rfl (fun h4=>?_) (fun h4=>?_)
  ·simp at h4
   refine AW.last (by simp[h4,show n*104≤281474976710656 by omega,show n≤4611686018427387904 by omega];rfl) ?_
   simp only[Post.seq,Post.block,if_true]
   refine AW.step (by simp;rfl) ?_
   refine AW.ret ?_
   refine Left.of (av:=_) (by simp[Tryz.f132,resV,resC,comp];rfl) ?_
   exact LeftV.nowN 1 hn0 (by simp[Bi,repZ]) (by simp) rfl
  ·simp at h4
   subst h4
   refine AW.nilRow 0 59 7 0 (by simp) rfl rfl ?_
   refine AW.skip ?_
   simp only[Post.seq,Post.block,if_true]
   refine AW.step (by simp;rfl) ?_
   refine AW.ret ?_
   refine Left.of (av:=_) (by simp[Tryz.f132,resV,resC,comp];rfl) ?_
   exact LeftV.nowN 1 hn0 (by simp[Bi,repZ]) (by simp) rfl
theorem Kn:Enters Tryz.prog 132:=enters Tryz.func132 (by kernel_rfl) rfl
theorem CX (m:Nat):((repZ m Bi).map LV.s).length=m*7:=by
 rw[List.length_map,Bg];rfl
theorem CF (l:List Effect):(lvs (encEffect l)).length=l.length*7:=by
 rw[Ax (Bh l),E1]
theorem HD (A x:List Effect) (m:Nat) (h:x.length≤m):setAt (lvs (encEffect A)++(repZ m Bi).map LV.s) (A.length*7) (lvs (encEffect x))=lvs (encEffect (A++x))++(repZ (m - x.length) Bi).map LV.s:=by
 have hz:=CX m
 have hA:=CF A
 have hx:=CF x
 have e1:repZ m Bi=repZ x.length Bi++repZ (m - x.length) Bi:=by rw[← Hw,Nat.add_sub_cancel' h]
 rw[Cl _ _ _ (by rw[List.length_append,hz,hA,hx];omega),CE,CD]
 rw[List.take_append_of_le_length (by omega),List.take_of_length_le (by omega),hx]
 congr 1
 rw[← List.drop_drop,← hA,List.drop_left,e1,List.map_append]
 have hxz:=CX x.length
 rw[← hxz,List.drop_left]
set_option maxRecDepth 8000 in
set_option maxHeartbeats 8000000 in
theorem K9 (ss:List (List Effect)) (hl:(flatL ss ss.length).length≤1000000000) (hs:ss.length≤1000000000):Sound Tryz.prog 112 [.l (.r 0 1 0 ss.length)] [⟨30,1,true,none,ss.map fun l=>.d false 7 (encEffect l)⟩] (.l (.r 1 7 0 (flatL ss ss.length).length)) [some ⟨30,1,true,none,ss.map fun l=>.d false 7 (encEffect l)⟩,some ⟨59,7,true,none,lvs (encEffect (flatL ss ss.length))⟩]:=by
 refine Sound.of_aw (fn:=Tryz.f112) (c:=_) Tryz.func112 rfl (by simp[Tryz.f112]) fun cx hG hnb=>?_
 rw[show Tryz.f112.ntmps=36 from rfl]
 have hn0:cx.nb=1:=hnb
 refine AW.step (by simp;rfl) ?_
 refine AW.step (by simp;rfl) ?_
 refine AW.seq ?_
 refine AW.step (by simp;rfl) ?_
 refine AW.block ?_
 refine AW.loopF (α:=Nat) [3,5,11,12,13,14,15,16,17,18,19,20,21,22] (fun i=>[(11,.l (.s (.int .i64 i))),(3,.l (.s (.int .i64 (flatL ss i).length)))]) (fun _=>[some ⟨30,1,true,none,ss.map fun l=>.d false 7 (encEffect l)⟩]) (fun i=>i≤ss.length) (fun i=>ss.length - i) 0 (by simp;rfl) (by simp[ID]) (by simp) (Nat.zero_le _) ?_
 intro i g1
 refine AW.step (by simp;rfl) ?_
 refine AW.seq ?_
 refine AW.cond rfl (fun h3=>?_) (fun h3=>?_)
 ·simp at h3
  obtain⟨x,hx⟩:=J7 h3
  have hx':ss[i]=x:=(List.getElem?_eq_some_iff.1 hx).2
  have hf:=I9 hx
  have hfl:=GG ss (i+1)
  rw[hf,List.length_append] at hfl
  have hxl:x.length≤140737488355328:=by omega
  have hw:IntKind.i64.wrap (((flatL ss i).length:Int)+(x.length:Int))=(((flatL ss (i+1)).length:Nat):Int):=by rw[Fz (by omega) (by omega),hf,List.length_append];omega
  refine AW.skip ?_
  simp only[Post.seq,Post.block,if_true]
  refine AW.seq ?_
  refine AW.block ?_
  refine AW.step (by simp[hx,hx',h3];rfl) ?_
  refine AW.step (by simp[hxl,hw];rfl) ?_
  refine AW.step (by simp;rfl) ?_
  refine AW.cond rfl (fun h6=>?_) (fun h6=>?_)
  ·simp at h6
   omega
  ·try simp at h6
   refine AW.skip ?_
   simp only[Post.seq,Post.block,if_true]
   refine AW.last (by simp;rfl) ?_
   simp only[Post.seq,Post.block,if_true]
   refine⟨i+1,Weak.cut 1 (by omega) (by simp[C3 (show i+1≤9223372036854775807 by omega)]) (by simp) rfl,by omega,by omega⟩
 ·try simp at h3
  refine AW.exit ?_
  simp only[Post.seq,Post.block,if_true]
  have hi:i=ss.length:=by omega
  subst hi
  apply AW.step
  ·simp
   refine As Kn (K8 (flatL ss ss.length).length hl) rfl (by simp) ⟨.same rfl,.same rfl,trivial⟩ ?_
   try simp
   rfl
  refine AW.seq ?_
  refine AW.step (by simp;rfl) ?_
  refine AW.block ?_
  refine AW.loopF (α:=Nat) [6,8,27,28,29,30,31,32,33,34] (fun i=>[(27,.l (.s (.int .i64 i))),(6,.l (.r 1 7 0 (flatL ss i).length))]) (fun i=>[some ⟨30,1,true,none,ss.map fun l=>.d false 7 (encEffect l)⟩,some ⟨59,7,true,none,lvs (encEffect (flatL ss i))++(repZ ((flatL ss ss.length).length - (flatL ss i).length) Bi).map LV.s⟩]) (fun i=>i≤ss.length) (fun i=>ss.length - i) 0 (by simp;rfl) (by simp[ID]) (by simp[lvs,ID]) (Nat.zero_le _) ?_
  intro i g1
  refine AW.step (by simp;rfl) ?_
  refine AW.seq ?_
  refine AW.cond rfl (fun h11=>?_) (fun h11=>?_)
  ·simp at h11
   obtain⟨x,hx⟩:=J7 h11
   have hx':ss[i]=x:=(List.getElem?_eq_some_iff.1 hx).2
   have hf:=I9 hx
   have hfl:=GG ss (i+1)
   rw[hf,List.length_append] at hfl
   have hput:=HD (flatL ss i) x ((flatL ss ss.length).length - (flatL ss i).length) (by omega)
   have hlx:=CF (flatL ss i)
   have hzx:=CX ((flatL ss ss.length).length - (flatL ss i).length)
   refine AW.skip ?_
   simp only[Post.seq,Post.block,if_true]
   refine AW.seq ?_
   refine AW.block ?_
   refine AW.step (by simp[hx,hx',h11];rfl) ?_
   apply AW.last
   ·simp
    refine LC (q:=((encEffect x).length,lvs (encEffect x))) (z:=⟨59,7,true,none,lvs (encEffect (flatL ss i))++(repZ ((flatL ss ss.length).length - (flatL ss i).length) Bi).map LV.s⟩) Iv Iu (by simp) Ov (by simp) (by simp) (by show ((flatL ss i).length+(encEffect x).length)*7≤_;rw[List.length_append,hlx,hzx,E1];omega) ?_
    simp only[hput]
    try simp
    rfl
   simp only[Post.seq,Post.block,if_true]
   refine AW.last (by simp;rfl) ?_
   simp only[Post.seq,Post.block,if_true]
   refine⟨i+1,Weak.cut 2 (by omega) (by simp[C3 (show i+1≤9223372036854775807 by omega),hf]) (by simp[hf,Nat.sub_sub]) rfl,by omega,by omega⟩
  ·try simp at h11
   refine AW.exit ?_
   simp only[Post.seq,Post.block,if_true]
   have hi:i=ss.length:=by omega
   subst hi
   have h0:(flatL ss ss.length).length - (flatL ss ss.length).length=0:=Nat.sub_self _
   refine AW.step (by simp;rfl) ?_
   refine AW.ret ?_
   refine Left.of (av:=_) (by simp[Tryz.f112,resV,resC,comp];rfl) ?_
   exact LeftV.rows [some 0,some 1] (by simp;omega) (CQ (by omega)) rfl rfl (by simp[pickOb,repZ,Ob.ren,A7]) (by simp)
theorem Ko:Enters Tryz.prog 112:=enters Tryz.func112 (by kernel_rfl) rfl
theorem M9 (ss:List (List Effect)) (h:catB ss=true):Sound Tryz.prog 112 [.l (.r 0 1 0 ss.length)] [⟨30,1,true,none,ss.map fun l=>.d false 7 (encEffect l)⟩] (.l (.r 1 7 0 ss.flatten.length)) [some ⟨30,1,true,none,ss.map fun l=>.d false 7 (encEffect l)⟩,some ⟨59,7,true,none,lvs (encEffect ss.flatten)⟩]:=by
 simp[catB] at h
 have:=K9 ss (by rw[Ja];simp;omega) (by omega)
 rwa [Ja] at this
theorem Na (ss:List (List Effect)) (h:catB ss=true):Sound Tryz.prog 112 [.l (.r 0 1 0 ss.length)] [⟨30,1,true,none,ss.map fun l=>.d false 7 (encEffect l)⟩] (.l (.d false 7 (encEffect ss.flatten))) [some ⟨30,1,true,none,ss.map fun l=>.d false 7 (encEffect l)⟩]:=by
 have h2:=h
 simp[catB] at h2
 exact (M9 ss h).frz1 (by simp) (by omega) (Bh _) (by simp;omega) (by simp[Ob.frz,Ob.ren,LV.frz,LV.ren])
end Go.Proofs.YtlbdhlbbkibgpaaGreat
namespace Go.Proofs.YtlbdhlbbkibgpaaGreat
open Go Go.RowKit
section
variable {P:Program} {d:Option Nat} {t:Nat} {st:St} {K:St→Prop} {k:IntKind} {a b:Int} {x y:ByteArray} {p q:Bool}
@[simp high] theorem xs_add:xeq P .add t (.l (.s (.int k a))) (.l (.s (.int k b))) st d K=K (st.put d (.l (.s (.int k (addI k a b))))):=by simp[xeq,bopP,bop,addI]
@[simp high] theorem xs_sub:xeq P .sub t (.l (.s (.int k a))) (.l (.s (.int k b))) st d K=K (st.put d (.l (.s (.int k (subI k a b))))):=by simp[xeq,bopP,bop,subI]
@[simp high] theorem xs_mul:xeq P .mul t (.l (.s (.int k a))) (.l (.s (.int k b))) st d K=K (st.put d (.l (.s (.int k (mulI k a b))))):=by simp[xeq,bopP,bop,mulI]
@[simp high] theorem xs_and:xeq P .and t (.l (.s (.int k a))) (.l (.s (.int k b))) st d K=K (st.put d (.l (.s (.int k (andI k a b))))):=by simp[xeq,bopP,bop,andI]
@[simp high] theorem xs_xor:xeq P .xor t (.l (.s (.int k a))) (.l (.s (.int k b))) st d K=K (st.put d (.l (.s (.int k (xorI k a b))))):=by simp[xeq,bopP,bop,xorI]
@[simp high] theorem xs_quo:xeq P .quo t (.l (.s (.int k a))) (.l (.s (.int k b))) st d K=wh (quoI k a b) fun c=>K (st.put d (.l (.s (.int k c)))):=by
 unfold quoI;split <;> simp_all [xeq,bopP,bop]
@[simp high] theorem xs_rem:xeq P .rem t (.l (.s (.int k a))) (.l (.s (.int k b))) st d K=wh (remI k a b) fun c=>K (st.put d (.l (.s (.int k c)))):=by
 unfold remI;split <;> simp_all [xeq,bopP,bop]
@[simp high] theorem xs_shl {k':IntKind}:xeq P .shl t (.l (.s (.int k a))) (.l (.s (.int k' b))) st d K=wh (shlI k a b) fun c=>K (st.put d (.l (.s (.int k c)))):=by
 unfold shlI;simp only[xeq,bopP,bop];split <;> rfl
@[simp high] theorem xs_shr {k':IntKind}:xeq P .shr t (.l (.s (.int k a))) (.l (.s (.int k' b))) st d K=wh (shrI k a b) fun c=>K (st.put d (.l (.s (.int k c)))):=by
 unfold shrI;simp only[xeq,bopP,bop];split <;> rfl
@[simp high] theorem xs_eql:xeq P .eql t (.l (.s (.int k a))) (.l (.s (.int k b))) st d K=K (st.put d (.l (.s (.bool (eqI a b))))):=by simp[xeq,bopP,bop,eqI]
@[simp high] theorem xs_neq:xeq P .neq t (.l (.s (.int k a))) (.l (.s (.int k b))) st d K=K (st.put d (.l (.s (.bool (neI a b))))):=by simp[xeq,bopP,bop,neI]
@[simp high] theorem xs_lss:xeq P .lss t (.l (.s (.int k a))) (.l (.s (.int k b))) st d K=K (st.put d (.l (.s (.bool (ltI a b))))):=by simp[xeq,bopP,bop,ltI]
@[simp high] theorem xs_leq:xeq P .leq t (.l (.s (.int k a))) (.l (.s (.int k b))) st d K=K (st.put d (.l (.s (.bool (leI a b))))):=by simp[xeq,bopP,bop,leI]
@[simp high] theorem xs_gtr:xeq P .gtr t (.l (.s (.int k a))) (.l (.s (.int k b))) st d K=K (st.put d (.l (.s (.bool (gtI a b))))):=by simp[xeq,bopP,bop,gtI]
@[simp high] theorem xs_geq:xeq P .geq t (.l (.s (.int k a))) (.l (.s (.int k b))) st d K=K (st.put d (.l (.s (.bool (geI a b))))):=by simp[xeq,bopP,bop,geI]
@[simp high] theorem xs_eqlS:xeq P .eql t (.l (.s (.string x))) (.l (.s (.string y))) st d K=K (st.put d (.l (.s (.bool (eqS x y))))):=by simp[xeq,bopP,bop,eqS]
@[simp high] theorem xs_neqS:xeq P .neq t (.l (.s (.string x))) (.l (.s (.string y))) st d K=K (st.put d (.l (.s (.bool (neS x y))))):=by simp[xeq,bopP,bop,neS]
@[simp high] theorem xs_lssS:xeq P .lss t (.l (.s (.string x))) (.l (.s (.string y))) st d K=K (st.put d (.l (.s (.bool (ltS x y))))):=by simp[xeq,bopP,bop,ltS]
@[simp high] theorem xs_leqS:xeq P .leq t (.l (.s (.string x))) (.l (.s (.string y))) st d K=K (st.put d (.l (.s (.bool (leS x y))))):=by simp[xeq,bopP,bop,leS]
@[simp high] theorem xs_geqS:xeq P .geq t (.l (.s (.string x))) (.l (.s (.string y))) st d K=K (st.put d (.l (.s (.bool (geS x y))))):=by simp[xeq,bopP,bop,geS]
@[simp high] theorem xs_cat:xeq P .add t (.l (.s (.string x))) (.l (.s (.string y))) st d K=wh (catS x y) fun c=>K (st.put d (.l (.s (.string c)))):=by
 unfold catS;simp only[xeq,bopP,bop];split <;> rfl
def andO:Option Bool→Option Bool→Option Bool
 |some b,some c=>some (andB b c)
 |_,_=>none
@[simp] theorem veqs_n:veqs [] [] []=some true:=rfl
@[simp] theorem andO_s (b c:Bool):andO (some b) (some c)=some (andB b c):=rfl
@[simp high] theorem xs_not {ty:TypeId} {pos:String} {af:Array Edge} {g:Option (Nat×Bool)} {x':Operand}:xo P ⟨d,.unOp .not t x',ty,pos,af,g⟩ st K=wb (st.ev x') fun b=>K (st.put d (.l (.s (.bool (notB b))))):=by
 rw[LB]
 generalize st.ev x'=v
 cases v with
 |l y =>
  cases y with
  |s z=>cases z <;> first|rfl|(simp[ws,wb,uop])
  |_=>rfl
 |_=>rfl
def wik (v:AV) (k:IntKind→Int→Prop):Prop :=
 match v with
 |.l (.s (.int kd n))=>k kd n
 |_=>False
@[congr] theorem wik_congr {x y:AV} {k:IntKind→Int→Prop} (h:x=y):wik x k=wik y k:=by rw[h]
@[simp] theorem wik_i (kd:IntKind) (n:Int) (k:IntKind→Int→Prop):wik (.l (.s (.int kd n))) k=k kd n:=nr rfl
@[simp high] theorem xs_neg {ty:TypeId} {pos:String} {af:Array Edge} {g:Option (Nat×Bool)} {x':Operand}:xo P ⟨d,.unOp .neg t x',ty,pos,af,g⟩ st K=wik (st.ev x') fun k b=>K (st.put d (.l (.s (.int k (negI k b))))):=by
 rw[LB]
 generalize st.ev x'=v
 cases v with
 |l y =>
  cases y with
  |s z=>cases z <;> first|rfl|(simp[ws,wik,uop])
  |_=>rfl
 |_=>rfl
@[simp high] theorem xs_conv (s t:Nat):xconv P s t (.l (.s (.int k a))) st d K=((P.underlying s).isSome=true∧wh (intF P t) fun k=>K (st.put d (.l (.s (.int k (cvI k a)))))):=nr rfl
@[simp high] theorem xs_max:xmm max (.l (.s (.int k a))) (.l (.s (.int k b))) st d K=K (st.put d (.l (.s (.int k (maxI a b))))):=by simp[xmm,maxI]
@[simp high] theorem xs_min:xmm min (.l (.s (.int k a))) (.l (.s (.int k b))) st d K=K (st.put d (.l (.s (.int k (minI a b))))):=by simp[xmm,minI]
end
section
variable {P:Program} {d:Option Nat} {t:Nat} {st:St} {K:St→Prop} {x:ByteArray} {ob sz lo hi:Nat} {al:Bool}
@[simp high] theorem xs_lenS:xlen P t (.l (.s (.string x))) st d K=(strF P t=true∧K (st.put d (.l (.s (.int .i64 (lenS x)))))):=nr rfl
end
def idxB (a:ByteArray) (c:Int):Int:=Lib.indexByte a.data.toList c.toNat.toUInt8
theorem Mj {P:Program} {st:St} {f:Nat} {fn:Func} {a:ByteArray} {c:Int} {dst:Option Nat} {K:St→Prop} (hf:P.funcs[f]?=some fn) (hname:(fn.name == "runtime.NumGoroutine")=false) (hb:fn.body.isNone=true) (hn:Extern.findNext fn=none)
  (he:Extern.find fn=some Extern.BytealgIndexByte.indexByte) (hk:K (st.put dst (.l (.s (.int .i64 (idxB a c)))))):xcall P f [.l (.s (.string a)),.l (.s (.int .u8 c))] st dst K:=by
 refine .inr (.inl ⟨.int .i64 (idxB a c),rfl,fun cx σ ac w vs hr hv=>?_,hk⟩)
 match vs,hv with
 |[x,y],hv =>
  obtain⟨⟨rfl,_⟩,⟨rfl,_⟩,_⟩:=hv
  rw[run_callFunc_extern hf hname hb hn he]
  have:=Lib.run_indexByteString (P:=P) a c w
  rw[this]
  rfl
 |[],hv=>exact hv.elim
 |[_],hv=>exact hv.2.elim
 |_::_::_::_,hv=>exact hv.2.2.elim
def bytesI (s:ByteArray):List Int:=s.data.toList.map fun b=>(b.toNat:Int)
@[simp] theorem bytesT_eq (s:ByteArray):bytesT s=encU (bytesI s):=by simp[bytesT,encU,bytesI,Function.comp_def]
end Go.Proofs.YtlbdhlbbkibgpaaGreat
namespace Go.Proofs.YtlbdhlbbkibgpaaGreat
open Go Go.RowKit
def C8 (n:Nat) (a0:List Claim) (a1:Int):Option (Int×Int) :=
bn (iter n (fun (y1:Int) =>
lt (lenI a0) fun v4 =>
lt (ltI y1 v4) fun v5 =>
ite' v5 (bn (bn (nth a0 y1) fun v7 =>
lt (leI v7.frm a1) fun v8 =>
ite' v8 (lt (leI a1 v7.to) fun v9 =>
some (v9)) (some (false))) fun (y6:Bool) =>
lt (y6) fun v10 =>
ite' v10 (bn (nth a0 y1) fun v11 =>
some (.inr (.inr (v11.node,v11.epoch)))) (lt (addI .i64 y1 1) fun v12 =>
some (.inl v12))) (some (.inr (.inl ())))) 0) fun (y2:Unit ⊕ (Int×Int)) =>
sm y2 (fun y13=>some (-1,0)) (fun y14=>some y14)
theorem NV {n:Nat} {a0:List Claim} {a1:Int} {r:Int×Int} (h:C8 n a0 a1=some r):Sound Tryz.prog 27 [.l (.d false 4 (encClaim a0)),.l (.s (.int .i64 a1))] [] (.t [(false,[.s (.int .i64 r.1)]),(false,[.s (.int .i64 r.2)])]) []:=by
 unfold C8 at h
 refine Sound.of_aw (fn:=Tryz.f27) (c:=_) Tryz.func27 rfl (by simp[Tryz.f27]) fun cx hG hnb=>?_
 rw[show Tryz.f27.ntmps=39 from rfl]
 have hn0:cx.nb=0:=hnb
 simp only[An,initTm,List.map_cons,List.map_nil]
 apply AW.step
 ·simp
  intros;rfl
 refine AW.seq ?_
 apply AW.step
 ·simp
  intros;rfl
 refine AW.block ?_
 replace h:=bnE h;obtain⟨y2,g2,h⟩:=h
 refine AW.iterP g2 (mk:=fun gh ls q=>(⟨[(0,.l (.d false 4 (encClaim a0))),(1,.l (.s (.int .i64 a1))),(6,.l (.s (.int .i64 q)))],[],39,gh,ls⟩:St)) (N:=fun gh ls=>(sp (xP 0 (cx:=cx) (fun _=>(⟨[],[],39,gh,ls⟩:St))) (rP (cx:=cx) (P:=Tryz.prog) Tryz.f27 (fun q=>.t [(false,[.s (.int .i64 q.1)]),(false,[.s (.int .i64 q.2)])]) (fun q=>[])))) ?_ (noS noX noR) ?_ ?_
 ·refine Weak.mixN [] hn0 (by decide) ?_ ?_ rfl
  all_goals first|(simp[Aa,Ab,pickOb];done)|rfl
 ·clear h;intro y1 y3 h
  refine AW.seq ?_
  replace h:=ltE h;obtain⟨v4,e4,h⟩:=h
  replace h:=ltE h;obtain⟨v5,e5,h⟩:=h
  apply AW.step
  ·simp[Ad e4,← e5]
   intros;rfl
  cases v5 with
  |true =>
   replace h:=iteT rfl h
   refine AW.cond_true (by simp) ?_
   refine AW.skip ?_
   try simp only[nm]
   refine AW.seq ?_
   refine AW.block ?_
   replace h:=bnE h;obtain⟨y6,g6,h⟩:=h
   refine AW.flow (p:=fun gh ls=>(nP (cx:=cx) (fun q=>(⟨[(0,.l (.d false 4 (encClaim a0))),(1,.l (.s (.int .i64 a1))),(6,.l (.s (.int .i64 y1))),(28,.l (.s (.bool q)))],[],39,gh,ls⟩:St))) y6) ?_ ?_
   ·replace h:=g6;clear g6
    replace h:=bnE h;obtain⟨v7,e7,h⟩:=h
    replace h:=ltE h;obtain⟨v8,e8,h⟩:=h
    cases v8 with
    |true =>
     replace h:=iteT rfl h
     replace h:=ltE h;obtain⟨v9,e9,h⟩:=h
     apply AW.last
     ·simp[Ac e7,← e8,← e9]
      intros;rfl
     obtain rfl:=oi h
     refine nP_i ?_
     refine Weak.mixN [] hn0 (by decide) ?_ ?_ rfl
     all_goals first|(simp[Aa,Ab,pickOb];done)|rfl
    |false =>
     replace h:=iteF rfl h
     apply AW.last
     ·simp[Ac e7,← e8]
      intros;rfl
     obtain rfl:=oi h
     refine nP_i ?_
     refine Weak.mixN [] hn0 (by decide) ?_ ?_ rfl
     all_goals first|(simp[Aa,Ab,pickOb];done)|rfl
   ·rintro e s hp
    obtain⟨rfl,hw⟩:=hp
    refine⟨_,hw,?_⟩
    try simp only[nm]
    replace h:=ltE h;obtain⟨v10,e10,h⟩:=h
    rw[← e10]
    cases v10 with
    |true =>
     replace h:=iteT rfl h
     refine AW.cond_true (by simp) ?_
     replace h:=bnE h;obtain⟨v11,e11,h⟩:=h
     apply AW.drawnP (V:=[_,_,_,_,_,_,_,_,_,_,_]) mixed [⟨[0],[],[(0,none)],false⟩,⟨[0],[],[(6,none)],false⟩,⟨[0],[0,1],[(29,some 0),(30,some 1)],false⟩,⟨[0],[0,1,2],[(31,some 2)],false⟩,⟨[0],[0,1,2,3],[(32,some 3)],false⟩,⟨[0],[],[(0,none)],false⟩,⟨[0],[],[(6,none)],false⟩,⟨[0],[5,6],[(34,some 5),(35,some 6)],false⟩,⟨[0],[5,6,7],[(36,some 7)],false⟩,⟨[0],[5,6,7,8],[(37,some 8)],false⟩,⟨[0],[0,1,2,3,4],[(33,some 4)],false⟩,⟨[],[0,1,2,3,4,5,6,7,8,9,10],[],false⟩] 11 (by kernel_rfl) (by kernel_rfl)
     ·refine⟨?_,?_,?_,?_,?_,?_,?_,?_,?_,?_,?_,trivial⟩
      iterate 11 (· intro tm hr;simp[AllL,rdV] at hr;simp[hr,Ac e11];intros;first|exact KD.mk|exact KD.mkN)
     ·rfl
     ·simp[tmD,putD,Ac e11];rfl
     ·simp[Ac e11]
      intros;rfl
     obtain rfl:=oi h
     refine AW.ret ?_
     try simp only[nm]
     refine rP_i ?_
     refine Left.plain hnb (by simp[Tryz.f27,resV,resC,comp];rfl) rfl rfl ?_
     simp
    |false =>
     replace h:=iteF rfl h
     refine AW.cond_false (by simp) ?_
     refine AW.skip ?_
     try simp only[nm]
     replace h:=ltE h;obtain⟨v12,e12,h⟩:=h
     apply AW.last
     ·simp[← e12]
      intros;rfl
     obtain rfl:=oi h
     refine nP_i ?_
     refine Weak.mixN [] hn0 (by decide) ?_ ?_ rfl
     all_goals first|(simp[Aa,Ab,pickOb];done)|rfl
  |false =>
   replace h:=iteF rfl h
   refine AW.cond_false (by simp) ?_
   refine AW.exit ?_
   try simp only[nm]
   obtain rfl:=oi h
   try simp only[sp_l,sp_r]
   refine xP_i ?_
   refine Weak.mixN [] hn0 (by decide) ?_ ?_ rfl
   all_goals first|(simp[Aa,Ab,pickOb];done)|rfl
 ·rintro e s hp
  rcases y2 with y13|y14
  ·replace h:=smL h
   obtain⟨rfl,hw⟩:=hp
   refine⟨_,hw,?_⟩
   try simp only[nm]
   apply AW.step
   ·simp
    intros;rfl
   obtain rfl:=oi h
   refine AW.ret ?_
   refine Left.plain hnb (by simp[Tryz.f27,resV,resC,comp];rfl) rfl rfl ?_
   simp
  ·replace h:=smR h
   obtain⟨rfl,hl⟩:=hp
   refine⟨_,Weak.refl _,?_⟩
   obtain rfl:=oi h
   exact hl
theorem Nb:Enters Tryz.prog 27:=enters Tryz.func27 (by kernel_rfl) rfl
end Go.Proofs.YtlbdhlbbkibgpaaGreat
namespace Go.Proofs.YtlbdhlbbkibgpaaGreat
open Go Go.RowKit
def Cr (n:Nat) (a0:List Claim) (a1:Int):Option (Int×Int×Bool) :=
lt (lenI a0) fun v1 =>
bn (iter n (fun (y2:Int) =>
lt (ltI y2 v1) fun v5 =>
ite' v5 (bn (nth a0 y2) fun v6 =>
bn (lt (leI v6.frm a1) fun v8 =>
ite' v8 (lt (leI a1 v6.to) fun v9 =>
some (v9)) (some (false))) fun (y7:Bool) =>
lt (y7) fun v10 =>
ite' v10 (some (.inr (.inr (v6.node,v6.epoch,true)))) (lt (addI .i64 y2 1) fun v11 =>
some (.inl v11))) (some (.inr (.inl ())))) 0) fun (y3:Unit ⊕ (Int×Int×Bool)) =>
sm y3 (fun y12=>some (0,0,false)) (fun y13=>some y13)
theorem La {n:Nat} {a0:List Claim} {a1:Int} {r:Int×Int×Bool} (h:Cr n a0 a1=some r):Sound Tryz.prog 34 [.l (.d false 4 (encClaim a0)),.l (.s (.int .i64 a1))] [] (.t [(false,[.s (.int .i64 r.1)]),(false,[.s (.int .i64 r.2.1)]),(false,[.s (.bool r.2.2)])]) []:=by
 unfold Cr at h
 refine Sound.of_aw (fn:=Tryz.f34) (c:=_) Tryz.func34 rfl (by simp[Tryz.f34]) fun cx hG hnb=>?_
 rw[show Tryz.f34.ntmps=30 from rfl]
 have hn0:cx.nb=0:=hnb
 simp only[An,initTm,List.map_cons,List.map_nil]
 apply AW.step
 ·simp
  intros;rfl
 refine AW.seq ?_
 replace h:=ltE h;obtain⟨v1,e1,h⟩:=h
 apply AW.step
 ·simp[Ad e1]
  intros;rfl
 refine AW.block ?_
 replace h:=bnE h;obtain⟨y3,g3,h⟩:=h
 refine AW.iterP g3 (mk:=fun gh ls q=>(⟨[(1,.l (.s (.int .i64 a1))),(9,.l (.d false 4 (encClaim a0))),(10,.l (.s (.int .i64 v1))),(11,.l (.s (.int .i64 q)))],[],30,gh,ls⟩:St)) (N:=fun gh ls=>(sp (xP 0 (cx:=cx) (fun _=>(⟨[],[],30,gh,ls⟩:St))) (rP (cx:=cx) (P:=Tryz.prog) Tryz.f34 (fun q=>.t [(false,[.s (.int .i64 q.1)]),(false,[.s (.int .i64 q.2.1)]),(false,[.s (.bool q.2.2)])]) (fun q=>[])))) ?_ (noS noX noR) ?_ ?_
 ·refine Weak.mixN [] hn0 (by decide) ?_ ?_ rfl
  all_goals first|(simp[Aa,Ab,pickOb];done)|rfl
 ·clear h;intro y2 y4 h
  replace h:=ltE h;obtain⟨v5,e5,h⟩:=h
  apply AW.step
  ·simp[← e5]
   intros;rfl
  refine AW.seq ?_
  cases v5 with
  |true =>
   replace h:=iteT rfl h
   refine AW.cond_true (by simp) ?_
   refine AW.skip ?_
   try simp only[nm]
   refine AW.seq ?_
   refine AW.block ?_
   replace h:=bnE h;obtain⟨v6,e6,h⟩:=h
   apply AW.step
   ·simp[Ac e6]
    intros;rfl
   replace h:=bnE h;obtain⟨y7,g7,h⟩:=h
   refine AW.flow (p:=fun gh ls=>(nP (cx:=cx) (fun q=>(⟨[(1,.l (.s (.int .i64 a1))),(8,.l (.p 0 0)),(9,.l (.d false 4 (encClaim a0))),(10,.l (.s (.int .i64 v1))),(11,.l (.s (.int .i64 y2))),(24,.l (.s (.bool q)))],[some ⟨81,4,false,none,[.s (.int .i64 v6.frm),.s (.int .i64 v6.to),.s (.int .i64 v6.node),.s (.int .i64 v6.epoch)]⟩],30,gh,ls⟩:St))) y7) ?_ ?_
   ·replace h:=g7;clear g7
    replace h:=ltE h;obtain⟨v8,e8,h⟩:=h
    cases v8 with
    |true =>
     replace h:=iteT rfl h
     replace h:=ltE h;obtain⟨v9,e9,h⟩:=h
     apply AW.last
     ·simp[← e8,← e9]
      intros;rfl
     obtain rfl:=oi h
     refine nP_i ?_
     refine Weak.mixN [some 0] hn0 (by decide) ?_ ?_ rfl
     all_goals first|(simp[Aa,Ab,pickOb];done)|rfl
    |false =>
     replace h:=iteF rfl h
     apply AW.last
     ·simp[← e8]
      intros;rfl
     obtain rfl:=oi h
     refine nP_i ?_
     refine Weak.mixN [some 0] hn0 (by decide) ?_ ?_ rfl
     all_goals first|(simp[Aa,Ab,pickOb];done)|rfl
   ·rintro e s hp
    obtain⟨rfl,hw⟩:=hp
    refine⟨_,hw,?_⟩
    try simp only[nm]
    replace h:=ltE h;obtain⟨v10,e10,h⟩:=h
    rw[← e10]
    cases v10 with
    |true =>
     replace h:=iteT rfl h
     refine AW.cond_true (by simp) ?_
     apply AW.drawnP (V:=[_,_,_,_,_]) mixed [⟨[0],[],[(8,none)],false⟩,⟨[0],[0],[(25,some 0)],false⟩,⟨[0],[],[(8,none)],false⟩,⟨[0],[2],[(27,some 2)],false⟩,⟨[0],[0,1],[(26,some 1)],false⟩,⟨[],[0,1,2,3,4],[],false⟩,⟨[],[0,1,2,3,4,5],[],false⟩] 5 (by kernel_rfl) (by kernel_rfl)
     ·refine⟨?_,?_,?_,?_,?_,trivial⟩
      iterate 5 (· intro tm hr;simp[AllL,rdV] at hr;simp[hr];intros;first|exact KD.mk|exact KD.mkN)
     ·rfl
     ·simp[tmD,putD];rfl
     ·simp
      intros;rfl
     obtain rfl:=oi h
     refine AW.ret ?_
     try simp only[nm]
     refine rP_i ?_
     refine Left.plain hnb (by simp[Tryz.f34,resV,resC,comp];rfl) rfl rfl ?_
     simp
    |false =>
     replace h:=iteF rfl h
     refine AW.cond_false (by simp) ?_
     refine AW.skip ?_
     try simp only[nm]
     replace h:=ltE h;obtain⟨v11,e11,h⟩:=h
     apply AW.last
     ·simp[← e11]
      intros;rfl
     obtain rfl:=oi h
     refine nP_i ?_
     refine Weak.mixN [] hn0 (by decide) ?_ ?_ rfl
     all_goals first|(simp[Aa,Ab,pickOb];done)|rfl
  |false =>
   replace h:=iteF rfl h
   refine AW.cond_false (by simp) ?_
   refine AW.exit ?_
   try simp only[nm]
   obtain rfl:=oi h
   try simp only[sp_l,sp_r]
   refine xP_i ?_
   refine Weak.mixN [] hn0 (by decide) ?_ ?_ rfl
   all_goals first|(simp[Aa,Ab,pickOb];done)|rfl
 ·rintro e s hp
  rcases y3 with y12|y13
  ·replace h:=smL h
   obtain⟨rfl,hw⟩:=hp
   refine⟨_,hw,?_⟩
   try simp only[nm]
   apply AW.step
   ·simp
    intros;rfl
   obtain rfl:=oi h
   refine AW.ret ?_
   refine Left.plain hnb (by simp[Tryz.f34,resV,resC,comp];rfl) rfl rfl ?_
   simp
  ·replace h:=smR h
   obtain⟨rfl,hl⟩:=hp
   refine⟨_,Weak.refl _,?_⟩
   obtain rfl:=oi h
   exact hl
theorem Kp:Enters Tryz.prog 34:=enters Tryz.func34 (by kernel_rfl) rfl
end Go.Proofs.YtlbdhlbbkibgpaaGreat
namespace Go.Proofs.YtlbdhlbbkibgpaaGreat
open Go Go.RowKit
variable {P:Program} {R:Option Nat} {cx:Cx} {Q:Post} {c:Code} {tm:Tm} {ob ob':List (Option Ob)} {nt:Nat} {gh:List Tm} {ls:Option Code}
@[simp] theorem inv_gap (o:Nat) (r:List (Option Nat)):inv (none::r) o=(inv r o).map (·+1):=by
 unfold inv
 rw[List.findIdx?_cons]
 rfl
end Go.Proofs.YtlbdhlbbkibgpaaGreat
namespace Go.Proofs.YtlbdhlbbkibgpaaGreat
open Go Go.RowKit
section
variable {P:Program} {R:Option Nat} {cx:Cx} {Q:Post} {c:Code} {tm:Tm} {ob ob':List (Option Ob)} {nt:Nat} {gh:List Tm} {ls:Option Code}
end
end Go.Proofs.YtlbdhlbbkibgpaaGreat
namespace Go.Proofs.YtlbdhlbbkibgpaaGreat
open Go Go.RowKit
def Dv (n:Nat) (a0:List Pair) (a1:Effect):Option (List Pair) :=
bn (iter n (fun (y1:Bool×Int×List Pair) =>
lt (lenI a0) fun v4 =>
lt (ltI y1.2.1 v4) fun v5 =>
ite' v5 (bn (bn (bn (lt (notB y1.1) fun v9 =>
ite' v9 (bn (nth a0 y1.2.1) fun v10 =>
lt (geS v10.key a1.key) fun v11 =>
some (v11)) (some (false))) fun (y8:Bool) =>
lt (y8) fun v12 =>
ite' v12 (chk (room (y1.2.2.length+1) 96) <|
lt (y1.2.2++[(⟨a1.key,a1.item⟩:Pair)]) fun v14 =>
some ((true,v14))) (some ((y1.1,y1.2.2)))) fun (y7:Bool×List Pair) =>
bn (nth a0 y1.2.1) fun v15 =>
lt (neS v15.key a1.key) fun v16 =>
ite' v16 (chk (room (y7.2.length+1) 96) <|
lt (y7.2++[v15]) fun v18 =>
some ((y7.1,v18))) (some ((y7.1,y7.2)))) fun (y6:Bool×List Pair) =>
lt (addI .i64 y1.2.1 1) fun v19 =>
some (.inl (y6.1,v19,y6.2))) (some (.inr (y1.1,y1.2.2)))) (a1.gone,0,[])) fun (y2:Bool×List Pair) =>
bn (lt (notB y2.1) fun v21 =>
ite' v21 (chk (room (y2.2.length+1) 96) <|
lt (y2.2++[(⟨a1.key,a1.item⟩:Pair)]) fun v23 =>
some (v23)) (some (y2.2))) fun (y20:List Pair) =>
chk (room y20.length 1) <|
some y20
def DY1t1:List DI:=[⟨[0],[],[(6,none)],false⟩,⟨[0],[0],[(16,some 0)],false⟩,⟨[0],[0,1],[(17,some 1)],false⟩,⟨[0],[0,1,2],[(0,none),(18,some 2)],false⟩,⟨[0],[0,1,2],[(7,none),(18,some 2)],false⟩,⟨[0],[0,1,2,3,4],[(18,some 2),(19,some 3),(20,some 4)],false⟩,⟨[0],[0,1,2,3,4,5],[(18,some 2),(21,some 5)],false⟩,⟨[0],[0,1,2,3,4,5,6],[(18,some 2),(22,some 6)],false⟩,⟨[0],[0,1,2],[(3,none),(18,some 2)],false⟩,⟨[0],[0,1,2,8],[(18,some 2),(24,some 8)],false⟩,⟨[],[0,1,2,3,4,5,6,7,8,9],[],false⟩,⟨[],[0,1,2,3,4,5,6,7,8,9,10],[],false⟩]
theorem Mk {n:Nat} {a0:List Pair} {a1:Effect} {r:List Pair} (h:Dv n a0 a1=some r):Sound Tryz.prog 97 [.l (.d false 6 (encPair a0)),.g [.s (.string a1.key),.s (.bool a1.gone),.s (.int .i64 a1.item.kind),.s (.string a1.item.s),.d false 2 (encField a1.item.f),.d false 1 (encS a1.item.l),.s (.int .i64 a1.item.exp)]] [] (.l (.d false 6 (encPair r))) []:=by
 unfold Dv at h
 refine Sound.of_aw (fn:=Tryz.f97) (c:=_) Tryz.func97 rfl (by simp[Tryz.f97]) fun cx hG hnb=>?_
 rw[show Tryz.f97.ntmps=62 from rfl]
 have hn0:cx.nb=0:=hnb
 simp only[An,initTm,List.map_cons,List.map_nil]
 apply AW.step
 ·simp
  intros;rfl
 apply AW.step
 ·simp
  intros;rfl
 apply AW.step
 ·simp
  intros;rfl
 refine AW.seq ?_
 apply AW.step
 ·simp
  intros;rfl
 refine AW.block ?_
 replace h:=bnE h;obtain⟨y2,g2,h⟩:=h
 refine AW.iterP g2 (mk:=fun gh ls q=>(⟨[(0,.l (.d false 6 (encPair a0))),(3,.l (.p 0 0)),(5,.l (.r 1 6 0 q.2.2.length)),(6,.l (.s (.bool q.1))),(7,.l (.s (.int .i64 q.2.1)))],[some ⟨59,7,false,none,[.s (.string a1.key),.s (.bool a1.gone),.s (.int .i64 a1.item.kind),.s (.string a1.item.s),.d false 2 (encField a1.item.f),.d false 1 (encS a1.item.l),.s (.int .i64 a1.item.exp)]⟩,some ⟨114,6,true,none,lvs (encPair q.2.2)⟩],62,gh,ls⟩:St)) (N:=fun gh ls=>(xP 0 (cx:=cx) (fun q=>(⟨[(3,.l (.p 0 0)),(5,.l (.r 1 6 0 q.2.length)),(6,.l (.s (.bool q.1)))],[some ⟨59,7,false,none,[.s (.string a1.key),.s (.bool a1.gone),.s (.int .i64 a1.item.kind),.s (.string a1.item.s),.d false 2 (encField a1.item.f),.d false 1 (encS a1.item.l),.s (.int .i64 a1.item.exp)]⟩,some ⟨114,6,true,none,lvs (encPair q.2)⟩],62,gh,ls⟩:St)))) ?_ noX ?_ ?_
 ·refine W.nilRow 5 114 6 1 (by simp) rfl rfl ?_
  refine Weak.mixN [some 0,some 1] hn0 (by decide) ?_ ?_ rfl
  all_goals first|(simp[Aa,Ab,pickOb];done)|rfl
 ·clear h;intro y1 y3 h
  refine AW.seq ?_
  replace h:=ltE h;obtain⟨v4,e4,h⟩:=h
  replace h:=ltE h;obtain⟨v5,e5,h⟩:=h
  apply AW.step
  ·simp[Ad e4,← e5]
   intros;rfl
  cases v5 with
  |true =>
   replace h:=iteT rfl h
   refine AW.cond_true (by simp) ?_
   refine AW.skip ?_
   try simp only[nm]
   replace h:=bnE h;obtain⟨y6,g6,h⟩:=h
   refine AW.flow (p:=fun gh ls=>(nP (cx:=cx) (fun q=>(⟨[(0,.l (.d false 6 (encPair a0))),(3,.l (.p 0 0)),(5,.l (.r 1 6 0 q.2.length)),(6,.l (.s (.bool q.1))),(7,.l (.s (.int .i64 y1.2.1)))],[some ⟨59,7,false,none,[.s (.string a1.key),.s (.bool a1.gone),.s (.int .i64 a1.item.kind),.s (.string a1.item.s),.d false 2 (encField a1.item.f),.d false 1 (encS a1.item.l),.s (.int .i64 a1.item.exp)]⟩,some ⟨114,6,true,none,lvs (encPair q.2)⟩],62,gh,ls⟩:St))) y6) ?_ ?_
   ·replace h:=g6;clear g6
    refine AW.block ?_
    replace h:=bnE h;obtain⟨y7,g7,h⟩:=h
    refine AW.flow (p:=fun gh ls=>(nP (cx:=cx) (fun q=>(⟨[(0,.l (.d false 6 (encPair a0))),(3,.l (.p 0 0)),(5,.l (.r 1 6 0 q.2.length)),(6,.l (.s (.bool q.1))),(7,.l (.s (.int .i64 y1.2.1)))],[some ⟨59,7,false,none,[.s (.string a1.key),.s (.bool a1.gone),.s (.int .i64 a1.item.kind),.s (.string a1.item.s),.d false 2 (encField a1.item.f),.d false 1 (encS a1.item.l),.s (.int .i64 a1.item.exp)]⟩,some ⟨114,6,true,none,lvs (encPair q.2)⟩],62,gh,ls⟩:St))) y7) ?_ ?_
    ·replace h:=g7;clear g7
     replace h:=bnE h;obtain⟨y8,g8,h⟩:=h
     refine AW.flow (p:=fun gh ls=>(nP (cx:=cx) (fun q=>(⟨[(0,.l (.d false 6 (encPair a0))),(3,.l (.p 0 0)),(5,.l (.r 1 6 0 y1.2.2.length)),(6,.l (.s (.bool y1.1))),(7,.l (.s (.int .i64 y1.2.1))),(27,.l (.s (.bool q)))],[some ⟨59,7,false,none,[.s (.string a1.key),.s (.bool a1.gone),.s (.int .i64 a1.item.kind),.s (.string a1.item.s),.d false 2 (encField a1.item.f),.d false 1 (encS a1.item.l),.s (.int .i64 a1.item.exp)]⟩,some ⟨114,6,true,none,lvs (encPair y1.2.2)⟩],62,gh,ls⟩:St))) y8) ?_ ?_
     ·replace h:=g8;clear g8
      replace h:=ltE h;obtain⟨v9,e9,h⟩:=h
      cases v9 with
      |true =>
       replace h:=iteT rfl h
       replace h:=bnE h;obtain⟨v10,e10,h⟩:=h
       replace h:=ltE h;obtain⟨v11,e11,h⟩:=h
       apply AW.drawnR (V:=[_,_,_,_,_,_,_,_,_,_]) mixed DY1t1 10 (by kernel_rfl) (by kernel_rfl)
       ·refine⟨?_,?_,?_,?_,?_,?_,?_,?_,?_,?_,trivial⟩
        iterate 10 (· intro tm hr;simp[AllL,rdV] at hr;simp[hr,← e9,Ac e10,← e11];intros;first|exact KD.mk|exact KD.mkN)
       ·rfl
       ·simp[tmD,putD,← e9,Ac e10,← e11];rfl
       ·simp[← e9,Ac e10,← e11]
        intros;rfl
       obtain rfl:=oi h
       refine nP_i ?_
       refine Weak.mixN [some 0,some 1] hn0 (by decide) ?_ ?_ rfl
       all_goals first|(simp[Aa,Ab,pickOb];done)|rfl
      |false =>
       replace h:=iteF rfl h
       apply AW.drawnR (V:=[_,_,_,_,_,_,_,_,_,_]) mixed DY1t1 10 (by kernel_rfl) (by kernel_rfl)
       ·refine⟨?_,?_,?_,?_,?_,?_,?_,?_,?_,?_,trivial⟩
        iterate 10 (· intro tm hr;simp[AllL,rdV] at hr;simp[hr,← e9];intros;first|exact KD.mk|exact KD.mkN)
       ·rfl
       ·simp[tmD,putD,← e9];rfl
       ·simp[← e9]
        intros;rfl
       obtain rfl:=oi h
       refine nP_i ?_
       refine Weak.mixN [some 0,some 1] hn0 (by decide) ?_ ?_ rfl
       all_goals first|(simp[Aa,Ab,pickOb];done)|rfl
     ·rintro e s hp
      obtain⟨rfl,hw⟩:=hp
      refine⟨_,hw,?_⟩
      try simp only[nm]
      replace h:=ltE h;obtain⟨v12,e12,h⟩:=h
      rw[← e12]
      cases v12 with
      |true =>
       replace h:=iteT rfl h
       refine AW.cond_true (by simp) ?_
       replace h:=chkE h;obtain⟨e13,h⟩:=h
       replace h:=ltE h;obtain⟨v14,e14,h⟩:=h
       apply AW.step
       ·simp[← A8,← e14,Ao e14]
        intros
        refine Ay ?_
        try simp[← A8,← e14,Ao e14]
        intros
        refine AT (acc:=encPair y1.2.2) (ys:=encPair [(⟨a1.key,a1.item⟩:Pair)]) (cap:=none) (k:=1) BP BA (by simp) (by simp[encPair,lvs]) (Av _) (by simp) (by simp) (by first|(simp;done)|simpa using (Ah e13).1) ?_
        try simp[← A8,← e14,Ao e14]
        intros;rfl
       apply AW.last
       ·simp
        intros;rfl
       obtain rfl:=oi h
       refine nP_i ?_
       refine Weak.mixN [some 0,some 3] hn0 (by decide) ?_ ?_ rfl
       all_goals first|(simp[Aa,Ab,pickOb,Eb];done)|rfl
      |false =>
       replace h:=iteF rfl h
       refine AW.cond_false (by simp) ?_
       refine AW.skip ?_
       try simp only[nm]
       obtain rfl:=oi h
       refine nP_i ?_
       refine Weak.mixN [some 0,some 1] hn0 (by decide) ?_ ?_ rfl
       all_goals first|(simp[Aa,Ab,pickOb];done)|rfl
    ·rintro e s hp
     obtain⟨rfl,hw⟩:=hp
     refine⟨_,hw,?_⟩
     try simp only[nm]
     replace h:=bnE h;obtain⟨v15,e15,h⟩:=h
     replace h:=ltE h;obtain⟨v16,e16,h⟩:=h
     apply AW.drawnP (V:=[_,_,_,_,_,_,_]) mixed [⟨[0],[],[(0,none)],false⟩,⟨[0],[],[(7,none)],false⟩,⟨[0],[0,1],[(36,some 0),(37,some 1)],false⟩,⟨[0],[0,1,2],[(38,some 2)],false⟩,⟨[0],[0,1,2,3],[(39,some 3)],false⟩,⟨[0],[],[(3,none)],false⟩,⟨[0],[5],[(41,some 5)],false⟩,⟨[],[0,1,2,3,4,5,6],[],false⟩] 7 (by kernel_rfl) (by kernel_rfl)
     ·refine⟨?_,?_,?_,?_,?_,?_,?_,trivial⟩
      iterate 7 (· intro tm hr;simp[AllL,rdV] at hr;simp[hr,Ac e15,← e16];intros;first|exact KD.mk|exact KD.mkN)
     ·rfl
     ·simp[tmD,putD,Ac e15,← e16];rfl
     ·simp[Ac e15,← e16]
      intros;rfl
     cases v16 with
     |true =>
      replace h:=iteT rfl h
      refine AW.cond_true (by simp) ?_
      replace h:=chkE h;obtain⟨e17,h⟩:=h
      replace h:=ltE h;obtain⟨v18,e18,h⟩:=h
      apply AW.last
      ·simp[Ac e15,← A8,← e18,Ao e18]
       intros
       refine Ay ?_
       try simp[Ac e15,← A8,← e18,Ao e18]
       intros
       refine AT (acc:=encPair y7.2) (ys:=encPair [v15]) (cap:=none) (k:=1) BP BA (by simp) (by simp[encPair,lvs]) (Av _) (by simp) (by simp) (by first|(simp;done)|simpa using (Ah e17).1) ?_
       try simp[Ac e15,← A8,← e18,Ao e18]
       intros;rfl
      obtain rfl:=oi h
      refine nP_i ?_
      refine Weak.mixN [some 0,some 3] hn0 (by decide) ?_ ?_ rfl
      all_goals first|(simp[Aa,Ab,pickOb,Eb];done)|rfl
     |false =>
      replace h:=iteF rfl h
      refine AW.cond_false (by simp) ?_
      refine AW.skip ?_
      try simp only[nm]
      obtain rfl:=oi h
      refine nP_i ?_
      refine Weak.mixN [some 0,some 1] hn0 (by decide) ?_ ?_ rfl
      all_goals first|(simp[Aa,Ab,pickOb];done)|rfl
   ·rintro e s hp
    obtain⟨rfl,hw⟩:=hp
    refine⟨_,hw,?_⟩
    try simp only[nm]
    replace h:=ltE h;obtain⟨v19,e19,h⟩:=h
    apply AW.last
    ·simp[← e19]
     intros;rfl
    obtain rfl:=oi h
    refine nP_i ?_
    refine Weak.mixN [some 0,some 1] hn0 (by decide) ?_ ?_ rfl
    all_goals first|(simp[Aa,Ab,pickOb];done)|rfl
  |false =>
   replace h:=iteF rfl h
   refine AW.cond_false (by simp) ?_
   refine AW.exit ?_
   try simp only[nm]
   obtain rfl:=oi h
   refine xP_i ?_
   refine Weak.mixN [some 0,some 1] hn0 (by decide) ?_ ?_ rfl
   all_goals first|(simp[Aa,Ab,pickOb];done)|rfl
 ·rintro e s hp
  obtain⟨rfl,hw⟩:=hp
  refine⟨_,hw,?_⟩
  try simp only[nm]
  replace h:=bnE h;obtain⟨y20,g20,h⟩:=h
  refine AW.flow (p:=fun gh ls=>(nP (cx:=cx) (fun q=>(⟨[(5,.l (.r 0 6 0 q.length))],[some ⟨114,6,true,none,lvs (encPair q)⟩],62,gh,ls⟩:St))) y20) ?_ ?_
  ·replace h:=g20;clear g20
   replace h:=ltE h;obtain⟨v21,e21,h⟩:=h
   apply AW.step
   ·simp[← e21]
    intros;rfl
   cases v21 with
   |true =>
    replace h:=iteT rfl h
    refine AW.cond_true (by simp) ?_
    replace h:=chkE h;obtain⟨e22,h⟩:=h
    replace h:=ltE h;obtain⟨v23,e23,h⟩:=h
    apply AW.last
    ·simp[← A8,← e23,Ao e23]
     intros
     refine Ay ?_
     try simp[← A8,← e23,Ao e23]
     intros
     refine AT (acc:=encPair y2.2) (ys:=encPair [(⟨a1.key,a1.item⟩:Pair)]) (cap:=none) (k:=1) BP BA (by simp) (by simp[encPair,lvs]) (Av _) (by simp) (by simp) (by first|(simp;done)|simpa using (Ah e22).1) ?_
     try simp[← A8,← e23,Ao e23]
     intros;rfl
    obtain rfl:=oi h
    refine nP_i ?_
    refine Weak.mixN [some 3] hn0 (by decide) ?_ ?_ rfl
    all_goals first|(simp[Aa,Ab,pickOb,Eb];done)|rfl
   |false =>
    replace h:=iteF rfl h
    refine AW.cond_false (by simp) ?_
    refine AW.skip ?_
    try simp only[nm]
    obtain rfl:=oi h
    refine nP_i ?_
    refine Weak.mixN [some 1] hn0 (by decide) ?_ ?_ rfl
    all_goals first|(simp[Aa,Ab,pickOb];done)|rfl
  ·rintro e s hp
   obtain⟨rfl,hw⟩:=hp
   refine⟨_,hw,?_⟩
   try simp only[nm]
   apply AW.step
   ·simp
    intros;rfl
   replace h:=chkE h;obtain⟨e24,h⟩:=h
   refine AW.frzRow 0 (ty:=114) (cap:=none) (sz:=6) (es:=encPair y20) (by simp) (by omega) (Av _) (by first|exact (Ah e24).2|simpa using (Ah e24).2|simp) (by simp[Tm.frz,AV.frz,LV.frz];rfl) (by simp[Ob.frz,LV.frz];rfl) rfl ?_
   obtain rfl:=oi h
   refine AW.ret ?_
   refine Left.plain hnb (by simp[Tryz.f97,resV,resC,comp];rfl) rfl rfl ?_
   simp
theorem Lb:Enters Tryz.prog 97:=enters Tryz.func97 (by kernel_rfl) rfl
def Dw (n:Nat) (a0:List Pair) (a1:List Effect):Option (List Pair) :=
chk (room a0.length 96) <|
chk (room a0.length 1) <|
bn (iter n (fun (y2:List Pair×Int) =>
lt (lenI a1) fun v6 =>
lt (ltI y2.2 v6) fun v7 =>
ite' v7 (bn (nth a1 y2.2) fun v8 =>
bn (Dv n y2.1 v8) fun v9 =>
lt (addI .i64 y2.2 1) fun v10 =>
some (.inl (v9,v10))) (some (.inr y2.1))) (a0,0)) fun (y3:List Pair) =>
some y3
theorem Ml {n:Nat} {a0:List Pair} {a1:List Effect} {r:List Pair} (h:Dw n a0 a1=some r):Sound Tryz.prog 61 [.l (.d false 6 (encPair a0)),.l (.d false 7 (encEffect a1))] [] (.l (.d false 6 (encPair r))) []:=by
 unfold Dw at h
 refine Sound.of_aw (fn:=Tryz.f61) (c:=_) Tryz.func61 rfl (by simp[Tryz.f61]) fun cx hG hnb=>?_
 rw[show Tryz.f61.ntmps=23 from rfl]
 have hn0:cx.nb=0:=hnb
 simp only[An,initTm,List.map_cons,List.map_nil]
 apply AW.step
 ·simp
  intros;rfl
 replace h:=chkE h;obtain⟨e1,h⟩:=h
 apply AW.step
 ·simp
  intros
  refine Ay ?_
  try simp
  intros
  refine AT (acc:=[]) (ys:=encPair a0) (cap:=none) (k:=a0.length) BP BA (by simp) (by rw[Ov];simp) (by simp) (by simp) (by simp) (by first|(simp;done)|simpa using (Ah e1).1) ?_
  try simp
  intros;rfl
 refine AW.seq ?_
 apply AW.step
 ·simp
  intros;rfl
 refine AW.block ?_
 replace h:=chkE h;obtain⟨e4,h⟩:=h
 replace h:=bnE h;obtain⟨y3,g3,h⟩:=h
 refine AW.iterP g3 (mk:=fun gh ls q=>(⟨[(1,.l (.d false 7 (encEffect a1))),(5,.l (.d false 6 (encPair q.1))),(6,.l (.s (.int .i64 q.2)))],[],23,gh,ls⟩:St)) (N:=fun gh ls=>(xP 0 (cx:=cx) (fun q=>(⟨[(5,.l (.d false 6 (encPair q)))],[],23,gh,ls⟩:St)))) ?_ noX ?_ ?_
 ·refine W.frzRow 1 (ty:=114) (cap:=none) (sz:=6) (es:=encPair a0) (by simp) (by omega) (Av _) (by first|exact (Ah e4).2|simpa using (Ah e4).2|simp) (by simp[Tm.frz,AV.frz,LV.frz];rfl) (by simp[Ob.frz,LV.frz];rfl) rfl ?_
  refine Weak.mixN [] hn0 (by decide) ?_ ?_ rfl
  all_goals first|(simp[Aa,Ab,pickOb];done)|rfl
 ·clear h;intro y2 y5 h
  refine AW.seq ?_
  replace h:=ltE h;obtain⟨v6,e6,h⟩:=h
  replace h:=ltE h;obtain⟨v7,e7,h⟩:=h
  apply AW.step
  ·simp[Ad e6,← e7]
   intros;rfl
  cases v7 with
  |true =>
   replace h:=iteT rfl h
   refine AW.cond_true (by simp) ?_
   refine AW.skip ?_
   try simp only[nm]
   refine AW.seq ?_
   refine AW.block ?_
   replace h:=bnE h;obtain⟨v8,e8,h⟩:=h
   replace h:=bnE h;obtain⟨v9,e9,h⟩:=h
   apply AW.last
   ·simp[Ac e8]
    intros
    refine Ae Lb (Mk e9) rfl ⟨.same rfl,.same rfl,trivial⟩ ?_
    try simp[Ac e8]
    intros;rfl
   try simp only[nm]
   replace h:=ltE h;obtain⟨v10,e10,h⟩:=h
   apply AW.last
   ·simp[← e10]
    intros;rfl
   obtain rfl:=oi h
   refine nP_i ?_
   refine Weak.mixN [] hn0 (by decide) ?_ ?_ rfl
   all_goals first|(simp[Aa,Ab,pickOb];done)|rfl
  |false =>
   replace h:=iteF rfl h
   refine AW.cond_false (by simp) ?_
   refine AW.exit ?_
   try simp only[nm]
   obtain rfl:=oi h
   refine xP_i ?_
   refine Weak.mixN [] hn0 (by decide) ?_ ?_ rfl
   all_goals first|(simp[Aa,Ab,pickOb];done)|rfl
 ·rintro e s hp
  obtain⟨rfl,hw⟩:=hp
  refine⟨_,hw,?_⟩
  try simp only[nm]
  apply AW.step
  ·simp
   intros;rfl
  obtain rfl:=oi h
  refine AW.ret ?_
  refine Left.plain hnb (by simp[Tryz.f61,resV,resC,comp];rfl) rfl rfl ?_
  simp
theorem Lc:Enters Tryz.prog 61:=enters Tryz.func61 (by kernel_rfl) rfl
def CC (n:Nat) (a0:ByteArray):Option ByteArray :=
bn (iter n (fun (y1:Int) =>
lt (lenS a0) fun v4 =>
lt (ltI y1 v4) fun v5 =>
ite' v5 (bn (atS a0 y1) fun v6 =>
lt (neI v6 123) fun v8 =>
ite' v8 (lt (addI .i64 y1 1) fun v9 =>
some (.inl v9)) (lt (addI .i64 y1 1) fun v10 =>
bn (iter n (fun (y11:Int) =>
lt (lenS a0) fun v14 =>
lt (ltI y11 v14) fun v15 =>
ite' v15 (bn (atS a0 y11) fun v16 =>
lt (eqI v16 125) fun v18 =>
ite' v18 (lt (addI .i64 y1 1) fun v19 =>
lt (eqI y11 v19) fun v20 =>
ite' v20 (some (.inr (.inr a0))) (bn (segSlh a0 v19 y11) fun v21 =>
some (.inr (.inr v21)))) (lt (addI .i64 y11 1) fun v23 =>
some (.inl v23))) (some (.inr (.inl ())))) v10) fun (y12:Unit ⊕ ByteArray) =>
sm y12 (fun y24=>some (.inr (.inr a0))) (fun y25=>some (.inr (.inr y25))))) (some (.inr (.inl ())))) 0) fun (y2:Unit ⊕ ByteArray) =>
sm y2 (fun y26=>some a0) (fun y27=>some y27)
theorem NW {n:Nat} {a0:ByteArray} {r:ByteArray} (h:CC n a0=some r):Sound Tryz.prog 31 [.l (.s (.string a0))] [] (.l (.s (.string r))) []:=by
 unfold CC at h
 refine Sound.of_aw (fn:=Tryz.f31) (c:=_) Tryz.func31 rfl (by simp[Tryz.f31]) fun cx hG hnb=>?_
 rw[show Tryz.f31.ntmps=39 from rfl]
 have hn0:cx.nb=0:=hnb
 simp only[An,initTm,List.map_cons,List.map_nil]
 apply AW.step
 ·simp
  intros;rfl
 refine AW.seq ?_
 apply AW.step
 ·simp
  intros;rfl
 refine AW.block ?_
 replace h:=bnE h;obtain⟨y2,g2,h⟩:=h
 refine AW.iterP g2 (mk:=fun gh ls q=>(⟨[(0,.l (.s (.string a0))),(3,.l (.s (.int .i64 q)))],[],39,gh,ls⟩:St)) (N:=fun gh ls=>(sp (xP 0 (cx:=cx) (fun _=>(⟨[(0,.l (.s (.string a0)))],[],39,gh,ls⟩:St))) (rP (cx:=cx) (P:=Tryz.prog) Tryz.f31 (fun q=>.l (.s (.string q))) (fun q=>[])))) ?_ (noS noX noR) ?_ ?_
 ·refine Weak.mixN [] hn0 (by decide) ?_ ?_ rfl
  all_goals first|(simp[Aa,Ab,pickOb];done)|rfl
 ·clear h;intro y1 y3 h
  refine AW.seq ?_
  replace h:=ltE h;obtain⟨v4,e4,h⟩:=h
  replace h:=ltE h;obtain⟨v5,e5,h⟩:=h
  apply AW.step
  ·simp[← e4,← e5]
   intros;rfl
  cases v5 with
  |true =>
   replace h:=iteT rfl h
   refine AW.cond_true (by simp) ?_
   refine AW.skip ?_
   try simp only[nm]
   refine AW.seq ?_
   refine AW.block ?_
   refine AW.seq ?_
   replace h:=bnE h;obtain⟨v6,e6,h⟩:=h
   have f7:=JM e6
   try simp at f7
   replace h:=ltE h;obtain⟨v8,e8,h⟩:=h
   apply AW.step
   ·simp[f7,← e8]
    intros;rfl
   cases v8 with
   |true =>
    replace h:=iteT rfl h
    refine AW.cond_true (by simp) ?_
    refine AW.exit ?_
    try simp only[nm]
    replace h:=ltE h;obtain⟨v9,e9,h⟩:=h
    apply AW.last
    ·simp[← e9]
     intros;rfl
    obtain rfl:=oi h
    refine nP_i ?_
    refine Weak.mixN [] hn0 (by decide) ?_ ?_ rfl
    all_goals first|(simp[Aa,Ab,pickOb];done)|rfl
   |false =>
    replace h:=iteF rfl h
    refine AW.cond_false (by simp) ?_
    refine AW.skip ?_
    try simp only[nm]
    refine AW.seq ?_
    replace h:=ltE h;obtain⟨v10,e10,h⟩:=h
    apply AW.step
    ·simp[← e10]
     intros;rfl
    refine AW.block ?_
    replace h:=bnE h;obtain⟨y12,g12,h⟩:=h
    refine AW.iterP g12 (mk:=fun gh ls q=>(⟨[(0,.l (.s (.string a0))),(3,.l (.s (.int .i64 y1))),(4,.l (.s (.int .i64 q)))],[],39,gh,ls⟩:St)) (N:=fun gh ls=>(sp (xP 2 (cx:=cx) (fun _=>(⟨[(0,.l (.s (.string a0)))],[],39,gh,ls⟩:St))) (rP (cx:=cx) (P:=Tryz.prog) Tryz.f31 (fun q=>.l (.s (.string q))) (fun q=>[])))) ?_ (noS noX noR) ?_ ?_
    ·refine Weak.mixN [] hn0 (by decide) ?_ ?_ rfl
     all_goals first|(simp[Aa,Ab,pickOb];done)|rfl
    ·clear h;intro y11 y13 h
     refine AW.seq ?_
     replace h:=ltE h;obtain⟨v14,e14,h⟩:=h
     replace h:=ltE h;obtain⟨v15,e15,h⟩:=h
     apply AW.step
     ·simp[← e14,← e15]
      intros;rfl
     cases v15 with
     |true =>
      replace h:=iteT rfl h
      refine AW.cond_true (by simp) ?_
      refine AW.skip ?_
      try simp only[nm]
      refine AW.seq ?_
      refine AW.block ?_
      replace h:=bnE h;obtain⟨v16,e16,h⟩:=h
      have f17:=JM e16
      try simp at f17
      replace h:=ltE h;obtain⟨v18,e18,h⟩:=h
      apply AW.step
      ·simp[f17,← e18]
       intros;rfl
      cases v18 with
      |true =>
       replace h:=iteT rfl h
       refine AW.cond_true (by simp) ?_
       refine AW.seq ?_
       replace h:=ltE h;obtain⟨v19,e19,h⟩:=h
       replace h:=ltE h;obtain⟨v20,e20,h⟩:=h
       apply AW.step
       ·simp[← e19,← e20]
        intros;rfl
       cases v20 with
       |true =>
        replace h:=iteT rfl h
        refine AW.cond_true (by simp) ?_
        apply AW.step
        ·simp
         intros;rfl
        obtain rfl:=oi h
        refine AW.ret ?_
        try simp only[nm]
        refine rP_i ?_
        refine Left.plain hnb (by simp[Tryz.f31,resV,resC,comp];rfl) rfl rfl ?_
        simp
       |false =>
        replace h:=iteF rfl h
        refine AW.cond_false (by simp) ?_
        refine AW.skip ?_
        try simp only[nm]
        replace h:=bnE h;obtain⟨v21,e21,h⟩:=h
        have f22:=NU e21
        try simp[← e19] at f22
        apply AW.step
        ·simp[← e19,f22]
         intros;rfl
        obtain rfl:=oi h
        refine AW.ret ?_
        try simp only[nm]
        refine rP_i ?_
        refine Left.plain hnb (by simp[Tryz.f31,resV,resC,comp];rfl) rfl rfl ?_
        simp
      |false =>
       replace h:=iteF rfl h
       refine AW.cond_false (by simp) ?_
       refine AW.skip ?_
       try simp only[nm]
       replace h:=ltE h;obtain⟨v23,e23,h⟩:=h
       apply AW.last
       ·simp[← e23]
        intros;rfl
       obtain rfl:=oi h
       refine nP_i ?_
       refine Weak.mixN [] hn0 (by decide) ?_ ?_ rfl
       all_goals first|(simp[Aa,Ab,pickOb];done)|rfl
     |false =>
      replace h:=iteF rfl h
      refine AW.cond_false (by simp) ?_
      refine AW.exit ?_
      try simp only[nm]
      obtain rfl:=oi h
      try simp only[sp_l,sp_r]
      refine xP_i ?_
      refine Weak.mixN [] hn0 (by decide) ?_ ?_ rfl
      all_goals first|(simp[Aa,Ab,pickOb];done)|rfl
    ·rintro e s hp
     rcases y12 with y24|y25
     ·replace h:=smL h
      obtain⟨rfl,hw⟩:=hp
      refine⟨_,hw,?_⟩
      try simp only[nm]
      apply AW.step
      ·simp
       intros;rfl
      obtain rfl:=oi h
      refine AW.ret ?_
      try simp only[nm]
      refine rP_i ?_
      refine Left.plain hnb (by simp[Tryz.f31,resV,resC,comp];rfl) rfl rfl ?_
      simp
     ·replace h:=smR h
      obtain⟨rfl,hl⟩:=hp
      refine⟨_,Weak.refl _,?_⟩
      obtain rfl:=oi h
      first|exact rP_i hl|(simp only[sp_l,sp_r];exact rP_i hl)|(simp only[sp_l,sp_r,Post.seq,Post.block,Nat.reduceEqDiff,reduceIte,Nat.zero_ne_one,Nat.one_ne_zero];exact rP_i hl)
  |false =>
   replace h:=iteF rfl h
   refine AW.cond_false (by simp) ?_
   refine AW.exit ?_
   try simp only[nm]
   obtain rfl:=oi h
   try simp only[sp_l,sp_r]
   refine xP_i ?_
   refine Weak.mixN [] hn0 (by decide) ?_ ?_ rfl
   all_goals first|(simp[Aa,Ab,pickOb];done)|rfl
 ·rintro e s hp
  rcases y2 with y26|y27
  ·replace h:=smL h
   obtain⟨rfl,hw⟩:=hp
   refine⟨_,hw,?_⟩
   try simp only[nm]
   apply AW.step
   ·simp
    intros;rfl
   obtain rfl:=oi h
   refine AW.ret ?_
   refine Left.plain hnb (by simp[Tryz.f31,resV,resC,comp];rfl) rfl rfl ?_
   simp
  ·replace h:=smR h
   obtain⟨rfl,hl⟩:=hp
   refine⟨_,Weak.refl _,?_⟩
   obtain rfl:=oi h
   exact hl
theorem Nc:Enters Tryz.prog 31:=enters Tryz.func31 (by kernel_rfl) rfl
def EA (n:Nat) (a0:ByteArray):Option Int :=
bn (iter n (fun (y1:Int×Int) =>
lt (lenS a0) fun v4 =>
lt (ltI y1.2 v4) fun v5 =>
ite' v5 (bn (atS a0 y1.2) fun v6 =>
lt (cvI .i64 v6) fun v8 =>
bn (shlI .i64 v8 8) fun v9 =>
lt (xorI .i64 y1.1 v9) fun v10 =>
bn (iter n (fun (y11:Int×Int) =>
lt (ltI y11.2 8) fun v14 =>
ite' v14 (bn (bn (shlI .i64 y11.1 1) fun v16 =>
lt (geI v16 65536) fun v17 =>
ite' v17 (lt (xorI .i64 v16 4129) fun v18 =>
lt (andI .i64 v18 65535) fun v19 =>
some (v19)) (some (v16))) fun (y15:Int) =>
lt (addI .i64 y11.2 1) fun v20 =>
some (.inl (y15,v20))) (some (.inr y11.1))) (v10,0)) fun (y12:Int) =>
lt (addI .i64 y1.2 1) fun v21 =>
some (.inl (y12,v21))) (some (.inr y1.1))) (0,0)) fun (y2:Int) =>
some y2
theorem NX {n:Nat} {a0:ByteArray} {r:Int} (h:EA n a0=some r):Sound Tryz.prog 30 [.l (.s (.string a0))] [] (.l (.s (.int .i64 r))) []:=by
 unfold EA at h
 refine Sound.of_aw (fn:=Tryz.f30) (c:=_) Tryz.func30 rfl (by simp[Tryz.f30]) fun cx hG hnb=>?_
 rw[show Tryz.f30.ntmps=31 from rfl]
 have hn0:cx.nb=0:=hnb
 simp only[An,initTm,List.map_cons,List.map_nil]
 apply AW.step
 ·simp
  intros;rfl
 apply AW.step
 ·simp
  intros;rfl
 refine AW.seq ?_
 apply AW.step
 ·simp
  intros;rfl
 refine AW.block ?_
 replace h:=bnE h;obtain⟨y2,g2,h⟩:=h
 refine AW.iterP g2 (mk:=fun gh ls q=>(⟨[(0,.l (.s (.string a0))),(3,.l (.s (.int .i64 q.1))),(4,.l (.s (.int .i64 q.2)))],[],31,gh,ls⟩:St)) (N:=fun gh ls=>(xP 0 (cx:=cx) (fun q=>(⟨[(3,.l (.s (.int .i64 q)))],[],31,gh,ls⟩:St)))) ?_ noX ?_ ?_
 ·refine Weak.mixN [] hn0 (by decide) ?_ ?_ rfl
  all_goals first|(simp[Aa,Ab,pickOb];done)|rfl
 ·clear h;intro y1 y3 h
  refine AW.seq ?_
  replace h:=ltE h;obtain⟨v4,e4,h⟩:=h
  replace h:=ltE h;obtain⟨v5,e5,h⟩:=h
  apply AW.step
  ·simp[← e4,← e5]
   intros;rfl
  cases v5 with
  |true =>
   replace h:=iteT rfl h
   refine AW.cond_true (by simp) ?_
   refine AW.skip ?_
   try simp only[nm]
   refine AW.seq ?_
   refine AW.block ?_
   replace h:=bnE h;obtain⟨v6,e6,h⟩:=h
   have f7:=JM e6
   try simp at f7
   replace h:=ltE h;obtain⟨v8,e8,h⟩:=h
   replace h:=bnE h;obtain⟨v9,e9,h⟩:=h
   replace h:=ltE h;obtain⟨v10,e10,h⟩:=h
   apply AW.step
   ·simp[f7,← e8,e9,← e10]
    intros;rfl
   apply AW.step
   ·simp
    intros;rfl
   refine AW.block ?_
   replace h:=bnE h;obtain⟨y12,g12,h⟩:=h
   refine AW.iterP g12 (mk:=fun gh ls q=>(⟨[(0,.l (.s (.string a0))),(3,.l (.s (.int .i64 q.1))),(4,.l (.s (.int .i64 y1.2))),(5,.l (.s (.int .i64 q.2)))],[],31,gh,ls⟩:St)) (N:=fun gh ls=>(xP 2 (cx:=cx) (fun q=>(⟨[(0,.l (.s (.string a0))),(3,.l (.s (.int .i64 q))),(4,.l (.s (.int .i64 y1.2)))],[],31,gh,ls⟩:St)))) ?_ noX ?_ ?_
   ·refine Weak.mixN [] hn0 (by decide) ?_ ?_ rfl
    all_goals first|(simp[Aa,Ab,pickOb];done)|rfl
   ·clear h;intro y11 y13 h
    refine AW.seq ?_
    replace h:=ltE h;obtain⟨v14,e14,h⟩:=h
    apply AW.step
    ·simp[← e14]
     intros;rfl
    cases v14 with
    |true =>
     replace h:=iteT rfl h
     refine AW.cond_true (by simp) ?_
     refine AW.skip ?_
     try simp only[nm]
     replace h:=bnE h;obtain⟨y15,g15,h⟩:=h
     refine AW.flow (p:=fun gh ls=>(nP (cx:=cx) (fun q=>(⟨[(0,.l (.s (.string a0))),(3,.l (.s (.int .i64 q))),(4,.l (.s (.int .i64 y1.2))),(5,.l (.s (.int .i64 y11.2)))],[],31,gh,ls⟩:St))) y15) ?_ ?_
     ·replace h:=g15;clear g15
      refine AW.block ?_
      replace h:=bnE h;obtain⟨v16,e16,h⟩:=h
      apply AW.step
      ·simp[e16]
       intros;rfl
      replace h:=ltE h;obtain⟨v17,e17,h⟩:=h
      apply AW.step
      ·simp[← e17]
       intros;rfl
      cases v17 with
      |true =>
       replace h:=iteT rfl h
       refine AW.cond_true (by simp) ?_
       replace h:=ltE h;obtain⟨v18,e18,h⟩:=h
       replace h:=ltE h;obtain⟨v19,e19,h⟩:=h
       apply AW.last
       ·simp[← e18,← e19]
        intros;rfl
       obtain rfl:=oi h
       refine nP_i ?_
       refine Weak.mixN [] hn0 (by decide) ?_ ?_ rfl
       all_goals first|(simp[Aa,Ab,pickOb];done)|rfl
      |false =>
       replace h:=iteF rfl h
       refine AW.cond_false (by simp) ?_
       refine AW.skip ?_
       try simp only[nm]
       obtain rfl:=oi h
       refine nP_i ?_
       refine Weak.mixN [] hn0 (by decide) ?_ ?_ rfl
       all_goals first|(simp[Aa,Ab,pickOb];done)|rfl
     ·rintro e s hp
      obtain⟨rfl,hw⟩:=hp
      refine⟨_,hw,?_⟩
      try simp only[nm]
      replace h:=ltE h;obtain⟨v20,e20,h⟩:=h
      apply AW.last
      ·simp[← e20]
       intros;rfl
      obtain rfl:=oi h
      refine nP_i ?_
      refine Weak.mixN [] hn0 (by decide) ?_ ?_ rfl
      all_goals first|(simp[Aa,Ab,pickOb];done)|rfl
    |false =>
     replace h:=iteF rfl h
     refine AW.cond_false (by simp) ?_
     refine AW.exit ?_
     try simp only[nm]
     obtain rfl:=oi h
     refine xP_i ?_
     refine Weak.mixN [] hn0 (by decide) ?_ ?_ rfl
     all_goals first|(simp[Aa,Ab,pickOb];done)|rfl
   ·rintro e s hp
    obtain⟨rfl,hw⟩:=hp
    refine⟨_,hw,?_⟩
    try simp only[nm]
    replace h:=ltE h;obtain⟨v21,e21,h⟩:=h
    apply AW.last
    ·simp[← e21]
     intros;rfl
    obtain rfl:=oi h
    refine nP_i ?_
    refine Weak.mixN [] hn0 (by decide) ?_ ?_ rfl
    all_goals first|(simp[Aa,Ab,pickOb];done)|rfl
  |false =>
   replace h:=iteF rfl h
   refine AW.cond_false (by simp) ?_
   refine AW.exit ?_
   try simp only[nm]
   obtain rfl:=oi h
   refine xP_i ?_
   refine Weak.mixN [] hn0 (by decide) ?_ ?_ rfl
   all_goals first|(simp[Aa,Ab,pickOb];done)|rfl
 ·rintro e s hp
  obtain⟨rfl,hw⟩:=hp
  refine⟨_,hw,?_⟩
  try simp only[nm]
  apply AW.step
  ·simp
   intros;rfl
  obtain rfl:=oi h
  refine AW.ret ?_
  refine Left.plain hnb (by simp[Tryz.f30,resV,resC,comp];rfl) rfl rfl ?_
  simp
theorem Nd:Enters Tryz.prog 30:=enters Tryz.func30 (by kernel_rfl) rfl
def Ce (n:Nat) (a0:ByteArray):Option Int :=
bn (CC n a0) fun v1 =>
bn (EA n v1) fun v2 =>
bn (remI .i64 v2 16384) fun v3 =>
some v3
theorem Jb {n:Nat} {a0:ByteArray} {r:Int} (h:Ce n a0=some r):Sound Tryz.prog 9 [.l (.s (.string a0))] [] (.l (.s (.int .i64 r))) []:=by
 unfold Ce at h
 refine Sound.of_aw (fn:=Tryz.f9) (c:=_) Tryz.func9 rfl (by simp[Tryz.f9]) fun cx hG hnb=>?_
 rw[show Tryz.f9.ntmps=7 from rfl]
 have hn0:cx.nb=0:=hnb
 simp only[An,initTm,List.map_cons,List.map_nil]
 apply AW.step
 ·simp
  intros;rfl
 replace h:=bnE h;obtain⟨v1,e1,h⟩:=h
 replace h:=bnE h;obtain⟨v2,e2,h⟩:=h
 replace h:=bnE h;obtain⟨v3,e3,h⟩:=h
 apply AW.step
 ·simp[e3]
  intros
  refine Ae Nc (NW e1) rfl ⟨.same rfl,trivial⟩ ?_
  try simp[e3]
  intros
  refine Ae Nd (NX e2) rfl ⟨.same rfl,trivial⟩ ?_
  try simp[e3]
  intros;rfl
 obtain rfl:=oi h
 refine AW.ret ?_
 refine Left.plain hnb (by simp[Tryz.f9,resV,resC,comp];rfl) rfl rfl ?_
 simp
theorem H5:Enters Tryz.prog 9:=enters Tryz.func9 (by kernel_rfl) rfl
def DU (n:Nat) (a0:List Pair) (a1:Int):Option (List ByteArray) :=
bn (iter n (fun (y1:Int×List ByteArray) =>
lt (lenI a0) fun v4 =>
lt (ltI y1.1 v4) fun v5 =>
ite' v5 (bn (bn (nth a0 y1.1) fun v7 =>
bn (Ce n v7.key) fun v8 =>
lt (eqI v8 a1) fun v9 =>
ite' v9 (chk (room (y1.2.length+1) 16) <|
lt (y1.2++[v7.key]) fun v11 =>
some (v11)) (some (y1.2))) fun (y6:List ByteArray) =>
lt (addI .i64 y1.1 1) fun v12 =>
some (.inl (v12,y6))) (some (.inr y1.2))) (0,[])) fun (y2:List ByteArray) =>
chk (room y2.length 1) <|
some y2
theorem FD {n:Nat} {a0:List Pair} {a1:Int} {r:List ByteArray} (h:DU n a0 a1=some r):Sound Tryz.prog 26 [.l (.d false 6 (encPair a0)),.l (.s (.int .i64 a1))] [] (.l (.d false 1 (encS r))) []:=by
 unfold DU at h
 refine Sound.of_aw (fn:=Tryz.f26) (c:=_) Tryz.func26 rfl (by simp[Tryz.f26]) fun cx hG hnb=>?_
 rw[show Tryz.f26.ntmps=30 from rfl]
 have hn0:cx.nb=0:=hnb
 simp only[An,initTm,List.map_cons,List.map_nil]
 apply AW.step
 ·simp
  intros;rfl
 apply AW.step
 ·simp
  intros;rfl
 refine AW.seq ?_
 apply AW.step
 ·simp
  intros;rfl
 refine AW.block ?_
 replace h:=bnE h;obtain⟨y2,g2,h⟩:=h
 refine AW.iterP g2 (mk:=fun gh ls q=>(⟨[(0,.l (.d false 6 (encPair a0))),(1,.l (.s (.int .i64 a1))),(5,.l (.r 0 1 0 q.2.length)),(6,.l (.s (.int .i64 q.1)))],[some ⟨9,1,true,none,lvs (encS q.2)⟩],30,gh,ls⟩:St)) (N:=fun gh ls=>(xP 0 (cx:=cx) (fun q=>(⟨[(5,.l (.r 0 1 0 q.length))],[some ⟨9,1,true,none,lvs (encS q)⟩],30,gh,ls⟩:St)))) ?_ noX ?_ ?_
 ·refine W.nilRow 5 9 1 0 (by simp) rfl rfl ?_
  refine Weak.mixN [some 0] hn0 (by decide) ?_ ?_ rfl
  all_goals first|(simp[Aa,Ab,pickOb];done)|rfl
 ·clear h;intro y1 y3 h
  refine AW.seq ?_
  replace h:=ltE h;obtain⟨v4,e4,h⟩:=h
  replace h:=ltE h;obtain⟨v5,e5,h⟩:=h
  apply AW.step
  ·simp[Ad e4,← e5]
   intros;rfl
  cases v5 with
  |true =>
   replace h:=iteT rfl h
   refine AW.cond_true (by simp) ?_
   refine AW.skip ?_
   try simp only[nm]
   replace h:=bnE h;obtain⟨y6,g6,h⟩:=h
   refine AW.flow (p:=fun gh ls=>(nP (cx:=cx) (fun q=>(⟨[(0,.l (.d false 6 (encPair a0))),(1,.l (.s (.int .i64 a1))),(5,.l (.r 0 1 0 q.length)),(6,.l (.s (.int .i64 y1.1)))],[some ⟨9,1,true,none,lvs (encS q)⟩],30,gh,ls⟩:St))) y6) ?_ ?_
   ·replace h:=g6;clear g6
    refine AW.block ?_
    replace h:=bnE h;obtain⟨v7,e7,h⟩:=h
    replace h:=bnE h;obtain⟨v8,e8,h⟩:=h
    replace h:=ltE h;obtain⟨v9,e9,h⟩:=h
    apply AW.step
    ·simp[Ac e7,← e9]
     intros
     refine Ae H5 (Jb e8) rfl ⟨.same rfl,trivial⟩ ?_
     try simp[Ac e7,← e9]
     intros;rfl
    cases v9 with
    |true =>
     replace h:=iteT rfl h
     refine AW.cond_true (by simp) ?_
     replace h:=chkE h;obtain⟨e10,h⟩:=h
     replace h:=ltE h;obtain⟨v11,e11,h⟩:=h
     apply AW.last
     ·simp[Ac e7,← A2,← e11,Ao e11]
      intros
      refine Ay ?_
      try simp[Ac e7,← A2,← e11,Ao e11]
      intros
      refine AT (acc:=encS y1.2) (ys:=encS [v7.key]) (cap:=none) (k:=1) D2 Ew (by simp) (by simp[encS,lvs]) (Cp _) (by simp) (by simp) (by first|(simp;done)|simpa using (Ah e10).1) ?_
      try simp[Ac e7,← A2,← e11,Ao e11]
      intros;rfl
     obtain rfl:=oi h
     refine nP_i ?_
     refine Weak.mixN [some 2] hn0 (by decide) ?_ ?_ rfl
     all_goals first|(simp[Aa,Ab,pickOb,Ex];done)|rfl
    |false =>
     replace h:=iteF rfl h
     refine AW.cond_false (by simp) ?_
     refine AW.skip ?_
     try simp only[nm]
     obtain rfl:=oi h
     refine nP_i ?_
     refine Weak.mixN [some 0] hn0 (by decide) ?_ ?_ rfl
     all_goals first|(simp[Aa,Ab,pickOb];done)|rfl
   ·rintro e s hp
    obtain⟨rfl,hw⟩:=hp
    refine⟨_,hw,?_⟩
    try simp only[nm]
    replace h:=ltE h;obtain⟨v12,e12,h⟩:=h
    apply AW.last
    ·simp[← e12]
     intros;rfl
    obtain rfl:=oi h
    refine nP_i ?_
    refine Weak.mixN [some 0] hn0 (by decide) ?_ ?_ rfl
    all_goals first|(simp[Aa,Ab,pickOb];done)|rfl
  |false =>
   replace h:=iteF rfl h
   refine AW.cond_false (by simp) ?_
   refine AW.exit ?_
   try simp only[nm]
   obtain rfl:=oi h
   refine xP_i ?_
   refine Weak.mixN [some 0] hn0 (by decide) ?_ ?_ rfl
   all_goals first|(simp[Aa,Ab,pickOb];done)|rfl
 ·rintro e s hp
  obtain⟨rfl,hw⟩:=hp
  refine⟨_,hw,?_⟩
  try simp only[nm]
  apply AW.step
  ·simp
   intros;rfl
  replace h:=chkE h;obtain⟨e13,h⟩:=h
  refine AW.frzRow 0 (ty:=9) (cap:=none) (sz:=1) (es:=encS y2) (by simp) (by omega) (Cp _) (by first|exact (Ah e13).2|simpa using (Ah e13).2|simp) (by simp[Tm.frz,AV.frz,LV.frz];rfl) (by simp[Ob.frz,LV.frz];rfl) rfl ?_
  obtain rfl:=oi h
  refine AW.ret ?_
  refine Left.plain hnb (by simp[Tryz.f26,resV,resC,comp];rfl) rfl rfl ?_
  simp
theorem E6:Enters Tryz.prog 26:=enters Tryz.func26 (by kernel_rfl) rfl
def CZ (n:Nat) (a0:Pair) (a1:ByteArray):Option Int :=
lt (cmpB a0.key a1) fun v1 =>
some v1
theorem FE {n:Nat} {a0:Pair} {a1:ByteArray} {r:Int} (h:CZ n a0 a1=some r):Sound Tryz.prog 127 [.g [.s (.string a0.key),.s (.int .i64 a0.item.kind),.s (.string a0.item.s),.d false 2 (encField a0.item.f),.d false 1 (encS a0.item.l),.s (.int .i64 a0.item.exp)],.l (.s (.string a1))] [] (.l (.s (.int .i64 r))) []:=by
 unfold CZ at h
 refine Sound.of_aw (fn:=Tryz.f127) (c:=_) Tryz.func127 rfl (by simp[Tryz.f127]) fun cx hG hnb=>?_
 rw[show Tryz.f127.ntmps=9 from rfl]
 have hn0:cx.nb=0:=hnb
 simp only[An,initTm,List.map_cons,List.map_nil]
 apply AW.step
 ·simp
  intros;rfl
 replace h:=ltE h;obtain⟨v1,e1,h⟩:=h
 apply AW.step
 ·simp[← e1]
  intros
  refine Ae Gd (Gz a0.key a1) rfl ⟨.same rfl,.same rfl,trivial⟩ ?_
  try simp[← e1]
  intros;rfl
 obtain rfl:=oi h
 refine AW.ret ?_
 refine Left.plain hnb (by simp[Tryz.f127,resV,resC,comp];rfl) rfl rfl ?_
 simp
theorem Fn:Enters Tryz.prog 127:=enters Tryz.func127 (by kernel_rfl) rfl
def AQ (n:Nat) (a0:List Pair) (a1:ByteArray):Option (Int×Bool) :=
lt (lenI a0) fun v1 =>
bn (iter n (fun (y2:Int×Int) =>
lt (ltI y2.1 y2.2) fun v5 =>
ite' v5 (lt (addI .i64 y2.1 y2.2) fun v6 =>
lt (cvI .u64 v6) fun v7 =>
bn (shrI .u64 v7 1) fun v8 =>
lt (cvI .i64 v8) fun v9 =>
bn (nth a0 v9) fun v10 =>
bn (CZ n v10 a1) fun v11 =>
lt (ltI v11 0) fun v12 =>
ite' v12 (lt (addI .i64 v9 1) fun v13 =>
some (.inl (v13,y2.2))) (some (.inl (y2.1,v9)))) (some (.inr y2.1))) (0,v1)) fun (y3:Int) =>
bn (lt (ltI y3 v1) fun v15 =>
ite' v15 (bn (nth a0 y3) fun v16 =>
bn (CZ n v16 a1) fun v17 =>
lt (eqI v17 0) fun v18 =>
some (v18)) (some (false))) fun (y14:Bool) =>
some (y3,y14)
theorem DV {n:Nat} {a0:List Pair} {a1:ByteArray} {r:Int×Bool} (h:AQ n a0 a1=some r):Sound Tryz.prog 126 [.l (.d false 6 (encPair a0)),.l (.s (.string a1)),.l (.s (.func (.func 127) #[] #[]))] [] (.t [(false,[.s (.int .i64 r.1)]),(false,[.s (.bool r.2)])]) []:=by
 unfold AQ at h
 refine Sound.of_aw (fn:=Tryz.f126) (c:=_) Tryz.func126 rfl (by simp[Tryz.f126]) fun cx hG hnb=>?_
 rw[show Tryz.f126.ntmps=49 from rfl]
 have hn0:cx.nb=0:=hnb
 simp only[An,initTm,List.map_cons,List.map_nil]
 apply AW.step
 ·simp
  intros;rfl
 replace h:=ltE h;obtain⟨v1,e1,h⟩:=h
 apply AW.step
 ·simp[Ad e1]
  intros;rfl
 apply AW.step
 ·simp
  intros;rfl
 refine AW.seq ?_
 refine AW.block ?_
 replace h:=bnE h;obtain⟨y3,g3,h⟩:=h
 refine AW.iterP g3 (mk:=fun gh ls q=>(⟨[(0,.l (.d false 6 (encPair a0))),(1,.l (.s (.string a1))),(2,.l (.s (.func (.func 127) #[] #[]))),(8,.l (.s (.int .i64 v1))),(9,.l (.s (.int .i64 q.1))),(10,.l (.s (.int .i64 q.2)))],[],49,gh,ls⟩:St)) (N:=fun gh ls=>(xP 0 (cx:=cx) (fun q=>(⟨[(0,.l (.d false 6 (encPair a0))),(1,.l (.s (.string a1))),(2,.l (.s (.func (.func 127) #[] #[]))),(8,.l (.s (.int .i64 v1))),(9,.l (.s (.int .i64 q)))],[],49,gh,ls⟩:St)))) ?_ noX ?_ ?_
 ·refine Weak.mixN [] hn0 (by decide) ?_ ?_ rfl
  all_goals first|(simp[Aa,Ab,pickOb];done)|rfl
 ·clear h;intro y2 y4 h
  refine AW.seq ?_
  replace h:=ltE h;obtain⟨v5,e5,h⟩:=h
  apply AW.step
  ·simp[← e5]
   intros;rfl
  cases v5 with
  |true =>
   replace h:=iteT rfl h
   refine AW.cond_true (by simp) ?_
   refine AW.skip ?_
   try simp only[nm]
   refine AW.block ?_
   replace h:=ltE h;obtain⟨v6,e6,h⟩:=h
   replace h:=ltE h;obtain⟨v7,e7,h⟩:=h
   replace h:=bnE h;obtain⟨v8,e8,h⟩:=h
   replace h:=ltE h;obtain⟨v9,e9,h⟩:=h
   apply AW.step
   ·simp[← e6,← e7,e8,← e9]
    intros;rfl
   replace h:=bnE h;obtain⟨v10,e10,h⟩:=h
   replace h:=bnE h;obtain⟨v11,e11,h⟩:=h
   replace h:=ltE h;obtain⟨v12,e12,h⟩:=h
   apply AW.step
   ·simp[Ac e10,← e12]
    intros
    refine Ae Fn (FE e11) rfl ⟨.same rfl,.same rfl,trivial⟩ ?_
    try simp[Ac e10,← e12]
    intros;rfl
   cases v12 with
   |true =>
    replace h:=iteT rfl h
    refine AW.cond_true (by simp) ?_
    replace h:=ltE h;obtain⟨v13,e13,h⟩:=h
    apply AW.last
    ·simp[← e13]
     intros;rfl
    obtain rfl:=oi h
    refine nP_i ?_
    refine Weak.mixN [] hn0 (by decide) ?_ ?_ rfl
    all_goals first|(simp[Aa,Ab,pickOb];done)|rfl
   |false =>
    replace h:=iteF rfl h
    refine AW.cond_false (by simp) ?_
    apply AW.last
    ·simp
     intros;rfl
    obtain rfl:=oi h
    refine nP_i ?_
    refine Weak.mixN [] hn0 (by decide) ?_ ?_ rfl
    all_goals first|(simp[Aa,Ab,pickOb];done)|rfl
  |false =>
   replace h:=iteF rfl h
   refine AW.cond_false (by simp) ?_
   refine AW.exit ?_
   try simp only[nm]
   obtain rfl:=oi h
   refine xP_i ?_
   refine Weak.mixN [] hn0 (by decide) ?_ ?_ rfl
   all_goals first|(simp[Aa,Ab,pickOb];done)|rfl
 ·rintro e s hp
  obtain⟨rfl,hw⟩:=hp
  refine⟨_,hw,?_⟩
  try simp only[nm]
  replace h:=bnE h;obtain⟨y14,g14,h⟩:=h
  refine AW.flow (p:=fun gh ls=>(nP (cx:=cx) (fun q=>(⟨[(6,.l (.s (.int .i64 y3))),(7,.l (.s (.bool q)))],[],49,gh,ls⟩:St))) y14) ?_ ?_
  ·replace h:=g14;clear g14
   replace h:=ltE h;obtain⟨v15,e15,h⟩:=h
   cases v15 with
   |true =>
    replace h:=iteT rfl h
    replace h:=bnE h;obtain⟨v16,e16,h⟩:=h
    replace h:=bnE h;obtain⟨v17,e17,h⟩:=h
    replace h:=ltE h;obtain⟨v18,e18,h⟩:=h
    apply AW.last
    ·simp[← e15,Ac e16,← e18]
     intros
     refine Ae Fn (FE e17) rfl ⟨.same rfl,.same rfl,trivial⟩ ?_
     try simp[← e15,Ac e16,← e18]
     intros;rfl
    obtain rfl:=oi h
    refine nP_i ?_
    refine Weak.mixN [] hn0 (by decide) ?_ ?_ rfl
    all_goals first|(simp[Aa,Ab,pickOb];done)|rfl
   |false =>
    replace h:=iteF rfl h
    apply AW.last
    ·simp[← e15]
     intros;rfl
    obtain rfl:=oi h
    refine nP_i ?_
    refine Weak.mixN [] hn0 (by decide) ?_ ?_ rfl
    all_goals first|(simp[Aa,Ab,pickOb];done)|rfl
  ·rintro e s hp
   obtain⟨rfl,hw⟩:=hp
   refine⟨_,hw,?_⟩
   try simp only[nm]
   obtain rfl:=oi h
   refine AW.ret ?_
   refine Left.plain hnb (by simp[Tryz.f126,resV,resC,comp];rfl) rfl rfl ?_
   simp
theorem Dx:Enters Tryz.prog 126:=enters Tryz.func126 (by kernel_rfl) rfl
def CK (n:Nat) (a0:List Pair) (a1:ByteArray):Option (Int×Bool) :=
bn (AQ n a0 a1) fun v1 =>
some (v1.1,v1.2)
theorem Kq {n:Nat} {a0:List Pair} {a1:ByteArray} {r:Int×Bool} (h:CK n a0 a1=some r):Sound Tryz.prog 107 [.l (.d false 6 (encPair a0)),.l (.s (.string a1))] [] (.t [(false,[.s (.int .i64 r.1)]),(false,[.s (.bool r.2)])]) []:=by
 unfold CK at h
 refine Sound.of_aw (fn:=Tryz.f107) (c:=_) Tryz.func107 rfl (by simp[Tryz.f107]) fun cx hG hnb=>?_
 rw[show Tryz.f107.ntmps=11 from rfl]
 have hn0:cx.nb=0:=hnb
 simp only[An,initTm,List.map_cons,List.map_nil]
 apply AW.step
 ·simp
  intros;rfl
 replace h:=bnE h;obtain⟨v1,e1,h⟩:=h
 apply AW.step
 ·simp
  intros
  refine Ae Dx (DV e1) rfl ⟨.same rfl,.same rfl,.same rfl,trivial⟩ ?_
  try simp
  intros;rfl
 obtain rfl:=oi h
 refine AW.ret ?_
 refine Left.plain hnb (by simp[Tryz.f107,resV,resC,comp];rfl) rfl rfl ?_
 simp
theorem Jt:Enters Tryz.prog 107:=enters Tryz.func107 (by kernel_rfl) rfl
def Bq (n:Nat) (a0:Item):Option Item :=
chk (small 32 a0.f) <|
chk (small 16 a0.l) <|
chk (room a0.f.length 1) <|
chk (room a0.l.length 1) <|
some a0
theorem Dy {n:Nat} {a0:Item} {r:Item} (h:Bq n a0=some r):Sound Tryz.prog 108 [.g [.s (.int .i64 a0.kind),.s (.string a0.s),.d false 2 (encField a0.f),.d false 1 (encS a0.l),.s (.int .i64 a0.exp)]] [] (.g [.s (.int .i64 r.kind),.s (.string r.s),.d false 2 (encField r.f),.d false 1 (encS r.l),.s (.int .i64 r.exp)]) []:=by
 unfold Bq at h
 refine Sound.of_aw (fn:=Tryz.f108) (c:=_) Tryz.func108 rfl (by simp[Tryz.f108]) fun cx hG hnb=>?_
 rw[show Tryz.f108.ntmps=12 from rfl]
 have hn0:cx.nb=0:=hnb
 simp only[An,initTm,List.map_cons,List.map_nil]
 apply AW.step
 ·simp
  intros;rfl
 replace h:=chkE h;obtain⟨e1,h⟩:=h
 replace h:=chkE h;obtain⟨e2,h⟩:=h
 apply AW.drawnE (V:=[_,_,_,_,_,_,_]) (M:=[[some ⟨57,5,false,none,[.s (.int .i64 a0.kind),.s (.string a0.s),.d false 2 (encField a0.f),.d false 1 (encS a0.l),.s (.int .i64 a0.exp)]⟩,some ⟨57,5,false,none,[.s (.int .i64 0),.s (.string ⟨#[]⟩),.s (.slice none 0 0),.s (.slice none 0 0),.s (.int .i64 0)]⟩],[some ⟨57,5,false,none,[.s (.int .i64 a0.kind),.s (.string a0.s),.d false 2 (encField a0.f),.d false 1 (encS a0.l),.s (.int .i64 a0.exp)]⟩,some ⟨57,5,false,none,[.s (.int .i64 0),.s (.string ⟨#[]⟩),.s (.slice none 0 0),.s (.slice none 0 0),.s (.int .i64 0)]⟩,some ⟨157,2,true,none,lvs (encField a0.f)⟩],[some ⟨57,5,false,none,[.s (.int .i64 a0.kind),.s (.string a0.s),.d false 2 (encField a0.f),.d false 1 (encS a0.l),.s (.int .i64 a0.exp)]⟩,some ⟨57,5,false,none,[.s (.int .i64 0),.s (.string ⟨#[]⟩),.s (.slice none 0 0),.s (.slice none 0 0),.s (.int .i64 0)]⟩,some ⟨157,2,true,none,lvs (encField a0.f)⟩,some ⟨9,1,true,none,lvs (encS a0.l)⟩]]) mixed [⟨[0],[],[(1,none)],false⟩,⟨[0],[0],[(3,some 0)],false⟩,⟨[0],[0,1],[(4,some 1)],true⟩,⟨[0,1],[],[(1,none)],false⟩,⟨[0,1],[3],[(6,some 3)],false⟩,⟨[1],[0,1,2,3,4],[(7,some 4)],true⟩,⟨[1,2],[0,1,2,3,4],[(1,none)],false⟩,⟨[],[0,1,2,3,4,5,6],[],false⟩,⟨[],[0,1,2,3,4,5,6,7],[],false⟩,⟨[],[0,1,2,3,4,5,6,7,8],[],false⟩] 7 2 (by kernel_rfl) (by kernel_rfl)
 ·rfl
 ·refine⟨?_,?_,?_,⟨?_,?_⟩,⟨?_,?_⟩,?_,⟨?_,?_⟩,trivial⟩
  iterate 2 (· intro tm hr;simp[AllL,rdV] at hr;simp[hr,outR];intros;first|exact KD.mk|exact KD.mkN)
  ·intro tm hr
   simp[AllL,rdV] at hr
   simp[hr,outR]
   intros
   refine As Hk (H4 a0.f (AP e1)) rfl (by simp) ⟨.d _ _ _,trivial⟩ ?_
   try simp[outR]
   intros;first|exact KD.mk|exact KD.mkN
  iterate 4 (· intro tm hr;simp[AllL,rdV] at hr;simp[hr,outR];intros;first|exact KD.mk|exact KD.mkN)
  ·intro tm hr
   simp[AllL,rdV] at hr
   simp[hr,outR]
   intros
   refine As LO (M4 a0.l (AP e2)) rfl (by simp) ⟨.d _ _ _,trivial⟩ ?_
   try simp[outR]
   intros;first|exact KD.mk|exact KD.mkN
  iterate 2 (· intro tm hr;simp[AllL,rdV] at hr;simp[hr,outR];intros;first|exact KD.mk|exact KD.mkN)
 ·rfl
 ·simp[tmD,putD,outR];rfl
 ·simp[outR]
  intros;rfl
 apply AW.step
 ·simp
  intros;rfl
 replace h:=chkE h;obtain⟨e3,h⟩:=h
 refine AW.frzRow 2 (ty:=157) (cap:=none) (sz:=2) (es:=encField a0.f) (by simp) (by omega) (CS _) (by first|exact (Ah e3).2|simpa using (Ah e3).2|simp) (by simp[Tm.frz,AV.frz,LV.frz];rfl) (by simp[Ob.frz,LV.frz];rfl) rfl ?_
 replace h:=chkE h;obtain⟨e4,h⟩:=h
 refine AW.frzRow 3 (ty:=9) (cap:=none) (sz:=1) (es:=encS a0.l) (by simp) (by omega) (Cp _) (by first|exact (Ah e4).2|simpa using (Ah e4).2|simp) (by simp[Tm.frz,AV.frz,LV.frz];rfl) (by simp[Ob.frz,LV.frz];rfl) rfl ?_
 obtain rfl:=oi h
 refine AW.ret ?_
 refine Left.plain hnb (by simp[Tryz.f108,resV,resC,comp];rfl) rfl rfl ?_
 simp
theorem C9:Enters Tryz.prog 108:=enters Tryz.func108 (by kernel_rfl) rfl
def Da (n:Nat) (a0:List Pair) (a1:ByteArray):Option (Item×Bool) :=
bn (CK n a0 a1) fun v1 =>
lt (notB v1.2) fun v2 =>
ite' v2 (some ((⟨0,⟨#[]⟩,[],[],0⟩:Item),false)) (bn (nth a0 v1.1) fun v3 =>
bn (Bq n v3.item) fun v4 =>
some (v4,true))
theorem Ld {n:Nat} {a0:List Pair} {a1:ByteArray} {r:Item×Bool} (h:Da n a0 a1=some r):Sound Tryz.prog 80 [.l (.d false 6 (encPair a0)),.l (.s (.string a1))] [] (.t [(true,[.s (.int .i64 r.1.kind),.s (.string r.1.s),.d false 2 (encField r.1.f),.d false 1 (encS r.1.l),.s (.int .i64 r.1.exp)]),(false,[.s (.bool r.2)])]) []:=by
 unfold Da at h
 refine Sound.of_aw (fn:=Tryz.f80) (c:=_) Tryz.func80 rfl (by simp[Tryz.f80]) fun cx hG hnb=>?_
 rw[show Tryz.f80.ntmps=23 from rfl]
 have hn0:cx.nb=0:=hnb
 simp only[An,initTm,List.map_cons,List.map_nil]
 apply AW.step
 ·simp
  intros;rfl
 replace h:=bnE h;obtain⟨v1,e1,h⟩:=h
 apply AW.step
 ·simp
  intros
  refine Ae Jt (Kq e1) rfl ⟨.same rfl,.same rfl,trivial⟩ ?_
  try simp
  intros;rfl
 refine AW.seq ?_
 replace h:=ltE h;obtain⟨v2,e2,h⟩:=h
 apply AW.step
 ·simp[← e2]
  intros;rfl
 cases v2 with
 |true =>
  replace h:=iteT rfl h
  refine AW.cond_true (by simp) ?_
  apply AW.step
  ·simp
   intros;rfl
  refine AW.nilCellD 0 2 2 rfl rfl rfl rfl ?_
  refine AW.nilCellD 0 3 1 rfl rfl rfl rfl ?_
  obtain rfl:=oi h
  refine AW.ret ?_
  refine Left.plain hnb (by simp[Tryz.f80,resV,resC,comp];rfl) rfl rfl ?_
  simp
 |false =>
  replace h:=iteF rfl h
  refine AW.cond_false (by simp) ?_
  refine AW.skip ?_
  try simp only[nm]
  replace h:=bnE h;obtain⟨v3,e3,h⟩:=h
  replace h:=bnE h;obtain⟨v4,e4,h⟩:=h
  apply AW.step
  ·simp[Ac e3]
   intros
   refine Ae C9 (Dy e4) rfl ⟨.same rfl,trivial⟩ ?_
   try simp[Ac e3]
   intros;rfl
  obtain rfl:=oi h
  refine AW.ret ?_
  refine Left.plain hnb (by simp[Tryz.f80,resV,resC,comp];rfl) rfl rfl ?_
  simp
theorem Kr:Enters Tryz.prog 80:=enters Tryz.func80 (by kernel_rfl) rfl
def Cf (n:Nat) (a0:Pair) (a1:ByteArray):Option Int :=
lt (cmpB a0.key a1) fun v1 =>
some v1
theorem EM {n:Nat} {a0:Pair} {a1:ByteArray} {r:Int} (h:Cf n a0 a1=some r):Sound Tryz.prog 127 [.g [.s (.string a0.key),.s (.int .i64 a0.item.kind),.s (.string a0.item.s),.d true 2 (encField a0.item.f),.d true 1 (encS a0.item.l),.s (.int .i64 a0.item.exp)],.l (.s (.string a1))] [] (.l (.s (.int .i64 r))) []:=by
 unfold Cf at h
 refine Sound.of_aw (fn:=Tryz.f127) (c:=_) Tryz.func127 rfl (by simp[Tryz.f127]) fun cx hG hnb=>?_
 rw[show Tryz.f127.ntmps=9 from rfl]
 have hn0:cx.nb=0:=hnb
 simp only[An,initTm,List.map_cons,List.map_nil]
 apply AW.step
 ·simp
  intros;rfl
 replace h:=ltE h;obtain⟨v1,e1,h⟩:=h
 apply AW.step
 ·simp[← e1]
  intros
  refine Ae Gd (Gz a0.key a1) rfl ⟨.same rfl,.same rfl,trivial⟩ ?_
  try simp[← e1]
  intros;rfl
 obtain rfl:=oi h
 refine AW.ret ?_
 refine Left.plain hnb (by simp[Tryz.f127,resV,resC,comp];rfl) rfl rfl ?_
 simp
theorem EB:Enters Tryz.prog 127:=enters Tryz.func127 (by kernel_rfl) rfl
def AY (n:Nat) (a0:List Pair) (a1:ByteArray):Option (Int×Bool) :=
lt (lenI a0) fun v1 =>
bn (iter n (fun (y2:Int×Int) =>
lt (ltI y2.1 y2.2) fun v5 =>
ite' v5 (lt (addI .i64 y2.1 y2.2) fun v6 =>
lt (cvI .u64 v6) fun v7 =>
bn (shrI .u64 v7 1) fun v8 =>
lt (cvI .i64 v8) fun v9 =>
bn (nth a0 v9) fun v10 =>
bn (Cf n v10 a1) fun v11 =>
lt (ltI v11 0) fun v12 =>
ite' v12 (lt (addI .i64 v9 1) fun v13 =>
some (.inl (v13,y2.2))) (some (.inl (y2.1,v9)))) (some (.inr y2.1))) (0,v1)) fun (y3:Int) =>
bn (lt (ltI y3 v1) fun v15 =>
ite' v15 (bn (nth a0 y3) fun v16 =>
bn (Cf n v16 a1) fun v17 =>
lt (eqI v17 0) fun v18 =>
some (v18)) (some (false))) fun (y14:Bool) =>
some (y3,y14)
theorem CL {n:Nat} {a0:List Pair} {a1:ByteArray} {r:Int×Bool} (h:AY n a0 a1=some r):Sound Tryz.prog 126 [.l (.d true 6 (encPair a0)),.l (.s (.string a1)),.l (.s (.func (.func 127) #[] #[]))] [] (.t [(false,[.s (.int .i64 r.1)]),(false,[.s (.bool r.2)])]) []:=by
 unfold AY at h
 refine Sound.of_aw (fn:=Tryz.f126) (c:=_) Tryz.func126 rfl (by simp[Tryz.f126]) fun cx hG hnb=>?_
 rw[show Tryz.f126.ntmps=49 from rfl]
 have hn0:cx.nb=0:=hnb
 simp only[An,initTm,List.map_cons,List.map_nil]
 apply AW.step
 ·simp
  intros;rfl
 replace h:=ltE h;obtain⟨v1,e1,h⟩:=h
 apply AW.step
 ·simp[Ad e1]
  intros;rfl
 apply AW.step
 ·simp
  intros;rfl
 refine AW.seq ?_
 refine AW.block ?_
 replace h:=bnE h;obtain⟨y3,g3,h⟩:=h
 refine AW.iterP g3 (mk:=fun gh ls q=>(⟨[(0,.l (.d true 6 (encPair a0))),(1,.l (.s (.string a1))),(2,.l (.s (.func (.func 127) #[] #[]))),(8,.l (.s (.int .i64 v1))),(9,.l (.s (.int .i64 q.1))),(10,.l (.s (.int .i64 q.2)))],[],49,gh,ls⟩:St)) (N:=fun gh ls=>(xP 0 (cx:=cx) (fun q=>(⟨[(0,.l (.d true 6 (encPair a0))),(1,.l (.s (.string a1))),(2,.l (.s (.func (.func 127) #[] #[]))),(8,.l (.s (.int .i64 v1))),(9,.l (.s (.int .i64 q)))],[],49,gh,ls⟩:St)))) ?_ noX ?_ ?_
 ·refine Weak.mixN [] hn0 (by decide) ?_ ?_ rfl
  all_goals first|(simp[Aa,Ab,pickOb];done)|rfl
 ·clear h;intro y2 y4 h
  refine AW.seq ?_
  replace h:=ltE h;obtain⟨v5,e5,h⟩:=h
  apply AW.step
  ·simp[← e5]
   intros;rfl
  cases v5 with
  |true =>
   replace h:=iteT rfl h
   refine AW.cond_true (by simp) ?_
   refine AW.skip ?_
   try simp only[nm]
   refine AW.block ?_
   replace h:=ltE h;obtain⟨v6,e6,h⟩:=h
   replace h:=ltE h;obtain⟨v7,e7,h⟩:=h
   replace h:=bnE h;obtain⟨v8,e8,h⟩:=h
   replace h:=ltE h;obtain⟨v9,e9,h⟩:=h
   apply AW.step
   ·simp[← e6,← e7,e8,← e9]
    intros;rfl
   replace h:=bnE h;obtain⟨v10,e10,h⟩:=h
   replace h:=bnE h;obtain⟨v11,e11,h⟩:=h
   replace h:=ltE h;obtain⟨v12,e12,h⟩:=h
   apply AW.step
   ·simp[Ac e10,← e12]
    intros
    refine Ae EB (EM e11) rfl ⟨.g ⟨.s _,.s _,.s _,.al _ _ _,.al _ _ _,.s _,trivial⟩,.same rfl,trivial⟩ ?_
    try simp[Ac e10,← e12]
    intros;rfl
   cases v12 with
   |true =>
    replace h:=iteT rfl h
    refine AW.cond_true (by simp) ?_
    replace h:=ltE h;obtain⟨v13,e13,h⟩:=h
    apply AW.last
    ·simp[← e13]
     intros;rfl
    obtain rfl:=oi h
    refine nP_i ?_
    refine Weak.mixN [] hn0 (by decide) ?_ ?_ rfl
    all_goals first|(simp[Aa,Ab,pickOb];done)|rfl
   |false =>
    replace h:=iteF rfl h
    refine AW.cond_false (by simp) ?_
    apply AW.last
    ·simp
     intros;rfl
    obtain rfl:=oi h
    refine nP_i ?_
    refine Weak.mixN [] hn0 (by decide) ?_ ?_ rfl
    all_goals first|(simp[Aa,Ab,pickOb];done)|rfl
  |false =>
   replace h:=iteF rfl h
   refine AW.cond_false (by simp) ?_
   refine AW.exit ?_
   try simp only[nm]
   obtain rfl:=oi h
   refine xP_i ?_
   refine Weak.mixN [] hn0 (by decide) ?_ ?_ rfl
   all_goals first|(simp[Aa,Ab,pickOb];done)|rfl
 ·rintro e s hp
  obtain⟨rfl,hw⟩:=hp
  refine⟨_,hw,?_⟩
  try simp only[nm]
  replace h:=bnE h;obtain⟨y14,g14,h⟩:=h
  refine AW.flow (p:=fun gh ls=>(nP (cx:=cx) (fun q=>(⟨[(6,.l (.s (.int .i64 y3))),(7,.l (.s (.bool q)))],[],49,gh,ls⟩:St))) y14) ?_ ?_
  ·replace h:=g14;clear g14
   replace h:=ltE h;obtain⟨v15,e15,h⟩:=h
   cases v15 with
   |true =>
    replace h:=iteT rfl h
    replace h:=bnE h;obtain⟨v16,e16,h⟩:=h
    replace h:=bnE h;obtain⟨v17,e17,h⟩:=h
    replace h:=ltE h;obtain⟨v18,e18,h⟩:=h
    apply AW.last
    ·simp[← e15,Ac e16,← e18]
     intros
     refine Ae EB (EM e17) rfl ⟨.g ⟨.s _,.s _,.s _,.al _ _ _,.al _ _ _,.s _,trivial⟩,.same rfl,trivial⟩ ?_
     try simp[← e15,Ac e16,← e18]
     intros;rfl
    obtain rfl:=oi h
    refine nP_i ?_
    refine Weak.mixN [] hn0 (by decide) ?_ ?_ rfl
    all_goals first|(simp[Aa,Ab,pickOb];done)|rfl
   |false =>
    replace h:=iteF rfl h
    apply AW.last
    ·simp[← e15]
     intros;rfl
    obtain rfl:=oi h
    refine nP_i ?_
    refine Weak.mixN [] hn0 (by decide) ?_ ?_ rfl
    all_goals first|(simp[Aa,Ab,pickOb];done)|rfl
  ·rintro e s hp
   obtain⟨rfl,hw⟩:=hp
   refine⟨_,hw,?_⟩
   try simp only[nm]
   obtain rfl:=oi h
   refine AW.ret ?_
   refine Left.plain hnb (by simp[Tryz.f126,resV,resC,comp];rfl) rfl rfl ?_
   simp
theorem CG:Enters Tryz.prog 126:=enters Tryz.func126 (by kernel_rfl) rfl
def BB (n:Nat) (a0:List Pair) (a1:ByteArray):Option (Int×Bool) :=
bn (AY n a0 a1) fun v1 =>
some (v1.1,v1.2)
theorem H6 {n:Nat} {a0:List Pair} {a1:ByteArray} {r:Int×Bool} (h:BB n a0 a1=some r):Sound Tryz.prog 107 [.l (.d true 6 (encPair a0)),.l (.s (.string a1))] [] (.t [(false,[.s (.int .i64 r.1)]),(false,[.s (.bool r.2)])]) []:=by
 unfold BB at h
 refine Sound.of_aw (fn:=Tryz.f107) (c:=_) Tryz.func107 rfl (by simp[Tryz.f107]) fun cx hG hnb=>?_
 rw[show Tryz.f107.ntmps=11 from rfl]
 have hn0:cx.nb=0:=hnb
 simp only[An,initTm,List.map_cons,List.map_nil]
 apply AW.step
 ·simp
  intros;rfl
 replace h:=bnE h;obtain⟨v1,e1,h⟩:=h
 apply AW.step
 ·simp
  intros
  refine Ae CG (CL e1) rfl ⟨.d _ _ _,.same rfl,.same rfl,trivial⟩ ?_
  try simp
  intros;rfl
 obtain rfl:=oi h
 refine AW.ret ?_
 refine Left.plain hnb (by simp[Tryz.f107,resV,resC,comp];rfl) rfl rfl ?_
 simp
theorem HE:Enters Tryz.prog 107:=enters Tryz.func107 (by kernel_rfl) rfl
def BW (n:Nat) (a0:List Pair) (a1:List Effect):Option (List Pair) :=
chk (small 96 a0) <|
lt (lenI a0) fun v2 =>
bn (iter n (fun (y3:Int×List Pair) =>
lt (ltI y3.1 v2) fun v6 =>
ite' v6 (bn (nth y3.2 y3.1) fun v7 =>
bn (Bq n v7.item) fun v9 =>
lt (y3.2.set y3.1.toNat (⟨v7.key,v9⟩:Pair)) fun v11 =>
lt (addI .i64 y3.1 1) fun v15 =>
some (.inl (v15,v11))) (some (.inr y3.2))) (0,a0)) fun (y4:List Pair) =>
lt (lenI a1) fun v16 =>
bn (iter n (fun (y17:Int×List Pair) =>
lt (ltI y17.1 v16) fun v20 =>
ite' v20 (bn (bn (nth a1 y17.1) fun v22 =>
chk (room y17.2.length 1) <|
bn (BB n y17.2 v22.key) fun v24 =>
bn (lt (v24.2) fun v26 =>
ite' v26 (some ((true,v22.gone))) (some ((false,false)))) fun (y25:Bool×Bool) =>
lt (y25.2) fun v27 =>
ite' v27 (lt (addI .i64 v24.1 1) fun v28 =>
chk (delB y17.2 v24.1 v28) <|
lt (delL y17.2 v24.1.toNat) fun v30 =>
some (v30)) (lt (y25.1) fun v31 =>
ite' v31 (bn (Bq n v22.item) fun v32 =>
bn (nth y17.2 v24.1) fun v33 =>
lt (y17.2.set v24.1.toNat (⟨v33.key,v32⟩:Pair)) fun v35 =>
some (v35)) (lt (notB v22.gone) fun v38 =>
ite' v38 (bn (Bq n v22.item) fun v39 =>
chk (insB y17.2 v24.1) <|
lt (insL y17.2 v24.1.toNat (⟨v22.key,v39⟩:Pair)) fun v41 =>
some (v41)) (some (y17.2))))) fun (y21:List Pair) =>
lt (addI .i64 y17.1 1) fun v42 =>
some (.inl (v42,y21))) (some (.inr y17.2))) (0,y4)) fun (y18:List Pair) =>
chk (room y18.length 1) <|
some y18
theorem Ge {n:Nat} {a0:List Pair} {a1:List Effect} {r:List Pair} (h:BW n a0 a1=some r):Sound Tryz.prog 81 [.l (.d false 6 (encPair a0)),.l (.d false 7 (encEffect a1))] [] (.l (.d false 6 (encPair r))) []:=by
 unfold BW at h
 refine Sound.of_aw (fn:=Tryz.f81) (c:=_) Tryz.func81 rfl (by simp[Tryz.f81]) fun cx hG hnb=>?_
 rw[show Tryz.f81.ntmps=78 from rfl]
 have hn0:cx.nb=0:=hnb
 simp only[An,initTm,List.map_cons,List.map_nil]
 apply AW.step
 ·simp
  intros;rfl
 replace h:=chkE h;obtain⟨e1,h⟩:=h
 apply AW.step
 ·simp[outR]
  intros
  refine As ES (Fm a0 (AP e1)) rfl (by simp) ⟨.same rfl,trivial⟩ ?_
  try simp[outR]
  intros;rfl
 refine AW.seq ?_
 replace h:=ltE h;obtain⟨v2,e2,h⟩:=h
 apply AW.step
 ·simp[Ad e2]
  intros;rfl
 refine AW.block ?_
 replace h:=bnE h;obtain⟨y4,g4,h⟩:=h
 refine AW.iterP g4 (mk:=fun gh ls q=>(⟨[(1,.l (.d false 7 (encEffect a1))),(5,.l (.r 0 6 0 q.2.length)),(14,.l (.s (.int .i64 v2))),(15,.l (.s (.int .i64 q.1)))],[some ⟨114,6,true,none,lvs (encPair q.2)⟩],78,gh,ls⟩:St)) (N:=fun gh ls=>(xP 0 (cx:=cx) (fun q=>(⟨[(1,.l (.d false 7 (encEffect a1))),(5,.l (.r 0 6 0 q.length))],[some ⟨114,6,true,none,lvs (encPair q)⟩],78,gh,ls⟩:St)))) ?_ noX ?_ ?_
 ·refine Weak.mixN [some 0] hn0 (by decide) ?_ ?_ rfl
  all_goals first|(simp[Aa,Ab,pickOb];done)|rfl
 ·clear h;intro y3 y5 h
  replace h:=ltE h;obtain⟨v6,e6,h⟩:=h
  apply AW.step
  ·simp[← e6]
   intros;rfl
  refine AW.seq ?_
  cases v6 with
  |true =>
   replace h:=iteT rfl h
   refine AW.cond_true (by simp) ?_
   refine AW.skip ?_
   try simp only[nm]
   refine AW.seq ?_
   refine AW.block ?_
   apply AW.step
   ·simp
    intros;rfl
   replace h:=bnE h;obtain⟨v7,e7,h⟩:=h
   have f8:=AH e7
   try simp[Ac e7] at f8
   replace h:=bnE h;obtain⟨v9,e9,h⟩:=h
   have f10:=AH e7
   try simp[Ac e7,f8,AM (Ac e7).2 (j:=1) (k:=5) (by decide),AD (Ac e7).2 (j:=1) (m:=5) (by decide),lvs1] at f10
   replace h:=ltE h;obtain⟨v11,e11,h⟩:=h
   have f12:=Du (Ac e7).2 e11 (j:=1) (cs:=[.s (.int .i64 v9.kind),.s (.string v9.s),.d false 2 (encField v9.f),.d false 1 (encS v9.l),.s (.int .i64 v9.exp)]) (by simp) rfl
   try simp at f12
   have f13:=f8
   try simp only[Ap e11] at f13
   have f14:=f10
   try simp only[Ap e11] at f14
   apply AW.last
   ·simp[Ac e7,f8,AM (Ac e7).2 (j:=1) (k:=5) (by decide),AD (Ac e7).2 (j:=1) (m:=5) (by decide),lvs1,f10,f12,f13,f14]
    intros
    refine Ae C9 (Dy e9) rfl ⟨.same rfl,trivial⟩ ?_
    try simp[Ac e7,f8,AM (Ac e7).2 (j:=1) (k:=5) (by decide),AD (Ac e7).2 (j:=1) (m:=5) (by decide),lvs1,f10,f12,f13,f14]
    intros;rfl
   try simp only[nm]
   replace h:=ltE h;obtain⟨v15,e15,h⟩:=h
   apply AW.last
   ·simp[← e15]
    intros;rfl
   obtain rfl:=oi h
   refine nP_i ?_
   refine Weak.mixN [some 0] hn0 (by decide) ?_ ?_ rfl
   all_goals first|(simp[Aa,Ab,pickOb,Ap e11];done)|rfl
  |false =>
   replace h:=iteF rfl h
   refine AW.cond_false (by simp) ?_
   refine AW.exit ?_
   try simp only[nm]
   obtain rfl:=oi h
   refine xP_i ?_
   refine Weak.mixN [some 0] hn0 (by decide) ?_ ?_ rfl
   all_goals first|(simp[Aa,Ab,pickOb];done)|rfl
 ·rintro e s hp
  obtain⟨rfl,hw⟩:=hp
  refine⟨_,hw,?_⟩
  try simp only[nm]
  refine AW.seq ?_
  replace h:=ltE h;obtain⟨v16,e16,h⟩:=h
  apply AW.step
  ·simp[Ad e16]
   intros;rfl
  refine AW.block ?_
  replace h:=bnE h;obtain⟨y18,g18,h⟩:=h
  refine AW.iterP g18 (mk:=fun gh ls q=>(⟨[(5,.l (.r 0 6 0 q.2.length)),(29,.l (.d false 7 (encEffect a1))),(30,.l (.s (.int .i64 v16))),(31,.l (.s (.int .i64 q.1)))],[some ⟨114,6,true,none,lvs (encPair q.2)⟩],78,gh,ls⟩:St)) (N:=fun gh ls=>(xP 2 (cx:=cx) (fun q=>(⟨[(5,.l (.r 0 6 0 q.length))],[some ⟨114,6,true,none,lvs (encPair q)⟩],78,gh,ls⟩:St)))) ?_ noX ?_ ?_
  ·refine Weak.mixN [some 0] hn0 (by decide) ?_ ?_ rfl
   all_goals first|(simp[Aa,Ab,pickOb];done)|rfl
  ·clear h;intro y17 y19 h
   replace h:=ltE h;obtain⟨v20,e20,h⟩:=h
   apply AW.step
   ·simp[← e20]
    intros;rfl
   refine AW.seq ?_
   cases v20 with
   |true =>
    replace h:=iteT rfl h
    refine AW.cond_true (by simp) ?_
    refine AW.skip ?_
    try simp only[nm]
    replace h:=bnE h;obtain⟨y21,g21,h⟩:=h
    refine AW.flow (p:=fun gh ls=>(nP (cx:=cx) (fun q=>(⟨[(5,.l (.r 0 6 0 q.length)),(29,.l (.d false 7 (encEffect a1))),(30,.l (.s (.int .i64 v16))),(31,.l (.s (.int .i64 y17.1)))],[some ⟨114,6,true,none,lvs (encPair q)⟩],78,gh,ls⟩:St))) y21) ?_ ?_
    ·replace h:=g21;clear g21
     refine AW.block ?_
     replace h:=bnE h;obtain⟨v22,e22,h⟩:=h
     apply AW.step
     ·simp[Ac e22]
      intros;rfl
     replace h:=chkE h;obtain⟨e23,h⟩:=h
     replace h:=bnE h;obtain⟨v24,e24,h⟩:=h
     apply AW.step
     ·simp
      intros
      refine Ae HE (H6 e24) rfl ⟨.rowd (by simp) rfl (by omega) (Av _) (by simp) (by first|exact (Ah e23).2|simpa using (Ah e23).2|simp),.same rfl,trivial⟩ ?_
      try simp
      intros;rfl
     refine AW.block ?_
     replace h:=bnE h;obtain⟨y25,g25,h⟩:=h
     refine AW.flow (p:=fun gh ls=>(nP (cx:=cx) (fun q=>(⟨[(5,.l (.r 0 6 0 y17.2.length)),(8,.l (.p 1 0)),(9,.l (.s (.int .i64 v24.1))),(10,.l (.s (.bool q.1))),(29,.l (.d false 7 (encEffect a1))),(30,.l (.s (.int .i64 v16))),(31,.l (.s (.int .i64 y17.1))),(42,.l (.s (.bool q.2)))],[some ⟨114,6,true,none,lvs (encPair y17.2)⟩,some ⟨59,7,false,none,[.s (.string v22.key),.s (.bool v22.gone),.s (.int .i64 v22.item.kind),.s (.string v22.item.s),.d false 2 (encField v22.item.f),.d false 1 (encS v22.item.l),.s (.int .i64 v22.item.exp)]⟩],78,gh,ls⟩:St))) y25) ?_ ?_
     ·replace h:=g25;clear g25
      replace h:=ltE h;obtain⟨v26,e26,h⟩:=h
      cases v26 with
      |true =>
       replace h:=iteT rfl h
       apply AW.last
       ·simp[← e26]
        intros;rfl
       obtain rfl:=oi h
       refine nP_i ?_
       refine Weak.mixN [some 0,some 1] hn0 (by decide) ?_ ?_ rfl
       all_goals first|(simp[Aa,Ab,pickOb];done)|rfl
      |false =>
       replace h:=iteF rfl h
       apply AW.last
       ·simp[← e26]
        intros;rfl
       obtain rfl:=oi h
       refine nP_i ?_
       refine Weak.mixN [some 0,some 1] hn0 (by decide) ?_ ?_ rfl
       all_goals first|(simp[Aa,Ab,pickOb];done)|rfl
     ·rintro e s hp
      obtain⟨rfl,hw⟩:=hp
      refine⟨_,hw,?_⟩
      try simp only[nm]
      replace h:=ltE h;obtain⟨v27,e27,h⟩:=h
      rw[← e27]
      cases v27 with
      |true =>
       replace h:=iteT rfl h
       refine AW.cond_true (by simp) ?_
       replace h:=ltE h;obtain⟨v28,e28,h⟩:=h
       replace h:=chkE h;obtain⟨e29,h⟩:=h
       replace h:=ltE h;obtain⟨v30,e30,h⟩:=h
       apply AW.last
       ·simp[← e28,obAfter,outR,keptR,Aa,Ab,← e30,Km e29 e30]
        intros
        refine Dt [0] [2] ⟨_,rfl,rfl,rfl,rfl⟩ Mf (OW y17.2 v24.1 v28 e29) (by decide) rfl rfl (by simp[pickOb]) rfl rfl rfl (by simp) (by simp) ⟨.l (.own (by simp[Aa,Ab])),.l (.s _),.l (.s _),trivial⟩ ?_
        try simp[← e28,obAfter,outR,keptR,Aa,Ab,← e30,Km e29 e30]
        intros;rfl
       obtain rfl:=oi h
       refine nP_i ?_
       refine Weak.mixN [some 2] hn0 (by decide) ?_ ?_ rfl
       all_goals first|(simp[Aa,Ab,pickOb];done)|rfl
      |false =>
       replace h:=iteF rfl h
       refine AW.cond_false (by simp) ?_
       apply AW.step
       ·simp
        intros;rfl
       replace h:=ltE h;obtain⟨v31,e31,h⟩:=h
       rw[← e31]
       cases v31 with
       |true =>
        replace h:=iteT rfl h
        refine AW.cond_true (by simp) ?_
        replace h:=bnE h;obtain⟨v32,e32,h⟩:=h
        replace h:=bnE h;obtain⟨v33,e33,h⟩:=h
        have f34:=AH e33
        try simp[Ac e33] at f34
        replace h:=ltE h;obtain⟨v35,e35,h⟩:=h
        have f36:=Du (Ac e33).2 e35 (j:=1) (cs:=[.s (.int .i64 v32.kind),.s (.string v32.s),.d false 2 (encField v32.f),.d false 1 (encS v32.l),.s (.int .i64 v32.exp)]) (by simp) rfl
        try simp at f36
        have f37:=f34
        try simp only[Ap e35] at f37
        apply AW.last
        ·simp[Ac e33,f34,AD (Ac e33).2 (j:=1) (m:=5) (by decide),f36,f37]
         intros
         refine Ae C9 (Dy e32) rfl ⟨.same rfl,trivial⟩ ?_
         try simp[Ac e33,f34,AD (Ac e33).2 (j:=1) (m:=5) (by decide),f36,f37]
         intros;rfl
        obtain rfl:=oi h
        refine nP_i ?_
        refine Weak.mixN [some 0] hn0 (by decide) ?_ ?_ rfl
        all_goals first|(simp[Aa,Ab,pickOb,Ap e35];done)|rfl
       |false =>
        replace h:=iteF rfl h
        refine AW.cond_false (by simp) ?_
        replace h:=ltE h;obtain⟨v38,e38,h⟩:=h
        apply AW.step
        ·simp[← e38]
         intros;rfl
        cases v38 with
        |true =>
         replace h:=iteT rfl h
         refine AW.cond_true (by simp) ?_
         replace h:=bnE h;obtain⟨v39,e39,h⟩:=h
         replace h:=chkE h;obtain⟨e40,h⟩:=h
         replace h:=ltE h;obtain⟨v41,e41,h⟩:=h
         apply AW.drawnF (V:=[_,_,_,_,_,_,_,_,_]) (M:=[[some ⟨114,6,true,none,lvs (encPair y17.2)⟩,some ⟨59,7,false,none,[.s (.string v22.key),.s (.bool v22.gone),.s (.int .i64 v22.item.kind),.s (.string v22.item.s),.d false 2 (encField v22.item.f),.d false 1 (encS v22.item.l),.s (.int .i64 v22.item.exp)]⟩],[some ⟨114,6,true,none,lvs (encPair y17.2)⟩,some ⟨59,7,false,none,[.s (.string v22.key),.s (.bool v22.gone),.s (.int .i64 v22.item.kind),.s (.string v22.item.s),.d false 2 (encField v22.item.f),.d false 1 (encS v22.item.l),.s (.int .i64 v22.item.exp)]⟩,some ⟨114,6,true,none,[.s (.string v22.key),.s (.int .i64 v39.kind),.s (.string v39.s),.d false 2 (encField v39.f),.d false 1 (encS v39.l),.s (.int .i64 v39.exp)]⟩]]) mixed [⟨[0,1],[],[(5,none)],false⟩,⟨[0,1],[],[(9,none)],false⟩,⟨[0],[],[(8,none)],false⟩,⟨[0],[2],[(68,some 2)],false⟩,⟨[0],[],[(8,none)],false⟩,⟨[0],[4],[(70,some 4)],false⟩,⟨[0],[4,5],[(71,some 5)],false⟩,⟨[0],[2,3,4,5,6],[(69,some 3),(72,some 6)],false⟩,⟨[0],[2,3,4,5,6,7],[(73,some 7)],true⟩,⟨[],[0,1,2,3,4,5,6,7,8],[],false⟩,⟨[],[0,1,2,3,4,5,6,7,8,9],[],false⟩] 9 1 (by kernel_rfl) (by kernel_rfl)
         ·rfl
         ·refine⟨⟨?_,?_⟩,⟨?_,?_⟩,?_,?_,?_,?_,?_,?_,?_,trivial⟩
          iterate 8 (· intro tm hr;simp[AllL,rdV] at hr;simp[hr,obAfter,outR,keptR,Aa,Ab,← e41,Bl e40 e41];intros;first|exact KD.mk|exact KD.mkN)
          ·intro tm hr
           simp[AllL,rdV] at hr
           simp[hr,obAfter,outR,keptR,Aa,Ab,← e41,Bl e40 e41]
           intros
           refine Ae C9 (Dy e39) rfl ⟨.same rfl,trivial⟩ ?_
           try simp[obAfter,outR,keptR,Aa,Ab,← e41,Bl e40 e41]
           intros;first|exact KD.mk|exact KD.mkN
          ·intro tm hr;simp[AllL,rdV] at hr;simp[hr,obAfter,outR,keptR,Aa,Ab,← e41,Bl e40 e41];intros;first|exact KD.mk|exact KD.mkN
          ·intro tm hr
           simp[AllL,rdV] at hr
           simp[hr,obAfter,outR,keptR,Aa,Ab,← e41,Bl e40 e41]
           intros
           refine Ay ?_
           try simp[obAfter,outR,keptR,Aa,Ab,← e41,Bl e40 e41]
           intros;first|exact KD.mk|exact KD.mkN
         ·rfl
         ·simp[tmD,putD,obAfter,outR,keptR,Aa,Ab,← e41,Bl e40 e41];rfl
         ·simp[obAfter,outR,keptR,Aa,Ab,← e41,Bl e40 e41]
          intros
          refine Dt [0,2] [3,4] ⟨_,rfl,rfl,_,rfl,rfl,rfl,rfl⟩ Mh (OY y17.2 v24.1 (⟨v22.key,v39⟩:Pair) e40) (by decide) rfl rfl (by simp[pickOb,Eb]) rfl rfl rfl (by simp) (by simp) ⟨.l (.own (by simp[Aa,Ab])),.l (.s _),.l (.own (by simp[Aa,Ab])),trivial⟩ ?_
          try simp[obAfter,outR,keptR,Aa,Ab,← e41,Bl e40 e41]
          intros;rfl
         obtain rfl:=oi h
         refine nP_i ?_
         refine Weak.mixN [some 3] hn0 (by decide) ?_ ?_ rfl
         all_goals first|(simp[Aa,Ab,pickOb];done)|rfl
        |false =>
         replace h:=iteF rfl h
         refine AW.cond_false (by simp) ?_
         refine AW.skip ?_
         try simp only[nm]
         obtain rfl:=oi h
         refine nP_i ?_
         refine Weak.mixN [some 0] hn0 (by decide) ?_ ?_ rfl
         all_goals first|(simp[Aa,Ab,pickOb];done)|rfl
    ·rintro e s hp
     obtain⟨rfl,hw⟩:=hp
     refine⟨_,hw,?_⟩
     try simp only[nm]
     replace h:=ltE h;obtain⟨v42,e42,h⟩:=h
     apply AW.last
     ·simp[← e42]
      intros;rfl
     obtain rfl:=oi h
     refine nP_i ?_
     refine Weak.mixN [some 0] hn0 (by decide) ?_ ?_ rfl
     all_goals first|(simp[Aa,Ab,pickOb];done)|rfl
   |false =>
    replace h:=iteF rfl h
    refine AW.cond_false (by simp) ?_
    refine AW.exit ?_
    try simp only[nm]
    obtain rfl:=oi h
    refine xP_i ?_
    refine Weak.mixN [some 0] hn0 (by decide) ?_ ?_ rfl
    all_goals first|(simp[Aa,Ab,pickOb];done)|rfl
  ·rintro e s hp
   obtain⟨rfl,hw⟩:=hp
   refine⟨_,hw,?_⟩
   try simp only[nm]
   apply AW.step
   ·simp
    intros;rfl
   replace h:=chkE h;obtain⟨e43,h⟩:=h
   refine AW.frzRow 0 (ty:=114) (cap:=none) (sz:=6) (es:=encPair y18) (by simp) (by omega) (Av _) (by first|exact (Ah e43).2|simpa using (Ah e43).2|simp) (by simp[Tm.frz,AV.frz,LV.frz];rfl) (by simp[Ob.frz,LV.frz];rfl) rfl ?_
   obtain rfl:=oi h
   refine AW.ret ?_
   refine Left.plain hnb (by simp[Tryz.f81,resV,resC,comp];rfl) rfl rfl ?_
   simp
theorem FF:Enters Tryz.prog 81:=enters Tryz.func81 (by kernel_rfl) rfl
def DM (n:Nat) (a0:List Pair) (a1:Int):Option (List Pair×Int) :=
some (a0,a1)
theorem Ks {n:Nat} {a0:List Pair} {a1:Int} {r:List Pair×Int} (h:DM n a0 a1=some r):Sound Tryz.prog 78 [.l (.d false 6 (encPair a0)),.l (.s (.int .i64 a1))] [] (.l (.f 103 [0,1])) [some ⟨25,1,false,none,[.d false 6 (encPair r.1)]⟩,some ⟨3,1,false,none,[.s (.int .i64 r.2)]⟩]:=by
 unfold DM at h
 refine Sound.of_aw (fn:=Tryz.f78) (c:=_) Tryz.func78 rfl (by simp[Tryz.f78]) fun cx hG hnb=>?_
 rw[show Tryz.f78.ntmps=6 from rfl]
 have hn0:cx.nb=0:=hnb
 simp only[An,initTm,List.map_cons,List.map_nil]
 apply AW.step
 ·simp
  intros;rfl
 apply AW.step
 ·simp
  intros;rfl
 obtain rfl:=oi h
 refine AW.ret ?_
 refine Left.of (av:=_) (by simp[Tryz.f78,resV,resC,comp];rfl) ?_
 exact LeftV.mix 0 [some 0,some 1] hn0 rfl (by decide) rfl (by simp[pickOb,Aa,Ab]) (by simp[Aa,Ab])
theorem Ju:Enters Tryz.prog 78:=enters Tryz.func78 (by kernel_rfl) rfl
def Br (n:Nat) (a0:ByteArray) (a1:Int):Option Int :=
lt (idxB a0 a1) fun v1 =>
some v1
theorem Dp {n:Nat} {a0:ByteArray} {a1:Int} {r:Int} (h:Br n a0 a1=some r):Sound Tryz.prog 163 [.l (.s (.string a0)),.l (.s (.int .u8 a1))] [] (.l (.s (.int .i64 r))) []:=by
 unfold Br at h
 refine Sound.of_aw (fn:=Tryz.f163) (c:=_) Tryz.func163 rfl (by simp[Tryz.f163]) fun cx hG hnb=>?_
 rw[show Tryz.f163.ntmps=8 from rfl]
 have hn0:cx.nb=0:=hnb
 simp only[An,initTm,List.map_cons,List.map_nil]
 apply AW.step
 ·simp
  intros;rfl
 replace h:=ltE h;obtain⟨v1,e1,h⟩:=h
 apply AW.step
 ·simp[← e1]
  intros
  refine Mj Tryz.func172 (by kernel_rfl) (by kernel_rfl) (by kernel_rfl) (by kernel_rfl) ?_
  try simp[← e1]
  intros;rfl
 obtain rfl:=oi h
 refine AW.ret ?_
 refine Left.plain hnb (by simp[Tryz.f163,resV,resC,comp];rfl) rfl rfl ?_
 simp
theorem Db:Enters Tryz.prog 163:=enters Tryz.func163 (by kernel_rfl) rfl
def Bs (n:Nat) (a0:ByteArray):Option Int :=
lt (eqS ⟨#[123]⟩ a0) fun v1 =>
ite' v1 (some 0) (bn (Br n a0 123) fun v2 =>
some v2)
theorem Gj {n:Nat} {a0:ByteArray} {r:Int} (h:Bs n a0=some r):Sound Tryz.prog 152 [.l (.s (.string a0)),.l (.s (.string ⟨#[123]⟩))] [] (.l (.s (.int .i64 r))) []:=by
 unfold Bs at h
 refine Sound.of_aw (fn:=Tryz.f152) (c:=_) Tryz.func152 rfl (by simp[Tryz.f152]) fun cx hG hnb=>?_
 rw[show Tryz.f152.ntmps=143 from rfl]
 have hn0:cx.nb=0:=hnb
 simp only[An,initTm,List.map_cons,List.map_nil]
 apply AW.step
 ·simp
  intros;rfl
 apply AW.step
 ·simp[(show lenS ⟨#[123]⟩=1 from rfl)]
  intros;rfl
 refine AW.seq ?_
 refine AW.block ?_
 replace h:=ltE h;obtain⟨v1,e1,h⟩:=h
 apply AW.step
 ·simp[(show eqI 1 0=false from rfl),← e1]
  intros;rfl
 cases v1 with
 |true =>
  replace h:=iteT rfl h
  refine AW.cond_true (by simp) ?_
  apply AW.step
  ·simp
   intros;rfl
  obtain rfl:=oi h
  refine AW.ret ?_
  refine Left.plain hnb (by simp[Tryz.f152,resV,resC,comp];rfl) rfl rfl ?_
  simp
 |false =>
  replace h:=iteF rfl h
  refine AW.cond_false (by simp) ?_
  apply AW.step
  ·simp[(show eqI 1 1=true from rfl)]
   intros;rfl
  refine AW.cond_true (by simp) ?_
  replace h:=bnE h;obtain⟨v2,e2,h⟩:=h
  apply AW.step
  ·simp[(show (0:Nat)<ByteArray.size ⟨#[123]⟩ by decide),(show bAt ⟨#[123]⟩ 0=123 from rfl)]
   intros
   refine Ae Db (Dp e2) rfl ⟨.same rfl,.same rfl,trivial⟩ ?_
   try simp[(show (0:Nat)<ByteArray.size ⟨#[123]⟩ by decide),(show bAt ⟨#[123]⟩ 0=123 from rfl)]
   intros;rfl
  obtain rfl:=oi h
  refine AW.ret ?_
  refine Left.plain hnb (by simp[Tryz.f152,resV,resC,comp];rfl) rfl rfl ?_
  simp
theorem F0:Enters Tryz.prog 152:=enters Tryz.func152 (by kernel_rfl) rfl
def BL (n:Nat) (a0:ByteArray):Option (ByteArray×ByteArray×Bool) :=
bn (Bs n a0) fun v1 =>
lt (geI v1 0) fun v2 =>
ite' v2 (bn (segSh a0 v1) fun v3 =>
lt (addI .i64 v1 1) fun v5 =>
bn (segSl a0 v5) fun v6 =>
some (v3,v6,true)) (some (a0,⟨#[]⟩,false))
def DY1t2:List DI:=[⟨[0],[],[(0,none)],false⟩,⟨[0],[],[(7,none)],false⟩,⟨[0],[0,1],[(13,some 0),(14,some 1)],false⟩,⟨[0],[],[(0,none)],false⟩,⟨[0],[],[(7,none)],false⟩,⟨[0],[],[(1,none)],false⟩,⟨[0],[5],[(18,some 5)],false⟩,⟨[0],[4,5,6],[(17,some 4),(19,some 6)],false⟩,⟨[0],[3,4,5,6,7],[(16,some 3),(20,some 7)],false⟩,⟨[0],[0,1,2],[(15,some 2)],false⟩,⟨[],[0,1,2,3,4,5,6,7,8,9],[],false⟩,⟨[],[0,1,2,3,4,5,6,7,8,9,10],[],false⟩]
theorem Ha {n:Nat} {a0:ByteArray} {r:ByteArray×ByteArray×Bool} (h:BL n a0=some r):Sound Tryz.prog 147 [.l (.s (.string a0)),.l (.s (.string ⟨#[123]⟩))] [] (.t [(false,[.s (.string r.1)]),(false,[.s (.string r.2.1)]),(false,[.s (.bool r.2.2)])]) []:=by
 unfold BL at h
 refine Sound.of_aw (fn:=Tryz.f147) (c:=_) Tryz.func147 rfl (by simp[Tryz.f147]) fun cx hG hnb=>?_
 rw[show Tryz.f147.ntmps=23 from rfl]
 have hn0:cx.nb=0:=hnb
 simp only[An,initTm,List.map_cons,List.map_nil]
 apply AW.step
 ·simp
  intros;rfl
 refine AW.seq ?_
 replace h:=bnE h;obtain⟨v1,e1,h⟩:=h
 apply AW.step
 ·simp
  intros
  refine Ae F0 (Gj e1) rfl ⟨.same rfl,.same rfl,trivial⟩ ?_
  try simp
  intros;rfl
 replace h:=ltE h;obtain⟨v2,e2,h⟩:=h
 apply AW.step
 ·simp[← e2]
  intros;rfl
 cases v2 with
 |true =>
  replace h:=iteT rfl h
  refine AW.cond_true (by simp) ?_
  replace h:=bnE h;obtain⟨v3,e3,h⟩:=h
  have f4:=LK e3
  try simp at f4
  replace h:=ltE h;obtain⟨v5,e5,h⟩:=h
  replace h:=bnE h;obtain⟨v6,e6,h⟩:=h
  have f7:=LJ e6
  try simp[f4,(show lenS ⟨#[123]⟩=1 from rfl),← e5] at f7
  apply AW.drawnP (V:=[_,_,_,_,_,_,_,_,_,_]) mixed DY1t2 10 (by kernel_rfl) (by kernel_rfl)
  ·refine⟨?_,?_,?_,?_,?_,?_,?_,?_,?_,?_,trivial⟩
   iterate 10 (· intro tm hr;simp[AllL,rdV] at hr;simp[hr,f4,(show lenS ⟨#[123]⟩=1 from rfl),← e5,f7];intros;first|exact KD.mk|exact KD.mkN)
  ·rfl
  ·simp[tmD,putD,f4,(show lenS ⟨#[123]⟩=1 from rfl),← e5,f7];rfl
  ·simp[f4,(show lenS ⟨#[123]⟩=1 from rfl),← e5,f7]
   intros;rfl
  obtain rfl:=oi h
  refine AW.ret ?_
  refine Left.plain hnb (by simp[Tryz.f147,resV,resC,comp];rfl) rfl rfl ?_
  simp
 |false =>
  replace h:=iteF rfl h
  refine AW.cond_false (by simp) ?_
  refine AW.skip ?_
  try simp only[nm]
  apply AW.step
  ·simp
   intros;rfl
  obtain rfl:=oi h
  refine AW.ret ?_
  refine Left.plain hnb (by simp[Tryz.f147,resV,resC,comp];rfl) rfl rfl ?_
  simp
theorem GH:Enters Tryz.prog 147:=enters Tryz.func147 (by kernel_rfl) rfl
def BC (n:Nat) (a0:ByteArray):Option (ByteArray×ByteArray×Bool) :=
bn (BL n a0) fun v1 =>
some (v1.1,v1.2.1,v1.2.2)
theorem Jv {n:Nat} {a0:ByteArray} {r:ByteArray×ByteArray×Bool} (h:BC n a0=some r):Sound Tryz.prog 138 [.l (.s (.string a0)),.l (.s (.string ⟨#[123]⟩))] [] (.t [(false,[.s (.string r.1)]),(false,[.s (.string r.2.1)]),(false,[.s (.bool r.2.2)])]) []:=by
 unfold BC at h
 refine Sound.of_aw (fn:=Tryz.f138) (c:=_) Tryz.func138 rfl (by simp[Tryz.f138]) fun cx hG hnb=>?_
 rw[show Tryz.f138.ntmps=13 from rfl]
 have hn0:cx.nb=0:=hnb
 simp only[An,initTm,List.map_cons,List.map_nil]
 apply AW.step
 ·simp
  intros;rfl
 replace h:=bnE h;obtain⟨v1,e1,h⟩:=h
 apply AW.step
 ·simp
  intros
  refine Ae GH (Ha e1) rfl ⟨.same rfl,.same rfl,trivial⟩ ?_
  try simp
  intros;rfl
 obtain rfl:=oi h
 refine AW.ret ?_
 refine Left.plain hnb (by simp[Tryz.f138,resV,resC,comp];rfl) rfl rfl ?_
 simp
theorem IE:Enters Tryz.prog 138:=enters Tryz.func138 (by kernel_rfl) rfl
def Be (n:Nat) (a0:ByteArray):Option Int :=
lt (eqS ⟨#[125]⟩ a0) fun v1 =>
ite' v1 (some 0) (bn (Br n a0 125) fun v2 =>
some v2)
theorem Ft {n:Nat} {a0:ByteArray} {r:Int} (h:Be n a0=some r):Sound Tryz.prog 152 [.l (.s (.string a0)),.l (.s (.string ⟨#[125]⟩))] [] (.l (.s (.int .i64 r))) []:=by
 unfold Be at h
 refine Sound.of_aw (fn:=Tryz.f152) (c:=_) Tryz.func152 rfl (by simp[Tryz.f152]) fun cx hG hnb=>?_
 rw[show Tryz.f152.ntmps=143 from rfl]
 have hn0:cx.nb=0:=hnb
 simp only[An,initTm,List.map_cons,List.map_nil]
 apply AW.step
 ·simp
  intros;rfl
 apply AW.step
 ·simp[(show lenS ⟨#[125]⟩=1 from rfl)]
  intros;rfl
 refine AW.seq ?_
 refine AW.block ?_
 replace h:=ltE h;obtain⟨v1,e1,h⟩:=h
 apply AW.step
 ·simp[(show eqI 1 0=false from rfl),← e1]
  intros;rfl
 cases v1 with
 |true =>
  replace h:=iteT rfl h
  refine AW.cond_true (by simp) ?_
  apply AW.step
  ·simp
   intros;rfl
  obtain rfl:=oi h
  refine AW.ret ?_
  refine Left.plain hnb (by simp[Tryz.f152,resV,resC,comp];rfl) rfl rfl ?_
  simp
 |false =>
  replace h:=iteF rfl h
  refine AW.cond_false (by simp) ?_
  apply AW.step
  ·simp[(show eqI 1 1=true from rfl)]
   intros;rfl
  refine AW.cond_true (by simp) ?_
  replace h:=bnE h;obtain⟨v2,e2,h⟩:=h
  apply AW.step
  ·simp[(show (0:Nat)<ByteArray.size ⟨#[125]⟩ by decide),(show bAt ⟨#[125]⟩ 0=125 from rfl)]
   intros
   refine Ae Db (Dp e2) rfl ⟨.same rfl,.same rfl,trivial⟩ ?_
   try simp[(show (0:Nat)<ByteArray.size ⟨#[125]⟩ by decide),(show bAt ⟨#[125]⟩ 0=125 from rfl)]
   intros;rfl
  obtain rfl:=oi h
  refine AW.ret ?_
  refine Left.plain hnb (by simp[Tryz.f152,resV,resC,comp];rfl) rfl rfl ?_
  simp
theorem Fd:Enters Tryz.prog 152:=enters Tryz.func152 (by kernel_rfl) rfl
def Bm (n:Nat) (a0:ByteArray):Option (ByteArray×ByteArray×Bool) :=
bn (Be n a0) fun v1 =>
lt (geI v1 0) fun v2 =>
ite' v2 (bn (segSh a0 v1) fun v3 =>
lt (addI .i64 v1 1) fun v5 =>
bn (segSl a0 v5) fun v6 =>
some (v3,v6,true)) (some (a0,⟨#[]⟩,false))
theorem F1 {n:Nat} {a0:ByteArray} {r:ByteArray×ByteArray×Bool} (h:Bm n a0=some r):Sound Tryz.prog 147 [.l (.s (.string a0)),.l (.s (.string ⟨#[125]⟩))] [] (.t [(false,[.s (.string r.1)]),(false,[.s (.string r.2.1)]),(false,[.s (.bool r.2.2)])]) []:=by
 unfold Bm at h
 refine Sound.of_aw (fn:=Tryz.f147) (c:=_) Tryz.func147 rfl (by simp[Tryz.f147]) fun cx hG hnb=>?_
 rw[show Tryz.f147.ntmps=23 from rfl]
 have hn0:cx.nb=0:=hnb
 simp only[An,initTm,List.map_cons,List.map_nil]
 apply AW.step
 ·simp
  intros;rfl
 refine AW.seq ?_
 replace h:=bnE h;obtain⟨v1,e1,h⟩:=h
 apply AW.step
 ·simp
  intros
  refine Ae Fd (Ft e1) rfl ⟨.same rfl,.same rfl,trivial⟩ ?_
  try simp
  intros;rfl
 replace h:=ltE h;obtain⟨v2,e2,h⟩:=h
 apply AW.step
 ·simp[← e2]
  intros;rfl
 cases v2 with
 |true =>
  replace h:=iteT rfl h
  refine AW.cond_true (by simp) ?_
  replace h:=bnE h;obtain⟨v3,e3,h⟩:=h
  have f4:=LK e3
  try simp at f4
  replace h:=ltE h;obtain⟨v5,e5,h⟩:=h
  replace h:=bnE h;obtain⟨v6,e6,h⟩:=h
  have f7:=LJ e6
  try simp[f4,(show lenS ⟨#[125]⟩=1 from rfl),← e5] at f7
  apply AW.drawnP (V:=[_,_,_,_,_,_,_,_,_,_]) mixed DY1t2 10 (by kernel_rfl) (by kernel_rfl)
  ·refine⟨?_,?_,?_,?_,?_,?_,?_,?_,?_,?_,trivial⟩
   iterate 10 (· intro tm hr;simp[AllL,rdV] at hr;simp[hr,f4,(show lenS ⟨#[125]⟩=1 from rfl),← e5,f7];intros;first|exact KD.mk|exact KD.mkN)
  ·rfl
  ·simp[tmD,putD,f4,(show lenS ⟨#[125]⟩=1 from rfl),← e5,f7];rfl
  ·simp[f4,(show lenS ⟨#[125]⟩=1 from rfl),← e5,f7]
   intros;rfl
  obtain rfl:=oi h
  refine AW.ret ?_
  refine Left.plain hnb (by simp[Tryz.f147,resV,resC,comp];rfl) rfl rfl ?_
  simp
 |false =>
  replace h:=iteF rfl h
  refine AW.cond_false (by simp) ?_
  refine AW.skip ?_
  try simp only[nm]
  apply AW.step
  ·simp
   intros;rfl
  obtain rfl:=oi h
  refine AW.ret ?_
  refine Left.plain hnb (by simp[Tryz.f147,resV,resC,comp];rfl) rfl rfl ?_
  simp
theorem FG:Enters Tryz.prog 147:=enters Tryz.func147 (by kernel_rfl) rfl
def Bf (n:Nat) (a0:ByteArray):Option (ByteArray×ByteArray×Bool) :=
bn (Bm n a0) fun v1 =>
some (v1.1,v1.2.1,v1.2.2)
theorem HF {n:Nat} {a0:ByteArray} {r:ByteArray×ByteArray×Bool} (h:Bf n a0=some r):Sound Tryz.prog 138 [.l (.s (.string a0)),.l (.s (.string ⟨#[125]⟩))] [] (.t [(false,[.s (.string r.1)]),(false,[.s (.string r.2.1)]),(false,[.s (.bool r.2.2)])]) []:=by
 unfold Bf at h
 refine Sound.of_aw (fn:=Tryz.f138) (c:=_) Tryz.func138 rfl (by simp[Tryz.f138]) fun cx hG hnb=>?_
 rw[show Tryz.f138.ntmps=13 from rfl]
 have hn0:cx.nb=0:=hnb
 simp only[An,initTm,List.map_cons,List.map_nil]
 apply AW.step
 ·simp
  intros;rfl
 replace h:=bnE h;obtain⟨v1,e1,h⟩:=h
 apply AW.step
 ·simp
  intros
  refine Ae FG (F1 e1) rfl ⟨.same rfl,.same rfl,trivial⟩ ?_
  try simp
  intros;rfl
 obtain rfl:=oi h
 refine AW.ret ?_
 refine Left.plain hnb (by simp[Tryz.f138,resV,resC,comp];rfl) rfl rfl ?_
 simp
theorem Hb:Enters Tryz.prog 138:=enters Tryz.func138 (by kernel_rfl) rfl
def BU (n:Nat) (a0:ByteArray):Option ByteArray :=
bn (BC n a0) fun v1 =>
bn (Bf n v1.2.1) fun v2 =>
bn (lt (v1.2.2) fun v4 =>
ite' v4 (lt (v2.2.2) fun v5 =>
ite' v5 (lt (neS v2.1 ⟨#[]⟩) fun v6 =>
some (v6)) (some (false))) (some (false))) fun (y3:Bool) =>
lt (y3) fun v7 =>
ite' v7 (some v2.1) (some a0)
theorem Mm {n:Nat} {a0:ByteArray} {r:ByteArray} (h:BU n a0=some r):Sound Tryz.prog 117 [.l (.s (.string a0))] [] (.l (.s (.string r))) []:=by
 unfold BU at h
 refine Sound.of_aw (fn:=Tryz.f117) (c:=_) Tryz.func117 rfl (by simp[Tryz.f117]) fun cx hG hnb=>?_
 rw[show Tryz.f117.ntmps=31 from rfl]
 have hn0:cx.nb=0:=hnb
 simp only[An,initTm,List.map_cons,List.map_nil]
 apply AW.step
 ·simp
  intros;rfl
 replace h:=bnE h;obtain⟨v1,e1,h⟩:=h
 apply AW.step
 ·simp
  intros
  refine Ae IE (Jv e1) rfl ⟨.same rfl,.same rfl,trivial⟩ ?_
  try simp
  intros;rfl
 replace h:=bnE h;obtain⟨v2,e2,h⟩:=h
 apply AW.step
 ·simp
  intros
  refine Ae Hb (HF e2) rfl ⟨.same rfl,.same rfl,trivial⟩ ?_
  try simp
  intros;rfl
 refine AW.seq ?_
 replace h:=bnE h;obtain⟨y3,g3,h⟩:=h
 refine AW.flow (p:=fun gh ls=>(nP (cx:=cx) (fun q=>(⟨[(0,.l (.s (.string a0))),(6,.l (.s (.string v2.1))),(28,.l (.s (.bool q)))],[],31,gh,ls⟩:St))) y3) ?_ ?_
 ·replace h:=g3;clear g3
  replace h:=ltE h;obtain⟨v4,e4,h⟩:=h
  cases v4 with
  |true =>
   replace h:=iteT rfl h
   replace h:=ltE h;obtain⟨v5,e5,h⟩:=h
   cases v5 with
   |true =>
    replace h:=iteT rfl h
    replace h:=ltE h;obtain⟨v6,e6,h⟩:=h
    apply AW.last
    ·simp[← e4,← e5,← e6]
     intros;rfl
    obtain rfl:=oi h
    refine nP_i ?_
    refine Weak.mixN [] hn0 (by decide) ?_ ?_ rfl
    all_goals first|(simp[Aa,Ab,pickOb];done)|rfl
   |false =>
    replace h:=iteF rfl h
    apply AW.last
    ·simp[← e4,← e5]
     intros;rfl
    obtain rfl:=oi h
    refine nP_i ?_
    refine Weak.mixN [] hn0 (by decide) ?_ ?_ rfl
    all_goals first|(simp[Aa,Ab,pickOb];done)|rfl
  |false =>
   replace h:=iteF rfl h
   apply AW.last
   ·simp[← e4]
    intros;rfl
   obtain rfl:=oi h
   refine nP_i ?_
   refine Weak.mixN [] hn0 (by decide) ?_ ?_ rfl
   all_goals first|(simp[Aa,Ab,pickOb];done)|rfl
 ·rintro e s hp
  obtain⟨rfl,hw⟩:=hp
  refine⟨_,hw,?_⟩
  try simp only[nm]
  replace h:=ltE h;obtain⟨v7,e7,h⟩:=h
  rw[← e7]
  cases v7 with
  |true =>
   replace h:=iteT rfl h
   refine AW.cond_true (by simp) ?_
   apply AW.step
   ·simp
    intros;rfl
   obtain rfl:=oi h
   refine AW.ret ?_
   refine Left.plain hnb (by simp[Tryz.f117,resV,resC,comp];rfl) rfl rfl ?_
   simp
  |false =>
   replace h:=iteF rfl h
   refine AW.cond_false (by simp) ?_
   refine AW.skip ?_
   try simp only[nm]
   apply AW.step
   ·simp
    intros;rfl
   obtain rfl:=oi h
   refine AW.ret ?_
   refine Left.plain hnb (by simp[Tryz.f117,resV,resC,comp];rfl) rfl rfl ?_
   simp
theorem Le:Enters Tryz.prog 117:=enters Tryz.func117 (by kernel_rfl) rfl
def Dz (n:Nat) (a0:List Int):Option Int :=
lt (lenI a0) fun v1 =>
bn (iter n (fun (y2:Int×Int) =>
lt (ltI y2.2 v1) fun v5 =>
ite' v5 (bn (nth a0 y2.2) fun v6 =>
lt (cvI .u16 v6) fun v7 =>
bn (shlI .u16 v7 8) fun v8 =>
lt (xorI .u16 y2.1 v8) fun v9 =>
bn (iter n (fun (y10:Int×Int) =>
lt (ltI y10.2 8) fun v13 =>
ite' v13 (bn (shrI .u16 y10.1 15) fun v14 =>
bn (shlI .u16 y10.1 1) fun v15 =>
lt (mulI .u16 4129 v14) fun v16 =>
lt (xorI .u16 v15 v16) fun v17 =>
lt (addI .i64 y10.2 1) fun v18 =>
some (.inl (v17,v18))) (some (.inr y10.1))) (v9,0)) fun (y11:Int) =>
lt (addI .i64 y2.2 1) fun v19 =>
some (.inl (y11,v19))) (some (.inr y2.1))) (0,0)) fun (y3:Int) =>
lt (cvI .i64 y3) fun v20 =>
some v20
theorem Mn {n:Nat} {a0:List Int} {r:Int} (h:Dz n a0=some r):Sound Tryz.prog 116 [.l (.d false 1 (encU a0))] [] (.l (.s (.int .i64 r))) []:=by
 unfold Dz at h
 refine Sound.of_aw (fn:=Tryz.f116) (c:=_) Tryz.func116 rfl (by simp[Tryz.f116]) fun cx hG hnb=>?_
 rw[show Tryz.f116.ntmps=31 from rfl]
 have hn0:cx.nb=0:=hnb
 simp only[An,initTm,List.map_cons,List.map_nil]
 apply AW.step
 ·simp
  intros;rfl
 apply AW.step
 ·simp
  intros;rfl
 refine AW.seq ?_
 replace h:=ltE h;obtain⟨v1,e1,h⟩:=h
 apply AW.step
 ·simp[Ad e1]
  intros;rfl
 refine AW.block ?_
 replace h:=bnE h;obtain⟨y3,g3,h⟩:=h
 refine AW.iterP g3 (mk:=fun gh ls q=>(⟨[(3,.l (.s (.int .u16 q.1))),(7,.l (.d false 1 (encU a0))),(8,.l (.s (.int .i64 v1))),(9,.l (.s (.int .i64 q.2)))],[],31,gh,ls⟩:St)) (N:=fun gh ls=>(xP 0 (cx:=cx) (fun q=>(⟨[(3,.l (.s (.int .u16 q)))],[],31,gh,ls⟩:St)))) ?_ noX ?_ ?_
 ·refine Weak.mixN [] hn0 (by decide) ?_ ?_ rfl
  all_goals first|(simp[Aa,Ab,pickOb];done)|rfl
 ·clear h;intro y2 y4 h
  replace h:=ltE h;obtain⟨v5,e5,h⟩:=h
  apply AW.step
  ·simp[← e5]
   intros;rfl
  refine AW.seq ?_
  cases v5 with
  |true =>
   replace h:=iteT rfl h
   refine AW.cond_true (by simp) ?_
   refine AW.skip ?_
   try simp only[nm]
   refine AW.seq ?_
   refine AW.block ?_
   replace h:=bnE h;obtain⟨v6,e6,h⟩:=h
   apply AW.step
   ·simp[Ac e6]
    intros;rfl
   replace h:=ltE h;obtain⟨v7,e7,h⟩:=h
   replace h:=bnE h;obtain⟨v8,e8,h⟩:=h
   replace h:=ltE h;obtain⟨v9,e9,h⟩:=h
   apply AW.step
   ·simp[← e7,e8,← e9]
    intros;rfl
   apply AW.step
   ·simp
    intros;rfl
   refine AW.block ?_
   replace h:=bnE h;obtain⟨y11,g11,h⟩:=h
   refine AW.iterP g11 (mk:=fun gh ls q=>(⟨[(3,.l (.s (.int .u16 q.1))),(7,.l (.d false 1 (encU a0))),(8,.l (.s (.int .i64 v1))),(9,.l (.s (.int .i64 y2.2))),(18,.l (.s (.int .i64 q.2)))],[],31,gh,ls⟩:St)) (N:=fun gh ls=>(xP 2 (cx:=cx) (fun q=>(⟨[(3,.l (.s (.int .u16 q))),(7,.l (.d false 1 (encU a0))),(8,.l (.s (.int .i64 v1))),(9,.l (.s (.int .i64 y2.2)))],[],31,gh,ls⟩:St)))) ?_ noX ?_ ?_
   ·refine Weak.mixN [] hn0 (by decide) ?_ ?_ rfl
    all_goals first|(simp[Aa,Ab,pickOb];done)|rfl
   ·clear h;intro y10 y12 h
    replace h:=ltE h;obtain⟨v13,e13,h⟩:=h
    apply AW.step
    ·simp[← e13]
     intros;rfl
    refine AW.seq ?_
    cases v13 with
    |true =>
     replace h:=iteT rfl h
     refine AW.cond_true (by simp) ?_
     refine AW.skip ?_
     try simp only[nm]
     refine AW.seq ?_
     refine AW.block ?_
     replace h:=bnE h;obtain⟨v14,e14,h⟩:=h
     apply AW.step
     ·simp[e14]
      intros;rfl
     replace h:=bnE h;obtain⟨v15,e15,h⟩:=h
     replace h:=ltE h;obtain⟨v16,e16,h⟩:=h
     replace h:=ltE h;obtain⟨v17,e17,h⟩:=h
     apply AW.last
     ·simp[e15,← e16,← e17]
      intros;rfl
     try simp only[nm]
     replace h:=ltE h;obtain⟨v18,e18,h⟩:=h
     apply AW.last
     ·simp[← e18]
      intros;rfl
     obtain rfl:=oi h
     refine nP_i ?_
     refine Weak.mixN [] hn0 (by decide) ?_ ?_ rfl
     all_goals first|(simp[Aa,Ab,pickOb];done)|rfl
    |false =>
     replace h:=iteF rfl h
     refine AW.cond_false (by simp) ?_
     refine AW.exit ?_
     try simp only[nm]
     obtain rfl:=oi h
     refine xP_i ?_
     refine Weak.mixN [] hn0 (by decide) ?_ ?_ rfl
     all_goals first|(simp[Aa,Ab,pickOb];done)|rfl
   ·rintro e s hp
    obtain⟨rfl,hw⟩:=hp
    refine⟨_,hw,?_⟩
    try simp only[nm]
    replace h:=ltE h;obtain⟨v19,e19,h⟩:=h
    apply AW.last
    ·simp[← e19]
     intros;rfl
    obtain rfl:=oi h
    refine nP_i ?_
    refine Weak.mixN [] hn0 (by decide) ?_ ?_ rfl
    all_goals first|(simp[Aa,Ab,pickOb];done)|rfl
  |false =>
   replace h:=iteF rfl h
   refine AW.cond_false (by simp) ?_
   refine AW.exit ?_
   try simp only[nm]
   obtain rfl:=oi h
   refine xP_i ?_
   refine Weak.mixN [] hn0 (by decide) ?_ ?_ rfl
   all_goals first|(simp[Aa,Ab,pickOb];done)|rfl
 ·rintro e s hp
  obtain⟨rfl,hw⟩:=hp
  refine⟨_,hw,?_⟩
  try simp only[nm]
  replace h:=ltE h;obtain⟨v20,e20,h⟩:=h
  apply AW.step
  ·simp[← e20]
   intros;rfl
  obtain rfl:=oi h
  refine AW.ret ?_
  refine Left.plain hnb (by simp[Tryz.f116,resV,resC,comp];rfl) rfl rfl ?_
  simp
theorem Lf:Enters Tryz.prog 116:=enters Tryz.func116 (by kernel_rfl) rfl
def CH (n:Nat) (a0:ByteArray):Option Int :=
bn (BU n a0) fun v1 =>
chk (room v1.size 1) <|
lt (bytesI v1) fun v3 =>
bn (Dz n v3) fun v4 =>
bn (remI .i64 v4 16384) fun v5 =>
some v5
theorem GI {n:Nat} {a0:ByteArray} {r:Int} (h:CH n a0=some r):Sound Tryz.prog 87 [.l (.s (.string a0))] [] (.l (.s (.int .i64 r))) []:=by
 unfold CH at h
 refine Sound.of_aw (fn:=Tryz.f87) (c:=_) Tryz.func87 rfl (by simp[Tryz.f87]) fun cx hG hnb=>?_
 rw[show Tryz.f87.ntmps=8 from rfl]
 have hn0:cx.nb=0:=hnb
 simp only[An,initTm,List.map_cons,List.map_nil]
 apply AW.step
 ·simp
  intros;rfl
 replace h:=bnE h;obtain⟨v1,e1,h⟩:=h
 replace h:=chkE h;obtain⟨e2,h⟩:=h
 replace h:=ltE h;obtain⟨v3,e3,h⟩:=h
 replace h:=bnE h;obtain⟨v4,e4,h⟩:=h
 replace h:=bnE h;obtain⟨v5,e5,h⟩:=h
 apply AW.step
 ·simp[(Ah e2).2,← e3,e5]
  intros
  refine Ae Le (Mm e1) rfl ⟨.same rfl,trivial⟩ ?_
  try simp[(Ah e2).2,← e3,e5]
  intros
  refine Ae Lf (Mn e4) rfl ⟨.same rfl,trivial⟩ ?_
  try simp[(Ah e2).2,← e3,e5]
  intros;rfl
 obtain rfl:=oi h
 refine AW.ret ?_
 refine Left.plain hnb (by simp[Tryz.f87,resV,resC,comp];rfl) rfl rfl ?_
 simp
theorem F2:Enters Tryz.prog 87:=enters Tryz.func87 (by kernel_rfl) rfl
def Bk (n:Nat) (b1_0:List Pair) (b1_1:Int):Option (List ByteArray) :=
bn (lt (lenI b1_0) fun v2 =>
bn (iter n (fun (y3:Int×List ByteArray) =>
lt (ltI y3.1 v2) fun v6 =>
ite' v6 (bn (nth b1_0 y3.1) fun v7 =>
bn (CH n v7.key) fun v8 =>
lt (eqI v8 b1_1) fun v9 =>
ite' v9 (chk (room (y3.2.length+1) 16) <|
lt (y3.2++[v7.key]) fun v11 =>
lt (addI .i64 y3.1 1) fun v12 =>
some (.inl (v12,v11))) (lt (addI .i64 y3.1 1) fun v13 =>
some (.inl (v13,y3.2)))) (some (.inr y3.2))) (0,[])) fun (y4:List ByteArray) =>
some (y4)) fun (y1:List ByteArray) =>
chk (room y1.length 1) <|
some y1
def DY1t3:List DI:=[⟨[0],[],[(5,none)],false⟩,⟨[0],[0],[(12,some 0)],false⟩,⟨[0],[0,1],[(13,some 1)],false⟩,⟨[0],[],[(2,none)],false⟩,⟨[0],[0,1,2,3],[(14,some 2),(15,some 3)],false⟩,⟨[0],[0,1,2,3,4],[(16,some 4)],false⟩,⟨[0],[0,1,2,3,4,5],[(0,none),(17,some 5)],false⟩,⟨[0],[0,1,2,3,4,5],[(5,none),(17,some 5)],false⟩,⟨[0],[0,1,2,3,4,5,7],[(17,some 5),(19,some 7)],false⟩,⟨[],[0,1,2,3,4,5,6,7,8],[],false⟩,⟨[],[0,1,2,3,4,5,6,7,8,9],[],false⟩,⟨[],[0,1,2,3,4,5,6,7,8,9,10],[],false⟩]
theorem ET {n:Nat} {b1_0:List Pair} {b1_1:Int} {r:List ByteArray} (h:Bk n b1_0 b1_1=some r):Sound Tryz.prog 102 [.l (.s (.slice none 0 0)),.l (.f 103 [0,1])] [⟨25,1,false,none,[.d false 6 (encPair b1_0)]⟩,⟨3,1,false,none,[.s (.int .i64 b1_1)]⟩] (.l (.d false 1 (encS r))) [some ⟨25,1,false,none,[.d false 6 (encPair b1_0)]⟩,some ⟨3,1,false,none,[.s (.int .i64 b1_1)]⟩]:=by
 unfold Bk at h
 refine Sound.of_aw (fn:=Tryz.f102) (c:=_) Tryz.func102 rfl (by simp[Tryz.f102]) fun cx hG hnb=>?_
 rw[show Tryz.f102.ntmps=13 from rfl]
 have hn0:cx.nb=2:=hnb
 simp only[An,initTm,List.map_cons,List.map_nil]
 apply AW.step
 ·simp
  intros;rfl
 replace h:=bnE h;obtain⟨y1,g1,h⟩:=h
 refine AW.flow (p:=fun gh ls=>(nP (cx:=cx) (fun q=>(⟨[(2,.l (.p 2 0))],[some ⟨25,1,false,none,[.d false 6 (encPair b1_0)]⟩,some ⟨3,1,false,none,[.s (.int .i64 b1_1)]⟩,some ⟨55,1,false,none,[.r 3 1 0 q.length]⟩,some ⟨9,1,true,none,lvs (encS q)⟩],13,gh,ls⟩:St))) y1) ?_ ?_
 ·replace h:=g1;clear g1
  apply AW.step
  ·simp
   intros;rfl
  refine AW.block ?_
  refine AW.weak (Weak.keep [(2,.l (.p 2 0)),(6,.l (.f 103 [0,1]))] (by simp)) ?_
  refine AW.rangeG rfl Tryz.func103 (by kernel_rfl) rfl (by decide) rfl rfl fun cxI1 yl1 hnI1 hY1=>?_
  have hnJ1:cxI1.nb=2:=hnI1.trans hn0
  simp only[initTm,List.map_cons,List.map_nil]
  replace h:=ltE h;obtain⟨v2,e2,h⟩:=h
  apply AW.step
  ·simp[Ad e2]
   intros;rfl
  refine AW.block ?_
  replace h:=bnE h;obtain⟨y4,g4,h⟩:=h
  refine AW.iterP g4 (mk:=fun gh ls q=>(⟨[(0,.l (.s (.func (.yield yl1) #[] #[]))),(2,.l (.p 1 0)),(6,.l (.d false 6 (encPair b1_0))),(7,.l (.s (.int .i64 v2))),(8,.l (.s (.int .i64 q.1)))],[some ⟨25,1,false,none,[.d false 6 (encPair b1_0)]⟩,some ⟨3,1,false,none,[.s (.int .i64 b1_1)]⟩,some ⟨55,1,false,none,[.r 3 1 0 q.2.length]⟩,some ⟨9,1,true,none,lvs (encS q.2)⟩],25,gh,ls⟩:St)) (N:=fun gh ls=>(xP 0 (cx:=cxI1) (fun q=>(⟨[],[some ⟨25,1,false,none,[.d false 6 (encPair b1_0)]⟩,some ⟨3,1,false,none,[.s (.int .i64 b1_1)]⟩,some ⟨55,1,false,none,[.r 3 1 0 q.length]⟩,some ⟨9,1,true,none,lvs (encS q)⟩],25,gh,ls⟩:St)))) ?_ noX ?_ ?_
  ·refine W.nilCell 2 0 9 1 3 rfl rfl rfl rfl rfl ?_
   refine Weak.mixB 2 [some 0,some 1,some 2,some 3] hnJ1 (by decide) (by decide) ?_ ?_ ?_
   all_goals first|(simp[Aa,Ab,pickOb];done)|rfl
  ·clear h;intro y3 y5 h
   replace h:=ltE h;obtain⟨v6,e6,h⟩:=h
   apply AW.step
   ·simp[← e6]
    intros;rfl
   refine AW.seq ?_
   cases v6 with
   |true =>
    replace h:=iteT rfl h
    refine AW.cond_true (by simp) ?_
    refine AW.skip ?_
    try simp only[nm]
    refine AW.seq ?_
    refine AW.block ?_
    replace h:=bnE h;obtain⟨v7,e7,h⟩:=h
    apply AW.step
    ·simp[Ac e7]
     intros;rfl
    replace h:=bnE h;obtain⟨v8,e8,h⟩:=h
    replace h:=ltE h;obtain⟨v9,e9,h⟩:=h
    cases v9 with
    |true =>
     replace h:=iteT rfl h
     apply AW.drawnYP (V:=[_,_,_,_,_,_,_,_,_]) mixed DY1t3 9 (by kernel_rfl) (by kernel_rfl)
     ·refine⟨?_,?_,?_,?_,?_,?_,?_,?_,?_,trivial⟩
      iterate 2 (· intro tm hr;simp[AllL,rdV] at hr;simp[hr,← e9];intros;first|exact KD.mk|exact KD.mkN)
      ·intro tm hr
       simp[AllL,rdV] at hr
       simp[hr,← e9]
       intros
       refine Ae F2 (GI e8) rfl ⟨.same rfl,trivial⟩ ?_
       try simp[← e9]
       intros;first|exact KD.mk|exact KD.mkN
      iterate 6 (· intro tm hr;simp[AllL,rdV] at hr;simp[hr,← e9];intros;first|exact KD.mk|exact KD.mkN)
     ·rfl
     ·simp[tmD,putD,← e9];rfl
     apply xopsY.yield hY1 9 9 rfl rfl rfl (by decide)
     ·simp[← e9]
      intros;rfl
     ·rfl
     ·first|trivial|simp[← e9]
     ·rfl
     ·rfl
     ·simp[puts,← e9];rfl
     intro cxR1 hnR1
     have hnS1:cxR1.nb=2:=hnR1.trans hnJ1
     apply AW.last
     ·simp
      intros;rfl
     refine⟨rfl,?_⟩
     refine AW.block ?_
     replace h:=chkE h;obtain⟨e10,h⟩:=h
     replace h:=ltE h;obtain⟨v11,e11,h⟩:=h
     apply AW.last
     ·simp[← A2,← e11,Ao e11]
      intros
      refine Ay ?_
      try simp[← A2,← e11,Ao e11]
      intros
      refine AT (acc:=encS y3.2) (ys:=encS [v7.key]) (cap:=none) (k:=1) D2 Ew (by simp) (by simp[encS,lvs]) (Cp _) (by simp) (by simp) (by first|(simp;done)|simpa using (Ah e10).1) ?_
      try simp[← A2,← e11,Ao e11]
      intros;rfl
     refine⟨_,_,rfl,?_⟩
     refine Bz _ _ _ rfl ?_
     simp[puts,← e9]
     try intros
     unfold KK
     refine AW.cond_false (by simp) ?_
     refine AW.skip ?_
     try simp only[nm]
     replace h:=ltE h;obtain⟨v12,e12,h⟩:=h
     apply AW.last
     ·simp[← e12]
      intros;rfl
     obtain rfl:=oi h
     refine nP_i ?_
     refine Weak.mixB 2 [some 0,some 1,some 2,some 6] hnJ1 (by decide) (by decide) ?_ ?_ ?_
     all_goals first|(simp[Aa,Ab,pickOb,Ex];done)|rfl
    |false =>
     replace h:=iteF rfl h
     apply AW.drawnP (V:=[_,_,_,_,_,_,_,_,_]) mixed DY1t3 9 (by kernel_rfl) (by kernel_rfl)
     ·refine⟨?_,?_,?_,?_,?_,?_,?_,?_,?_,trivial⟩
      iterate 2 (· intro tm hr;simp[AllL,rdV] at hr;simp[hr,← e9];intros;first|exact KD.mk|exact KD.mkN)
      ·intro tm hr
       simp[AllL,rdV] at hr
       simp[hr,← e9]
       intros
       refine Ae F2 (GI e8) rfl ⟨.same rfl,trivial⟩ ?_
       try simp[← e9]
       intros;first|exact KD.mk|exact KD.mkN
      iterate 6 (· intro tm hr;simp[AllL,rdV] at hr;simp[hr,← e9];intros;first|exact KD.mk|exact KD.mkN)
     ·rfl
     ·simp[tmD,putD,← e9];rfl
     ·simp[← e9]
      intros;rfl
     refine AW.cond_false (by simp) ?_
     refine AW.skip ?_
     try simp only[nm]
     replace h:=ltE h;obtain⟨v13,e13,h⟩:=h
     apply AW.last
     ·simp[← e13]
      intros;rfl
     obtain rfl:=oi h
     refine nP_i ?_
     refine Weak.mixB 2 [some 0,some 1,some 2,some 3] hnJ1 (by decide) (by decide) ?_ ?_ ?_
     all_goals first|(simp[Aa,Ab,pickOb];done)|rfl
   |false =>
    replace h:=iteF rfl h
    refine AW.cond_false (by simp) ?_
    refine AW.exit ?_
    try simp only[nm]
    obtain rfl:=oi h
    refine xP_i ?_
    refine Weak.mixB 2 [some 0,some 1,some 2,some 3] hnJ1 (by decide) (by decide) ?_ ?_ ?_
    all_goals first|(simp[Aa,Ab,pickOb];done)|rfl
  ·rintro e s hp
   obtain⟨rfl,hw⟩:=hp
   refine⟨_,hw,?_⟩
   try simp only[nm]
   refine⟨_,_,rfl,?_⟩
   try simp only[]
   try simp only[nm]
   obtain rfl:=oi h
   refine nP_i ?_
   refine Weak.mixB 2 [some 0,some 1,some 2,some 3] hn0 (by decide) (by decide) ?_ ?_ ?_
   all_goals first|(simp[Aa,Ab,pickOb];done)|rfl
 ·rintro e s hp
  obtain⟨rfl,hw⟩:=hp
  refine⟨_,hw,?_⟩
  try simp only[nm]
  apply AW.step
  ·simp
   intros;rfl
  replace h:=chkE h;obtain⟨e14,h⟩:=h
  refine AW.frzRow 3 (ty:=9) (cap:=none) (sz:=1) (es:=encS y1) (by simp) (by omega) (Cp _) (by first|exact (Ah e14).2|simpa using (Ah e14).2|simp) (by simp[Tm.frz,AV.frz,LV.frz];rfl) (by simp[Ob.frz,LV.frz];rfl) rfl ?_
  obtain rfl:=oi h
  refine AW.ret ?_
  refine Left.of (av:=_) (by simp[Tryz.f102,resV,resC,comp];rfl) ?_
  exact LeftV.mix 2 [some 0,some 1] hn0 rfl (by decide) rfl (by simp[pickOb,Aa,Ab]) (by simp[Aa,Ab])
theorem EG:Enters Tryz.prog 102:=enters Tryz.func102 (by kernel_rfl) rfl
def Bt (n:Nat) (b0_0:List Pair) (b0_1:Int):Option (List ByteArray) :=
bn (Bk n b0_0 b0_1) fun v1 =>
some v1
theorem Fe {n:Nat} {b0_0:List Pair} {b0_1:Int} {r:List ByteArray} (h:Bt n b0_0 b0_1=some r):Sound Tryz.prog 77 [.l (.f 103 [0,1])] [⟨25,1,false,none,[.d false 6 (encPair b0_0)]⟩,⟨3,1,false,none,[.s (.int .i64 b0_1)]⟩] (.l (.d false 1 (encS r))) [some ⟨25,1,false,none,[.d false 6 (encPair b0_0)]⟩,some ⟨3,1,false,none,[.s (.int .i64 b0_1)]⟩]:=by
 unfold Bt at h
 refine Sound.of_aw (fn:=Tryz.f77) (c:=_) Tryz.func77 rfl (by simp[Tryz.f77]) fun cx hG hnb=>?_
 rw[show Tryz.f77.ntmps=5 from rfl]
 have hn0:cx.nb=2:=hnb
 simp only[An,initTm,List.map_cons,List.map_nil]
 apply AW.step
 ·simp
  intros;rfl
 replace h:=bnE h;obtain⟨v1,e1,h⟩:=h
 apply AW.step
 ·simp
  intros
  refine BT [0,1] EG (ET e1) (by decide) (by simp[pickOb,Aa,Ab]) rfl rfl (by simp) ⟨.l (.s _),.l (.fn (by simp)),trivial⟩ ?_
  try simp
  intros;rfl
 obtain rfl:=oi h
 refine AW.ret ?_
 refine Left.of (av:=_) (by simp[Tryz.f77,resV,resC,comp];rfl) ?_
 exact LeftV.mix 2 [some 0,some 1] hn0 rfl (by decide) rfl (by simp[pickOb,Aa,Ab]) (by simp[Aa,Ab])
theorem E7:Enters Tryz.prog 77:=enters Tryz.func77 (by kernel_rfl) rfl
def DA (n:Nat) (a0:List Pair) (a1:Int):Option (List ByteArray) :=
bn (DM n a0 a1) fun v1 =>
bn (Bt n v1.1 v1.2) fun v2 =>
some v2
theorem Mo {n:Nat} {a0:List Pair} {a1:Int} {r:List ByteArray} (h:DA n a0 a1=some r):Sound Tryz.prog 38 [.l (.d false 6 (encPair a0)),.l (.s (.int .i64 a1))] [] (.l (.d false 1 (encS r))) []:=by
 unfold DA at h
 refine Sound.of_aw (fn:=Tryz.f38) (c:=_) Tryz.func38 rfl (by simp[Tryz.f38]) fun cx hG hnb=>?_
 rw[show Tryz.f38.ntmps=9 from rfl]
 have hn0:cx.nb=0:=hnb
 simp only[An,initTm,List.map_cons,List.map_nil]
 apply AW.step
 ·simp
  intros;rfl
 replace h:=bnE h;obtain⟨v1,e1,h⟩:=h
 replace h:=bnE h;obtain⟨v2,e2,h⟩:=h
 apply AW.step
 ·simp
  intros
  refine As Ju (Ks e1) rfl (by simp) ⟨.same rfl,.same rfl,trivial⟩ ?_
  try simp
  intros
  refine BT [0,1] E7 (Fe e2) (by decide) (by simp[pickOb,Aa,Ab]) rfl rfl (by simp) ⟨.l (.fn (by simp)),trivial⟩ ?_
  try simp
  intros;rfl
 obtain rfl:=oi h
 refine AW.ret ?_
 refine Left.plain hnb (by simp[Tryz.f38,resV,resC,comp];rfl) rfl rfl ?_
 simp
theorem Lg:Enters Tryz.prog 38:=enters Tryz.func38 (by kernel_rfl) rfl
def Cs (n:Nat) (a0:List Effect):Option (List Effect) :=
chk (small 104 a0) <|
lt (lenI a0) fun v2 =>
bn (iter n (fun (y3:Int×List Effect) =>
lt (ltI y3.1 v2) fun v6 =>
ite' v6 (bn (nth y3.2 y3.1) fun v7 =>
bn (Bq n v7.item) fun v9 =>
lt (y3.2.set y3.1.toNat (⟨v7.key,v7.gone,v9⟩:Effect)) fun v11 =>
lt (addI .i64 y3.1 1) fun v15 =>
some (.inl (v15,v11))) (some (.inr y3.2))) (0,a0)) fun (y4:List Effect) =>
chk (room y4.length 1) <|
some y4
theorem Jw {n:Nat} {a0:List Effect} {r:List Effect} (h:Cs n a0=some r):Sound Tryz.prog 131 [.l (.d false 7 (encEffect a0))] [] (.l (.d false 7 (encEffect r))) []:=by
 unfold Cs at h
 refine Sound.of_aw (fn:=Tryz.f131) (c:=_) Tryz.func131 rfl (by simp[Tryz.f131]) fun cx hG hnb=>?_
 rw[show Tryz.f131.ntmps=24 from rfl]
 have hn0:cx.nb=0:=hnb
 simp only[An,initTm,List.map_cons,List.map_nil]
 apply AW.step
 ·simp
  intros;rfl
 replace h:=chkE h;obtain⟨e1,h⟩:=h
 apply AW.step
 ·simp[outR]
  intros
  refine As Ed (Er a0 (AP e1)) rfl (by simp) ⟨.same rfl,trivial⟩ ?_
  try simp[outR]
  intros;rfl
 refine AW.seq ?_
 replace h:=ltE h;obtain⟨v2,e2,h⟩:=h
 apply AW.step
 ·simp[Ad e2]
  intros;rfl
 refine AW.block ?_
 replace h:=bnE h;obtain⟨y4,g4,h⟩:=h
 refine AW.iterP g4 (mk:=fun gh ls q=>(⟨[(3,.l (.r 0 7 0 q.2.length)),(8,.l (.s (.int .i64 v2))),(9,.l (.s (.int .i64 q.1)))],[some ⟨59,7,true,none,lvs (encEffect q.2)⟩],24,gh,ls⟩:St)) (N:=fun gh ls=>(xP 0 (cx:=cx) (fun q=>(⟨[(3,.l (.r 0 7 0 q.length))],[some ⟨59,7,true,none,lvs (encEffect q)⟩],24,gh,ls⟩:St)))) ?_ noX ?_ ?_
 ·refine Weak.mixN [some 0] hn0 (by decide) ?_ ?_ rfl
  all_goals first|(simp[Aa,Ab,pickOb];done)|rfl
 ·clear h;intro y3 y5 h
  replace h:=ltE h;obtain⟨v6,e6,h⟩:=h
  apply AW.step
  ·simp[← e6]
   intros;rfl
  refine AW.seq ?_
  cases v6 with
  |true =>
   replace h:=iteT rfl h
   refine AW.cond_true (by simp) ?_
   refine AW.skip ?_
   try simp only[nm]
   refine AW.seq ?_
   refine AW.block ?_
   apply AW.step
   ·simp
    intros;rfl
   replace h:=bnE h;obtain⟨v7,e7,h⟩:=h
   have f8:=AH e7
   try simp[Ac e7] at f8
   replace h:=bnE h;obtain⟨v9,e9,h⟩:=h
   have f10:=AH e7
   try simp[Ac e7,f8,AE (Ac e7).2 (j:=2) (k:=5) (by decide),AC (Ac e7).2 (j:=2) (m:=5) (by decide),lvs1] at f10
   replace h:=ltE h;obtain⟨v11,e11,h⟩:=h
   have f12:=DL (Ac e7).2 e11 (j:=2) (cs:=[.s (.int .i64 v9.kind),.s (.string v9.s),.d false 2 (encField v9.f),.d false 1 (encS v9.l),.s (.int .i64 v9.exp)]) (by simp) rfl
   try simp at f12
   have f13:=f8
   try simp only[Ap e11] at f13
   have f14:=f10
   try simp only[Ap e11] at f14
   apply AW.last
   ·simp[Ac e7,f8,AE (Ac e7).2 (j:=2) (k:=5) (by decide),AC (Ac e7).2 (j:=2) (m:=5) (by decide),lvs1,f10,f12,f13,f14]
    intros
    refine Ae C9 (Dy e9) rfl ⟨.same rfl,trivial⟩ ?_
    try simp[Ac e7,f8,AE (Ac e7).2 (j:=2) (k:=5) (by decide),AC (Ac e7).2 (j:=2) (m:=5) (by decide),lvs1,f10,f12,f13,f14]
    intros;rfl
   try simp only[nm]
   replace h:=ltE h;obtain⟨v15,e15,h⟩:=h
   apply AW.last
   ·simp[← e15]
    intros;rfl
   obtain rfl:=oi h
   refine nP_i ?_
   refine Weak.mixN [some 0] hn0 (by decide) ?_ ?_ rfl
   all_goals first|(simp[Aa,Ab,pickOb,Ap e11];done)|rfl
  |false =>
   replace h:=iteF rfl h
   refine AW.cond_false (by simp) ?_
   refine AW.exit ?_
   try simp only[nm]
   obtain rfl:=oi h
   refine xP_i ?_
   refine Weak.mixN [some 0] hn0 (by decide) ?_ ?_ rfl
   all_goals first|(simp[Aa,Ab,pickOb];done)|rfl
 ·rintro e s hp
  obtain⟨rfl,hw⟩:=hp
  refine⟨_,hw,?_⟩
  try simp only[nm]
  apply AW.step
  ·simp
   intros;rfl
  replace h:=chkE h;obtain⟨e16,h⟩:=h
  refine AW.frzRow 0 (ty:=59) (cap:=none) (sz:=7) (es:=encEffect y4) (by simp) (by omega) (Bh _) (by first|exact (Ah e16).2|simpa using (Ah e16).2|simp) (by simp[Tm.frz,AV.frz,LV.frz];rfl) (by simp[Ob.frz,LV.frz];rfl) rfl ?_
  obtain rfl:=oi h
  refine AW.ret ?_
  refine Left.plain hnb (by simp[Tryz.f131,resV,resC,comp];rfl) rfl rfl ?_
  simp
theorem IF:Enters Tryz.prog 131:=enters Tryz.func131 (by kernel_rfl) rfl
def Dc (n:Nat) (a0:List Effect) (a1:Int):Option (List Effect) :=
lt (lenI a0) fun v1 =>
lt (subI .i64 v1 a1) fun v2 =>
lt (maxI 0 v2) fun v3 =>
bn (segl a0 v3) fun v4 =>
bn (Cs n v4) fun v6 =>
some v6
theorem Lh {n:Nat} {a0:List Effect} {a1:Int} {r:List Effect} (h:Dc n a0 a1=some r):Sound Tryz.prog 111 [.l (.d false 7 (encEffect a0)),.l (.s (.int .i64 a1))] [] (.l (.d false 7 (encEffect r))) []:=by
 unfold Dc at h
 refine Sound.of_aw (fn:=Tryz.f111) (c:=_) Tryz.func111 rfl (by simp[Tryz.f111]) fun cx hG hnb=>?_
 rw[show Tryz.f111.ntmps=13 from rfl]
 have hn0:cx.nb=0:=hnb
 simp only[An,initTm,List.map_cons,List.map_nil]
 apply AW.step
 ·simp
  intros;rfl
 replace h:=ltE h;obtain⟨v1,e1,h⟩:=h
 replace h:=ltE h;obtain⟨v2,e2,h⟩:=h
 replace h:=ltE h;obtain⟨v3,e3,h⟩:=h
 replace h:=bnE h;obtain⟨v4,e4,h⟩:=h
 have f5:=IB e4
 try simp[Ad e1,← e2,← e3] at f5
 replace h:=bnE h;obtain⟨v6,e6,h⟩:=h
 apply AW.step
 ·simp[Ad e1,← e2,← e3,f5]
  intros
  refine Ae IF (Jw e6) rfl ⟨.same rfl,trivial⟩ ?_
  try simp[Ad e1,← e2,← e3,f5]
  intros;rfl
 obtain rfl:=oi h
 refine AW.ret ?_
 refine Left.plain hnb (by simp[Tryz.f111,resV,resC,comp];rfl) rfl rfl ?_
 simp
theorem Kt:Enters Tryz.prog 111:=enters Tryz.func111 (by kernel_rfl) rfl
def CU (n:Nat) (a0:Feed) (a1:List Effect):Option Feed :=
lt (lenI a1) fun v1 =>
lt (addI .i64 a0.off v1) fun v2 =>
chk (catB [a0.back,a1]) <|
lt (List.flatten [a0.back,a1]) fun v4 =>
bn (Dc n v4 64) fun v5 =>
some (⟨a0.rid,v2,v5,a0.prev,a0.upto⟩:Feed)
theorem H7 {n:Nat} {a0:Feed} {a1:List Effect} {r:Feed} (h:CU n a0 a1=some r):Sound Tryz.prog 82 [.g [.s (.int .i64 a0.rid.node),.s (.int .i64 a0.rid.epoch),.s (.int .i64 a0.off),.d false 7 (encEffect a0.back),.s (.int .i64 a0.prev.node),.s (.int .i64 a0.prev.epoch),.s (.int .i64 a0.upto)],.l (.d false 7 (encEffect a1))] [] (.g [.s (.int .i64 r.rid.node),.s (.int .i64 r.rid.epoch),.s (.int .i64 r.off),.d false 7 (encEffect r.back),.s (.int .i64 r.prev.node),.s (.int .i64 r.prev.epoch),.s (.int .i64 r.upto)]) []:=by
 unfold CU at h
 refine Sound.of_aw (fn:=Tryz.f82) (c:=_) Tryz.func82 rfl (by simp[Tryz.f82]) fun cx hG hnb=>?_
 rw[show Tryz.f82.ntmps=19 from rfl]
 have hn0:cx.nb=0:=hnb
 simp only[An,initTm,List.map_cons,List.map_nil]
 apply AW.step
 ·simp
  intros;rfl
 replace h:=ltE h;obtain⟨v1,e1,h⟩:=h
 replace h:=ltE h;obtain⟨v2,e2,h⟩:=h
 apply AW.step
 ·simp[Ad e1,← e2]
  intros;rfl
 replace h:=chkE h;obtain⟨e3,h⟩:=h
 replace h:=ltE h;obtain⟨v4,e4,h⟩:=h
 replace h:=bnE h;obtain⟨v5,e5,h⟩:=h
 apply AW.step
 ·simp[obAfter,outR,keptR,Aa,Ab,← e4]
  intros
  refine Ay ?_
  try simp[obAfter,outR,keptR,Aa,Ab,← e4]
  intros
  refine Dt [2] [3] ⟨_,rfl,rfl,rfl,rfl⟩ Ko (Na [a0.back,a1] e3) (by decide) rfl rfl (by simp[pickOb]) rfl rfl rfl (by simp) (by simp) ⟨.l (.own (by simp[Aa,Ab])),trivial⟩ ?_
  try simp[obAfter,outR,keptR,Aa,Ab,← e4]
  intros
  refine Ae Kt (Lh e5) rfl ⟨.same rfl,.same rfl,trivial⟩ ?_
  try simp[obAfter,outR,keptR,Aa,Ab,← e4]
  intros;rfl
 apply AW.step
 ·simp
  intros;rfl
 obtain rfl:=oi h
 refine AW.ret ?_
 refine Left.plain hnb (by simp[Tryz.f82,resV,resC,comp];rfl) rfl rfl ?_
 simp
theorem Hl:Enters Tryz.prog 82:=enters Tryz.func82 (by kernel_rfl) rfl
def BM (n:Nat) (a0:Int):Option ByteArray :=
lt (cvI .u64 a0) fun v1 =>
bn (lt (ltI a0 0) fun v3 =>
ite' v3 (lt (negI .u64 v1) fun v4 =>
some (v4)) (some (v1))) fun (y2:Int) =>
bn (iter n (fun (y5:Int×ByteArray) =>
lt (geI y5.1 10) fun v8 =>
ite' v8 (bn (remI .u64 y5.1 10) fun v9 =>
lt (addI .u64 48 v9) fun v10 =>
lt (cvI .u8 v10) fun v11 =>
lt (strL [v11]) fun v12 =>
bn (catS v12 y5.2) fun v14 =>
bn (quoI .u64 y5.1 10) fun v15 =>
some (.inl (v15,v14))) (some (.inr (y5.1,y5.2)))) (y2,⟨#[]⟩)) fun (y6:Int×ByteArray) =>
lt (addI .u64 48 y6.1) fun v16 =>
lt (cvI .u8 v16) fun v17 =>
lt (strL [v17]) fun v18 =>
bn (catS v18 y6.2) fun v20 =>
lt (ltI a0 0) fun v21 =>
ite' v21 (bn (catS ⟨#[45]⟩ v20) fun v22 =>
some v22) (some v20)
theorem CW {n:Nat} {a0:Int} {r:ByteArray} (h:BM n a0=some r):Sound Tryz.prog 32 [.l (.s (.int .i64 a0))] [] (.l (.s (.string r))) []:=by
 unfold BM at h
 refine Sound.of_aw (fn:=Tryz.f32) (c:=_) Tryz.func32 rfl (by simp[Tryz.f32]) fun cx hG hnb=>?_
 rw[show Tryz.f32.ntmps=35 from rfl]
 have hn0:cx.nb=0:=hnb
 simp only[An,initTm,List.map_cons,List.map_nil]
 apply AW.step
 ·simp
  intros;rfl
 replace h:=ltE h;obtain⟨v1,e1,h⟩:=h
 apply AW.step
 ·simp[← e1]
  intros;rfl
 replace h:=bnE h;obtain⟨y2,g2,h⟩:=h
 refine AW.flow (p:=fun gh ls=>(nP (cx:=cx) (fun q=>(⟨[(0,.l (.s (.int .i64 a0))),(3,.l (.s (.int .u64 q))),(4,.l (.s (.string ⟨#[]⟩)))],[],35,gh,ls⟩:St))) y2) ?_ ?_
 ·replace h:=g2;clear g2
  replace h:=ltE h;obtain⟨v3,e3,h⟩:=h
  apply AW.step
  ·simp[← e3]
   intros;rfl
  cases v3 with
  |true =>
   replace h:=iteT rfl h
   refine AW.cond_true (by simp) ?_
   replace h:=ltE h;obtain⟨v4,e4,h⟩:=h
   apply AW.last
   ·simp[← e4]
    intros;rfl
   obtain rfl:=oi h
   refine nP_i ?_
   refine Weak.mixN [] hn0 (by decide) ?_ ?_ rfl
   all_goals first|(simp[Aa,Ab,pickOb];done)|rfl
  |false =>
   replace h:=iteF rfl h
   refine AW.cond_false (by simp) ?_
   refine AW.skip ?_
   try simp only[nm]
   obtain rfl:=oi h
   refine nP_i ?_
   refine Weak.mixN [] hn0 (by decide) ?_ ?_ rfl
   all_goals first|(simp[Aa,Ab,pickOb];done)|rfl
 ·rintro e s hp
  obtain⟨rfl,hw⟩:=hp
  refine⟨_,hw,?_⟩
  try simp only[nm]
  refine AW.seq ?_
  refine AW.block ?_
  replace h:=bnE h;obtain⟨y6,g6,h⟩:=h
  refine AW.iterP g6 (mk:=fun gh ls q=>(⟨[(0,.l (.s (.int .i64 a0))),(3,.l (.s (.int .u64 q.1))),(4,.l (.s (.string q.2)))],[],35,gh,ls⟩:St)) (N:=fun gh ls=>(xP 0 (cx:=cx) (fun q=>(⟨[(0,.l (.s (.int .i64 a0))),(3,.l (.s (.int .u64 q.1))),(4,.l (.s (.string q.2)))],[],35,gh,ls⟩:St)))) ?_ noX ?_ ?_
  ·refine Weak.mixN [] hn0 (by decide) ?_ ?_ rfl
   all_goals first|(simp[Aa,Ab,pickOb];done)|rfl
  ·clear h;intro y5 y7 h
   refine AW.seq ?_
   replace h:=ltE h;obtain⟨v8,e8,h⟩:=h
   apply AW.step
   ·simp[← e8]
    intros;rfl
   cases v8 with
   |true =>
    replace h:=iteT rfl h
    refine AW.cond_true (by simp) ?_
    refine AW.skip ?_
    try simp only[nm]
    refine AW.block ?_
    replace h:=bnE h;obtain⟨v9,e9,h⟩:=h
    replace h:=ltE h;obtain⟨v10,e10,h⟩:=h
    replace h:=ltE h;obtain⟨v11,e11,h⟩:=h
    replace h:=ltE h;obtain⟨v12,e12,h⟩:=h
    have f13:(⟨#[UInt8.ofNat (v11).toNat]⟩:ByteArray)=v12:=e12.symm
    replace h:=bnE h;obtain⟨v14,e14,h⟩:=h
    apply AW.step
    ·simp[e9,← e10,← e11,f13,e14]
     intros
     refine Ay ?_
     try simp[e9,← e10,← e11,f13,e14]
     intros;rfl
    replace h:=bnE h;obtain⟨v15,e15,h⟩:=h
    apply AW.last
    ·simp[e15]
     intros;rfl
    obtain rfl:=oi h
    refine nP_i ?_
    refine Weak.mixN [] hn0 (by decide) ?_ ?_ rfl
    all_goals first|(simp[Aa,Ab,pickOb,Ey];done)|rfl
   |false =>
    replace h:=iteF rfl h
    refine AW.cond_false (by simp) ?_
    refine AW.exit ?_
    try simp only[nm]
    obtain rfl:=oi h
    refine xP_i ?_
    refine Weak.mixN [] hn0 (by decide) ?_ ?_ rfl
    all_goals first|(simp[Aa,Ab,pickOb];done)|rfl
  ·rintro e s hp
   obtain⟨rfl,hw⟩:=hp
   refine⟨_,hw,?_⟩
   try simp only[nm]
   replace h:=ltE h;obtain⟨v16,e16,h⟩:=h
   replace h:=ltE h;obtain⟨v17,e17,h⟩:=h
   replace h:=ltE h;obtain⟨v18,e18,h⟩:=h
   have f19:(⟨#[UInt8.ofNat (v17).toNat]⟩:ByteArray)=v18:=e18.symm
   replace h:=bnE h;obtain⟨v20,e20,h⟩:=h
   apply AW.step
   ·simp[← e16,← e17,f19,e20]
    intros
    refine Ay ?_
    try simp[← e16,← e17,f19,e20]
    intros;rfl
   refine AW.seq ?_
   replace h:=ltE h;obtain⟨v21,e21,h⟩:=h
   apply AW.step
   ·simp[← e21]
    intros;rfl
   cases v21 with
   |true =>
    replace h:=iteT rfl h
    refine AW.cond_true (by simp) ?_
    replace h:=bnE h;obtain⟨v22,e22,h⟩:=h
    apply AW.step
    ·simp[e22]
     intros;rfl
    obtain rfl:=oi h
    refine AW.ret ?_
    refine Left.plain hnb (by simp[Tryz.f32,resV,resC,comp];rfl) rfl rfl ?_
    simp
   |false =>
    replace h:=iteF rfl h
    refine AW.cond_false (by simp) ?_
    refine AW.skip ?_
    try simp only[nm]
    apply AW.step
    ·simp
     intros;rfl
    obtain rfl:=oi h
    refine AW.ret ?_
    refine Left.plain hnb (by simp[Tryz.f32,resV,resC,comp];rfl) rfl rfl ?_
    simp
theorem Ct:Enters Tryz.prog 32:=enters Tryz.func32 (by kernel_rfl) rfl
def A5 (n:Nat) (a0:Int):Option ByteArray :=
bn (remI .u8 a0 4) fun v1 =>
lt (addI .u8 97 v1) fun v2 =>
lt (strL [v2]) fun v3 =>
bn (catS ⟨#[123]⟩ v3) fun v5 =>
bn (catS v5 ⟨#[125]⟩) fun v6 =>
lt (cvI .i64 a0) fun v7 =>
bn (quoI .i64 v7 4) fun v8 =>
bn (remI .i64 v8 5) fun v9 =>
bn (BM n v9) fun v10 =>
bn (catS v6 v10) fun v11 =>
some v11
theorem GJ {n:Nat} {a0:Int} {r:ByteArray} (h:A5 n a0=some r):Sound Tryz.prog 10 [.l (.s (.int .u8 a0))] [] (.l (.s (.string r))) []:=by
 unfold A5 at h
 refine Sound.of_aw (fn:=Tryz.f10) (c:=_) Tryz.func10 rfl (by simp[Tryz.f10]) fun cx hG hnb=>?_
 rw[show Tryz.f10.ntmps=16 from rfl]
 have hn0:cx.nb=0:=hnb
 simp only[An,initTm,List.map_cons,List.map_nil]
 apply AW.step
 ·simp
  intros;rfl
 replace h:=bnE h;obtain⟨v1,e1,h⟩:=h
 replace h:=ltE h;obtain⟨v2,e2,h⟩:=h
 replace h:=ltE h;obtain⟨v3,e3,h⟩:=h
 have f4:(⟨#[UInt8.ofNat (v2).toNat]⟩:ByteArray)=v3:=e3.symm
 replace h:=bnE h;obtain⟨v5,e5,h⟩:=h
 replace h:=bnE h;obtain⟨v6,e6,h⟩:=h
 replace h:=ltE h;obtain⟨v7,e7,h⟩:=h
 replace h:=bnE h;obtain⟨v8,e8,h⟩:=h
 replace h:=bnE h;obtain⟨v9,e9,h⟩:=h
 replace h:=bnE h;obtain⟨v10,e10,h⟩:=h
 replace h:=bnE h;obtain⟨v11,e11,h⟩:=h
 apply AW.drawnE (V:=[_,_,_,_,_,_,_,_,_,_,_,_]) (M:=[[],[some ⟨5,1,true,none,[.s (.int .u8 v2)]⟩]]) mixed [⟨[0],[],[(0,none)],false⟩,⟨[0],[0],[(3,some 0)],false⟩,⟨[0],[0,1],[(4,some 1)],false⟩,⟨[0],[0,1,2],[(5,some 2)],true⟩,⟨[1],[0,1,2,3],[(6,some 3)],false⟩,⟨[1],[0,1,2,3,4],[(7,some 4)],false⟩,⟨[1],[0,1,2,3,4,5],[(8,some 5)],false⟩,⟨[0,1],[],[(0,none)],false⟩,⟨[0,1],[7],[(10,some 7)],false⟩,⟨[0,1],[7,8],[(11,some 8)],false⟩,⟨[0,1],[7,8,9],[(12,some 9)],false⟩,⟨[0,1],[7,8,9,10],[(13,some 10)],false⟩,⟨[],[0,1,2,3,4,5,6,7,8,9,10,11],[],false⟩,⟨[],[0,1,2,3,4,5,6,7,8,9,10,11,12],[],false⟩] 12 1 (by kernel_rfl) (by kernel_rfl)
 ·rfl
 ·refine⟨?_,?_,?_,?_,?_,?_,?_,⟨?_,?_⟩,⟨?_,?_⟩,⟨?_,?_⟩,⟨?_,?_⟩,⟨?_,?_⟩,trivial⟩
  iterate 3 (· intro tm hr;simp[AllL,rdV] at hr;simp[hr,e1,← e2,f4,e5,e6,← e7,e8,e9,e11];intros;first|exact KD.mk|exact KD.mkN)
  ·intro tm hr
   simp[AllL,rdV] at hr
   simp[hr,e1,← e2,f4,e5,e6,← e7,e8,e9,e11]
   intros
   refine Ay ?_
   try simp[e1,← e2,f4,e5,e6,← e7,e8,e9,e11]
   intros;first|exact KD.mk|exact KD.mkN
  iterate 11 (· intro tm hr;simp[AllL,rdV] at hr;simp[hr,e1,← e2,f4,e5,e6,← e7,e8,e9,e11];intros;first|exact KD.mk|exact KD.mkN)
  ·intro tm hr
   simp[AllL,rdV] at hr
   simp[hr,e1,← e2,f4,e5,e6,← e7,e8,e9,e11]
   intros
   refine Ae Ct (CW e10) rfl ⟨.same rfl,trivial⟩ ?_
   try simp[e1,← e2,f4,e5,e6,← e7,e8,e9,e11]
   intros;first|exact KD.mk|exact KD.mkN
  ·intro tm hr
   simp[AllL,rdV] at hr
   simp[hr,e1,← e2,f4,e5,e6,← e7,e8,e9,e11]
   intros
   refine Ae Ct (CW e10) rfl ⟨.same rfl,trivial⟩ ?_
   try simp[e1,← e2,f4,e5,e6,← e7,e8,e9,e11]
   intros;first|exact KD.mk|exact KD.mkN
 ·rfl
 ·simp[tmD,putD,e1,← e2,f4,e5,e6,← e7,e8,e9,e11];rfl
 ·simp[e1,← e2,f4,e5,e6,← e7,e8,e9,e11]
  intros;rfl
 obtain rfl:=oi h
 refine AW.ret ?_
 refine Left.plain hnb (by simp[Tryz.f10,resV,resC,comp];rfl) rfl rfl ?_
 simp
theorem F3:Enters Tryz.prog 10:=enters Tryz.func10 (by kernel_rfl) rfl
def CI (n:Nat) (a0:List Field) (a1:ByteArray) (a2:ByteArray):Option (List Field) :=
bn (iter n (fun (y1:Bool×Int×List Field) =>
lt (lenI a0) fun v4 =>
lt (ltI y1.2.1 v4) fun v5 =>
ite' v5 (bn (bn (bn (lt (notB y1.1) fun v9 =>
ite' v9 (bn (nth a0 y1.2.1) fun v10 =>
lt (geS v10.name a1) fun v11 =>
some (v11)) (some (false))) fun (y8:Bool) =>
lt (y8) fun v12 =>
ite' v12 (chk (room (y1.2.2.length+1) 32) <|
lt (y1.2.2++[(⟨a1,a2⟩:Field)]) fun v14 =>
some ((true,v14))) (some ((y1.1,y1.2.2)))) fun (y7:Bool×List Field) =>
bn (nth a0 y1.2.1) fun v15 =>
lt (neS v15.name a1) fun v16 =>
ite' v16 (chk (room (y7.2.length+1) 32) <|
lt (y7.2++[v15]) fun v18 =>
some ((y7.1,v18))) (some ((y7.1,y7.2)))) fun (y6:Bool×List Field) =>
lt (addI .i64 y1.2.1 1) fun v19 =>
some (.inl (y6.1,v19,y6.2))) (some (.inr (y1.1,y1.2.2)))) (false,0,[])) fun (y2:Bool×List Field) =>
bn (lt (notB y2.1) fun v21 =>
ite' v21 (chk (room (y2.2.length+1) 32) <|
lt (y2.2++[(⟨a1,a2⟩:Field)]) fun v23 =>
some (v23)) (some (y2.2))) fun (y20:List Field) =>
chk (room y20.length 1) <|
some y20
theorem Nf {n:Nat} {a0:List Field} {a1:ByteArray} {a2:ByteArray} {r:List Field} (h:CI n a0 a1 a2=some r):Sound Tryz.prog 84 [.l (.d false 2 (encField a0)),.l (.s (.string a1)),.l (.s (.string a2))] [] (.l (.d false 2 (encField r))) []:=by
 unfold CI at h
 refine Sound.of_aw (fn:=Tryz.f84) (c:=_) Tryz.func84 rfl (by simp[Tryz.f84]) fun cx hG hnb=>?_
 rw[show Tryz.f84.ntmps=56 from rfl]
 have hn0:cx.nb=0:=hnb
 simp only[An,initTm,List.map_cons,List.map_nil]
 apply AW.step
 ·simp
  intros;rfl
 apply AW.step
 ·simp
  intros;rfl
 apply AW.step
 ·simp
  intros;rfl
 refine AW.seq ?_
 apply AW.step
 ·simp
  intros;rfl
 refine AW.block ?_
 replace h:=bnE h;obtain⟨y2,g2,h⟩:=h
 refine AW.iterP g2 (mk:=fun gh ls q=>(⟨[(0,.l (.d false 2 (encField a0))),(1,.l (.s (.string a1))),(2,.l (.s (.string a2))),(7,.l (.r 0 2 0 q.2.2.length)),(8,.l (.s (.bool q.1))),(9,.l (.s (.int .i64 q.2.1)))],[some ⟨157,2,true,none,lvs (encField q.2.2)⟩],56,gh,ls⟩:St)) (N:=fun gh ls=>(xP 0 (cx:=cx) (fun q=>(⟨[(1,.l (.s (.string a1))),(2,.l (.s (.string a2))),(7,.l (.r 0 2 0 q.2.length)),(8,.l (.s (.bool q.1)))],[some ⟨157,2,true,none,lvs (encField q.2)⟩],56,gh,ls⟩:St)))) ?_ noX ?_ ?_
 ·refine W.nilRow 7 157 2 0 (by simp) rfl rfl ?_
  refine Weak.mixN [some 0] hn0 (by decide) ?_ ?_ rfl
  all_goals first|(simp[Aa,Ab,pickOb];done)|rfl
 ·clear h;intro y1 y3 h
  refine AW.seq ?_
  replace h:=ltE h;obtain⟨v4,e4,h⟩:=h
  replace h:=ltE h;obtain⟨v5,e5,h⟩:=h
  apply AW.step
  ·simp[Ad e4,← e5]
   intros;rfl
  cases v5 with
  |true =>
   replace h:=iteT rfl h
   refine AW.cond_true (by simp) ?_
   refine AW.skip ?_
   try simp only[nm]
   replace h:=bnE h;obtain⟨y6,g6,h⟩:=h
   refine AW.flow (p:=fun gh ls=>(nP (cx:=cx) (fun q=>(⟨[(0,.l (.d false 2 (encField a0))),(1,.l (.s (.string a1))),(2,.l (.s (.string a2))),(7,.l (.r 0 2 0 q.2.length)),(8,.l (.s (.bool q.1))),(9,.l (.s (.int .i64 y1.2.1)))],[some ⟨157,2,true,none,lvs (encField q.2)⟩],56,gh,ls⟩:St))) y6) ?_ ?_
   ·replace h:=g6;clear g6
    refine AW.block ?_
    replace h:=bnE h;obtain⟨y7,g7,h⟩:=h
    refine AW.flow (p:=fun gh ls=>(nP (cx:=cx) (fun q=>(⟨[(0,.l (.d false 2 (encField a0))),(1,.l (.s (.string a1))),(2,.l (.s (.string a2))),(7,.l (.r 0 2 0 q.2.length)),(8,.l (.s (.bool q.1))),(9,.l (.s (.int .i64 y1.2.1)))],[some ⟨157,2,true,none,lvs (encField q.2)⟩],56,gh,ls⟩:St))) y7) ?_ ?_
    ·replace h:=g7;clear g7
     replace h:=bnE h;obtain⟨y8,g8,h⟩:=h
     refine AW.flow (p:=fun gh ls=>(nP (cx:=cx) (fun q=>(⟨[(0,.l (.d false 2 (encField a0))),(1,.l (.s (.string a1))),(2,.l (.s (.string a2))),(7,.l (.r 0 2 0 y1.2.2.length)),(8,.l (.s (.bool y1.1))),(9,.l (.s (.int .i64 y1.2.1))),(26,.l (.s (.bool q)))],[some ⟨157,2,true,none,lvs (encField y1.2.2)⟩],56,gh,ls⟩:St))) y8) ?_ ?_
     ·replace h:=g8;clear g8
      replace h:=ltE h;obtain⟨v9,e9,h⟩:=h
      cases v9 with
      |true =>
       replace h:=iteT rfl h
       replace h:=bnE h;obtain⟨v10,e10,h⟩:=h
       replace h:=ltE h;obtain⟨v11,e11,h⟩:=h
       apply AW.last
       ·simp[← e9,Ac e10,← e11]
        intros;rfl
       obtain rfl:=oi h
       refine nP_i ?_
       refine Weak.mixN [some 0] hn0 (by decide) ?_ ?_ rfl
       all_goals first|(simp[Aa,Ab,pickOb];done)|rfl
      |false =>
       replace h:=iteF rfl h
       apply AW.last
       ·simp[← e9]
        intros;rfl
       obtain rfl:=oi h
       refine nP_i ?_
       refine Weak.mixN [some 0] hn0 (by decide) ?_ ?_ rfl
       all_goals first|(simp[Aa,Ab,pickOb];done)|rfl
     ·rintro e s hp
      obtain⟨rfl,hw⟩:=hp
      refine⟨_,hw,?_⟩
      try simp only[nm]
      replace h:=ltE h;obtain⟨v12,e12,h⟩:=h
      rw[← e12]
      cases v12 with
      |true =>
       replace h:=iteT rfl h
       refine AW.cond_true (by simp) ?_
       replace h:=chkE h;obtain⟨e13,h⟩:=h
       replace h:=ltE h;obtain⟨v14,e14,h⟩:=h
       apply AW.step
       ·simp[← Ba,← e14,Ao e14]
        intros
        refine Ay ?_
        try simp[← Ba,← e14,Ao e14]
        intros
        refine AT (acc:=encField y1.2.2) (ys:=encField [(⟨a1,a2⟩:Field)]) (cap:=none) (k:=1) G4 FT (by simp) (by simp[encField,lvs]) (CS _) (by simp) (by simp) (by first|(simp;done)|simpa using (Ah e13).1) ?_
        try simp[← Ba,← e14,Ao e14]
        intros;rfl
       apply AW.last
       ·simp
        intros;rfl
       obtain rfl:=oi h
       refine nP_i ?_
       refine Weak.mixN [some 2] hn0 (by decide) ?_ ?_ rfl
       all_goals first|(simp[Aa,Ab,pickOb,EF];done)|rfl
      |false =>
       replace h:=iteF rfl h
       refine AW.cond_false (by simp) ?_
       refine AW.skip ?_
       try simp only[nm]
       obtain rfl:=oi h
       refine nP_i ?_
       refine Weak.mixN [some 0] hn0 (by decide) ?_ ?_ rfl
       all_goals first|(simp[Aa,Ab,pickOb];done)|rfl
    ·rintro e s hp
     obtain⟨rfl,hw⟩:=hp
     refine⟨_,hw,?_⟩
     try simp only[nm]
     replace h:=bnE h;obtain⟨v15,e15,h⟩:=h
     replace h:=ltE h;obtain⟨v16,e16,h⟩:=h
     apply AW.step
     ·simp[Ac e15,← e16]
      intros;rfl
     cases v16 with
     |true =>
      replace h:=iteT rfl h
      refine AW.cond_true (by simp) ?_
      replace h:=chkE h;obtain⟨e17,h⟩:=h
      replace h:=ltE h;obtain⟨v18,e18,h⟩:=h
      apply AW.last
      ·simp[Ac e15,← Ba,← e18,Ao e18]
       intros
       refine Ay ?_
       try simp[Ac e15,← Ba,← e18,Ao e18]
       intros
       refine AT (acc:=encField y7.2) (ys:=encField [v15]) (cap:=none) (k:=1) G4 FT (by simp) (by simp[encField,lvs]) (CS _) (by simp) (by simp) (by first|(simp;done)|simpa using (Ah e17).1) ?_
       try simp[Ac e15,← Ba,← e18,Ao e18]
       intros;rfl
      obtain rfl:=oi h
      refine nP_i ?_
      refine Weak.mixN [some 2] hn0 (by decide) ?_ ?_ rfl
      all_goals first|(simp[Aa,Ab,pickOb,EF];done)|rfl
     |false =>
      replace h:=iteF rfl h
      refine AW.cond_false (by simp) ?_
      refine AW.skip ?_
      try simp only[nm]
      obtain rfl:=oi h
      refine nP_i ?_
      refine Weak.mixN [some 0] hn0 (by decide) ?_ ?_ rfl
      all_goals first|(simp[Aa,Ab,pickOb];done)|rfl
   ·rintro e s hp
    obtain⟨rfl,hw⟩:=hp
    refine⟨_,hw,?_⟩
    try simp only[nm]
    replace h:=ltE h;obtain⟨v19,e19,h⟩:=h
    apply AW.last
    ·simp[← e19]
     intros;rfl
    obtain rfl:=oi h
    refine nP_i ?_
    refine Weak.mixN [some 0] hn0 (by decide) ?_ ?_ rfl
    all_goals first|(simp[Aa,Ab,pickOb];done)|rfl
  |false =>
   replace h:=iteF rfl h
   refine AW.cond_false (by simp) ?_
   refine AW.exit ?_
   try simp only[nm]
   obtain rfl:=oi h
   refine xP_i ?_
   refine Weak.mixN [some 0] hn0 (by decide) ?_ ?_ rfl
   all_goals first|(simp[Aa,Ab,pickOb];done)|rfl
 ·rintro e s hp
  obtain⟨rfl,hw⟩:=hp
  refine⟨_,hw,?_⟩
  try simp only[nm]
  replace h:=bnE h;obtain⟨y20,g20,h⟩:=h
  refine AW.flow (p:=fun gh ls=>(nP (cx:=cx) (fun q=>(⟨[(7,.l (.r 0 2 0 q.length))],[some ⟨157,2,true,none,lvs (encField q)⟩],56,gh,ls⟩:St))) y20) ?_ ?_
  ·replace h:=g20;clear g20
   replace h:=ltE h;obtain⟨v21,e21,h⟩:=h
   apply AW.step
   ·simp[← e21]
    intros;rfl
   cases v21 with
   |true =>
    replace h:=iteT rfl h
    refine AW.cond_true (by simp) ?_
    replace h:=chkE h;obtain⟨e22,h⟩:=h
    replace h:=ltE h;obtain⟨v23,e23,h⟩:=h
    apply AW.last
    ·simp[← Ba,← e23,Ao e23]
     intros
     refine Ay ?_
     try simp[← Ba,← e23,Ao e23]
     intros
     refine AT (acc:=encField y2.2) (ys:=encField [(⟨a1,a2⟩:Field)]) (cap:=none) (k:=1) G4 FT (by simp) (by simp[encField,lvs]) (CS _) (by simp) (by simp) (by first|(simp;done)|simpa using (Ah e22).1) ?_
     try simp[← Ba,← e23,Ao e23]
     intros;rfl
    obtain rfl:=oi h
    refine nP_i ?_
    refine Weak.mixN [some 2] hn0 (by decide) ?_ ?_ rfl
    all_goals first|(simp[Aa,Ab,pickOb,EF];done)|rfl
   |false =>
    replace h:=iteF rfl h
    refine AW.cond_false (by simp) ?_
    refine AW.skip ?_
    try simp only[nm]
    obtain rfl:=oi h
    refine nP_i ?_
    refine Weak.mixN [some 0] hn0 (by decide) ?_ ?_ rfl
    all_goals first|(simp[Aa,Ab,pickOb];done)|rfl
  ·rintro e s hp
   obtain⟨rfl,hw⟩:=hp
   refine⟨_,hw,?_⟩
   try simp only[nm]
   apply AW.step
   ·simp
    intros;rfl
   replace h:=chkE h;obtain⟨e24,h⟩:=h
   refine AW.frzRow 0 (ty:=157) (cap:=none) (sz:=2) (es:=encField y20) (by simp) (by omega) (CS _) (by first|exact (Ah e24).2|simpa using (Ah e24).2|simp) (by simp[Tm.frz,AV.frz,LV.frz];rfl) (by simp[Ob.frz,LV.frz];rfl) rfl ?_
   obtain rfl:=oi h
   refine AW.ret ?_
   refine Left.plain hnb (by simp[Tryz.f84,resV,resC,comp];rfl) rfl rfl ?_
   simp
theorem Mp:Enters Tryz.prog 84:=enters Tryz.func84 (by kernel_rfl) rfl
def H8 (n:Nat) (a0:List ByteArray) (a1:ByteArray):Option Bool :=
bn (iter n (fun (y1:Int) =>
lt (lenI a0) fun v4 =>
lt (ltI y1 v4) fun v5 =>
ite' v5 (bn (nth a0 y1) fun v6 =>
lt (eqS v6 a1) fun v7 =>
ite' v7 (some (.inr (.inr true))) (lt (addI .i64 y1 1) fun v8 =>
some (.inl v8))) (some (.inr (.inl ())))) 0) fun (y2:Unit ⊕ Bool) =>
sm y2 (fun y9=>some false) (fun y10=>some y10)
def B6 (n:Nat) (a0:List ByteArray) (a1:ByteArray):Option Bool :=
bn (iter n (fun (y1:Int) =>
lt (lenI a0) fun v4 =>
lt (ltI y1 v4) fun v5 =>
ite' v5 (bn (nth a0 y1) fun v6 =>
lt (eqS v6 a1) fun v7 =>
ite' v7 (some (.inr (.inr true))) (lt (addI .i64 y1 1) fun v8 =>
some (.inl v8))) (some (.inr (.inl ())))) 0) fun (y2:Unit ⊕ Bool) =>
sm y2 (fun y9=>some false) (fun y10=>some y10)
theorem Ku {n:Nat} {a0:List ByteArray} {a1:ByteArray} {r:Bool} (h:B6 n a0 a1=some r):Sound Tryz.prog 113 [.l (.d true 1 (encS a0)),.l (.s (.string a1))] [] (.l (.s (.bool r))) []:=by
 unfold B6 at h
 refine Sound.of_aw (fn:=Tryz.f113) (c:=_) Tryz.func113 rfl (by simp[Tryz.f113]) fun cx hG hnb=>?_
 rw[show Tryz.f113.ntmps=18 from rfl]
 have hn0:cx.nb=0:=hnb
 simp only[An,initTm,List.map_cons,List.map_nil]
 apply AW.step
 ·simp
  intros;rfl
 refine AW.seq ?_
 apply AW.step
 ·simp
  intros;rfl
 refine AW.block ?_
 replace h:=bnE h;obtain⟨y2,g2,h⟩:=h
 refine AW.iterP g2 (mk:=fun gh ls q=>(⟨[(0,.l (.d true 1 (encS a0))),(1,.l (.s (.string a1))),(5,.l (.s (.int .i64 q)))],[],18,gh,ls⟩:St)) (N:=fun gh ls=>(sp (xP 0 (cx:=cx) (fun _=>(⟨[],[],18,gh,ls⟩:St))) (rP (cx:=cx) (P:=Tryz.prog) Tryz.f113 (fun q=>.l (.s (.bool q))) (fun q=>[])))) ?_ (noS noX noR) ?_ ?_
 ·refine Weak.mixN [] hn0 (by decide) ?_ ?_ rfl
  all_goals first|(simp[Aa,Ab,pickOb];done)|rfl
 ·clear h;intro y1 y3 h
  refine AW.seq ?_
  replace h:=ltE h;obtain⟨v4,e4,h⟩:=h
  replace h:=ltE h;obtain⟨v5,e5,h⟩:=h
  apply AW.step
  ·simp[Ad e4,← e5]
   intros;rfl
  cases v5 with
  |true =>
   replace h:=iteT rfl h
   refine AW.cond_true (by simp) ?_
   refine AW.skip ?_
   try simp only[nm]
   refine AW.seq ?_
   refine AW.block ?_
   replace h:=bnE h;obtain⟨v6,e6,h⟩:=h
   replace h:=ltE h;obtain⟨v7,e7,h⟩:=h
   apply AW.step
   ·simp[Ac e6,← e7]
    intros;rfl
   cases v7 with
   |true =>
    replace h:=iteT rfl h
    refine AW.cond_true (by simp) ?_
    apply AW.step
    ·simp
     intros;rfl
    obtain rfl:=oi h
    refine AW.ret ?_
    try simp only[nm]
    refine rP_i ?_
    refine Left.plain hnb (by simp[Tryz.f113,resV,resC,comp];rfl) rfl rfl ?_
    simp
   |false =>
    replace h:=iteF rfl h
    refine AW.cond_false (by simp) ?_
    refine AW.skip ?_
    try simp only[nm]
    replace h:=ltE h;obtain⟨v8,e8,h⟩:=h
    apply AW.last
    ·simp[← e8]
     intros;rfl
    obtain rfl:=oi h
    refine nP_i ?_
    refine Weak.mixN [] hn0 (by decide) ?_ ?_ rfl
    all_goals first|(simp[Aa,Ab,pickOb];done)|rfl
  |false =>
   replace h:=iteF rfl h
   refine AW.cond_false (by simp) ?_
   refine AW.exit ?_
   try simp only[nm]
   obtain rfl:=oi h
   try simp only[sp_l,sp_r]
   refine xP_i ?_
   refine Weak.mixN [] hn0 (by decide) ?_ ?_ rfl
   all_goals first|(simp[Aa,Ab,pickOb];done)|rfl
 ·rintro e s hp
  rcases y2 with y9|y10
  ·replace h:=smL h
   obtain⟨rfl,hw⟩:=hp
   refine⟨_,hw,?_⟩
   try simp only[nm]
   apply AW.step
   ·simp
    intros;rfl
   obtain rfl:=oi h
   refine AW.ret ?_
   refine Left.plain hnb (by simp[Tryz.f113,resV,resC,comp];rfl) rfl rfl ?_
   simp
  ·replace h:=smR h
   obtain⟨rfl,hl⟩:=hp
   refine⟨_,Weak.refl _,?_⟩
   obtain rfl:=oi h
   exact hl
theorem Jx:Enters Tryz.prog 113:=enters Tryz.func113 (by kernel_rfl) rfl
def BQ (n:Nat) (a0:List ByteArray) (a1:ByteArray):Option (List ByteArray) :=
bn (B6 n a0 a1) fun v1 =>
ite' v1 (chk (room a0.length 16) <|
some a0) (bn (iter n (fun (y3:Int) =>
bn (lt (lenI a0) fun v7 =>
lt (ltI y3 v7) fun v8 =>
ite' v8 (bn (nth a0 y3) fun v9 =>
lt (ltS v9 a1) fun v10 =>
some (v10)) (some (false))) fun (y6:Bool) =>
lt (y6) fun v11 =>
ite' v11 (lt (addI .i64 y3 1) fun v12 =>
some (.inl v12)) (some (.inr y3))) 0) fun (y4:Int) =>
bn (segh a0 y4) fun v13 =>
chk (room v13.length 16) <|
chk (room (v13.length+1) 16) <|
lt (v13++[a1]) fun v17 =>
bn (segl a0 y4) fun v18 =>
chk (room (v17.length+v18.length) 16) <|
lt (v17++v18) fun v21 =>
some v21)
theorem Kv {n:Nat} {a0:List ByteArray} {a1:ByteArray} {r:List ByteArray} (h:BQ n a0 a1=some r):Sound Tryz.prog 85 [.l (.d true 1 (encS a0)),.l (.s (.string a1))] [] (.l (.r 0 1 0 r.length)) [some ⟨9,1,true,none,lvs (encS r)⟩]:=by
 unfold BQ at h
 refine Sound.of_aw (fn:=Tryz.f85) (c:=_) Tryz.func85 rfl (by simp[Tryz.f85]) fun cx hG hnb=>?_
 rw[show Tryz.f85.ntmps=41 from rfl]
 have hn0:cx.nb=0:=hnb
 simp only[An,initTm,List.map_cons,List.map_nil]
 apply AW.step
 ·simp
  intros;rfl
 refine AW.seq ?_
 replace h:=bnE h;obtain⟨v1,e1,h⟩:=h
 apply AW.step
 ·simp
  intros
  refine Ae Jx (Ku e1) rfl ⟨.d _ _ _,.same rfl,trivial⟩ ?_
  try simp
  intros;rfl
 cases v1 with
 |true =>
  replace h:=iteT rfl h
  refine AW.cond_true (by simp) ?_
  replace h:=chkE h;obtain⟨e2,h⟩:=h
  apply AW.step
  ·simp
   intros
   refine Ay ?_
   try simp
   intros
   refine AT (acc:=[]) (ys:=encS a0) (cap:=none) (k:=a0.length) D2 Ew (by simp) (by rw[Kc,Fk];simp) (by simp) (by simp) (by simp) (by first|(simp;done)|simpa using (Ah e2).1) ?_
   try simp
   intros;rfl
  obtain rfl:=oi h
  refine AW.ret ?_
  refine Left.of (av:=_) (by simp[Tryz.f85,resV,resC,comp];rfl) ?_
  exact LeftV.mix 0 [some 1] hn0 rfl (by decide) rfl (by simp[pickOb,Aa,Ab]) (by simp[Aa,Ab])
 |false =>
  replace h:=iteF rfl h
  refine AW.cond_false (by simp) ?_
  refine AW.skip ?_
  try simp only[nm]
  apply AW.step
  ·simp
   intros;rfl
  refine AW.seq ?_
  refine AW.block ?_
  replace h:=bnE h;obtain⟨y4,g4,h⟩:=h
  refine AW.iterP g4 (mk:=fun gh ls q=>(⟨[(0,.l (.d true 1 (encS a0))),(1,.l (.s (.string a1))),(5,.l (.s (.int .i64 q)))],[],41,gh,ls⟩:St)) (N:=fun gh ls=>(xP 0 (cx:=cx) (fun q=>(⟨[(0,.l (.d true 1 (encS a0))),(1,.l (.s (.string a1))),(5,.l (.s (.int .i64 q)))],[],41,gh,ls⟩:St)))) ?_ noX ?_ ?_
  ·refine Weak.mixN [] hn0 (by decide) ?_ ?_ rfl
   all_goals first|(simp[Aa,Ab,pickOb];done)|rfl
  ·clear h;intro y3 y5 h
   refine AW.seq ?_
   replace h:=bnE h;obtain⟨y6,g6,h⟩:=h
   refine AW.flow (p:=fun gh ls=>(nP (cx:=cx) (fun q=>(⟨[(0,.l (.d true 1 (encS a0))),(1,.l (.s (.string a1))),(5,.l (.s (.int .i64 y3))),(24,.l (.s (.bool q)))],[],41,gh,ls⟩:St))) y6) ?_ ?_
   ·replace h:=g6;clear g6
    replace h:=ltE h;obtain⟨v7,e7,h⟩:=h
    replace h:=ltE h;obtain⟨v8,e8,h⟩:=h
    cases v8 with
    |true =>
     replace h:=iteT rfl h
     replace h:=bnE h;obtain⟨v9,e9,h⟩:=h
     replace h:=ltE h;obtain⟨v10,e10,h⟩:=h
     apply AW.last
     ·simp[Ad e7,← e8,Ac e9,← e10]
      intros;rfl
     obtain rfl:=oi h
     refine nP_i ?_
     refine Weak.mixN [] hn0 (by decide) ?_ ?_ rfl
     all_goals first|(simp[Aa,Ab,pickOb];done)|rfl
    |false =>
     replace h:=iteF rfl h
     apply AW.last
     ·simp[Ad e7,← e8]
      intros;rfl
     obtain rfl:=oi h
     refine nP_i ?_
     refine Weak.mixN [] hn0 (by decide) ?_ ?_ rfl
     all_goals first|(simp[Aa,Ab,pickOb];done)|rfl
   ·rintro e s hp
    obtain⟨rfl,hw⟩:=hp
    refine⟨_,hw,?_⟩
    try simp only[nm]
    replace h:=ltE h;obtain⟨v11,e11,h⟩:=h
    rw[← e11]
    cases v11 with
    |true =>
     replace h:=iteT rfl h
     refine AW.cond_true (by simp) ?_
     refine AW.skip ?_
     try simp only[nm]
     refine AW.block ?_
     replace h:=ltE h;obtain⟨v12,e12,h⟩:=h
     apply AW.last
     ·simp[← e12]
      intros;rfl
     obtain rfl:=oi h
     refine nP_i ?_
     refine Weak.mixN [] hn0 (by decide) ?_ ?_ rfl
     all_goals first|(simp[Aa,Ab,pickOb];done)|rfl
    |false =>
     replace h:=iteF rfl h
     refine AW.cond_false (by simp) ?_
     refine AW.exit ?_
     try simp only[nm]
     obtain rfl:=oi h
     refine xP_i ?_
     refine Weak.mixN [] hn0 (by decide) ?_ ?_ rfl
     all_goals first|(simp[Aa,Ab,pickOb];done)|rfl
  ·rintro e s hp
   obtain⟨rfl,hw⟩:=hp
   refine⟨_,hw,?_⟩
   try simp only[nm]
   replace h:=bnE h;obtain⟨v13,e13,h⟩:=h
   have f14:=M2 e13
   try simp at f14
   replace h:=chkE h;obtain⟨e15,h⟩:=h
   apply AW.step
   ·simp[f14]
    intros
    refine Ay ?_
    try simp[f14]
    intros
    refine AT (acc:=[]) (ys:=encS v13) (cap:=none) (k:=v13.length) D2 Ew (by simp) (by rw[Kc,Fk];simp) (by simp) (by simp) (by simp) (by first|(simp;done)|simpa using (Ah e15).1) ?_
    try simp[f14]
    intros;rfl
   replace h:=chkE h;obtain⟨e16,h⟩:=h
   replace h:=ltE h;obtain⟨v17,e17,h⟩:=h
   apply AW.step
   ·simp[← A2,← e17,Ao e17]
    intros
    refine Ay ?_
    try simp[← A2,← e17,Ao e17]
    intros
    refine AT (acc:=encS v13) (ys:=encS [a1]) (cap:=none) (k:=1) D2 Ew (by simp) (by simp[encS,lvs]) (Cp _) (by simp) (by simp) (by first|(simp;done)|simpa using (Ah e16).1) ?_
    try simp[← A2,← e17,Ao e17]
    intros;rfl
   replace h:=bnE h;obtain⟨v18,e18,h⟩:=h
   have f19:=M1 e18
   try simp at f19
   replace h:=chkE h;obtain⟨e20,h⟩:=h
   replace h:=ltE h;obtain⟨v21,e21,h⟩:=h
   apply AW.step
   ·simp[f19,← A2,← e21,LL e21]
    intros
    refine AT (acc:=encS v17) (ys:=encS v18) (cap:=none) (k:=v18.length) D2 Ew (by simp) (by rw[Kc,Fk];simp) (Cp _) (by simp) (by simp) (by first|(simp;done)|simpa using (Ah e20).1) ?_
    try simp[f19,← A2,← e21,LL e21]
    intros;rfl
   obtain rfl:=oi h
   refine AW.ret ?_
   refine Left.of (av:=_) (by simp[Tryz.f85,resV,resC,comp];rfl) ?_
   exact LeftV.mix 0 [some 4] hn0 rfl (by decide) rfl (by simp[pickOb,Aa,Ab,Ex]) (by simp[Aa,Ab,Ex])
theorem Jy:Enters Tryz.prog 85:=enters Tryz.func85 (by kernel_rfl) rfl
def Cg (n:Nat) (a0:List Int) (a1:Int):Option Item :=
lt (lenI a0) fun v1 =>
lt (eqI v1 0) fun v2 =>
ite' v2 (some (⟨1,⟨#[]⟩,[],[],0⟩:Item)) (bn (nth a0 0) fun v3 =>
lt (cvI .i64 v3) fun v4 =>
bn (remI .i64 v4 4) fun v5 =>
lt (addI .i64 1 v5) fun v6 =>
bn (bn (remI .u8 a1 3) fun v8 =>
lt (eqI v8 0) fun v9 =>
ite' v9 (lt (cvI .i64 a1) fun v10 =>
some (v10)) (some (0))) fun (y7:Int) =>
bn (iter n (fun (y11:Int×ByteArray×List Field×List ByteArray) =>
bn (lt (lenI a0) fun v15 =>
lt (ltI y11.1 v15) fun v16 =>
ite' v16 (lt (ltI y11.1 9) fun v17 =>
some (v17)) (some (false))) fun (y14:Bool) =>
lt (y14) fun v18 =>
ite' v18 (bn (bn (nth a0 y11.1) fun v20 =>
bn (remI .u8 v20 5) fun v21 =>
lt (addI .u8 97 v21) fun v22 =>
lt (strL [v22]) fun v23 =>
lt (cvI .i64 v20) fun v25 =>
bn (remI .i64 v25 3) fun v26 =>
bn (BM n v26) fun v27 =>
bn (catS v23 v27) fun v28 =>
lt (eqI v6 1) fun v29 =>
ite' v29 (bn (catS y11.2.1 v28) fun v30 =>
some ((v30,y11.2.2.1,y11.2.2.2))) (lt (eqI v6 2) fun v31 =>
ite' v31 (lt (subI .i64 v25 100) fun v32 =>
bn (BM n v32) fun v33 =>
bn (CI n y11.2.2.1 v28 v33) fun v34 =>
some ((y11.2.1,v34,y11.2.2.2))) (lt (eqI v6 3) fun v35 =>
ite' v35 (chk (room (y11.2.2.2.length+1) 16) <|
lt (y11.2.2.2++[v28]) fun v37 =>
some ((y11.2.1,y11.2.2.1,v37))) (chk (room y11.2.2.2.length 1) <|
bn (BQ n y11.2.2.2 v28) fun v39 =>
some ((y11.2.1,y11.2.2.1,v39)))))) fun (y19:ByteArray×List Field×List ByteArray) =>
lt (addI .i64 y11.1 1) fun v40 =>
some (.inl (v40,y19.1,y19.2.1,y19.2.2))) (some (.inr (y11.2.1,y11.2.2.1,y11.2.2.2)))) (1,⟨#[]⟩,[],[])) fun (y12:ByteArray×List Field×List ByteArray) =>
bn (lt (lenI a0) fun v42 =>
lt (eqI v42 1) fun v43 =>
ite' v43 (lt (neI v6 1) fun v44 =>
some (v44)) (some (false))) fun (y41:Bool) =>
lt (y41) fun v45 =>
ite' v45 (bn (nth a0 0) fun v46 =>
lt (cvI .i64 v46) fun v47 =>
bn (BM n v47) fun v48 =>
some (⟨1,v48,[],[],y7⟩:Item)) (chk (room y12.2.2.length 1) <|
some (⟨v6,y12.1,y12.2.1,y12.2.2,y7⟩:Item)))
theorem Ng {n:Nat} {a0:List Int} {a1:Int} {r:Item} (h:Cg n a0 a1=some r):Sound Tryz.prog 47 [.l (.d false 1 (encU a0)),.l (.s (.int .u8 a1))] [] (.g [.s (.int .i64 r.kind),.s (.string r.s),.d false 2 (encField r.f),.d false 1 (encS r.l),.s (.int .i64 r.exp)]) []:=by
 unfold Cg at h
 refine Sound.of_aw (fn:=Tryz.f47) (c:=_) Tryz.func47 rfl (by simp[Tryz.f47]) fun cx hG hnb=>?_
 rw[show Tryz.f47.ntmps=104 from rfl]
 have hn0:cx.nb=0:=hnb
 simp only[An,initTm,List.map_cons,List.map_nil]
 apply AW.step
 ·simp
  intros;rfl
 refine AW.seq ?_
 replace h:=ltE h;obtain⟨v1,e1,h⟩:=h
 replace h:=ltE h;obtain⟨v2,e2,h⟩:=h
 apply AW.step
 ·simp[Ad e1,← e2]
  intros;rfl
 cases v2 with
 |true =>
  replace h:=iteT rfl h
  refine AW.cond_true (by simp) ?_
  apply AW.step
  ·simp
   intros;rfl
  refine AW.nilCellD 0 2 2 rfl rfl rfl rfl ?_
  refine AW.nilCellD 0 3 1 rfl rfl rfl rfl ?_
  obtain rfl:=oi h
  refine AW.ret ?_
  refine Left.plain hnb (by simp[Tryz.f47,resV,resC,comp];rfl) rfl rfl ?_
  simp
 |false =>
  replace h:=iteF rfl h
  refine AW.cond_false (by simp) ?_
  refine AW.skip ?_
  try simp only[nm]
  replace h:=bnE h;obtain⟨v3,e3,h⟩:=h
  replace h:=ltE h;obtain⟨v4,e4,h⟩:=h
  replace h:=bnE h;obtain⟨v5,e5,h⟩:=h
  replace h:=ltE h;obtain⟨v6,e6,h⟩:=h
  apply AW.step
  ·simp[(show a0[0]?=some v3 from (Ac e3).2),← e4,e5,← e6]
   intros;rfl
  replace h:=bnE h;obtain⟨y7,g7,h⟩:=h
  refine AW.flow (p:=fun gh ls=>(nP (cx:=cx) (fun q=>(⟨[(0,.l (.d false 1 (encU a0))),(4,.l (.p 0 0)),(5,.l (.p 1 0))],[some ⟨57,5,false,none,[.s (.int .i64 0),.s (.string ⟨#[]⟩),.s (.slice none 0 0),.s (.slice none 0 0),.s (.int .i64 0)]⟩,some ⟨57,5,false,none,[.s (.int .i64 v6),.s (.string ⟨#[]⟩),.s (.slice none 0 0),.s (.slice none 0 0),.s (.int .i64 q)]⟩],104,gh,ls⟩:St))) y7) ?_ ?_
  ·replace h:=g7;clear g7
   replace h:=bnE h;obtain⟨v8,e8,h⟩:=h
   replace h:=ltE h;obtain⟨v9,e9,h⟩:=h
   apply AW.step
   ·simp[e8,← e9]
    intros;rfl
   cases v9 with
   |true =>
    replace h:=iteT rfl h
    refine AW.cond_true (by simp) ?_
    replace h:=ltE h;obtain⟨v10,e10,h⟩:=h
    apply AW.last
    ·simp[← e10]
     intros;rfl
    obtain rfl:=oi h
    refine nP_i ?_
    refine Weak.mixN [some 0,some 1] hn0 (by decide) ?_ ?_ rfl
    all_goals first|(simp[Aa,Ab,pickOb];done)|rfl
   |false =>
    replace h:=iteF rfl h
    refine AW.cond_false (by simp) ?_
    refine AW.skip ?_
    try simp only[nm]
    obtain rfl:=oi h
    refine nP_i ?_
    refine Weak.mixN [some 0,some 1] hn0 (by decide) ?_ ?_ rfl
    all_goals first|(simp[Aa,Ab,pickOb];done)|rfl
  ·rintro e s hp
   obtain⟨rfl,hw⟩:=hp
   refine⟨_,hw,?_⟩
   try simp only[nm]
   refine AW.seq ?_
   apply AW.step
   ·simp
    intros;rfl
   refine AW.block ?_
   replace h:=bnE h;obtain⟨y12,g12,h⟩:=h
   refine AW.iterP g12 (mk:=fun gh ls q=>(⟨[(0,.l (.d false 1 (encU a0))),(4,.l (.p 0 0)),(5,.l (.p 1 0)),(6,.l (.s (.int .i64 q.1)))],[some ⟨57,5,false,none,[.s (.int .i64 0),.s (.string ⟨#[]⟩),.s (.slice none 0 0),.s (.slice none 0 0),.s (.int .i64 0)]⟩,some ⟨57,5,false,none,[.s (.int .i64 v6),.s (.string q.2.1),.d false 2 (encField q.2.2.1),.r 2 1 0 q.2.2.2.length,.s (.int .i64 y7)]⟩,some ⟨9,1,true,none,lvs (encS q.2.2.2)⟩],104,gh,ls⟩:St)) (N:=fun gh ls=>(xP 0 (cx:=cx) (fun q=>(⟨[(0,.l (.d false 1 (encU a0))),(4,.l (.p 0 0)),(5,.l (.p 1 0))],[some ⟨57,5,false,none,[.s (.int .i64 0),.s (.string ⟨#[]⟩),.s (.slice none 0 0),.s (.slice none 0 0),.s (.int .i64 0)]⟩,some ⟨57,5,false,none,[.s (.int .i64 v6),.s (.string q.1),.d false 2 (encField q.2.1),.r 2 1 0 q.2.2.length,.s (.int .i64 y7)]⟩,some ⟨9,1,true,none,lvs (encS q.2.2)⟩],104,gh,ls⟩:St)))) ?_ noX ?_ ?_
   ·refine W.nilCellD 1 2 2 rfl rfl rfl rfl ?_
    refine W.nilCell 1 3 9 1 2 rfl rfl rfl rfl rfl ?_
    refine Weak.mixN [some 0,some 1,some 2] hn0 (by decide) ?_ ?_ rfl
    all_goals first|(simp[Aa,Ab,pickOb];done)|rfl
   ·clear h;intro y11 y13 h
    refine AW.seq ?_
    replace h:=bnE h;obtain⟨y14,g14,h⟩:=h
    refine AW.flow (p:=fun gh ls=>(nP (cx:=cx) (fun q=>(⟨[(0,.l (.d false 1 (encU a0))),(4,.l (.p 0 0)),(5,.l (.p 1 0)),(6,.l (.s (.int .i64 y11.1))),(32,.l (.s (.bool q)))],[some ⟨57,5,false,none,[.s (.int .i64 0),.s (.string ⟨#[]⟩),.s (.slice none 0 0),.s (.slice none 0 0),.s (.int .i64 0)]⟩,some ⟨57,5,false,none,[.s (.int .i64 v6),.s (.string y11.2.1),.d false 2 (encField y11.2.2.1),.r 2 1 0 y11.2.2.2.length,.s (.int .i64 y7)]⟩,some ⟨9,1,true,none,lvs (encS y11.2.2.2)⟩],104,gh,ls⟩:St))) y14) ?_ ?_
    ·replace h:=g14;clear g14
     replace h:=ltE h;obtain⟨v15,e15,h⟩:=h
     replace h:=ltE h;obtain⟨v16,e16,h⟩:=h
     cases v16 with
     |true =>
      replace h:=iteT rfl h
      replace h:=ltE h;obtain⟨v17,e17,h⟩:=h
      apply AW.last
      ·simp[Ad e15,← e16,← e17]
       intros;rfl
      obtain rfl:=oi h
      refine nP_i ?_
      refine Weak.mixN [some 0,some 1,some 2] hn0 (by decide) ?_ ?_ rfl
      all_goals first|(simp[Aa,Ab,pickOb];done)|rfl
     |false =>
      replace h:=iteF rfl h
      apply AW.last
      ·simp[Ad e15,← e16]
       intros;rfl
      obtain rfl:=oi h
      refine nP_i ?_
      refine Weak.mixN [some 0,some 1,some 2] hn0 (by decide) ?_ ?_ rfl
      all_goals first|(simp[Aa,Ab,pickOb];done)|rfl
    ·rintro e s hp
     obtain⟨rfl,hw⟩:=hp
     refine⟨_,hw,?_⟩
     try simp only[nm]
     replace h:=ltE h;obtain⟨v18,e18,h⟩:=h
     rw[← e18]
     cases v18 with
     |true =>
      replace h:=iteT rfl h
      refine AW.cond_true (by simp) ?_
      refine AW.skip ?_
      try simp only[nm]
      replace h:=bnE h;obtain⟨y19,g19,h⟩:=h
      refine AW.flow (p:=fun gh ls=>(nP (cx:=cx) (fun q=>(⟨[(0,.l (.d false 1 (encU a0))),(4,.l (.p 0 0)),(5,.l (.p 1 0)),(6,.l (.s (.int .i64 y11.1)))],[some ⟨57,5,false,none,[.s (.int .i64 0),.s (.string ⟨#[]⟩),.s (.slice none 0 0),.s (.slice none 0 0),.s (.int .i64 0)]⟩,some ⟨57,5,false,none,[.s (.int .i64 v6),.s (.string q.1),.d false 2 (encField q.2.1),.r 2 1 0 q.2.2.length,.s (.int .i64 y7)]⟩,some ⟨9,1,true,none,lvs (encS q.2.2)⟩],104,gh,ls⟩:St))) y19) ?_ ?_
      ·replace h:=g19;clear g19
       refine AW.block ?_
       replace h:=bnE h;obtain⟨v20,e20,h⟩:=h
       replace h:=bnE h;obtain⟨v21,e21,h⟩:=h
       replace h:=ltE h;obtain⟨v22,e22,h⟩:=h
       replace h:=ltE h;obtain⟨v23,e23,h⟩:=h
       have f24:(⟨#[UInt8.ofNat (v22).toNat]⟩:ByteArray)=v23:=e23.symm
       replace h:=ltE h;obtain⟨v25,e25,h⟩:=h
       replace h:=bnE h;obtain⟨v26,e26,h⟩:=h
       replace h:=bnE h;obtain⟨v27,e27,h⟩:=h
       replace h:=bnE h;obtain⟨v28,e28,h⟩:=h
       apply AW.drawnE (V:=[_,_,_,_,_,_,_,_,_,_,_,_,_,_,_]) (M:=[[some ⟨57,5,false,none,[.s (.int .i64 0),.s (.string ⟨#[]⟩),.s (.slice none 0 0),.s (.slice none 0 0),.s (.int .i64 0)]⟩,some ⟨57,5,false,none,[.s (.int .i64 v6),.s (.string y11.2.1),.d false 2 (encField y11.2.2.1),.r 2 1 0 y11.2.2.2.length,.s (.int .i64 y7)]⟩,some ⟨9,1,true,none,lvs (encS y11.2.2.2)⟩],[some ⟨57,5,false,none,[.s (.int .i64 0),.s (.string ⟨#[]⟩),.s (.slice none 0 0),.s (.slice none 0 0),.s (.int .i64 0)]⟩,some ⟨57,5,false,none,[.s (.int .i64 v6),.s (.string y11.2.1),.d false 2 (encField y11.2.2.1),.r 2 1 0 y11.2.2.2.length,.s (.int .i64 y7)]⟩,some ⟨9,1,true,none,lvs (encS y11.2.2.2)⟩,some ⟨5,1,true,none,[.s (.int .u8 v22)]⟩]]) mixed [⟨[0],[],[(0,none)],false⟩,⟨[0],[],[(6,none)],false⟩,⟨[0],[0,1],[(35,some 0),(36,some 1)],false⟩,⟨[0],[0,1,2],[(37,some 2)],false⟩,⟨[0],[0,1,2,3],[(38,some 3)],false⟩,⟨[0],[0,1,2,3,4],[(39,some 4)],false⟩,⟨[0],[0,1,2,3,4,5],[(40,some 5)],true⟩,⟨[1],[0,1,2,3,4,5,6],[(41,some 6)],false⟩,⟨[0,1],[],[(0,none)],false⟩,⟨[0,1],[],[(6,none)],false⟩,⟨[0,1],[8,9],[(43,some 8),(44,some 9)],false⟩,⟨[0,1],[8,9,10],[(45,some 10)],false⟩,⟨[0,1],[8,9,10,11],[(46,some 11)],false⟩,⟨[0,1],[8,9,10,11,12],[(47,some 12)],false⟩,⟨[0,1],[8,9,10,11,12,13],[(48,some 13)],false⟩,⟨[],[0,1,2,3,4,5,6,7,8,9,10,11,12,13,14],[],false⟩,⟨[],[0,1,2,3,4,5,6,7,8,9,10,11,12,13,14,15],[],false⟩] 15 1 (by kernel_rfl) (by kernel_rfl)
       ·rfl
       ·refine⟨?_,?_,?_,?_,?_,?_,?_,?_,⟨?_,?_⟩,⟨?_,?_⟩,⟨?_,?_⟩,⟨?_,?_⟩,⟨?_,?_⟩,⟨?_,?_⟩,⟨?_,?_⟩,trivial⟩
        iterate 6 (· intro tm hr;simp[AllL,rdV] at hr;simp[hr,Ac e20,e21,← e22,f24,← e25,e26,e28];intros;first|exact KD.mk|exact KD.mkN)
        ·intro tm hr
         simp[AllL,rdV] at hr
         simp[hr,Ac e20,e21,← e22,f24,← e25,e26,e28]
         intros
         refine Ay ?_
         try simp[Ac e20,e21,← e22,f24,← e25,e26,e28]
         intros;first|exact KD.mk|exact KD.mkN
        iterate 13 (· intro tm hr;simp[AllL,rdV] at hr;simp[hr,Ac e20,e21,← e22,f24,← e25,e26,e28];intros;first|exact KD.mk|exact KD.mkN)
        ·intro tm hr
         simp[AllL,rdV] at hr
         simp[hr,Ac e20,e21,← e22,f24,← e25,e26,e28]
         intros
         refine Ae Ct (CW e27) rfl ⟨.same rfl,trivial⟩ ?_
         try simp[Ac e20,e21,← e22,f24,← e25,e26,e28]
         intros;first|exact KD.mk|exact KD.mkN
        ·intro tm hr
         simp[AllL,rdV] at hr
         simp[hr,Ac e20,e21,← e22,f24,← e25,e26,e28]
         intros
         refine Ae Ct (CW e27) rfl ⟨.same rfl,trivial⟩ ?_
         try simp[Ac e20,e21,← e22,f24,← e25,e26,e28]
         intros;first|exact KD.mk|exact KD.mkN
       ·rfl
       ·simp[tmD,putD,Ac e20,e21,← e22,f24,← e25,e26,e28];rfl
       ·simp[Ac e20,e21,← e22,f24,← e25,e26,e28]
        intros;rfl
       apply AW.step
       ·simp
        intros;rfl
       refine AW.block ?_
       replace h:=ltE h;obtain⟨v29,e29,h⟩:=h
       apply AW.step
       ·simp[← e29]
        intros;rfl
       cases v29 with
       |true =>
        replace h:=iteT rfl h
        refine AW.cond_true (by simp) ?_
        replace h:=bnE h;obtain⟨v30,e30,h⟩:=h
        apply AW.last
        ·simp[e30]
         intros;rfl
        obtain rfl:=oi h
        refine nP_i ?_
        refine Weak.mixN [some 0,some 1,some 2] hn0 (by decide) ?_ ?_ rfl
        all_goals first|(simp[Aa,Ab,pickOb,Ey];done)|rfl
       |false =>
        replace h:=iteF rfl h
        refine AW.cond_false (by simp) ?_
        replace h:=ltE h;obtain⟨v31,e31,h⟩:=h
        apply AW.step
        ·simp[← e31]
         intros;rfl
        cases v31 with
        |true =>
         replace h:=iteT rfl h
         refine AW.cond_true (by simp) ?_
         replace h:=ltE h;obtain⟨v32,e32,h⟩:=h
         replace h:=bnE h;obtain⟨v33,e33,h⟩:=h
         replace h:=bnE h;obtain⟨v34,e34,h⟩:=h
         apply AW.drawnR (V:=[_,_,_,_,_,_,_,_,_,_]) mixed [⟨[0],[],[(5,none)],false⟩,⟨[0],[0],[(67,some 0)],false⟩,⟨[0],[],[(7,none)],false⟩,⟨[0],[],[(0,none)],false⟩,⟨[0],[],[(6,none)],false⟩,⟨[0],[3,4],[(70,some 3),(71,some 4)],false⟩,⟨[0],[3,4,5],[(72,some 5)],false⟩,⟨[0],[3,4,5,6],[(73,some 6)],false⟩,⟨[0],[3,4,5,6,7],[(74,some 7)],false⟩,⟨[0],[3,4,5,6,7,8],[(75,some 8)],false⟩,⟨[],[0,1,2,3,4,5,6,7,8,9],[],false⟩,⟨[],[0,1,2,3,4,5,6,7,8,9,10],[],false⟩,⟨[],[0,1,2,3,4,5,6,7,8,9,10,11],[],false⟩] 10 (by kernel_rfl) (by kernel_rfl)
         ·refine⟨?_,?_,?_,?_,?_,?_,?_,?_,?_,?_,trivial⟩
          iterate 9 (· intro tm hr;simp[AllL,rdV] at hr;simp[hr,Ac e20,← e25,← e32];intros;first|exact KD.mk|exact KD.mkN)
          ·intro tm hr
           simp[AllL,rdV] at hr
           simp[hr,Ac e20,← e25,← e32]
           intros
           refine Ae Ct (CW e33) rfl ⟨.same rfl,trivial⟩ ?_
           try simp[Ac e20,← e25,← e32]
           intros;first|exact KD.mk|exact KD.mkN
         ·rfl
         ·simp[tmD,putD,Ac e20,← e25,← e32];rfl
         ·simp[Ac e20,← e25,← e32]
          intros
          refine Ae Mp (Nf e34) rfl ⟨.same rfl,.same rfl,.same rfl,trivial⟩ ?_
          try simp[Ac e20,← e25,← e32]
          intros;rfl
         obtain rfl:=oi h
         refine nP_i ?_
         refine Weak.mixN [some 0,some 1,some 2] hn0 (by decide) ?_ ?_ rfl
         all_goals first|(simp[Aa,Ab,pickOb,Ey];done)|rfl
        |false =>
         replace h:=iteF rfl h
         refine AW.cond_false (by simp) ?_
         replace h:=ltE h;obtain⟨v35,e35,h⟩:=h
         apply AW.step
         ·simp[← e35]
          intros;rfl
         cases v35 with
         |true =>
          replace h:=iteT rfl h
          refine AW.cond_true (by simp) ?_
          replace h:=chkE h;obtain⟨e36,h⟩:=h
          replace h:=ltE h;obtain⟨v37,e37,h⟩:=h
          apply AW.last
          ·simp[← A2,← e37,Ao e37]
           intros
           refine Ay ?_
           try simp[← A2,← e37,Ao e37]
           intros
           refine AT (acc:=encS y11.2.2.2) (ys:=encS [v28]) (cap:=none) (k:=1) D2 Ew (by simp) (by simp[encS,lvs]) (Cp _) (by simp) (by simp) (by first|(simp;done)|simpa using (Ah e36).1) ?_
           try simp[← A2,← e37,Ao e37]
           intros;rfl
          obtain rfl:=oi h
          refine nP_i ?_
          refine Weak.mixN [some 0,some 1,some 5] hn0 (by decide) ?_ ?_ rfl
          all_goals first|(simp[Aa,Ab,pickOb,Ex,Ey];done)|rfl
         |false =>
          replace h:=iteF rfl h
          refine AW.cond_false (by simp) ?_
          replace h:=chkE h;obtain⟨e38,h⟩:=h
          replace h:=bnE h;obtain⟨v39,e39,h⟩:=h
          apply AW.last
          ·simp[outR]
           intros
           refine As Jy (Kv e39) rfl (by simp) ⟨.rowd (by simp) rfl (by omega) (Cp _) (by simp) (by first|exact (Ah e38).2|simpa using (Ah e38).2|simp),.same rfl,trivial⟩ ?_
           try simp[outR]
           intros;rfl
          obtain rfl:=oi h
          refine nP_i ?_
          refine Weak.mixN [some 0,some 1,some 4] hn0 (by decide) ?_ ?_ rfl
          all_goals first|(simp[Aa,Ab,pickOb,Ey];done)|rfl
      ·rintro e s hp
       obtain⟨rfl,hw⟩:=hp
       refine⟨_,hw,?_⟩
       try simp only[nm]
       replace h:=ltE h;obtain⟨v40,e40,h⟩:=h
       apply AW.last
       ·simp[← e40]
        intros;rfl
       obtain rfl:=oi h
       refine nP_i ?_
       refine Weak.mixN [some 0,some 1,some 2] hn0 (by decide) ?_ ?_ rfl
       all_goals first|(simp[Aa,Ab,pickOb];done)|rfl
     |false =>
      replace h:=iteF rfl h
      refine AW.cond_false (by simp) ?_
      refine AW.exit ?_
      try simp only[nm]
      obtain rfl:=oi h
      refine xP_i ?_
      refine Weak.mixN [some 0,some 1,some 2] hn0 (by decide) ?_ ?_ rfl
      all_goals first|(simp[Aa,Ab,pickOb];done)|rfl
   ·rintro e s hp
    obtain⟨rfl,hw⟩:=hp
    refine⟨_,hw,?_⟩
    try simp only[nm]
    refine AW.seq ?_
    replace h:=bnE h;obtain⟨y41,g41,h⟩:=h
    refine AW.flow (p:=fun gh ls=>(nP (cx:=cx) (fun q=>(⟨[(0,.l (.d false 1 (encU a0))),(4,.l (.p 0 0)),(5,.l (.p 1 0)),(94,.l (.s (.bool q)))],[some ⟨57,5,false,none,[.s (.int .i64 0),.s (.string ⟨#[]⟩),.s (.slice none 0 0),.s (.slice none 0 0),.s (.int .i64 0)]⟩,some ⟨57,5,false,none,[.s (.int .i64 v6),.s (.string y12.1),.d false 2 (encField y12.2.1),.r 2 1 0 y12.2.2.length,.s (.int .i64 y7)]⟩,some ⟨9,1,true,none,lvs (encS y12.2.2)⟩],104,gh,ls⟩:St))) y41) ?_ ?_
    ·replace h:=g41;clear g41
     replace h:=ltE h;obtain⟨v42,e42,h⟩:=h
     replace h:=ltE h;obtain⟨v43,e43,h⟩:=h
     cases v43 with
     |true =>
      replace h:=iteT rfl h
      replace h:=ltE h;obtain⟨v44,e44,h⟩:=h
      apply AW.last
      ·simp[Ad e42,← e43,← e44]
       intros;rfl
      obtain rfl:=oi h
      refine nP_i ?_
      refine Weak.mixN [some 0,some 1,some 2] hn0 (by decide) ?_ ?_ rfl
      all_goals first|(simp[Aa,Ab,pickOb];done)|rfl
     |false =>
      replace h:=iteF rfl h
      apply AW.last
      ·simp[Ad e42,← e43]
       intros;rfl
      obtain rfl:=oi h
      refine nP_i ?_
      refine Weak.mixN [some 0,some 1,some 2] hn0 (by decide) ?_ ?_ rfl
      all_goals first|(simp[Aa,Ab,pickOb];done)|rfl
    ·rintro e s hp
     obtain⟨rfl,hw⟩:=hp
     refine⟨_,hw,?_⟩
     try simp only[nm]
     replace h:=ltE h;obtain⟨v45,e45,h⟩:=h
     rw[← e45]
     cases v45 with
     |true =>
      replace h:=iteT rfl h
      refine AW.cond_true (by simp) ?_
      replace h:=bnE h;obtain⟨v46,e46,h⟩:=h
      replace h:=ltE h;obtain⟨v47,e47,h⟩:=h
      replace h:=bnE h;obtain⟨v48,e48,h⟩:=h
      apply AW.drawnP (V:=[_,_,_,_,_,_,_]) mixed [⟨[0],[],[(0,none)],false⟩,⟨[0],[0],[(95,some 0)],false⟩,⟨[0],[0,1],[(96,some 1)],false⟩,⟨[0],[0,1,2],[(97,some 2)],false⟩,⟨[0],[0,1,2,3],[(98,some 3)],false⟩,⟨[0],[],[(5,none)],false⟩,⟨[0],[5],[(100,some 5)],false⟩,⟨[],[0,1,2,3,4,5,6],[],false⟩,⟨[],[0,1,2,3,4,5,6,7],[],false⟩] 7 (by kernel_rfl) (by kernel_rfl)
      ·refine⟨?_,?_,?_,?_,?_,?_,?_,trivial⟩
       iterate 4 (· intro tm hr;simp[AllL,rdV] at hr;simp[hr,(show a0[0]?=some v46 from (Ac e46).2),← e47];intros;first|exact KD.mk|exact KD.mkN)
       ·intro tm hr
        simp[AllL,rdV] at hr
        simp[hr,(show a0[0]?=some v46 from (Ac e46).2),← e47]
        intros
        refine Ae Ct (CW e48) rfl ⟨.same rfl,trivial⟩ ?_
        try simp[(show a0[0]?=some v46 from (Ac e46).2),← e47]
        intros;first|exact KD.mk|exact KD.mkN
       iterate 2 (· intro tm hr;simp[AllL,rdV] at hr;simp[hr,(show a0[0]?=some v46 from (Ac e46).2),← e47];intros;first|exact KD.mk|exact KD.mkN)
      ·rfl
      ·simp[tmD,putD,(show a0[0]?=some v46 from (Ac e46).2),← e47];rfl
      ·simp[(show a0[0]?=some v46 from (Ac e46).2),← e47]
       intros;rfl
      refine AW.nilCellD 0 2 2 rfl rfl rfl rfl ?_
      refine AW.nilCellD 0 3 1 rfl rfl rfl rfl ?_
      obtain rfl:=oi h
      refine AW.ret ?_
      refine Left.plain hnb (by simp[Tryz.f47,resV,resC,comp];rfl) rfl rfl ?_
      simp
     |false =>
      replace h:=iteF rfl h
      refine AW.cond_false (by simp) ?_
      refine AW.skip ?_
      try simp only[nm]
      apply AW.step
      ·simp
       intros;rfl
      replace h:=chkE h;obtain⟨e49,h⟩:=h
      refine AW.frzRow 2 (ty:=9) (cap:=none) (sz:=1) (es:=encS y12.2.2) (by simp) (by omega) (Cp _) (by first|exact (Ah e49).2|simpa using (Ah e49).2|simp) (by simp[Tm.frz,AV.frz,LV.frz];rfl) (by simp[Ob.frz,LV.frz];rfl) rfl ?_
      obtain rfl:=oi h
      refine AW.ret ?_
      refine Left.plain hnb (by simp[Tryz.f47,resV,resC,comp];rfl) rfl rfl ?_
      simp
theorem Mq:Enters Tryz.prog 47:=enters Tryz.func47 (by kernel_rfl) rfl
def BD (n:Nat) (a0:List Int):Option (List Effect) :=
bn (iter n (fun (y1:Int×List Effect) =>
bn (lt (addI .i64 y1.1 3) fun v5 =>
lt (lenI a0) fun v6 =>
lt (ltI v5 v6) fun v7 =>
ite' v7 (lt (lenI y1.2) fun v8 =>
lt (ltI v8 40) fun v9 =>
some (v9)) (some (false))) fun (y4:Bool) =>
lt (y4) fun v10 =>
ite' v10 (bn (nth a0 y1.1) fun v11 =>
bn (A5 n v11) fun v12 =>
lt (addI .i64 y1.1 1) fun v13 =>
bn (nth a0 v13) fun v14 =>
bn (remI .u8 v14 4) fun v15 =>
lt (eqI v15 0) fun v16 =>
bn (lt (notB v16) fun v18 =>
ite' v18 (lt (addI .i64 y1.1 4) fun v19 =>
bn (seglh a0 v13 v19) fun v20 =>
lt (addI .i64 y1.1 2) fun v22 =>
bn (nth a0 v22) fun v23 =>
bn (Cg n v20 v23) fun v24 =>
some ((⟨v12,v16,v24⟩:Effect))) (some ((⟨v12,v16,(⟨0,⟨#[]⟩,[],[],0⟩:Item)⟩:Effect)))) fun (y17:Effect) =>
chk (room (y1.2.length+1) 104) <|
lt (y1.2++[y17]) fun v26 =>
lt (addI .i64 y1.1 4) fun v27 =>
some (.inl (v27,v26))) (some (.inr y1.2))) (0,[])) fun (y2:List Effect) =>
chk (room y2.length 1) <|
some y2
theorem Jz {n:Nat} {a0:List Int} {r:List Effect} (h:BD n a0=some r):Sound Tryz.prog 15 [.l (.d false 1 (encU a0))] [] (.l (.d false 7 (encEffect r))) []:=by
 unfold BD at h
 refine Sound.of_aw (fn:=Tryz.f15) (c:=_) Tryz.func15 rfl (by simp[Tryz.f15]) fun cx hG hnb=>?_
 rw[show Tryz.f15.ntmps=52 from rfl]
 have hn0:cx.nb=0:=hnb
 simp only[An,initTm,List.map_cons,List.map_nil]
 apply AW.step
 ·simp
  intros;rfl
 apply AW.step
 ·simp
  intros;rfl
 refine AW.seq ?_
 apply AW.step
 ·simp
  intros;rfl
 refine AW.block ?_
 replace h:=bnE h;obtain⟨y2,g2,h⟩:=h
 refine AW.iterP g2 (mk:=fun gh ls q=>(⟨[(0,.l (.d false 1 (encU a0))),(3,.l (.r 0 7 0 q.2.length)),(4,.l (.s (.int .i64 q.1)))],[some ⟨59,7,true,none,lvs (encEffect q.2)⟩],52,gh,ls⟩:St)) (N:=fun gh ls=>(xP 0 (cx:=cx) (fun q=>(⟨[(3,.l (.r 0 7 0 q.length))],[some ⟨59,7,true,none,lvs (encEffect q)⟩],52,gh,ls⟩:St)))) ?_ noX ?_ ?_
 ·refine W.nilRow 3 59 7 0 (by simp) rfl rfl ?_
  refine Weak.mixN [some 0] hn0 (by decide) ?_ ?_ rfl
  all_goals first|(simp[Aa,Ab,pickOb];done)|rfl
 ·clear h;intro y1 y3 h
  refine AW.seq ?_
  replace h:=bnE h;obtain⟨y4,g4,h⟩:=h
  refine AW.flow (p:=fun gh ls=>(nP (cx:=cx) (fun q=>(⟨[(0,.l (.d false 1 (encU a0))),(3,.l (.r 0 7 0 y1.2.length)),(4,.l (.s (.int .i64 y1.1))),(15,.l (.s (.bool q)))],[some ⟨59,7,true,none,lvs (encEffect y1.2)⟩],52,gh,ls⟩:St))) y4) ?_ ?_
  ·replace h:=g4;clear g4
   replace h:=ltE h;obtain⟨v5,e5,h⟩:=h
   replace h:=ltE h;obtain⟨v6,e6,h⟩:=h
   replace h:=ltE h;obtain⟨v7,e7,h⟩:=h
   cases v7 with
   |true =>
    replace h:=iteT rfl h
    replace h:=ltE h;obtain⟨v8,e8,h⟩:=h
    replace h:=ltE h;obtain⟨v9,e9,h⟩:=h
    apply AW.last
    ·simp[← e5,Ad e6,← e7,Ad e8,← e9]
     intros;rfl
    obtain rfl:=oi h
    refine nP_i ?_
    refine Weak.mixN [some 0] hn0 (by decide) ?_ ?_ rfl
    all_goals first|(simp[Aa,Ab,pickOb];done)|rfl
   |false =>
    replace h:=iteF rfl h
    apply AW.last
    ·simp[← e5,Ad e6,← e7]
     intros;rfl
    obtain rfl:=oi h
    refine nP_i ?_
    refine Weak.mixN [some 0] hn0 (by decide) ?_ ?_ rfl
    all_goals first|(simp[Aa,Ab,pickOb];done)|rfl
  ·rintro e s hp
   obtain⟨rfl,hw⟩:=hp
   refine⟨_,hw,?_⟩
   try simp only[nm]
   replace h:=ltE h;obtain⟨v10,e10,h⟩:=h
   rw[← e10]
   cases v10 with
   |true =>
    replace h:=iteT rfl h
    refine AW.cond_true (by simp) ?_
    refine AW.skip ?_
    try simp only[nm]
    refine AW.seq ?_
    refine AW.block ?_
    replace h:=bnE h;obtain⟨v11,e11,h⟩:=h
    replace h:=bnE h;obtain⟨v12,e12,h⟩:=h
    replace h:=ltE h;obtain⟨v13,e13,h⟩:=h
    replace h:=bnE h;obtain⟨v14,e14,h⟩:=h
    replace h:=bnE h;obtain⟨v15,e15,h⟩:=h
    replace h:=ltE h;obtain⟨v16,e16,h⟩:=h
    apply AW.drawnE (V:=[_,_,_,_,_,_,_,_,_,_,_,_,_,_]) (M:=[[some ⟨59,7,true,none,lvs (encEffect y1.2)⟩],[some ⟨59,7,true,none,lvs (encEffect y1.2)⟩,some ⟨59,7,false,none,[.s (.string ⟨#[]⟩),.s (.bool false),.s (.int .i64 0),.s (.string ⟨#[]⟩),.s (.slice none 0 0),.s (.slice none 0 0),.s (.int .i64 0)]⟩]]) mixed [⟨[0,1],[],[(0,none)],false⟩,⟨[0,1],[],[(4,none)],false⟩,⟨[0,1],[0,1],[(18,some 0),(19,some 1)],false⟩,⟨[0,1],[0,1,2],[(20,some 2)],false⟩,⟨[0,1],[0,1,2,3],[(21,some 3)],false⟩,⟨[0,1],[],[(0,none)],false⟩,⟨[0,1],[],[(4,none)],false⟩,⟨[0,1],[6],[(24,some 6)],false⟩,⟨[0,1],[5,6,7],[(23,some 5),(25,some 7)],false⟩,⟨[0,1],[5,6,7,8],[(26,some 8)],false⟩,⟨[0,1],[5,6,7,8,9],[(27,some 9)],false⟩,⟨[0,1],[5,6,7,8,9,10],[(28,some 10)],false⟩,⟨[0,1],[0,1,2,3,4,5,6,7,8,9,10,11],[(22,some 4),(29,some 11)],false⟩,⟨[0],[],[],true⟩,⟨[],[0,1,2,3,4,5,6,7,8,9,10,11,12,13],[],false⟩] 14 1 (by kernel_rfl) (by kernel_rfl)
    ·rfl
    ·refine⟨⟨?_,?_⟩,⟨?_,?_⟩,⟨?_,?_⟩,⟨?_,?_⟩,⟨?_,?_⟩,⟨?_,?_⟩,⟨?_,?_⟩,⟨?_,?_⟩,⟨?_,?_⟩,⟨?_,?_⟩,⟨?_,?_⟩,⟨?_,?_⟩,⟨?_,?_⟩,?_,trivial⟩
     iterate 8 (· intro tm hr;simp[AllL,rdV] at hr;simp[hr,Ac e11,← e13,Ac e14,e15,← e16];intros;first|exact KD.mk|exact KD.mkN)
     ·intro tm hr
      simp[AllL,rdV] at hr
      simp[hr,Ac e11,← e13,Ac e14,e15,← e16]
      intros
      refine Ae F3 (GJ e12) rfl ⟨.same rfl,trivial⟩ ?_
      try simp[Ac e11,← e13,Ac e14,e15,← e16]
      intros;first|exact KD.mk|exact KD.mkN
     ·intro tm hr
      simp[AllL,rdV] at hr
      simp[hr,Ac e11,← e13,Ac e14,e15,← e16]
      intros
      refine Ae F3 (GJ e12) rfl ⟨.same rfl,trivial⟩ ?_
      try simp[Ac e11,← e13,Ac e14,e15,← e16]
      intros;first|exact KD.mk|exact KD.mkN
     iterate 17 (· intro tm hr;simp[AllL,rdV] at hr;simp[hr,Ac e11,← e13,Ac e14,e15,← e16];intros;first|exact KD.mk|exact KD.mkN)
    ·rfl
    ·simp[tmD,putD,Ac e11,← e13,Ac e14,e15,← e16];rfl
    ·simp[Ac e11,← e13,Ac e14,e15,← e16]
     intros;rfl
    replace h:=bnE h;obtain⟨y17,g17,h⟩:=h
    refine AW.flow (p:=fun gh ls=>(nP (cx:=cx) (fun q=>(⟨[(0,.l (.d false 1 (encU a0))),(3,.l (.r 0 7 0 y1.2.length)),(4,.l (.s (.int .i64 y1.1))),(5,.l (.p 1 0))],[some ⟨59,7,true,none,lvs (encEffect y1.2)⟩,some ⟨59,7,false,none,[.s (.string q.key),.s (.bool q.gone),.s (.int .i64 q.item.kind),.s (.string q.item.s),.d false 2 (encField q.item.f),.d false 1 (encS q.item.l),.s (.int .i64 q.item.exp)]⟩],52,gh,ls⟩:St))) y17) ?_ ?_
    ·replace h:=g17;clear g17
     replace h:=ltE h;obtain⟨v18,e18,h⟩:=h
     apply AW.step
     ·simp[← e18]
      intros;rfl
     cases v18 with
     |true =>
      replace h:=iteT rfl h
      refine AW.cond_true (by simp) ?_
      replace h:=ltE h;obtain⟨v19,e19,h⟩:=h
      replace h:=bnE h;obtain⟨v20,e20,h⟩:=h
      have f21:=Me e20
      try simp[← e13,← e19] at f21
      replace h:=ltE h;obtain⟨v22,e22,h⟩:=h
      replace h:=bnE h;obtain⟨v23,e23,h⟩:=h
      replace h:=bnE h;obtain⟨v24,e24,h⟩:=h
      apply AW.drawnR (V:=[_,_,_,_,_,_,_,_,_,_,_]) mixed [⟨[0],[],[(0,none)],false⟩,⟨[0],[],[(4,none)],false⟩,⟨[0],[1],[(35,some 1)],false⟩,⟨[0],[],[(4,none)],false⟩,⟨[0],[3],[(37,some 3)],false⟩,⟨[0],[0,1,2,3,4],[(34,some 0),(36,some 2),(38,some 4)],false⟩,⟨[0],[],[(0,none)],false⟩,⟨[0],[],[(4,none)],false⟩,⟨[0],[7],[(41,some 7)],false⟩,⟨[0],[6,7,8],[(40,some 6),(42,some 8)],false⟩,⟨[0],[6,7,8,9],[(43,some 9)],false⟩,⟨[],[0,1,2,3,4,5,6,7,8,9,10],[],false⟩,⟨[],[0,1,2,3,4,5,6,7,8,9,10,11],[],false⟩,⟨[],[0,1,2,3,4,5,6,7,8,9,10,11,12],[],false⟩] 11 (by kernel_rfl) (by kernel_rfl)
      ·refine⟨?_,?_,?_,?_,?_,?_,?_,?_,?_,?_,?_,trivial⟩
       iterate 11 (· intro tm hr;simp[AllL,rdV] at hr;simp[hr,← e13,← e19,f21,← e22,Ac e23];intros;first|exact KD.mk|exact KD.mkN)
      ·rfl
      ·simp[tmD,putD,← e13,← e19,f21,← e22,Ac e23];rfl
      ·simp[← e13,← e19,f21,← e22,Ac e23]
       intros
       refine Ae Mq (Ng e24) rfl ⟨.same rfl,.same rfl,trivial⟩ ?_
       try simp[← e13,← e19,f21,← e22,Ac e23]
       intros;rfl
      obtain rfl:=oi h
      refine nP_i ?_
      refine Weak.mixN [some 0,some 1] hn0 (by decide) ?_ ?_ rfl
      all_goals first|(simp[Aa,Ab,pickOb];done)|rfl
     |false =>
      replace h:=iteF rfl h
      refine AW.cond_false (by simp) ?_
      refine AW.skip ?_
      try simp only[nm]
      obtain rfl:=oi h
      refine nP_i ?_
      refine W.nilCellD 1 4 2 rfl rfl rfl rfl ?_
      refine W.nilCellD 1 5 1 rfl rfl rfl rfl ?_
      refine Weak.mixN [some 0,some 1] hn0 (by decide) ?_ ?_ rfl
      all_goals first|(simp[Aa,Ab,pickOb];done)|rfl
    ·rintro e s hp
     obtain⟨rfl,hw⟩:=hp
     refine⟨_,hw,?_⟩
     try simp only[nm]
     replace h:=chkE h;obtain⟨e25,h⟩:=h
     replace h:=ltE h;obtain⟨v26,e26,h⟩:=h
     apply AW.last
     ·simp[← CE,← e26,Ao e26]
      intros
      refine Ay ?_
      try simp[← CE,← e26,Ao e26]
      intros
      refine AT (acc:=encEffect y1.2) (ys:=encEffect [y17]) (cap:=none) (k:=1) Iv Iu (by simp) (by simp[encEffect,lvs]) (Bh _) (by simp) (by simp) (by first|(simp;done)|simpa using (Ah e25).1) ?_
      try simp[← CE,← e26,Ao e26]
      intros;rfl
     try simp only[nm]
     replace h:=ltE h;obtain⟨v27,e27,h⟩:=h
     apply AW.last
     ·simp[← e27]
      intros;rfl
     obtain rfl:=oi h
     refine nP_i ?_
     refine Weak.mixN [some 3] hn0 (by decide) ?_ ?_ rfl
     all_goals first|(simp[Aa,Ab,pickOb,FB];done)|rfl
   |false =>
    replace h:=iteF rfl h
    refine AW.cond_false (by simp) ?_
    refine AW.exit ?_
    try simp only[nm]
    obtain rfl:=oi h
    refine xP_i ?_
    refine Weak.mixN [some 0] hn0 (by decide) ?_ ?_ rfl
    all_goals first|(simp[Aa,Ab,pickOb];done)|rfl
 ·rintro e s hp
  obtain⟨rfl,hw⟩:=hp
  refine⟨_,hw,?_⟩
  try simp only[nm]
  apply AW.step
  ·simp
   intros;rfl
  replace h:=chkE h;obtain⟨e28,h⟩:=h
  refine AW.frzRow 0 (ty:=59) (cap:=none) (sz:=7) (es:=encEffect y2) (by simp) (by omega) (Bh _) (by first|exact (Ah e28).2|simpa using (Ah e28).2|simp) (by simp[Tm.frz,AV.frz,LV.frz];rfl) (by simp[Ob.frz,LV.frz];rfl) rfl ?_
  obtain rfl:=oi h
  refine AW.ret ?_
  refine Left.plain hnb (by simp[Tryz.f15,resV,resC,comp];rfl) rfl rfl ?_
  simp
theorem IG:Enters Tryz.prog 15:=enters Tryz.func15 (by kernel_rfl) rfl
def BJ (n:Nat) (a0:List Int):Option (List Pair) :=
bn (BD n a0) fun v1 =>
bn (Dw n [] v1) fun v2 =>
some v2
theorem Mr {n:Nat} {a0:List Int} {r:List Pair} (h:BJ n a0=some r):Sound Tryz.prog 29 [.l (.d false 1 (encU a0))] [] (.l (.d false 6 (encPair r))) []:=by
 unfold BJ at h
 refine Sound.of_aw (fn:=Tryz.f29) (c:=_) Tryz.func29 rfl (by simp[Tryz.f29]) fun cx hG hnb=>?_
 rw[show Tryz.f29.ntmps=6 from rfl]
 have hn0:cx.nb=0:=hnb
 simp only[An,initTm,List.map_cons,List.map_nil]
 apply AW.step
 ·simp
  intros;rfl
 replace h:=bnE h;obtain⟨v1,e1,h⟩:=h
 replace h:=bnE h;obtain⟨v2,e2,h⟩:=h
 apply AW.step
 ·simp
  intros
  refine Ae IG (Jz e1) rfl ⟨.same rfl,trivial⟩ ?_
  try simp
  intros
  refine Ae Lc (Ml e2) rfl ⟨.nil _ _,.same rfl,trivial⟩ ?_
  try simp
  intros;rfl
 obtain rfl:=oi h
 refine AW.ret ?_
 refine Left.plain hnb (by simp[Tryz.f29,resV,resC,comp];rfl) rfl rfl ?_
 simp
theorem Li:Enters Tryz.prog 29:=enters Tryz.func29 (by kernel_rfl) rfl
end Go.Proofs.YtlbdhlbbkibgpaaGreat
