/- Part 3 of the proof. -/
import Derived.Test.YtlbdhlbbkibgpaaGreatPc2
set_option linter.unusedVariables false
set_option linter.unusedSimpArgs false
set_option linter.constructorNameAsVariable false
set_option maxRecDepth 8000
set_option maxHeartbeats 8000000
namespace Go.Proofs.YtlbdhlbbkibgpaaGreat
open Go Go.RowKit
def small {α:Type} (c:Nat) (l:List α):Bool:=decide (l.length*c≤140737488355328∧l.length≤140737488355328)
theorem Bv {α:Type} {c:Nat} {l:List α} (h:small c l=true):l.length*c≤140737488355328∧l.length≤140737488355328:=by simpa [small] using h
set_option maxRecDepth 8000 in
theorem OC (l:List (List Int)) (hl:l.length*24≤140737488355328∧l.length≤140737488355328):Sound Tryz.prog 71 [.l (.d false 1 ((encLI l)))] [] (.l (.r 0 1 0 l.length)) [some ⟨33,1,true,none,lvs (encLI l)⟩]:=by
 refine Sound.of_aw (fn:=Tryz.f71) (c:=_) Tryz.func71 rfl (by simp[Tryz.f71]) fun cx hG hnb=>?_
 rw[show Tryz.f71.ntmps=8 from rfl]
 have hn0:cx.nb=0:=hnb
 refine AW.step (by simp;rfl) ?_
 refine AW.seq ?_
 refine AW.stepN (fun s=>∃ b:Bool,(encLI l≠[]→b=false)∧s=⟨[(4,.l (.s (.bool b))),(3,.l (.d false 1 (encLI l))),(2,.l (.s (.slice none 0 0))),(0,.l (.d false 1 (encLI l)))],[],8,[],none⟩) ?_ ?_
 ·simp
 rintro s ⟨b,hb,rfl⟩
 refine AW.cond rfl (fun h=>?_) (fun h=>AW.skip ?_)
 ·have he:l=[]:=by
   cases l with
   |nil=>rfl
   |cons x l=>simp at hb;rw[hb] at h;simp at h
  subst he
  refine AW.step (by simp;rfl) ?_
  refine AW.ret (Left.of (av:=.l (.s (.slice none 0 0))) (by simp[Tryz.f71,resV,resC]) ?_)
  refine LeftV.weak (Weak.nilRow 0 33 1 rfl) ?_
  refine LeftV.now hnb [some 0] (fun i j o hi hj=>?_) rfl ?_ ?_
  ·cases i <;> cases j <;> simp_all
  ·simp[pickOb,St.add,Ob.ren,lvs]
  ·rfl
 ·simp only[Post.seq]
  apply AW.step
  ·simp[Value.oneCell']
   refine Av ?_
   try simp
   refine BP (q:=(l.length,lvs (encLI l))) (z:=⟨33,1,true,none,[]⟩) Iu Ir (by simp) (by simp[← HT]) (by simp) (by simp) (by simp) (by simp;omega) ?_
   simp[St.grow,obsBut,AU]
   rfl
  refine AW.ret (Left.of (av:=.l (.r 0 1 0 l.length)) (by simp[Tryz.f71,resV,resC]) ?_)
  refine LeftV.now hnb [some 0] (fun i j o hi hj=>?_) rfl ?_ rfl
  ·cases i <;> cases j <;> simp_all
  ·simp[pickOb,Ob.ren,AU]
theorem NN:Enters Tryz.prog 71:=enters Tryz.func71 (by kernel_rfl) rfl
set_option maxRecDepth 8000 in
theorem L3 (l:List Claim) (hl:l.length*32≤140737488355328∧l.length≤140737488355328):Sound Tryz.prog 64 [.l (.d true 4 ((encClaim l)))] [] (.l (.r 0 4 0 l.length)) [some ⟨81,4,true,none,lvs (encClaim l)⟩]:=by
 refine Sound.of_aw (fn:=Tryz.f64) (c:=_) Tryz.func64 rfl (by simp[Tryz.f64]) fun cx hG hnb=>?_
 rw[show Tryz.f64.ntmps=8 from rfl]
 have hn0:cx.nb=0:=hnb
 refine AW.step (by simp;rfl) ?_
 refine AW.seq ?_
 refine AW.stepN (fun s=>∃ b:Bool,(encClaim l≠[]→b=false)∧s=⟨[(4,.l (.s (.bool b))),(3,.l (.d true 4 (encClaim l))),(2,.l (.s (.slice none 0 0))),(0,.l (.d true 4 (encClaim l)))],[],8,[],none⟩) ?_ ?_
 ·simp
 rintro s ⟨b,hb,rfl⟩
 refine AW.cond rfl (fun h=>?_) (fun h=>AW.skip ?_)
 ·have he:l=[]:=by
   cases l with
   |nil=>rfl
   |cons x l=>simp at hb;rw[hb] at h;simp at h
  subst he
  refine AW.step (by simp;rfl) ?_
  refine AW.ret (Left.of (av:=.l (.s (.slice none 0 0))) (by simp[Tryz.f64,resV,resC]) ?_)
  refine LeftV.weak (Weak.nilRow 0 81 4 rfl) ?_
  refine LeftV.now hnb [some 0] (fun i j o hi hj=>?_) rfl ?_ ?_
  ·cases i <;> cases j <;> simp_all
  ·simp[pickOb,St.add,Ob.ren,lvs]
  ·rfl
 ·simp only[Post.seq]
  apply AW.step
  ·simp[Value.oneCell']
   refine Av ?_
   try simp
   refine BP (q:=(l.length,lvs (encClaim l))) (z:=⟨81,4,true,none,[]⟩) G2 G1 (by simp) (by simp[Jn]) (by simp) (by simp) (by simp) (by simp;omega) ?_
   simp[St.grow,obsBut,AU]
   rfl
  refine AW.ret (Left.of (av:=.l (.r 0 4 0 l.length)) (by simp[Tryz.f64,resV,resC]) ?_)
  refine LeftV.now hnb [some 0] (fun i j o hi hj=>?_) rfl ?_ rfl
  ·cases i <;> cases j <;> simp_all
  ·simp[pickOb,Ob.ren,AU]
theorem KV:Enters Tryz.prog 64:=enters Tryz.func64 (by kernel_rfl) rfl
set_option maxRecDepth 8000 in
theorem Hm (l:List Effect) (hl:l.length*104≤140737488355328∧l.length≤140737488355328):Sound Tryz.prog 69 [.l (.d false 7 ((encEffect l)))] [] (.l (.r 0 7 0 l.length)) [some ⟨59,7,true,none,lvs (encEffect l)⟩]:=by
 refine Sound.of_aw (fn:=Tryz.f69) (c:=_) Tryz.func69 rfl (by simp[Tryz.f69]) fun cx hG hnb=>?_
 rw[show Tryz.f69.ntmps=8 from rfl]
 have hn0:cx.nb=0:=hnb
 refine AW.step (by simp;rfl) ?_
 refine AW.seq ?_
 refine AW.stepN (fun s=>∃ b:Bool,(encEffect l≠[]→b=false)∧s=⟨[(4,.l (.s (.bool b))),(3,.l (.d false 7 (encEffect l))),(2,.l (.s (.slice none 0 0))),(0,.l (.d false 7 (encEffect l)))],[],8,[],none⟩) ?_ ?_
 ·simp
 rintro s ⟨b,hb,rfl⟩
 refine AW.cond rfl (fun h=>?_) (fun h=>AW.skip ?_)
 ·have he:l=[]:=by
   cases l with
   |nil=>rfl
   |cons x l=>simp at hb;rw[hb] at h;simp at h
  subst he
  refine AW.step (by simp;rfl) ?_
  refine AW.ret (Left.of (av:=.l (.s (.slice none 0 0))) (by simp[Tryz.f69,resV,resC]) ?_)
  refine LeftV.weak (Weak.nilRow 0 59 7 rfl) ?_
  refine LeftV.now hnb [some 0] (fun i j o hi hj=>?_) rfl ?_ ?_
  ·cases i <;> cases j <;> simp_all
  ·simp[pickOb,St.add,Ob.ren,lvs]
  ·rfl
 ·simp only[Post.seq]
  apply AW.step
  ·simp[Value.oneCell']
   refine Av ?_
   try simp
   refine BP (q:=(l.length,lvs (encEffect l))) (z:=⟨59,7,true,none,[]⟩) It Is (by simp) (by simp[← HT]) (by simp) (by simp) (by simp) (by simp;omega) ?_
   simp[St.grow,obsBut,AU]
   rfl
  refine AW.ret (Left.of (av:=.l (.r 0 7 0 l.length)) (by simp[Tryz.f69,resV,resC]) ?_)
  refine LeftV.now hnb [some 0] (fun i j o hi hj=>?_) rfl ?_ rfl
  ·cases i <;> cases j <;> simp_all
  ·simp[pickOb,Ob.ren,AU]
theorem GH:Enters Tryz.prog 69:=enters Tryz.func69 (by kernel_rfl) rfl
set_option maxRecDepth 8000 in
theorem H0 (l:List Field) (hl:l.length*32≤140737488355328∧l.length≤140737488355328):Sound Tryz.prog 98 [.l (.d true 2 ((encField l)))] [] (.l (.r 0 2 0 l.length)) [some ⟨157,2,true,none,lvs (encField l)⟩]:=by
 refine Sound.of_aw (fn:=Tryz.f98) (c:=_) Tryz.func98 rfl (by simp[Tryz.f98]) fun cx hG hnb=>?_
 rw[show Tryz.f98.ntmps=8 from rfl]
 have hn0:cx.nb=0:=hnb
 refine AW.step (by simp;rfl) ?_
 refine AW.seq ?_
 refine AW.stepN (fun s=>∃ b:Bool,(encField l≠[]→b=false)∧s=⟨[(4,.l (.s (.bool b))),(3,.l (.d true 2 (encField l))),(2,.l (.s (.slice none 0 0))),(0,.l (.d true 2 (encField l)))],[],8,[],none⟩) ?_ ?_
 ·simp
 rintro s ⟨b,hb,rfl⟩
 refine AW.cond rfl (fun h=>?_) (fun h=>AW.skip ?_)
 ·have he:l=[]:=by
   cases l with
   |nil=>rfl
   |cons x l=>simp at hb;rw[hb] at h;simp at h
  subst he
  refine AW.step (by simp;rfl) ?_
  refine AW.ret (Left.of (av:=.l (.s (.slice none 0 0))) (by simp[Tryz.f98,resV,resC]) ?_)
  refine LeftV.weak (Weak.nilRow 0 157 2 rfl) ?_
  refine LeftV.now hnb [some 0] (fun i j o hi hj=>?_) rfl ?_ ?_
  ·cases i <;> cases j <;> simp_all
  ·simp[pickOb,St.add,Ob.ren,lvs]
  ·rfl
 ·simp only[Post.seq]
  apply AW.step
  ·simp[Value.oneCell']
   refine Av ?_
   try simp
   refine BP (q:=(l.length,lvs (encField l))) (z:=⟨157,2,true,none,[]⟩) G3 F5 (by simp) (by simp[Jj]) (by simp) (by simp) (by simp) (by simp;omega) ?_
   simp[St.grow,obsBut,AU]
   rfl
  refine AW.ret (Left.of (av:=.l (.r 0 2 0 l.length)) (by simp[Tryz.f98,resV,resC]) ?_)
  refine LeftV.now hnb [some 0] (fun i j o hi hj=>?_) rfl ?_ rfl
  ·cases i <;> cases j <;> simp_all
  ·simp[pickOb,Ob.ren,AU]
theorem Hn:Enters Tryz.prog 98:=enters Tryz.func98 (by kernel_rfl) rfl
set_option maxRecDepth 8000 in
theorem M0 (l:List Move) (hl:l.length*40≤140737488355328∧l.length≤140737488355328):Sound Tryz.prog 65 [.l (.d true 4 ((encMove l)))] [] (.l (.r 0 4 0 l.length)) [some ⟨92,4,true,none,lvs (encMove l)⟩]:=by
 refine Sound.of_aw (fn:=Tryz.f65) (c:=_) Tryz.func65 rfl (by simp[Tryz.f65]) fun cx hG hnb=>?_
 rw[show Tryz.f65.ntmps=8 from rfl]
 have hn0:cx.nb=0:=hnb
 refine AW.step (by simp;rfl) ?_
 refine AW.seq ?_
 refine AW.stepN (fun s=>∃ b:Bool,(encMove l≠[]→b=false)∧s=⟨[(4,.l (.s (.bool b))),(3,.l (.d true 4 (encMove l))),(2,.l (.s (.slice none 0 0))),(0,.l (.d true 4 (encMove l)))],[],8,[],none⟩) ?_ ?_
 ·simp
 rintro s ⟨b,hb,rfl⟩
 refine AW.cond rfl (fun h=>?_) (fun h=>AW.skip ?_)
 ·have he:l=[]:=by
   cases l with
   |nil=>rfl
   |cons x l=>simp at hb;rw[hb] at h;simp at h
  subst he
  refine AW.step (by simp;rfl) ?_
  refine AW.ret (Left.of (av:=.l (.s (.slice none 0 0))) (by simp[Tryz.f65,resV,resC]) ?_)
  refine LeftV.weak (Weak.nilRow 0 92 4 rfl) ?_
  refine LeftV.now hnb [some 0] (fun i j o hi hj=>?_) rfl ?_ ?_
  ·cases i <;> cases j <;> simp_all
  ·simp[pickOb,St.add,Ob.ren,lvs]
  ·rfl
 ·simp only[Post.seq]
  apply AW.step
  ·simp[Value.oneCell']
   refine Av ?_
   try simp
   refine BP (q:=(l.length,lvs (encMove l))) (z:=⟨92,4,true,none,[]⟩) CM Dc (by simp) (by simp[J9]) (by simp) (by simp) (by simp) (by simp;omega) ?_
   simp[St.grow,obsBut,AU]
   rfl
  refine AW.ret (Left.of (av:=.l (.r 0 4 0 l.length)) (by simp[Tryz.f65,resV,resC]) ?_)
  refine LeftV.now hnb [some 0] (fun i j o hi hj=>?_) rfl ?_ rfl
  ·cases i <;> cases j <;> simp_all
  ·simp[pickOb,Ob.ren,AU]
theorem L4:Enters Tryz.prog 65:=enters Tryz.func65 (by kernel_rfl) rfl
set_option maxRecDepth 8000 in
theorem I5 (l:List Pair) (hl:l.length*96≤140737488355328∧l.length≤140737488355328):Sound Tryz.prog 68 [.l (.d false 6 ((encPair l)))] [] (.l (.r 0 6 0 l.length)) [some ⟨114,6,true,none,lvs (encPair l)⟩]:=by
 refine Sound.of_aw (fn:=Tryz.f68) (c:=_) Tryz.func68 rfl (by simp[Tryz.f68]) fun cx hG hnb=>?_
 rw[show Tryz.f68.ntmps=8 from rfl]
 have hn0:cx.nb=0:=hnb
 refine AW.step (by simp;rfl) ?_
 refine AW.seq ?_
 refine AW.stepN (fun s=>∃ b:Bool,(encPair l≠[]→b=false)∧s=⟨[(4,.l (.s (.bool b))),(3,.l (.d false 6 (encPair l))),(2,.l (.s (.slice none 0 0))),(0,.l (.d false 6 (encPair l)))],[],8,[],none⟩) ?_ ?_
 ·simp
 rintro s ⟨b,hb,rfl⟩
 refine AW.cond rfl (fun h=>?_) (fun h=>AW.skip ?_)
 ·have he:l=[]:=by
   cases l with
   |nil=>rfl
   |cons x l=>simp at hb;rw[hb] at h;simp at h
  subst he
  refine AW.step (by simp;rfl) ?_
  refine AW.ret (Left.of (av:=.l (.s (.slice none 0 0))) (by simp[Tryz.f68,resV,resC]) ?_)
  refine LeftV.weak (Weak.nilRow 0 114 6 rfl) ?_
  refine LeftV.now hnb [some 0] (fun i j o hi hj=>?_) rfl ?_ ?_
  ·cases i <;> cases j <;> simp_all
  ·simp[pickOb,St.add,Ob.ren,lvs]
  ·rfl
 ·simp only[Post.seq]
  apply AW.step
  ·simp[Value.oneCell']
   refine Av ?_
   try simp
   refine BP (q:=(l.length,lvs (encPair l))) (z:=⟨114,6,true,none,[]⟩) BH Bu (by simp) (by simp[← HT]) (by simp) (by simp) (by simp) (by simp;omega) ?_
   simp[St.grow,obsBut,AU]
   rfl
  refine AW.ret (Left.of (av:=.l (.r 0 6 0 l.length)) (by simp[Tryz.f68,resV,resC]) ?_)
  refine LeftV.now hnb [some 0] (fun i j o hi hj=>?_) rfl ?_ rfl
  ·cases i <;> cases j <;> simp_all
  ·simp[pickOb,Ob.ren,AU]
theorem H1:Enters Tryz.prog 68:=enters Tryz.func68 (by kernel_rfl) rfl
set_option maxRecDepth 8000 in
theorem M1 (l:List Seen) (hl:l.length*24≤140737488355328∧l.length≤140737488355328):Sound Tryz.prog 66 [.l (.d true 3 ((encSeen l)))] [] (.l (.r 0 3 0 l.length)) [some ⟨100,3,true,none,lvs (encSeen l)⟩]:=by
 refine Sound.of_aw (fn:=Tryz.f66) (c:=_) Tryz.func66 rfl (by simp[Tryz.f66]) fun cx hG hnb=>?_
 rw[show Tryz.f66.ntmps=8 from rfl]
 have hn0:cx.nb=0:=hnb
 refine AW.step (by simp;rfl) ?_
 refine AW.seq ?_
 refine AW.stepN (fun s=>∃ b:Bool,(encSeen l≠[]→b=false)∧s=⟨[(4,.l (.s (.bool b))),(3,.l (.d true 3 (encSeen l))),(2,.l (.s (.slice none 0 0))),(0,.l (.d true 3 (encSeen l)))],[],8,[],none⟩) ?_ ?_
 ·simp
 rintro s ⟨b,hb,rfl⟩
 refine AW.cond rfl (fun h=>?_) (fun h=>AW.skip ?_)
 ·have he:l=[]:=by
   cases l with
   |nil=>rfl
   |cons x l=>simp at hb;rw[hb] at h;simp at h
  subst he
  refine AW.step (by simp;rfl) ?_
  refine AW.ret (Left.of (av:=.l (.s (.slice none 0 0))) (by simp[Tryz.f66,resV,resC]) ?_)
  refine LeftV.weak (Weak.nilRow 0 100 3 rfl) ?_
  refine LeftV.now hnb [some 0] (fun i j o hi hj=>?_) rfl ?_ ?_
  ·cases i <;> cases j <;> simp_all
  ·simp[pickOb,St.add,Ob.ren,lvs]
  ·rfl
 ·simp only[Post.seq]
  apply AW.step
  ·simp[Value.oneCell']
   refine Av ?_
   try simp
   refine BP (q:=(l.length,lvs (encSeen l))) (z:=⟨100,3,true,none,[]⟩) Dd C2 (by simp) (by simp[Kc]) (by simp) (by simp) (by simp) (by simp;omega) ?_
   simp[St.grow,obsBut,AU]
   rfl
  refine AW.ret (Left.of (av:=.l (.r 0 3 0 l.length)) (by simp[Tryz.f66,resV,resC]) ?_)
  refine LeftV.now hnb [some 0] (fun i j o hi hj=>?_) rfl ?_ rfl
  ·cases i <;> cases j <;> simp_all
  ·simp[pickOb,Ob.ren,AU]
theorem L5:Enters Tryz.prog 66:=enters Tryz.func66 (by kernel_rfl) rfl
set_option maxRecDepth 8000 in
theorem Kd (l:List Int) (hl:l.length*8≤140737488355328∧l.length≤140737488355328):Sound Tryz.prog 67 [.l (.d true 1 ((encI l)))] [] (.l (.r 0 1 0 l.length)) [some ⟨3,1,true,none,lvs (encI l)⟩]:=by
 refine Sound.of_aw (fn:=Tryz.f67) (c:=_) Tryz.func67 rfl (by simp[Tryz.f67]) fun cx hG hnb=>?_
 rw[show Tryz.f67.ntmps=8 from rfl]
 have hn0:cx.nb=0:=hnb
 refine AW.step (by simp;rfl) ?_
 refine AW.seq ?_
 refine AW.stepN (fun s=>∃ b:Bool,(encI l≠[]→b=false)∧s=⟨[(4,.l (.s (.bool b))),(3,.l (.d true 1 (encI l))),(2,.l (.s (.slice none 0 0))),(0,.l (.d true 1 (encI l)))],[],8,[],none⟩) ?_ ?_
 ·simp
 rintro s ⟨b,hb,rfl⟩
 refine AW.cond rfl (fun h=>?_) (fun h=>AW.skip ?_)
 ·have he:l=[]:=by
   cases l with
   |nil=>rfl
   |cons x l=>simp at hb;rw[hb] at h;simp at h
  subst he
  refine AW.step (by simp;rfl) ?_
  refine AW.ret (Left.of (av:=.l (.s (.slice none 0 0))) (by simp[Tryz.f67,resV,resC]) ?_)
  refine LeftV.weak (Weak.nilRow 0 3 1 rfl) ?_
  refine LeftV.now hnb [some 0] (fun i j o hi hj=>?_) rfl ?_ ?_
  ·cases i <;> cases j <;> simp_all
  ·simp[pickOb,St.add,Ob.ren,lvs]
  ·rfl
 ·simp only[Post.seq]
  apply AW.step
  ·simp[Value.oneCell']
   refine Av ?_
   try simp
   refine BP (q:=(l.length,lvs (encI l))) (z:=⟨3,1,true,none,[]⟩) Lu MM (by simp) (by simp[MO]) (by simp) (by simp) (by simp) (by simp;omega) ?_
   simp[St.grow,obsBut,AU]
   rfl
  refine AW.ret (Left.of (av:=.l (.r 0 1 0 l.length)) (by simp[Tryz.f67,resV,resC]) ?_)
  refine LeftV.now hnb [some 0] (fun i j o hi hj=>?_) rfl ?_ rfl
  ·cases i <;> cases j <;> simp_all
  ·simp[pickOb,Ob.ren,AU]
theorem IB:Enters Tryz.prog 67:=enters Tryz.func67 (by kernel_rfl) rfl
theorem PC (l:List Int) (hl:l.length*8≤140737488355328∧l.length≤140737488355328):Sound Tryz.prog 67 [.l (.d true 1 (encI l))] [] (.l (.d false 1 (encI l))) [] :=
 (Kd l hl).frz (by simp) (by omega) (FQ l) (by omega)
set_option maxRecDepth 8000 in
theorem M2 (l:List ByteArray) (hl:l.length*16≤140737488355328∧l.length≤140737488355328):Sound Tryz.prog 99 [.l (.d true 1 ((encS l)))] [] (.l (.r 0 1 0 l.length)) [some ⟨9,1,true,none,lvs (encS l)⟩]:=by
 refine Sound.of_aw (fn:=Tryz.f99) (c:=_) Tryz.func99 rfl (by simp[Tryz.f99]) fun cx hG hnb=>?_
 rw[show Tryz.f99.ntmps=8 from rfl]
 have hn0:cx.nb=0:=hnb
 refine AW.step (by simp;rfl) ?_
 refine AW.seq ?_
 refine AW.stepN (fun s=>∃ b:Bool,(encS l≠[]→b=false)∧s=⟨[(4,.l (.s (.bool b))),(3,.l (.d true 1 (encS l))),(2,.l (.s (.slice none 0 0))),(0,.l (.d true 1 (encS l)))],[],8,[],none⟩) ?_ ?_
 ·simp
 rintro s ⟨b,hb,rfl⟩
 refine AW.cond rfl (fun h=>?_) (fun h=>AW.skip ?_)
 ·have he:l=[]:=by
   cases l with
   |nil=>rfl
   |cons x l=>simp at hb;rw[hb] at h;simp at h
  subst he
  refine AW.step (by simp;rfl) ?_
  refine AW.ret (Left.of (av:=.l (.s (.slice none 0 0))) (by simp[Tryz.f99,resV,resC]) ?_)
  refine LeftV.weak (Weak.nilRow 0 9 1 rfl) ?_
  refine LeftV.now hnb [some 0] (fun i j o hi hj=>?_) rfl ?_ ?_
  ·cases i <;> cases j <;> simp_all
  ·simp[pickOb,St.add,Ob.ren,lvs]
  ·rfl
 ·simp only[Post.seq]
  apply AW.step
  ·simp[Value.oneCell']
   refine Av ?_
   try simp
   refine BP (q:=(l.length,lvs (encS l))) (z:=⟨9,1,true,none,[]⟩) Eo E4 (by simp) (by simp[Fu]) (by simp) (by simp) (by simp) (by simp;omega) ?_
   simp[St.grow,obsBut,AU]
   rfl
  refine AW.ret (Left.of (av:=.l (.r 0 1 0 l.length)) (by simp[Tryz.f99,resV,resC]) ?_)
  refine LeftV.now hnb [some 0] (fun i j o hi hj=>?_) rfl ?_ rfl
  ·cases i <;> cases j <;> simp_all
  ·simp[pickOb,Ob.ren,AU]
theorem LD:Enters Tryz.prog 99:=enters Tryz.func99 (by kernel_rfl) rfl
def insL {α:Type} (l:List α) (i:Nat) (x:α):List α:=l.take i++x::l.drop i
theorem Et {α:Type} (l:List α) (i:Nat) (x:α) (h:i≤l.length):(insL l i x).length=l.length+1:=by
 simp[insL]
 omega
def delL {α:Type} (l:List α) (i:Nat):List α:=l.take i++l.drop (i+1)
theorem KW {α:Type} (l:List α) (i:Nat) (h:i<l.length):(delL l i).length=l.length - 1:=by
 simp[delL]
 omega
def insB {α:Type} (l:List α) (i:Int):Bool:=decide (0≤i∧i≤l.length∧l.length≤1000000000)
def delB {α:Type} (l:List α) (i j:Int):Bool:=decide (0≤i∧i<l.length∧j=i+1∧l.length≤1000000000)
theorem Bf {α:Type} {l m:List α} {i:Int} {x:α} (h:insB l i=true) (e:m=insL l i.toNat x):l.length+1=m.length:=by
 simp[insB] at h
 rw[e,Et l i.toNat x (by omega)]
theorem Ke {α:Type} {l m:List α} {i j:Int} (h:delB l i j=true) (e:m=delL l i.toNat):l.length - 1=m.length:=by
 simp[delB] at h
 rw[e,KW l i.toNat (by omega)]
set_option maxRecDepth 8000 in
set_option maxHeartbeats 8000000 in
theorem M3 (l:List Pair) (i:Nat) (hi:i<l.length) (hl:l.length≤1000000000):Sound Tryz.prog 109 [.l (.r 0 6 0 l.length),.l (.s (.int .i64 i)),.l (.s (.int .i64 (((i+1:Nat):Int))))] [⟨114,6,true,none,lvs (encPair l)⟩] (.l (.r 0 6 0 (l.length - 1))) [some ⟨114,6,true,none,lvs (encPair (delL l i))⟩]:=by
 refine Sound.of_aw (fn:=Tryz.f109) (c:=_) Tryz.func109 rfl (by simp[Tryz.f109]) fun cx hG hnb=>?_
 rw[show Tryz.f109.ntmps=33 from rfl]
 have hn0:cx.nb=1:=hnb
 have hlv:(lvs (encPair l)).length=l.length*6:=by rw[Au (Ax l)];simp
 have hn1:i+(l.length - (i+1))=l.length - 1:=by omega
 obtain⟨es5,he5⟩:∃ es5,es5=(encPair l).take i++((encPair l).drop (i+1)).take (l.length - (i+1))++(encPair l).drop (i+(((encPair l).drop (i+1)).take (l.length - (i+1))).length):=⟨_,rfl⟩
 have hF:(((encPair l).drop (i+1)).take (l.length - (i+1)))=(encPair l).drop (i+1):=List.take_of_length_le (by simp)
 have hs5:∀ e∈es5,e.length=6:=by
  intro e he
  rw[he5,hF] at he
  simp only[List.mem_append] at he
  rcases he with (h|h)|h
  ·exact Ax l e (List.mem_of_mem_take h)
  ·exact Ax l e (List.mem_of_mem_drop h)
  ·exact Ax l e (List.mem_of_mem_drop h)
 have hn5:es5.length=l.length:=by
  rw[he5,hF]
  simp
  omega
 have hv5:(lvs es5).length=l.length*6:=by rw[Au hs5,hn5]
 have hend:es5.take (l.length - 1)=encPair (delL l i):=by
  rw[he5,hF,List.take_left' (by simp;omega)]
  simp[encPair,delL]
 have hset:setAt (lvs (encPair l)) (i*6) (lvs (((encPair l).drop (i+1)).take (l.length - (i+1))))=lvs es5:=by
  rw[he5]
  exact C1 (Ax l) (fun e he=>Ax l e (List.mem_of_mem_drop (List.mem_of_mem_take he))) (by rw[hF];simp;omega)
 refine AW.step (by simp[hlv];rfl) ?_
 refine AW.step (by simp[hlv];(repeat refine⟨by omega,?_⟩);rfl) ?_
 refine AW.seq ?_
 refine AW.step (by simp[hlv];rfl) ?_
 refine AW.cond rfl (fun h2=>?_) (fun h2=>?_)
 ·simp at h2
  omega
 ·try simp at h2
  refine AW.skip ?_
  simp only[Post.seq,Post.block,if_true]
  refine AW.step (by simp[hlv];rfl) ?_
  apply AW.drawnP (V:=[_,_,_,_,_,_]) mixed [⟨[0],[],[(0,none)],false⟩,⟨[0],[],[(1,none)],false⟩,⟨[0],[0,1],[(20,some 0),(21,some 1)],false⟩,⟨[0],[],[(0,none)],false⟩,⟨[0],[],[(2,none)],false⟩,⟨[0],[3,4],[(23,some 3),(24,some 4)],false⟩,⟨[],[0,1,2,3,4,5],[],false⟩,⟨[],[0,1,2,3,4,5,6],[],false⟩] 6 (by kernel_rfl) (by kernel_rfl)
  ·refine⟨?_,?_,?_,?_,?_,?_,trivial⟩
   ·intro tm hr
    simp[AllL,rdV] at hr
    simp[hr,hlv,hn1]
    repeat refine⟨by omega,?_⟩
    exact KD.mk
   ·intro tm hr
    simp[AllL,rdV] at hr
    simp[hr,hlv,hn1]
    repeat refine⟨by omega,?_⟩
    exact KD.mk
   ·intro tm hr
    simp[AllL,rdV] at hr
    simp[hr,hlv,hn1]
    repeat refine⟨by omega,?_⟩
    exact KD.mk
   ·intro tm hr
    simp[AllL,rdV] at hr
    simp[hr,hlv,hn1]
    repeat refine⟨by omega,?_⟩
    exact KD.mk
   ·intro tm hr
    simp[AllL,rdV] at hr
    simp[hr,hlv,hn1]
    repeat refine⟨by omega,?_⟩
    exact KD.mk
   ·intro tm hr
    simp[AllL,rdV] at hr
    simp[hr,hlv,hn1]
    repeat refine⟨by omega,?_⟩
    exact KD.mk
  ·rfl
  ·simp[tmD,putD,hlv,hn1];rfl
  ·simp[hlv,hn1]
   repeat refine⟨by omega,?_⟩
   refine Lr (z:=⟨114,6,true,none,lvs (encPair l)⟩) (q:=(l.length - (i+1),lvs (((encPair l).drop (i+1)).take (l.length - (i+1))))) BH Bu ⟨rfl,by decide,by decide⟩ (Lt (cap:=none) rfl (Ax l) (by omega) (by simp)) rfl ⟨rfl,rfl,rfl,rfl⟩ (by simp[hlv];omega) ?_
   simp[hset]
   try simp[hlv,hn1]
   rfl
  refine AW.step (by simp[hlv,hv5,hset];(repeat refine⟨by omega,?_⟩);rfl) ?_
  refine AW.step (by simp[hlv];rfl) ?_
  refine AW.ret ?_
  refine Left.of (av:=_) (by simp[Tryz.f109,resV,resC,comp,hlv];rfl) ?_
  refine LeftV.shrink 0 ((l.length - 1)*6) rfl rfl rfl rfl ?_
  refine LeftV.rows [some 0] (by simp;omega) Pj rfl rfl ?_ (by simp)
  simp[pickOb,HX,Ew hs5,hend]
theorem L6:Enters Tryz.prog 109:=enters Tryz.func109 (by kernel_rfl) rfl
theorem OD (l:List Pair) (i j:Int) (h:delB l i j=true):Sound Tryz.prog 109 [.l (.r 0 6 0 l.length),.l (.s (.int .i64 i)),.l (.s (.int .i64 j))] [⟨114,6,true,none,lvs (encPair l)⟩] (.l (.r 0 6 0 (l.length - 1)))
  [some ⟨114,6,true,none,lvs (encPair (delL l i.toNat))⟩]:=by
 simp[delB] at h
 have:=M3 l i.toNat (by omega) (by omega)
 rwa [show ((i.toNat:Nat):Int)=i by omega,show ((i.toNat+1:Nat):Int)=j by omega] at this
set_option maxRecDepth 8000 in
set_option maxHeartbeats 8000000 in
theorem M4 (l:List Move) (i:Nat) (x:Move) (hi:i≤l.length) (hl:l.length≤1000000000):Sound Tryz.prog 36 [.l (.r 0 4 0 l.length),.l (.s (.int .i64 i)),.l (.r 1 4 0 1)] [⟨92,4,true,none,lvs (encMove l)⟩,⟨92,4,true,none,lvs (encMove [x])⟩] (.l (.r 0 4 0 (l.length+1))) [some ⟨92,4,true,none,lvs (encMove (insL l i x))⟩,some ⟨92,4,true,none,lvs (encMove [x])⟩]:=by
 refine Sound.of_aw (fn:=Tryz.f36) (c:=_) Tryz.func36 rfl (by simp[Tryz.f36]) fun cx hG hnb=>?_
 rw[show Tryz.f36.ntmps=95 from rfl]
 have hn0:cx.nb=2:=hnb
 have hlv:(lvs (encMove l)).length=l.length*4:=by rw[Au (Az l)];simp
 have hw1:=C0 (show l.length+1≤9223372036854775807 by omega)
 have hlx:(lvs (encMove [x])).length=4:=by rw[Au (Az _)];simp
 refine AW.step (by simp[hi,hw1];rfl) ?_
 refine AW.step (by simp[hi,hw1,hlv];rfl) ?_
 refine AW.step (by simp[hi,hw1];rfl) ?_
 refine AW.seq ?_
 refine AW.step (by simp[hi,hw1];rfl) ?_
 refine AW.cond rfl (fun h3=>?_) (fun h3=>?_)
 ·simp at h3
 ·try simp at h3
  refine AW.skip ?_
  simp only[Post.seq,Post.block,if_true]
  refine AW.step (by simp[hi,hw1];rfl) ?_
  refine AW.seq ?_
  refine AW.step (by simp[hi,hw1];rfl) ?_
  refine AW.cond rfl (fun h6=>?_) (fun h6=>?_)
  ·simp at h6
   have hins:insL l i x=l++[x]:=by simp[insL,show i=l.length by omega]
   apply AW.step
   ·simp[hi,hw1]
    refine Fp (acc:=encMove l) (ys:=encMove [x]) (cap:=none) (k:=1) CM Dc (by simp) (Iq (e:=92) (cap:=none) (by simp) (Az _) (by simp)) (Az _) (by simp) (by simp) (by omega) ?_
    simp[St.grow,obsBut,← Df,← hins]
    try simp[hi,hw1]
    rfl
   refine AW.ret ?_
   refine Left.of (av:=_) (by simp[Tryz.f36,resV,resC,comp,hi,hw1];rfl) ?_
   exact LeftV.rows [some 0,some 1] (by simp;omega) (CL (by omega)) rfl rfl (by simp[pickOb,hi,hw1]) (by simp[hi,hw1])
  ·simp at h6
   have hil:i<l.length:=by omega
   have hin:(i:Int)+(l.length+1 - i:Nat)=l.length+1:=by omega
   have hin2:i+(l.length+1 - i)=l.length+1:=by omega
   have hw2:=C0 (show i+1≤9223372036854775807 by omega)
   refine AW.skip ?_
   simp only[Post.seq,Post.block,if_true]
   refine AW.seq ?_
   apply AW.stepK
   simp[hi,hw1]
   refine Hy CM rfl rfl fun c hc1 _ hc3=>?_
   simp[hw1]
   unfold KK
   refine AW.cond rfl (fun h8=>?_) (fun h8=>?_)
   ·simp at h8
    have hcl:c=l.length:=by omega
    obtain⟨es2,he2⟩:∃ es2,es2=(encMove l).take i++List.replicate (l.length+1 - i) [.v (.int .i64 0),.v (.int .i64 0),.v (.int .i64 0),.v (.string ⟨#[]⟩)]:=⟨_,rfl⟩
    have hs2:∀ e∈es2,e.length=4:=by
     intro e he
     rw[he2] at he
     rcases List.mem_append.1 he with h|h
     ·exact Az l e (List.mem_of_mem_take h)
     ·rw[(List.mem_replicate.1 h).2];rfl
    have hn2:es2.length=l.length+1:=by rw[he2];simp;omega
    have hv2:(lvs es2).length=(l.length+1)*4:=by rw[Au hs2,hn2]
    obtain⟨es3,he3⟩:∃ es3,es3=es2.take i++encMove [x]++es2.drop (i+1):=⟨_,rfl⟩
    have hs3:∀ e∈es3,e.length=4:=by
     intro e he
     rw[he3] at he
     simp only[List.mem_append] at he
     rcases he with (h|h)|h
     ·exact hs2 e (List.mem_of_mem_take h)
     ·exact Az _ e h
     ·exact hs2 e (List.mem_of_mem_drop h)
    have hn3:es3.length=l.length+1:=by rw[he3];simp[hn2];omega
    have hv3:(lvs es3).length=(l.length+1)*4:=by rw[Au hs3,hn3]
    have hend:es3.take (i+1)++((encMove l).drop i).take (l.length - i)=encMove (insL l i x):=by
     rw[List.take_of_length_le (l:=(encMove l).drop i) (by simp)]
     rw[he3,List.take_append_of_le_length (by simp[hn2];omega),List.take_of_length_le (by simp;omega),he2,List.take_append_of_le_length (by simp;omega)]
     simp[encMove,insL,List.take_take]
    apply AW.step
    ·simp[hi,hw1,hlv]
     repeat refine⟨by omega,?_⟩
     refine GB (zr:=[.v (.int .i64 0),.v (.int .i64 0),.v (.int .i64 0),.v (.string ⟨#[]⟩)]) (es:=encMove l) CM Dc rfl ⟨rfl,rfl,by omega⟩ rfl rfl (Az _) (by simp;omega) (l.length+1 - i) (by rw[FO (by omega) (by omega)];omega) (by omega) (by omega) (by omega) (by omega) ?_
     simp[hin2]
     try simp[hi,hw1,hlv]
     rfl
    apply AW.step
    ·simp[hi,hw1,hv2,← he2]
     repeat refine⟨by omega,?_⟩
     refine Bq CM Dc rfl (by simp[hv2]) (by omega) 1 (by omega) (by omega) (D2 (cap:=none) rfl (Az [x]) (by simp)) (C1 (fs:=encMove [x]) hs2 (Az _) (by simp[hn2];omega)) ?_
     simp[← he3]
     try simp[hi,hw1,hv2,← he2]
     rfl
    apply AW.drawnP (V:=[_,_,_,_,_,_,_,_]) mixed [⟨[0],[],[(9,none)],false⟩,⟨[0],[],[(1,none)],false⟩,⟨[0],[],[(7,none)],false⟩,⟨[0],[1,2],[(47,some 1),(48,some 2)],false⟩,⟨[0],[0,1,2,3],[(46,some 0),(49,some 3)],false⟩,⟨[0],[],[(0,none)],false⟩,⟨[0],[],[(1,none)],false⟩,⟨[0],[5,6],[(51,some 5),(52,some 6)],false⟩,⟨[],[0,1,2,3,4,5,6,7],[],false⟩] 8 (by kernel_rfl) (by kernel_rfl)
    ·refine⟨?_,?_,?_,?_,?_,?_,?_,?_,trivial⟩
     ·intro tm hr
      simp[AllL,rdV] at hr
      simp[hr,hi,hw1,hv3,hw2,hlv]
      repeat refine⟨by omega,?_⟩
      exact KD.mk
     ·intro tm hr
      simp[AllL,rdV] at hr
      simp[hr,hi,hw1,hv3,hw2,hlv]
      repeat refine⟨by omega,?_⟩
      exact KD.mk
     ·intro tm hr
      simp[AllL,rdV] at hr
      simp[hr,hi,hw1,hv3,hw2,hlv]
      repeat refine⟨by omega,?_⟩
      exact KD.mk
     ·intro tm hr
      simp[AllL,rdV] at hr
      simp[hr,hi,hw1,hv3,hw2,hlv]
      repeat refine⟨by omega,?_⟩
      exact KD.mk
     ·intro tm hr
      simp[AllL,rdV] at hr
      simp[hr,hi,hw1,hv3,hw2,hlv]
      repeat refine⟨by omega,?_⟩
      exact KD.mk
     ·intro tm hr
      simp[AllL,rdV] at hr
      simp[hr,hi,hw1,hv3,hw2,hlv]
      repeat refine⟨by omega,?_⟩
      exact KD.mk
     ·intro tm hr
      simp[AllL,rdV] at hr
      simp[hr,hi,hw1,hv3,hw2,hlv]
      repeat refine⟨by omega,?_⟩
      exact KD.mk
     ·intro tm hr
      simp[AllL,rdV] at hr
      simp[hr,hi,hw1,hv3,hw2,hlv]
      repeat refine⟨by omega,?_⟩
      exact KD.mk
    ·rfl
    ·simp[tmD,putD,hi,hw1,hv3,hw2,hlv];rfl
    ·simp[hi,hw1,hv3,hw2,hlv]
     repeat refine⟨by omega,?_⟩
     refine Bq CM Dc rfl (by simp[hv3]) (by omega) (l.length - i) (by omega) (by omega) (D2 (cap:=some c) rfl (Az l) (by simp;omega)) (F4 (fs:=((encMove l).drop i).take (l.length - i)) hs3 (fun e he=>Az l e (List.mem_of_mem_drop (List.mem_of_mem_take he))) (by omega) (by simp[hn3];omega)) ?_
     try simp[hend]
     try simp[hi,hw1,hv3,hw2,hlv]
     rfl
    refine AW.step (by simp[hi,hw1];rfl) ?_
    refine AW.ret ?_
    refine Left.of (av:=_) (by simp[Tryz.f36,resV,resC,comp,hi,hw1];rfl) ?_
    exact LeftV.rows [some 2,some 1] (by simp;omega) (CL (by omega)) rfl rfl (by simp[pickOb,hi,hw1]) (by simp[hi,hw1])
   ·have hc':l.length+1≤c:=by
     simp at h8
     omega
    refine AW.room 0 4 rfl rfl rfl (by simp[hlv];omega) rfl rfl ?_
    have hlv3:(lvs (encMove l)++[LV.u,LV.u,LV.u,LV.u]).length=(l.length+1)*4:=by simp[hlv];omega
    refine AW.skip ?_
    simp only[Post.seq,Post.block,if_true]
    refine AW.step (by simp[hi,hw1,hlv3,hlv];(repeat refine⟨by omega,?_⟩);rfl) ?_
    refine AW.seq ?_
    apply AW.step
    ·simp[hi,hw1,hlv3,hw2]
     repeat refine⟨by omega,?_⟩
     refine En (t:=26) (tb:=4) Tryz.func74 (by kernel_rfl) (by kernel_rfl) (by kernel_rfl) (by kernel_rfl) CM Dc rfl rfl (by omega) (by simp) ?_
     try simp[hi,hw1,hlv3,hw2]
     rfl
    refine AW.cond rfl (fun h14=>?_) (fun h14=>?_)
    ·try simp at h14
     apply AW.drawnP (V:=[_,_,_,_,_,_,_,_]) mixed [⟨[0],[],[(0,none)],false⟩,⟨[0],[],[(1,none)],false⟩,⟨[0],[],[(7,none)],false⟩,⟨[0],[1,2],[(70,some 1),(71,some 2)],false⟩,⟨[0],[0,1,2,3],[(69,some 0),(72,some 3)],false⟩,⟨[0],[],[(0,none)],false⟩,⟨[0],[],[(1,none)],false⟩,⟨[0],[5,6],[(74,some 5),(75,some 6)],false⟩,⟨[],[0,1,2,3,4,5,6,7],[],false⟩] 8 (by kernel_rfl) (by kernel_rfl)
     ·refine⟨?_,?_,?_,?_,?_,?_,?_,?_,trivial⟩
      ·intro tm hr
       simp[AllL,rdV] at hr
       simp[hr,hi,hw1,hlv3,hw2]
       repeat refine⟨by omega,?_⟩
       exact KD.mk
      ·intro tm hr
       simp[AllL,rdV] at hr
       simp[hr,hi,hw1,hlv3,hw2]
       repeat refine⟨by omega,?_⟩
       exact KD.mk
      ·intro tm hr
       simp[AllL,rdV] at hr
       simp[hr,hi,hw1,hlv3,hw2]
       repeat refine⟨by omega,?_⟩
       exact KD.mk
      ·intro tm hr
       simp[AllL,rdV] at hr
       simp[hr,hi,hw1,hlv3,hw2]
       repeat refine⟨by omega,?_⟩
       exact KD.mk
      ·intro tm hr
       simp[AllL,rdV] at hr
       simp[hr,hi,hw1,hlv3,hw2]
       repeat refine⟨by omega,?_⟩
       exact KD.mk
      ·intro tm hr
       simp[AllL,rdV] at hr
       simp[hr,hi,hw1,hlv3,hw2]
       repeat refine⟨by omega,?_⟩
       exact KD.mk
      ·intro tm hr
       simp[AllL,rdV] at hr
       simp[hr,hi,hw1,hlv3,hw2]
       repeat refine⟨by omega,?_⟩
       exact KD.mk
      ·intro tm hr
       simp[AllL,rdV] at hr
       simp[hr,hi,hw1,hlv3,hw2]
       repeat refine⟨by omega,?_⟩
       exact KD.mk
     ·rfl
     ·simp[tmD,putD,hi,hw1,hlv3,hw2];rfl
     ·simp[hi,hw1,hlv3,hw2]
      repeat refine⟨by omega,?_⟩
      refine Bq CM Dc rfl (by simp[hlv3]) (by omega) (l.length - i) (by omega) (by omega) (G0 (cap:=some c) (us:=[.u,.u,.u,.u]) rfl (Az l) (by simp;omega)) (Fq (fs:=((encMove l).drop i).take (l.length - i)) (Az l) (fun e he=>Az l e (List.mem_of_mem_drop (List.mem_of_mem_take he))) (by simp;omega) (by simp;omega)) ?_
      try simp[hi,hw1,hlv3,hw2]
      rfl
     obtain⟨es4,he4⟩:∃ es4,es4=(encMove l).take (i+1)++((encMove l).drop i).take (l.length - i):=⟨_,rfl⟩
     have hs4:∀ e∈es4,e.length=4:=by
      intro e he
      rw[he4] at he
      rcases List.mem_append.1 he with h|h
      ·exact Az l e (List.mem_of_mem_take h)
      ·exact Az l e (List.mem_of_mem_drop (List.mem_of_mem_take h))
     have hn4:es4.length=l.length+1:=by rw[he4];simp;omega
     have hend:es4.take i++encMove [x]++es4.drop (i+1)=encMove (insL l i x):=by
      have hA:((encMove l).take (i+1)).length=i+1:=by simp;omega
      rw[he4,List.drop_left' hA,List.take_append_of_le_length (by omega),List.take_take,Nat.min_eq_left (by omega),List.take_of_length_le (l:=(encMove l).drop i) (by simp)]
      simp[encMove,insL]
     have hv4:(lvs es4).length=(l.length+1)*4:=by rw[Au hs4,hn4]
     simp only[← he4]
     apply AW.step
     ·simp[hi,hw1,hv4]
      repeat refine⟨by omega,?_⟩
      refine Bq CM Dc rfl (by simp[hv4]) (by omega) 1 (by omega) (by omega) (D2 (cap:=none) rfl (Az [x]) (by simp)) (C1 (fs:=encMove [x]) hs4 (Az _) (by rw[hn4,Ix];simp;omega)) ?_
      simp[hend]
      try simp[hi,hw1,hv4]
      rfl
     refine AW.step (by simp[hi,hw1];rfl) ?_
     refine AW.ret ?_
     refine Left.of (av:=_) (by simp[Tryz.f36,resV,resC,comp,hi,hw1];rfl) ?_
     refine LeftV.shrink 0 ((l.length+1)*4) rfl rfl rfl rfl ?_
     have hlf:(lvs (encMove (insL l i x))).take ((l.length+1)*4)=lvs (encMove (insL l i x)):=List.take_of_length_le (by rw[Au (Az _)];simp[Et l i x hi])
     exact LeftV.rows [some 0,some 1] (by simp;omega) (CL (by omega)) rfl rfl (by simp[pickOb,hlf]) (by simp)
    ·simp at h14
theorem L7:Enters Tryz.prog 36:=enters Tryz.func36 (by kernel_rfl) rfl
theorem OE (l:List Move) (i:Int) (x:Move) (h:insB l i=true):Sound Tryz.prog 36 [.l (.r 0 4 0 l.length),.l (.s (.int .i64 i)),.l (.r 1 4 0 1)] [⟨92,4,true,none,lvs (encMove l)⟩,⟨92,4,true,none,lvs (encMove [x])⟩] (.l (.r 0 4 0 (l.length+1)))
  [some ⟨92,4,true,none,lvs (encMove (insL l i.toNat x))⟩,some ⟨92,4,true,none,lvs (encMove [x])⟩]:=by
 simp[insB] at h
 have:=M4 l i.toNat x (by omega) (by omega)
 rwa [show ((i.toNat:Nat):Int)=i by omega] at this
set_option maxRecDepth 8000 in
set_option maxHeartbeats 8000000 in
theorem M5 (l:List Pair) (i:Nat) (x:Pair) (hi:i≤l.length) (hl:l.length≤1000000000):Sound Tryz.prog 110 [.l (.r 0 6 0 l.length),.l (.s (.int .i64 i)),.l (.r 1 6 0 1)] [⟨114,6,true,none,lvs (encPair l)⟩,⟨114,6,true,none,lvs (encPair [x])⟩] (.l (.r 0 6 0 (l.length+1))) [some ⟨114,6,true,none,lvs (encPair (insL l i x))⟩,some ⟨114,6,true,none,lvs (encPair [x])⟩]:=by
 refine Sound.of_aw (fn:=Tryz.f110) (c:=_) Tryz.func110 rfl (by simp[Tryz.f110]) fun cx hG hnb=>?_
 rw[show Tryz.f110.ntmps=95 from rfl]
 have hn0:cx.nb=2:=hnb
 have hlv:(lvs (encPair l)).length=l.length*6:=by rw[Au (Ax l)];simp
 have hw1:=C0 (show l.length+1≤9223372036854775807 by omega)
 have hlx:(lvs (encPair [x])).length=6:=by rw[Au (Ax _)];simp
 refine AW.step (by simp[hi,hw1];rfl) ?_
 refine AW.step (by simp[hi,hw1,hlv];rfl) ?_
 refine AW.step (by simp[hi,hw1];rfl) ?_
 refine AW.seq ?_
 refine AW.step (by simp[hi,hw1];rfl) ?_
 refine AW.cond rfl (fun h3=>?_) (fun h3=>?_)
 ·simp at h3
 ·try simp at h3
  refine AW.skip ?_
  simp only[Post.seq,Post.block,if_true]
  refine AW.step (by simp[hi,hw1];rfl) ?_
  refine AW.seq ?_
  refine AW.step (by simp[hi,hw1];rfl) ?_
  refine AW.cond rfl (fun h6=>?_) (fun h6=>?_)
  ·simp at h6
   have hins:insL l i x=l++[x]:=by simp[insL,show i=l.length by omega]
   apply AW.step
   ·simp[hi,hw1]
    refine Fp (acc:=encPair l) (ys:=encPair [x]) (cap:=none) (k:=1) BH Bu (by simp) (Iq (e:=114) (cap:=none) (by simp) (Ax _) (by simp)) (Ax _) (by simp) (by simp) (by omega) ?_
    simp[St.grow,obsBut,← AX,← hins]
    try simp[hi,hw1]
    rfl
   refine AW.ret ?_
   refine Left.of (av:=_) (by simp[Tryz.f110,resV,resC,comp,hi,hw1];rfl) ?_
   exact LeftV.rows [some 0,some 1] (by simp;omega) (CL (by omega)) rfl rfl (by simp[pickOb,hi,hw1]) (by simp[hi,hw1])
  ·simp at h6
   have hil:i<l.length:=by omega
   have hin:(i:Int)+(l.length+1 - i:Nat)=l.length+1:=by omega
   have hin2:i+(l.length+1 - i)=l.length+1:=by omega
   have hw2:=C0 (show i+1≤9223372036854775807 by omega)
   refine AW.skip ?_
   simp only[Post.seq,Post.block,if_true]
   refine AW.seq ?_
   apply AW.stepK
   simp[hi,hw1]
   refine Hy BH rfl rfl fun c hc1 _ hc3=>?_
   simp[hw1]
   unfold KK
   refine AW.cond rfl (fun h8=>?_) (fun h8=>?_)
   ·simp at h8
    have hcl:c=l.length:=by omega
    obtain⟨es2,he2⟩:∃ es2,es2=(encPair l).take i++List.replicate (l.length+1 - i) [.v (.string ⟨#[]⟩),.v (.int .i64 0),.v (.string ⟨#[]⟩),.v (.slice none 0 0),.v (.slice none 0 0),.v (.int .i64 0)]:=⟨_,rfl⟩
    have hs2:∀ e∈es2,e.length=6:=by
     intro e he
     rw[he2] at he
     rcases List.mem_append.1 he with h|h
     ·exact Ax l e (List.mem_of_mem_take h)
     ·rw[(List.mem_replicate.1 h).2];rfl
    have hn2:es2.length=l.length+1:=by rw[he2];simp;omega
    have hv2:(lvs es2).length=(l.length+1)*6:=by rw[Au hs2,hn2]
    obtain⟨es3,he3⟩:∃ es3,es3=es2.take i++encPair [x]++es2.drop (i+1):=⟨_,rfl⟩
    have hs3:∀ e∈es3,e.length=6:=by
     intro e he
     rw[he3] at he
     simp only[List.mem_append] at he
     rcases he with (h|h)|h
     ·exact hs2 e (List.mem_of_mem_take h)
     ·exact Ax _ e h
     ·exact hs2 e (List.mem_of_mem_drop h)
    have hn3:es3.length=l.length+1:=by rw[he3];simp[hn2];omega
    have hv3:(lvs es3).length=(l.length+1)*6:=by rw[Au hs3,hn3]
    have hend:es3.take (i+1)++((encPair l).drop i).take (l.length - i)=encPair (insL l i x):=by
     rw[List.take_of_length_le (l:=(encPair l).drop i) (by simp)]
     rw[he3,List.take_append_of_le_length (by simp[hn2];omega),List.take_of_length_le (by simp;omega),he2,List.take_append_of_le_length (by simp;omega)]
     simp[encPair,insL,List.take_take]
    apply AW.step
    ·simp[hi,hw1,hlv]
     repeat refine⟨by omega,?_⟩
     refine GB (zr:=[.v (.string ⟨#[]⟩),.v (.int .i64 0),.v (.string ⟨#[]⟩),.v (.slice none 0 0),.v (.slice none 0 0),.v (.int .i64 0)]) (es:=encPair l) BH Bu rfl ⟨rfl,rfl,by omega⟩ rfl rfl (Ax _) (by simp;omega) (l.length+1 - i) (by rw[FO (by omega) (by omega)];omega) (by omega) (by omega) (by omega) (by omega) ?_
     simp[hin2]
     try simp[hi,hw1,hlv]
     rfl
    apply AW.step
    ·simp[hi,hw1,hv2,← he2]
     repeat refine⟨by omega,?_⟩
     refine Bq BH Bu rfl (by simp[hv2]) (by omega) 1 (by omega) (by omega) (D2 (cap:=none) rfl (Ax [x]) (by simp)) (C1 (fs:=encPair [x]) hs2 (Ax _) (by simp[hn2];omega)) ?_
     simp[← he3]
     try simp[hi,hw1,hv2,← he2]
     rfl
    apply AW.drawnP (V:=[_,_,_,_,_,_,_,_]) mixed [⟨[0],[],[(9,none)],false⟩,⟨[0],[],[(1,none)],false⟩,⟨[0],[],[(7,none)],false⟩,⟨[0],[1,2],[(47,some 1),(48,some 2)],false⟩,⟨[0],[0,1,2,3],[(46,some 0),(49,some 3)],false⟩,⟨[0],[],[(0,none)],false⟩,⟨[0],[],[(1,none)],false⟩,⟨[0],[5,6],[(51,some 5),(52,some 6)],false⟩,⟨[],[0,1,2,3,4,5,6,7],[],false⟩] 8 (by kernel_rfl) (by kernel_rfl)
    ·refine⟨?_,?_,?_,?_,?_,?_,?_,?_,trivial⟩
     ·intro tm hr
      simp[AllL,rdV] at hr
      simp[hr,hi,hw1,hv3,hw2,hlv]
      repeat refine⟨by omega,?_⟩
      exact KD.mk
     ·intro tm hr
      simp[AllL,rdV] at hr
      simp[hr,hi,hw1,hv3,hw2,hlv]
      repeat refine⟨by omega,?_⟩
      exact KD.mk
     ·intro tm hr
      simp[AllL,rdV] at hr
      simp[hr,hi,hw1,hv3,hw2,hlv]
      repeat refine⟨by omega,?_⟩
      exact KD.mk
     ·intro tm hr
      simp[AllL,rdV] at hr
      simp[hr,hi,hw1,hv3,hw2,hlv]
      repeat refine⟨by omega,?_⟩
      exact KD.mk
     ·intro tm hr
      simp[AllL,rdV] at hr
      simp[hr,hi,hw1,hv3,hw2,hlv]
      repeat refine⟨by omega,?_⟩
      exact KD.mk
     ·intro tm hr
      simp[AllL,rdV] at hr
      simp[hr,hi,hw1,hv3,hw2,hlv]
      repeat refine⟨by omega,?_⟩
      exact KD.mk
     ·intro tm hr
      simp[AllL,rdV] at hr
      simp[hr,hi,hw1,hv3,hw2,hlv]
      repeat refine⟨by omega,?_⟩
      exact KD.mk
     ·intro tm hr
      simp[AllL,rdV] at hr
      simp[hr,hi,hw1,hv3,hw2,hlv]
      repeat refine⟨by omega,?_⟩
      exact KD.mk
    ·rfl
    ·simp[tmD,putD,hi,hw1,hv3,hw2,hlv];rfl
    ·simp[hi,hw1,hv3,hw2,hlv]
     repeat refine⟨by omega,?_⟩
     refine Bq BH Bu rfl (by simp[hv3]) (by omega) (l.length - i) (by omega) (by omega) (D2 (cap:=some c) rfl (Ax l) (by simp;omega)) (F4 (fs:=((encPair l).drop i).take (l.length - i)) hs3 (fun e he=>Ax l e (List.mem_of_mem_drop (List.mem_of_mem_take he))) (by omega) (by simp[hn3];omega)) ?_
     try simp[hend]
     try simp[hi,hw1,hv3,hw2,hlv]
     rfl
    refine AW.step (by simp[hi,hw1];rfl) ?_
    refine AW.ret ?_
    refine Left.of (av:=_) (by simp[Tryz.f110,resV,resC,comp,hi,hw1];rfl) ?_
    exact LeftV.rows [some 2,some 1] (by simp;omega) (CL (by omega)) rfl rfl (by simp[pickOb,hi,hw1]) (by simp[hi,hw1])
   ·have hc':l.length+1≤c:=by
     simp at h8
     omega
    refine AW.room 0 6 rfl rfl rfl (by simp[hlv];omega) rfl rfl ?_
    have hlv3:(lvs (encPair l)++[LV.u,LV.u,LV.u,LV.u,LV.u,LV.u]).length=(l.length+1)*6:=by simp[hlv];omega
    refine AW.skip ?_
    simp only[Post.seq,Post.block,if_true]
    refine AW.step (by simp[hi,hw1,hlv3,hlv];(repeat refine⟨by omega,?_⟩);rfl) ?_
    refine AW.seq ?_
    apply AW.step
    ·simp[hi,hw1,hlv3,hw2]
     repeat refine⟨by omega,?_⟩
     refine En (t:=25) (tb:=4) Tryz.func129 (by kernel_rfl) (by kernel_rfl) (by kernel_rfl) (by kernel_rfl) BH Bu rfl rfl (by omega) (by simp) ?_
     try simp[hi,hw1,hlv3,hw2]
     rfl
    refine AW.cond rfl (fun h14=>?_) (fun h14=>?_)
    ·try simp at h14
     apply AW.drawnP (V:=[_,_,_,_,_,_,_,_]) mixed [⟨[0],[],[(0,none)],false⟩,⟨[0],[],[(1,none)],false⟩,⟨[0],[],[(7,none)],false⟩,⟨[0],[1,2],[(70,some 1),(71,some 2)],false⟩,⟨[0],[0,1,2,3],[(69,some 0),(72,some 3)],false⟩,⟨[0],[],[(0,none)],false⟩,⟨[0],[],[(1,none)],false⟩,⟨[0],[5,6],[(74,some 5),(75,some 6)],false⟩,⟨[],[0,1,2,3,4,5,6,7],[],false⟩] 8 (by kernel_rfl) (by kernel_rfl)
     ·refine⟨?_,?_,?_,?_,?_,?_,?_,?_,trivial⟩
      ·intro tm hr
       simp[AllL,rdV] at hr
       simp[hr,hi,hw1,hlv3,hw2]
       repeat refine⟨by omega,?_⟩
       exact KD.mk
      ·intro tm hr
       simp[AllL,rdV] at hr
       simp[hr,hi,hw1,hlv3,hw2]
       repeat refine⟨by omega,?_⟩
       exact KD.mk
      ·intro tm hr
       simp[AllL,rdV] at hr
       simp[hr,hi,hw1,hlv3,hw2]
       repeat refine⟨by omega,?_⟩
       exact KD.mk
      ·intro tm hr
       simp[AllL,rdV] at hr
       simp[hr,hi,hw1,hlv3,hw2]
       repeat refine⟨by omega,?_⟩
       exact KD.mk
      ·intro tm hr
       simp[AllL,rdV] at hr
       simp[hr,hi,hw1,hlv3,hw2]
       repeat refine⟨by omega,?_⟩
       exact KD.mk
      ·intro tm hr
       simp[AllL,rdV] at hr
       simp[hr,hi,hw1,hlv3,hw2]
       repeat refine⟨by omega,?_⟩
       exact KD.mk
      ·intro tm hr
       simp[AllL,rdV] at hr
       simp[hr,hi,hw1,hlv3,hw2]
       repeat refine⟨by omega,?_⟩
       exact KD.mk
      ·intro tm hr
       simp[AllL,rdV] at hr
       simp[hr,hi,hw1,hlv3,hw2]
       repeat refine⟨by omega,?_⟩
       exact KD.mk
     ·rfl
     ·simp[tmD,putD,hi,hw1,hlv3,hw2];rfl
     ·simp[hi,hw1,hlv3,hw2]
      repeat refine⟨by omega,?_⟩
      refine Bq BH Bu rfl (by simp[hlv3]) (by omega) (l.length - i) (by omega) (by omega) (G0 (cap:=some c) (us:=[.u,.u,.u,.u,.u,.u]) rfl (Ax l) (by simp;omega)) (Fq (fs:=((encPair l).drop i).take (l.length - i)) (Ax l) (fun e he=>Ax l e (List.mem_of_mem_drop (List.mem_of_mem_take he))) (by simp;omega) (by simp;omega)) ?_
      try simp[hi,hw1,hlv3,hw2]
      rfl
     obtain⟨es4,he4⟩:∃ es4,es4=(encPair l).take (i+1)++((encPair l).drop i).take (l.length - i):=⟨_,rfl⟩
     have hs4:∀ e∈es4,e.length=6:=by
      intro e he
      rw[he4] at he
      rcases List.mem_append.1 he with h|h
      ·exact Ax l e (List.mem_of_mem_take h)
      ·exact Ax l e (List.mem_of_mem_drop (List.mem_of_mem_take h))
     have hn4:es4.length=l.length+1:=by rw[he4];simp;omega
     have hend:es4.take i++encPair [x]++es4.drop (i+1)=encPair (insL l i x):=by
      have hA:((encPair l).take (i+1)).length=i+1:=by simp;omega
      rw[he4,List.drop_left' hA,List.take_append_of_le_length (by omega),List.take_take,Nat.min_eq_left (by omega),List.take_of_length_le (l:=(encPair l).drop i) (by simp)]
      simp[encPair,insL]
     have hv4:(lvs es4).length=(l.length+1)*6:=by rw[Au hs4,hn4]
     simp only[← he4]
     apply AW.step
     ·simp[hi,hw1,hv4]
      repeat refine⟨by omega,?_⟩
      refine Bq BH Bu rfl (by simp[hv4]) (by omega) 1 (by omega) (by omega) (D2 (cap:=none) rfl (Ax [x]) (by simp)) (C1 (fs:=encPair [x]) hs4 (Ax _) (by rw[hn4,Iv];simp;omega)) ?_
      simp[hend]
      try simp[hi,hw1,hv4]
      rfl
     refine AW.step (by simp[hi,hw1];rfl) ?_
     refine AW.ret ?_
     refine Left.of (av:=_) (by simp[Tryz.f110,resV,resC,comp,hi,hw1];rfl) ?_
     refine LeftV.shrink 0 ((l.length+1)*6) rfl rfl rfl rfl ?_
     have hlf:(lvs (encPair (insL l i x))).take ((l.length+1)*6)=lvs (encPair (insL l i x)):=List.take_of_length_le (by rw[Au (Ax _)];simp[Et l i x hi])
     exact LeftV.rows [some 0,some 1] (by simp;omega) (CL (by omega)) rfl rfl (by simp[pickOb,hlf]) (by simp)
    ·simp at h14
theorem L8:Enters Tryz.prog 110:=enters Tryz.func110 (by kernel_rfl) rfl
theorem OF (l:List Pair) (i:Int) (x:Pair) (h:insB l i=true):Sound Tryz.prog 110 [.l (.r 0 6 0 l.length),.l (.s (.int .i64 i)),.l (.r 1 6 0 1)] [⟨114,6,true,none,lvs (encPair l)⟩,⟨114,6,true,none,lvs (encPair [x])⟩] (.l (.r 0 6 0 (l.length+1)))
  [some ⟨114,6,true,none,lvs (encPair (insL l i.toNat x))⟩,some ⟨114,6,true,none,lvs (encPair [x])⟩]:=by
 simp[insB] at h
 have:=M5 l i.toNat x (by omega) (by omega)
 rwa [show ((i.toNat:Nat):Int)=i by omega] at this
set_option maxRecDepth 8000 in
set_option maxHeartbeats 8000000 in
theorem M6 (l:List Seen) (i:Nat) (x:Seen) (hi:i≤l.length) (hl:l.length≤1000000000):Sound Tryz.prog 53 [.l (.r 0 3 0 l.length),.l (.s (.int .i64 i)),.l (.r 1 3 0 1)] [⟨100,3,true,none,lvs (encSeen l)⟩,⟨100,3,true,none,lvs (encSeen [x])⟩] (.l (.r 0 3 0 (l.length+1))) [some ⟨100,3,true,none,lvs (encSeen (insL l i x))⟩,some ⟨100,3,true,none,lvs (encSeen [x])⟩]:=by
 refine Sound.of_aw (fn:=Tryz.f53) (c:=_) Tryz.func53 rfl (by simp[Tryz.f53]) fun cx hG hnb=>?_
 rw[show Tryz.f53.ntmps=95 from rfl]
 have hn0:cx.nb=2:=hnb
 have hlv:(lvs (encSeen l)).length=l.length*3:=by rw[Au (AA l)];simp
 have hw1:=C0 (show l.length+1≤9223372036854775807 by omega)
 have hlx:(lvs (encSeen [x])).length=3:=by rw[Au (AA _)];simp
 refine AW.step (by simp[hi,hw1];rfl) ?_
 refine AW.step (by simp[hi,hw1,hlv];rfl) ?_
 refine AW.step (by simp[hi,hw1];rfl) ?_
 refine AW.seq ?_
 refine AW.step (by simp[hi,hw1];rfl) ?_
 refine AW.cond rfl (fun h3=>?_) (fun h3=>?_)
 ·simp at h3
 ·try simp at h3
  refine AW.skip ?_
  simp only[Post.seq,Post.block,if_true]
  refine AW.step (by simp[hi,hw1];rfl) ?_
  refine AW.seq ?_
  refine AW.step (by simp[hi,hw1];rfl) ?_
  refine AW.cond rfl (fun h6=>?_) (fun h6=>?_)
  ·simp at h6
   have hins:insL l i x=l++[x]:=by simp[insL,show i=l.length by omega]
   apply AW.step
   ·simp[hi,hw1]
    refine Fp (acc:=encSeen l) (ys:=encSeen [x]) (cap:=none) (k:=1) Dd C2 (by simp) (Iq (e:=100) (cap:=none) (by simp) (AA _) (by simp)) (AA _) (by simp) (by simp) (by omega) ?_
    simp[St.grow,obsBut,← Iz,← hins]
    try simp[hi,hw1]
    rfl
   refine AW.ret ?_
   refine Left.of (av:=_) (by simp[Tryz.f53,resV,resC,comp,hi,hw1];rfl) ?_
   exact LeftV.rows [some 0,some 1] (by simp;omega) (CL (by omega)) rfl rfl (by simp[pickOb,hi,hw1]) (by simp[hi,hw1])
  ·simp at h6
   have hil:i<l.length:=by omega
   have hin:(i:Int)+(l.length+1 - i:Nat)=l.length+1:=by omega
   have hin2:i+(l.length+1 - i)=l.length+1:=by omega
   have hw2:=C0 (show i+1≤9223372036854775807 by omega)
   refine AW.skip ?_
   simp only[Post.seq,Post.block,if_true]
   refine AW.seq ?_
   apply AW.stepK
   simp[hi,hw1]
   refine Hy Dd rfl rfl fun c hc1 _ hc3=>?_
   simp[hw1]
   unfold KK
   refine AW.cond rfl (fun h8=>?_) (fun h8=>?_)
   ·simp at h8
    have hcl:c=l.length:=by omega
    obtain⟨es2,he2⟩:∃ es2,es2=(encSeen l).take i++List.replicate (l.length+1 - i) [.v (.int .i64 0),.v (.int .i64 0),.v (.int .i64 0)]:=⟨_,rfl⟩
    have hs2:∀ e∈es2,e.length=3:=by
     intro e he
     rw[he2] at he
     rcases List.mem_append.1 he with h|h
     ·exact AA l e (List.mem_of_mem_take h)
     ·rw[(List.mem_replicate.1 h).2];rfl
    have hn2:es2.length=l.length+1:=by rw[he2];simp;omega
    have hv2:(lvs es2).length=(l.length+1)*3:=by rw[Au hs2,hn2]
    obtain⟨es3,he3⟩:∃ es3,es3=es2.take i++encSeen [x]++es2.drop (i+1):=⟨_,rfl⟩
    have hs3:∀ e∈es3,e.length=3:=by
     intro e he
     rw[he3] at he
     simp only[List.mem_append] at he
     rcases he with (h|h)|h
     ·exact hs2 e (List.mem_of_mem_take h)
     ·exact AA _ e h
     ·exact hs2 e (List.mem_of_mem_drop h)
    have hn3:es3.length=l.length+1:=by rw[he3];simp[hn2];omega
    have hv3:(lvs es3).length=(l.length+1)*3:=by rw[Au hs3,hn3]
    have hend:es3.take (i+1)++((encSeen l).drop i).take (l.length - i)=encSeen (insL l i x):=by
     rw[List.take_of_length_le (l:=(encSeen l).drop i) (by simp)]
     rw[he3,List.take_append_of_le_length (by simp[hn2];omega),List.take_of_length_le (by simp;omega),he2,List.take_append_of_le_length (by simp;omega)]
     simp[encSeen,insL,List.take_take]
    apply AW.step
    ·simp[hi,hw1,hlv]
     repeat refine⟨by omega,?_⟩
     refine GB (zr:=[.v (.int .i64 0),.v (.int .i64 0),.v (.int .i64 0)]) (es:=encSeen l) Dd C2 rfl ⟨rfl,rfl,by omega⟩ rfl rfl (AA _) (by simp;omega) (l.length+1 - i) (by rw[FO (by omega) (by omega)];omega) (by omega) (by omega) (by omega) (by omega) ?_
     simp[hin2]
     try simp[hi,hw1,hlv]
     rfl
    apply AW.step
    ·simp[hi,hw1,hv2,← he2]
     repeat refine⟨by omega,?_⟩
     refine Bq Dd C2 rfl (by simp[hv2]) (by omega) 1 (by omega) (by omega) (D2 (cap:=none) rfl (AA [x]) (by simp)) (C1 (fs:=encSeen [x]) hs2 (AA _) (by simp[hn2];omega)) ?_
     simp[← he3]
     try simp[hi,hw1,hv2,← he2]
     rfl
    apply AW.drawnP (V:=[_,_,_,_,_,_,_,_]) mixed [⟨[0],[],[(9,none)],false⟩,⟨[0],[],[(1,none)],false⟩,⟨[0],[],[(7,none)],false⟩,⟨[0],[1,2],[(47,some 1),(48,some 2)],false⟩,⟨[0],[0,1,2,3],[(46,some 0),(49,some 3)],false⟩,⟨[0],[],[(0,none)],false⟩,⟨[0],[],[(1,none)],false⟩,⟨[0],[5,6],[(51,some 5),(52,some 6)],false⟩,⟨[],[0,1,2,3,4,5,6,7],[],false⟩] 8 (by kernel_rfl) (by kernel_rfl)
    ·refine⟨?_,?_,?_,?_,?_,?_,?_,?_,trivial⟩
     ·intro tm hr
      simp[AllL,rdV] at hr
      simp[hr,hi,hw1,hv3,hw2,hlv]
      repeat refine⟨by omega,?_⟩
      exact KD.mk
     ·intro tm hr
      simp[AllL,rdV] at hr
      simp[hr,hi,hw1,hv3,hw2,hlv]
      repeat refine⟨by omega,?_⟩
      exact KD.mk
     ·intro tm hr
      simp[AllL,rdV] at hr
      simp[hr,hi,hw1,hv3,hw2,hlv]
      repeat refine⟨by omega,?_⟩
      exact KD.mk
     ·intro tm hr
      simp[AllL,rdV] at hr
      simp[hr,hi,hw1,hv3,hw2,hlv]
      repeat refine⟨by omega,?_⟩
      exact KD.mk
     ·intro tm hr
      simp[AllL,rdV] at hr
      simp[hr,hi,hw1,hv3,hw2,hlv]
      repeat refine⟨by omega,?_⟩
      exact KD.mk
     ·intro tm hr
      simp[AllL,rdV] at hr
      simp[hr,hi,hw1,hv3,hw2,hlv]
      repeat refine⟨by omega,?_⟩
      exact KD.mk
     ·intro tm hr
      simp[AllL,rdV] at hr
      simp[hr,hi,hw1,hv3,hw2,hlv]
      repeat refine⟨by omega,?_⟩
      exact KD.mk
     ·intro tm hr
      simp[AllL,rdV] at hr
      simp[hr,hi,hw1,hv3,hw2,hlv]
      repeat refine⟨by omega,?_⟩
      exact KD.mk
    ·rfl
    ·simp[tmD,putD,hi,hw1,hv3,hw2,hlv];rfl
    ·simp[hi,hw1,hv3,hw2,hlv]
     repeat refine⟨by omega,?_⟩
     refine Bq Dd C2 rfl (by simp[hv3]) (by omega) (l.length - i) (by omega) (by omega) (D2 (cap:=some c) rfl (AA l) (by simp;omega)) (F4 (fs:=((encSeen l).drop i).take (l.length - i)) hs3 (fun e he=>AA l e (List.mem_of_mem_drop (List.mem_of_mem_take he))) (by omega) (by simp[hn3];omega)) ?_
     try simp[hend]
     try simp[hi,hw1,hv3,hw2,hlv]
     rfl
    refine AW.step (by simp[hi,hw1];rfl) ?_
    refine AW.ret ?_
    refine Left.of (av:=_) (by simp[Tryz.f53,resV,resC,comp,hi,hw1];rfl) ?_
    exact LeftV.rows [some 2,some 1] (by simp;omega) (CL (by omega)) rfl rfl (by simp[pickOb,hi,hw1]) (by simp[hi,hw1])
   ·have hc':l.length+1≤c:=by
     simp at h8
     omega
    refine AW.room 0 3 rfl rfl rfl (by simp[hlv];omega) rfl rfl ?_
    have hlv3:(lvs (encSeen l)++[LV.u,LV.u,LV.u]).length=(l.length+1)*3:=by simp[hlv];omega
    refine AW.skip ?_
    simp only[Post.seq,Post.block,if_true]
    refine AW.step (by simp[hi,hw1,hlv3,hlv];(repeat refine⟨by omega,?_⟩);rfl) ?_
    refine AW.seq ?_
    apply AW.step
    ·simp[hi,hw1,hlv3,hw2]
     repeat refine⟨by omega,?_⟩
     refine En (t:=27) (tb:=4) Tryz.func89 (by kernel_rfl) (by kernel_rfl) (by kernel_rfl) (by kernel_rfl) Dd C2 rfl rfl (by omega) (by simp) ?_
     try simp[hi,hw1,hlv3,hw2]
     rfl
    refine AW.cond rfl (fun h14=>?_) (fun h14=>?_)
    ·try simp at h14
     apply AW.drawnP (V:=[_,_,_,_,_,_,_,_]) mixed [⟨[0],[],[(0,none)],false⟩,⟨[0],[],[(1,none)],false⟩,⟨[0],[],[(7,none)],false⟩,⟨[0],[1,2],[(70,some 1),(71,some 2)],false⟩,⟨[0],[0,1,2,3],[(69,some 0),(72,some 3)],false⟩,⟨[0],[],[(0,none)],false⟩,⟨[0],[],[(1,none)],false⟩,⟨[0],[5,6],[(74,some 5),(75,some 6)],false⟩,⟨[],[0,1,2,3,4,5,6,7],[],false⟩] 8 (by kernel_rfl) (by kernel_rfl)
     ·refine⟨?_,?_,?_,?_,?_,?_,?_,?_,trivial⟩
      ·intro tm hr
       simp[AllL,rdV] at hr
       simp[hr,hi,hw1,hlv3,hw2]
       repeat refine⟨by omega,?_⟩
       exact KD.mk
      ·intro tm hr
       simp[AllL,rdV] at hr
       simp[hr,hi,hw1,hlv3,hw2]
       repeat refine⟨by omega,?_⟩
       exact KD.mk
      ·intro tm hr
       simp[AllL,rdV] at hr
       simp[hr,hi,hw1,hlv3,hw2]
       repeat refine⟨by omega,?_⟩
       exact KD.mk
      ·intro tm hr
       simp[AllL,rdV] at hr
       simp[hr,hi,hw1,hlv3,hw2]
       repeat refine⟨by omega,?_⟩
       exact KD.mk
      ·intro tm hr
       simp[AllL,rdV] at hr
       simp[hr,hi,hw1,hlv3,hw2]
       repeat refine⟨by omega,?_⟩
       exact KD.mk
      ·intro tm hr
       simp[AllL,rdV] at hr
       simp[hr,hi,hw1,hlv3,hw2]
       repeat refine⟨by omega,?_⟩
       exact KD.mk
      ·intro tm hr
       simp[AllL,rdV] at hr
       simp[hr,hi,hw1,hlv3,hw2]
       repeat refine⟨by omega,?_⟩
       exact KD.mk
      ·intro tm hr
       simp[AllL,rdV] at hr
       simp[hr,hi,hw1,hlv3,hw2]
       repeat refine⟨by omega,?_⟩
       exact KD.mk
     ·rfl
     ·simp[tmD,putD,hi,hw1,hlv3,hw2];rfl
     ·simp[hi,hw1,hlv3,hw2]
      repeat refine⟨by omega,?_⟩
      refine Bq Dd C2 rfl (by simp[hlv3]) (by omega) (l.length - i) (by omega) (by omega) (G0 (cap:=some c) (us:=[.u,.u,.u]) rfl (AA l) (by simp;omega)) (Fq (fs:=((encSeen l).drop i).take (l.length - i)) (AA l) (fun e he=>AA l e (List.mem_of_mem_drop (List.mem_of_mem_take he))) (by simp;omega) (by simp;omega)) ?_
      try simp[hi,hw1,hlv3,hw2]
      rfl
     obtain⟨es4,he4⟩:∃ es4,es4=(encSeen l).take (i+1)++((encSeen l).drop i).take (l.length - i):=⟨_,rfl⟩
     have hs4:∀ e∈es4,e.length=3:=by
      intro e he
      rw[he4] at he
      rcases List.mem_append.1 he with h|h
      ·exact AA l e (List.mem_of_mem_take h)
      ·exact AA l e (List.mem_of_mem_drop (List.mem_of_mem_take h))
     have hn4:es4.length=l.length+1:=by rw[he4];simp;omega
     have hend:es4.take i++encSeen [x]++es4.drop (i+1)=encSeen (insL l i x):=by
      have hA:((encSeen l).take (i+1)).length=i+1:=by simp;omega
      rw[he4,List.drop_left' hA,List.take_append_of_le_length (by omega),List.take_take,Nat.min_eq_left (by omega),List.take_of_length_le (l:=(encSeen l).drop i) (by simp)]
      simp[encSeen,insL]
     have hv4:(lvs es4).length=(l.length+1)*3:=by rw[Au hs4,hn4]
     simp only[← he4]
     apply AW.step
     ·simp[hi,hw1,hv4]
      repeat refine⟨by omega,?_⟩
      refine Bq Dd C2 rfl (by simp[hv4]) (by omega) 1 (by omega) (by omega) (D2 (cap:=none) rfl (AA [x]) (by simp)) (C1 (fs:=encSeen [x]) hs4 (AA _) (by rw[hn4,Iy];simp;omega)) ?_
      simp[hend]
      try simp[hi,hw1,hv4]
      rfl
     refine AW.step (by simp[hi,hw1];rfl) ?_
     refine AW.ret ?_
     refine Left.of (av:=_) (by simp[Tryz.f53,resV,resC,comp,hi,hw1];rfl) ?_
     refine LeftV.shrink 0 ((l.length+1)*3) rfl rfl rfl rfl ?_
     have hlf:(lvs (encSeen (insL l i x))).take ((l.length+1)*3)=lvs (encSeen (insL l i x)):=List.take_of_length_le (by rw[Au (AA _)];simp[Et l i x hi])
     exact LeftV.rows [some 0,some 1] (by simp;omega) (CL (by omega)) rfl rfl (by simp[pickOb,hlf]) (by simp)
    ·simp at h14
theorem L9:Enters Tryz.prog 53:=enters Tryz.func53 (by kernel_rfl) rfl
theorem OG (l:List Seen) (i:Int) (x:Seen) (h:insB l i=true):Sound Tryz.prog 53 [.l (.r 0 3 0 l.length),.l (.s (.int .i64 i)),.l (.r 1 3 0 1)] [⟨100,3,true,none,lvs (encSeen l)⟩,⟨100,3,true,none,lvs (encSeen [x])⟩] (.l (.r 0 3 0 (l.length+1)))
  [some ⟨100,3,true,none,lvs (encSeen (insL l i.toNat x))⟩,some ⟨100,3,true,none,lvs (encSeen [x])⟩]:=by
 simp[insB] at h
 have:=M6 l i.toNat x (by omega) (by omega)
 rwa [show ((i.toNat:Nat):Int)=i by omega] at this
theorem i64_0:IntKind.i64.wrap 0=0:=by decide
def flatL {α:Type} (ss:List (List α)) (i:Nat):List α:=(ss.take i).flatten
theorem I6 {α:Type} {ss:List (List α)} {i:Nat} {x:List α} (hx:ss[i]?=some x):flatL ss (i+1)=flatL ss i++x:=by unfold flatL;rw[← MT hx];simp
theorem GI {α:Type} (ss:List (List α)) (i:Nat):(flatL ss i).length≤(flatL ss ss.length).length:=by
 have:flatL ss ss.length=flatL ss i++(ss.drop i).flatten:=by unfold flatL;rw[← List.flatten_append,List.take_append_drop,List.take_length]
 rw[this]
 simp
theorem IC {α:Type} (ss:List (List α)):flatL ss 0=[]:=rfl
theorem I7 {α:Type} (ss:List (List α)):flatL ss ss.length=ss.flatten:=by unfold flatL;rw[List.take_length]
def catB {α:Type} (ss:List (List α)):Bool:=decide (ss.flatten.length≤1000000000∧ss.length≤1000000000)
def Bc:List Value:=[.string ⟨#[]⟩,.bool false,.int .i64 0,.string ⟨#[]⟩,.slice none 0 0,.slice none 0 0,.int .i64 0]
set_option maxRecDepth 8000 in
set_option maxHeartbeats 8000000 in
theorem KX (n:Nat) (hn:n≤1000000000):Sound Tryz.prog 132 [.l (.s (.slice none 0 0)),.l (.s (.int .i64 n))] [] (.l (.r 0 7 0 0)) [some ⟨59,7,true,none,(repZ n Bc).map .s⟩]:=by
 refine Sound.of_aw (fn:=Tryz.f132) (c:=_) Tryz.func132 rfl (by simp[Tryz.f132]) fun cx hG hnb=>?_
 rw[show Tryz.f132.ntmps=27 from rfl]
 have hn0:cx.nb=0:=hnb
 refine AW.step (by simp;rfl) ?_
 refine AW.seq ?_
 refine AW.step (by simp;rfl) ?_
 refine AW.cond rfl (fun h1=>?_) (fun h1=>?_)
 ·simp at h1
  omega
 ·try simp at h1
  refine AW.skip ?_
  simp only[Post.seq,Post.block,if_true]
  refine AW.seq ?_
  refine AW.step (by simp[i64_0,FO (show (-9223372036854775808:Int)≤(n:Int) by omega) (show (n:Int)≤9223372036854775807 by omega)];rfl) ?_
  refine AW.step (by simp;rfl) ?_
  refine AW.cond rfl (fun h4=>?_) (fun h4=>?_)
  ·simp at h4
   refine AW.last (by simp[h4,show n*104≤281474976710656 by omega,show n≤4611686018427387904 by omega];rfl) ?_
   simp only[Post.seq,Post.block,if_true]
   refine AW.step (by simp;rfl) ?_
   refine AW.ret ?_
   refine Left.of (av:=_) (by simp[Tryz.f132,resV,resC,comp];rfl) ?_
   exact LeftV.nowN 1 hn0 (by simp[Bc,repZ]) (by simp) rfl
  ·simp at h4
   subst h4
   refine AW.nilRow 0 59 7 0 (by simp) rfl rfl ?_
   refine AW.skip ?_
   simp only[Post.seq,Post.block,if_true]
   refine AW.step (by simp;rfl) ?_
   refine AW.ret ?_
   refine Left.of (av:=_) (by simp[Tryz.f132,resV,resC,comp];rfl) ?_
   exact LeftV.nowN 1 hn0 (by simp[Bc,repZ]) (by simp) rfl
theorem Kf:Enters Tryz.prog 132:=enters Tryz.func132 (by kernel_rfl) rfl
theorem CT (m:Nat):((repZ m Bc).map LV.s).length=m*7:=by
 rw[List.length_map,Ba];rfl
theorem CB (l:List Effect):(lvs (encEffect l)).length=l.length*7:=by
 rw[Au (BC l),E5]
theorem HA (A x:List Effect) (m:Nat) (h:x.length≤m):setAt (lvs (encEffect A)++(repZ m Bc).map LV.s) (A.length*7) (lvs (encEffect x))=lvs (encEffect (A++x))++(repZ (m - x.length) Bc).map LV.s:=by
 have hz:=CT m
 have hA:=CB A
 have hx:=CB x
 have e1:repZ m Bc=repZ x.length Bc++repZ (m - x.length) Bc:=by rw[← Hv,Nat.add_sub_cancel' h]
 rw[Cj _ _ _ (by rw[List.length_append,hz,hA,hx];omega),CA,Cz]
 rw[List.take_append_of_le_length (by omega),List.take_of_length_le (by omega),hx]
 congr 1
 rw[← List.drop_drop,← hA,List.drop_left,e1,List.map_append]
 have hxz:=CT x.length
 rw[← hxz,List.drop_left]
set_option maxRecDepth 8000 in
set_option maxHeartbeats 8000000 in
theorem KY (ss:List (List Effect)) (hl:(flatL ss ss.length).length≤1000000000) (hs:ss.length≤1000000000):Sound Tryz.prog 112 [.l (.r 0 1 0 ss.length)] [⟨30,1,true,none,ss.map fun l=>.d false 7 (encEffect l)⟩] (.l (.r 1 7 0 (flatL ss ss.length).length)) [some ⟨30,1,true,none,ss.map fun l=>.d false 7 (encEffect l)⟩,some ⟨59,7,true,none,lvs (encEffect (flatL ss ss.length))⟩]:=by
 refine Sound.of_aw (fn:=Tryz.f112) (c:=_) Tryz.func112 rfl (by simp[Tryz.f112]) fun cx hG hnb=>?_
 rw[show Tryz.f112.ntmps=36 from rfl]
 have hn0:cx.nb=1:=hnb
 refine AW.step (by simp;rfl) ?_
 refine AW.step (by simp;rfl) ?_
 refine AW.seq ?_
 refine AW.step (by simp;rfl) ?_
 refine AW.block ?_
 refine AW.loopF (α:=Nat) [3,5,11,12,13,14,15,16,17,18,19,20,21,22] (fun i=>[(11,.l (.s (.int .i64 i))),(3,.l (.s (.int .i64 (flatL ss i).length)))]) (fun _=>[some ⟨30,1,true,none,ss.map fun l=>.d false 7 (encEffect l)⟩]) (fun i=>i≤ss.length) (fun i=>ss.length - i) 0 (by simp;rfl) (by simp[IC]) (by simp) (Nat.zero_le _) ?_
 intro i g1
 refine AW.step (by simp;rfl) ?_
 refine AW.seq ?_
 refine AW.cond rfl (fun h3=>?_) (fun h3=>?_)
 ·simp at h3
  obtain⟨x,hx⟩:=J0 h3
  have hx':ss[i]=x:=(List.getElem?_eq_some_iff.1 hx).2
  have hf:=I6 hx
  have hfl:=GI ss (i+1)
  rw[hf,List.length_append] at hfl
  have hxl:x.length≤140737488355328:=by omega
  have hw:IntKind.i64.wrap (((flatL ss i).length:Int)+(x.length:Int))=(((flatL ss (i+1)).length:Nat):Int):=by rw[FO (by omega) (by omega),hf,List.length_append];omega
  refine AW.skip ?_
  simp only[Post.seq,Post.block,if_true]
  refine AW.seq ?_
  refine AW.block ?_
  refine AW.step (by simp[hx,hx',h3];rfl) ?_
  refine AW.step (by simp[hxl,hw];rfl) ?_
  refine AW.step (by simp;rfl) ?_
  refine AW.cond rfl (fun h6=>?_) (fun h6=>?_)
  ·simp at h6
   omega
  ·try simp at h6
   refine AW.skip ?_
   simp only[Post.seq,Post.block,if_true]
   refine AW.last (by simp;rfl) ?_
   simp only[Post.seq,Post.block,if_true]
   refine⟨i+1,Weak.cut 1 (by omega) (by simp[C0 (show i+1≤9223372036854775807 by omega)]) (by simp) rfl,by omega,by omega⟩
 ·try simp at h3
  refine AW.exit ?_
  simp only[Post.seq,Post.block,if_true]
  have hi:i=ss.length:=by omega
  subst hi
  apply AW.step
  ·simp
   refine AF Kf (KX (flatL ss ss.length).length hl) rfl (by simp) ⟨.same rfl,.same rfl,trivial⟩ ?_
   try simp
   rfl
  refine AW.seq ?_
  refine AW.step (by simp;rfl) ?_
  refine AW.block ?_
  refine AW.loopF (α:=Nat) [6,8,27,28,29,30,31,32,33,34] (fun i=>[(27,.l (.s (.int .i64 i))),(6,.l (.r 1 7 0 (flatL ss i).length))]) (fun i=>[some ⟨30,1,true,none,ss.map fun l=>.d false 7 (encEffect l)⟩,some ⟨59,7,true,none,lvs (encEffect (flatL ss i))++(repZ ((flatL ss ss.length).length - (flatL ss i).length) Bc).map LV.s⟩]) (fun i=>i≤ss.length) (fun i=>ss.length - i) 0 (by simp;rfl) (by simp[IC]) (by simp[lvs,IC]) (Nat.zero_le _) ?_
  intro i g1
  refine AW.step (by simp;rfl) ?_
  refine AW.seq ?_
  refine AW.cond rfl (fun h11=>?_) (fun h11=>?_)
  ·simp at h11
   obtain⟨x,hx⟩:=J0 h11
   have hx':ss[i]=x:=(List.getElem?_eq_some_iff.1 hx).2
   have hf:=I6 hx
   have hfl:=GI ss (i+1)
   rw[hf,List.length_append] at hfl
   have hput:=HA (flatL ss i) x ((flatL ss ss.length).length - (flatL ss i).length) (by omega)
   have hlx:=CB (flatL ss i)
   have hzx:=CT ((flatL ss ss.length).length - (flatL ss i).length)
   refine AW.skip ?_
   simp only[Post.seq,Post.block,if_true]
   refine AW.seq ?_
   refine AW.block ?_
   refine AW.step (by simp[hx,hx',h11];rfl) ?_
   apply AW.last
   ·simp
    refine Lr (q:=((encEffect x).length,lvs (encEffect x))) (z:=⟨59,7,true,none,lvs (encEffect (flatL ss i))++(repZ ((flatL ss ss.length).length - (flatL ss i).length) Bc).map LV.s⟩) It Is (by simp) N5 (by simp) (by simp) (by show ((flatL ss i).length+(encEffect x).length)*7≤_;rw[List.length_append,hlx,hzx,E5];omega) ?_
    simp only[hput]
    try simp
    rfl
   simp only[Post.seq,Post.block,if_true]
   refine AW.last (by simp;rfl) ?_
   simp only[Post.seq,Post.block,if_true]
   refine⟨i+1,Weak.cut 2 (by omega) (by simp[C0 (show i+1≤9223372036854775807 by omega),hf]) (by simp[hf,Nat.sub_sub]) rfl,by omega,by omega⟩
  ·try simp at h11
   refine AW.exit ?_
   simp only[Post.seq,Post.block,if_true]
   have hi:i=ss.length:=by omega
   subst hi
   have h0:(flatL ss ss.length).length - (flatL ss ss.length).length=0:=Nat.sub_self _
   refine AW.step (by simp;rfl) ?_
   refine AW.ret ?_
   refine Left.of (av:=_) (by simp[Tryz.f112,resV,resC,comp];rfl) ?_
   exact LeftV.rows [some 0,some 1] (by simp;omega) (CL (by omega)) rfl rfl (by simp[pickOb,repZ,Ob.ren,AU]) (by simp)
theorem Kg:Enters Tryz.prog 112:=enters Tryz.func112 (by kernel_rfl) rfl
theorem M7 (ss:List (List Effect)) (h:catB ss=true):Sound Tryz.prog 112 [.l (.r 0 1 0 ss.length)] [⟨30,1,true,none,ss.map fun l=>.d false 7 (encEffect l)⟩] (.l (.r 1 7 0 ss.flatten.length)) [some ⟨30,1,true,none,ss.map fun l=>.d false 7 (encEffect l)⟩,some ⟨59,7,true,none,lvs (encEffect ss.flatten)⟩]:=by
 simp[catB] at h
 have:=KY ss (by rw[I7];simp;omega) (by omega)
 rwa [I7] at this
theorem M8 (ss:List (List Effect)) (h:catB ss=true):Sound Tryz.prog 112 [.l (.r 0 1 0 ss.length)] [⟨30,1,true,none,ss.map fun l=>.d false 7 (encEffect l)⟩] (.l (.d false 7 (encEffect ss.flatten))) [some ⟨30,1,true,none,ss.map fun l=>.d false 7 (encEffect l)⟩]:=by
 have h2:=h
 simp[catB] at h2
 exact (M7 ss h).frz1 (by simp) (by omega) (BC _) (by simp;omega) (by simp[Ob.frz,Ob.ren,LV.frz,LV.ren])
end Go.Proofs.YtlbdhlbbkibgpaaGreat
namespace Go.Proofs.YtlbdhlbbkibgpaaGreat
open Go Go.RowKit
section
variable {P:Program} {d:Option Nat} {t:Nat} {st:St} {K:St→Prop} {k:IntKind} {a b:Int} {x y:ByteArray} {p q:Bool}
@[simp high] theorem xs_add:xeq P .add t (.l (.s (.int k a))) (.l (.s (.int k b))) st d K=K (st.put d (.l (.s (.int k (addI k a b))))):=by simp[xeq,bopP,bop,addI]
@[simp high] theorem xs_sub:xeq P .sub t (.l (.s (.int k a))) (.l (.s (.int k b))) st d K=K (st.put d (.l (.s (.int k (subI k a b))))):=by simp[xeq,bopP,bop,subI]
@[simp high] theorem xs_mul:xeq P .mul t (.l (.s (.int k a))) (.l (.s (.int k b))) st d K=K (st.put d (.l (.s (.int k (mulI k a b))))):=by simp[xeq,bopP,bop,mulI]
@[simp high] theorem xs_and:xeq P .and t (.l (.s (.int k a))) (.l (.s (.int k b))) st d K=K (st.put d (.l (.s (.int k (andI k a b))))):=by simp[xeq,bopP,bop,andI]
@[simp high] theorem xs_or:xeq P .or t (.l (.s (.int k a))) (.l (.s (.int k b))) st d K=K (st.put d (.l (.s (.int k (orI k a b))))):=by simp[xeq,bopP,bop,orI]
@[simp high] theorem xs_xor:xeq P .xor t (.l (.s (.int k a))) (.l (.s (.int k b))) st d K=K (st.put d (.l (.s (.int k (xorI k a b))))):=by simp[xeq,bopP,bop,xorI]
@[simp high] theorem xs_quo:xeq P .quo t (.l (.s (.int k a))) (.l (.s (.int k b))) st d K=wh (quoI k a b) fun c=>K (st.put d (.l (.s (.int k c)))):=by
 unfold quoI;split <;> simp_all [xeq,bopP,bop]
@[simp high] theorem xs_rem:xeq P .rem t (.l (.s (.int k a))) (.l (.s (.int k b))) st d K=wh (remI k a b) fun c=>K (st.put d (.l (.s (.int k c)))):=by
 unfold remI;split <;> simp_all [xeq,bopP,bop]
@[simp high] theorem xs_shl {k':IntKind}:xeq P .shl t (.l (.s (.int k a))) (.l (.s (.int k' b))) st d K=wh (shlI k a b) fun c=>K (st.put d (.l (.s (.int k c)))):=by
 unfold shlI;simp only[xeq,bopP,bop];split <;> rfl
@[simp high] theorem xs_shr {k':IntKind}:xeq P .shr t (.l (.s (.int k a))) (.l (.s (.int k' b))) st d K=wh (shrI k a b) fun c=>K (st.put d (.l (.s (.int k c)))):=by
 unfold shrI;simp only[xeq,bopP,bop];split <;> rfl
@[simp high] theorem xs_eql:xeq P .eql t (.l (.s (.int k a))) (.l (.s (.int k b))) st d K=K (st.put d (.l (.s (.bool (eqI a b))))):=by simp[xeq,bopP,bop,eqI]
@[simp high] theorem xs_neq:xeq P .neq t (.l (.s (.int k a))) (.l (.s (.int k b))) st d K=K (st.put d (.l (.s (.bool (neI a b))))):=by simp[xeq,bopP,bop,neI]
@[simp high] theorem xs_lss:xeq P .lss t (.l (.s (.int k a))) (.l (.s (.int k b))) st d K=K (st.put d (.l (.s (.bool (ltI a b))))):=by simp[xeq,bopP,bop,ltI]
@[simp high] theorem xs_leq:xeq P .leq t (.l (.s (.int k a))) (.l (.s (.int k b))) st d K=K (st.put d (.l (.s (.bool (leI a b))))):=by simp[xeq,bopP,bop,leI]
@[simp high] theorem xs_gtr:xeq P .gtr t (.l (.s (.int k a))) (.l (.s (.int k b))) st d K=K (st.put d (.l (.s (.bool (gtI a b))))):=by simp[xeq,bopP,bop,gtI]
@[simp high] theorem xs_geq:xeq P .geq t (.l (.s (.int k a))) (.l (.s (.int k b))) st d K=K (st.put d (.l (.s (.bool (geI a b))))):=by simp[xeq,bopP,bop,geI]
@[simp high] theorem xs_eqlS:xeq P .eql t (.l (.s (.string x))) (.l (.s (.string y))) st d K=K (st.put d (.l (.s (.bool (eqS x y))))):=by simp[xeq,bopP,bop,eqS]
@[simp high] theorem xs_neqS:xeq P .neq t (.l (.s (.string x))) (.l (.s (.string y))) st d K=K (st.put d (.l (.s (.bool (neS x y))))):=by simp[xeq,bopP,bop,neS]
@[simp high] theorem xs_lssS:xeq P .lss t (.l (.s (.string x))) (.l (.s (.string y))) st d K=K (st.put d (.l (.s (.bool (ltS x y))))):=by simp[xeq,bopP,bop,ltS]
@[simp high] theorem xs_leqS:xeq P .leq t (.l (.s (.string x))) (.l (.s (.string y))) st d K=K (st.put d (.l (.s (.bool (leS x y))))):=by simp[xeq,bopP,bop,leS]
@[simp high] theorem xs_geqS:xeq P .geq t (.l (.s (.string x))) (.l (.s (.string y))) st d K=K (st.put d (.l (.s (.bool (geS x y))))):=by simp[xeq,bopP,bop,geS]
@[simp high] theorem xs_cat:xeq P .add t (.l (.s (.string x))) (.l (.s (.string y))) st d K=wh (catS x y) fun c=>K (st.put d (.l (.s (.string c)))):=by
 unfold catS;simp only[xeq,bopP,bop];split <;> rfl
@[simp high] theorem xs_neqB:xeq P .neq t (.l (.s (.bool p))) (.l (.s (.bool q))) st d K=(sk P t=some 2∧K (st.put d (.l (.s (.bool (neB p q)))))):=by
 simp only[xeq,bopP,neB];split <;> simp_all
@[simp high] theorem xs_eqlG (xs ys:List LV):xeq P .eql t (.g xs) (.g ys) st d K=wh (seqF P t) fun ks=>wh (veqs ks xs ys) fun b=>K (st.put d (.l (.s (.bool b)))):=by rw[MI];simp
@[simp high] theorem xs_neqG (xs ys:List LV):xeq P .neq t (.g xs) (.g ys) st d K=wh (seqF P t) fun ks=>wh (veqs ks xs ys) fun b=>K (st.put d (.l (.s (.bool (notB b))))):=by rw[MI];simp[notB]
def andO:Option Bool→Option Bool→Option Bool
 |some b,some c=>some (andB b c)
 |_,_=>none
@[simp high] theorem veqs_0 {ks:List Nat} {xs ys:List LV} {k k':IntKind}:veqs (0::ks) (.s (.int k a)::xs) (.s (.int k' b)::ys)=if k=k' then andO (some (eqI a b)) (veqs ks xs ys) else none:=by
 simp only[veqs,veq,eqI]
 by_cases h:k=k'
 ·simp only[h,if_true];cases veqs ks xs ys <;> rfl
 ·simp[h]
@[simp high] theorem veqs_1 {ks:List Nat} {xs ys:List LV}:veqs (1::ks) (.s (.string x)::xs) (.s (.string y)::ys)=andO (some (eqS x y)) (veqs ks xs ys):=by
 simp only[veqs,veq,eqS];cases veqs ks xs ys <;> rfl
@[simp] theorem veqs_n:veqs [] [] []=some true:=rfl
@[simp] theorem andO_s (b c:Bool):andO (some b) (some c)=some (andB b c):=rfl
@[simp high] theorem xs_not {ty:TypeId} {pos:String} {af:Array Edge} {g:Option (Nat×Bool)} {x':Operand}:xo P ⟨d,.unOp .not t x',ty,pos,af,g⟩ st K=wb (st.ev x') fun b=>K (st.put d (.l (.s (.bool (notB b))))):=by
 rw[Lq]
 generalize st.ev x'=v
 cases v with
 |l y =>
  cases y with
  |s z=>cases z <;> first|rfl|(simp[ws,wb,uop])
  |_=>rfl
 |_=>rfl
def wik (v:AV) (k:IntKind→Int→Prop):Prop :=
 match v with
 |.l (.s (.int kd n))=>k kd n
 |_=>False
@[congr] theorem wik_congr {x y:AV} {k:IntKind→Int→Prop} (h:x=y):wik x k=wik y k:=by rw[h]
@[simp] theorem wik_i (kd:IntKind) (n:Int) (k:IntKind→Int→Prop):wik (.l (.s (.int kd n))) k=k kd n:=nr rfl
@[simp high] theorem xs_neg {ty:TypeId} {pos:String} {af:Array Edge} {g:Option (Nat×Bool)} {x':Operand}:xo P ⟨d,.unOp .neg t x',ty,pos,af,g⟩ st K=wik (st.ev x') fun k b=>K (st.put d (.l (.s (.int k (negI k b))))):=by
 rw[Lq]
 generalize st.ev x'=v
 cases v with
 |l y =>
  cases y with
  |s z=>cases z <;> first|rfl|(simp[ws,wik,uop])
  |_=>rfl
 |_=>rfl
@[simp high] theorem xs_conv (s t:Nat):xconv P s t (.l (.s (.int k a))) st d K=((P.underlying s).isSome=true∧wh (intF P t) fun k=>K (st.put d (.l (.s (.int k (cvI k a)))))):=nr rfl
@[simp high] theorem xs_max:xmm max (.l (.s (.int k a))) (.l (.s (.int k b))) st d K=K (st.put d (.l (.s (.int k (maxI a b))))):=by simp[xmm,maxI]
@[simp high] theorem xs_min:xmm min (.l (.s (.int k a))) (.l (.s (.int k b))) st d K=K (st.put d (.l (.s (.int k (minI a b))))):=by simp[xmm,minI]
end
section
variable {P:Program} {d:Option Nat} {t:Nat} {st:St} {K:St→Prop} {x:ByteArray} {ob sz lo hi:Nat} {al:Bool}
@[simp high] theorem xs_lenS:xlen P t (.l (.s (.string x))) st d K=(strF P t=true∧K (st.put d (.l (.s (.int .i64 (lenS x)))))):=nr rfl
end
def idxB (a:ByteArray) (c:Int):Int:=Lib.indexByte a.data.toList c.toNat.toUInt8
theorem Ma {P:Program} {st:St} {f:Nat} {fn:Func} {a:ByteArray} {c:Int} {dst:Option Nat} {K:St→Prop} (hf:P.funcs[f]?=some fn) (hname:(fn.name == "runtime.NumGoroutine")=false) (hb:fn.body.isNone=true) (hn:Extern.findNext fn=none)
  (he:Extern.find fn=some Extern.BytealgIndexByte.indexByte) (hk:K (st.put dst (.l (.s (.int .i64 (idxB a c)))))):xcall P f [.l (.s (.string a)),.l (.s (.int .u8 c))] st dst K:=by
 refine .inr (.inl ⟨.int .i64 (idxB a c),rfl,fun cx σ ac w vs hr hv=>?_,hk⟩)
 match vs,hv with
 |[x,y],hv =>
  obtain⟨⟨rfl,_⟩,⟨rfl,_⟩,_⟩:=hv
  rw[run_callFunc_extern hf hname hb hn he]
  have:=Lib.run_indexByteString (P:=P) a c w
  rw[this]
  rfl
 |[],hv=>exact hv.elim
 |[_],hv=>exact hv.2.elim
 |_::_::_::_,hv=>exact hv.2.2.elim
def bytesI (s:ByteArray):List Int:=s.data.toList.map fun b=>(b.toNat:Int)
@[simp] theorem bytesT_eq (s:ByteArray):bytesT s=encU (bytesI s):=by simp[bytesT,encU,bytesI,Function.comp_def]
end Go.Proofs.YtlbdhlbbkibgpaaGreat
namespace Go.Proofs.YtlbdhlbbkibgpaaGreat
open Go Go.RowKit
def BL (n:Nat) (a0:List Claim) (a1:List Claim):Option Bool :=
lt (lenI a0) fun v1 =>
lt (lenI a1) fun v2 =>
lt (neI v1 v2) fun v3 =>
ite' v3 (some false) (bn (iter n (fun (y4:Int) =>
lt (lenI a0) fun v7 =>
lt (ltI y4 v7) fun v8 =>
ite' v8 (bn (nth a0 y4) fun v9 =>
bn (nth a1 y4) fun v10 =>
lt (notB (andB (eqI v9.frm v10.frm) (andB (eqI v9.to v10.to) (andB (eqI v9.node v10.node) (andB (eqI v9.epoch v10.epoch) true))))) fun v11 =>
ite' v11 (some (.inr (.inr false))) (lt (addI .i64 y4 1) fun v12 =>
some (.inl v12))) (some (.inr (.inl ())))) 0) fun (y5:Unit ⊕ Bool) =>
sm y5 (fun y13=>some true) (fun y14=>some y14))
theorem BY {n:Nat} {a0:List Claim} {a1:List Claim} {r:Bool} (h:BL n a0 a1=some r):Sound Tryz.prog 42 [.l (.d false 4 (encClaim a0)),.l (.d false 4 (encClaim a1))] [] (.l (.s (.bool r))) []:=by
 unfold BL at h
 refine Sound.of_aw (fn:=Tryz.f42) (c:=_) Tryz.func42 rfl (by simp[Tryz.f42]) fun cx hG hnb=>?_
 rw[show Tryz.f42.ntmps=26 from rfl]
 have hn0:cx.nb=0:=hnb
 simp only[An,initTm,List.map_cons,List.map_nil]
 apply AW.step
 ·simp
  intros;rfl
 refine AW.seq ?_
 replace h:=ltE h;obtain⟨v1,e1,h⟩:=h
 replace h:=ltE h;obtain⟨v2,e2,h⟩:=h
 replace h:=ltE h;obtain⟨v3,e3,h⟩:=h
 apply AW.step
 ·simp[Aa e1,Aa e2,← e3]
  intros;rfl
 cases v3 with
 |true =>
  replace h:=iteT rfl h
  refine AW.cond_true (by simp) ?_
  apply AW.step
  ·simp
   intros;rfl
  obtain rfl:=oi h
  refine AW.ret ?_
  refine Left.plain hnb (by simp[Tryz.f42,resV,resC,comp];rfl) rfl rfl ?_
  simp
 |false =>
  replace h:=iteF rfl h
  refine AW.cond_false (by simp) ?_
  refine AW.skip ?_
  try simp only[nm]
  refine AW.seq ?_
  apply AW.step
  ·simp
   intros;rfl
  refine AW.block ?_
  replace h:=bnE h;obtain⟨y5,g5,h⟩:=h
  refine AW.iterP g5 (mk:=fun gh ls q=>(⟨[(0,.l (.d false 4 (encClaim a0))),(1,.l (.d false 4 (encClaim a1))),(5,.l (.s (.int .i64 q)))],[],26,gh,ls⟩:St)) (N:=fun gh ls=>(sp (xP 0 (cx:=cx) (fun _=>(⟨[],[],26,gh,ls⟩:St))) (rP (cx:=cx) (P:=Tryz.prog) Tryz.f42 (fun q=>.l (.s (.bool q))) (fun q=>[])))) ?_ (noS noX noR) ?_ ?_
  ·refine Weak.mixN [] hn0 (by decide) ?_ ?_ rfl
   all_goals first|(simp[Ab,Ac,pickOb];done)|rfl
  ·clear h;intro y4 y6 h
   refine AW.seq ?_
   replace h:=ltE h;obtain⟨v7,e7,h⟩:=h
   replace h:=ltE h;obtain⟨v8,e8,h⟩:=h
   apply AW.step
   ·simp[Aa e7,← e8]
    intros;rfl
   cases v8 with
   |true =>
    replace h:=iteT rfl h
    refine AW.cond_true (by simp) ?_
    refine AW.skip ?_
    try simp only[nm]
    refine AW.seq ?_
    refine AW.block ?_
    replace h:=bnE h;obtain⟨v9,e9,h⟩:=h
    replace h:=bnE h;obtain⟨v10,e10,h⟩:=h
    replace h:=ltE h;obtain⟨v11,e11,h⟩:=h
    apply AW.drawnP (V:=[_,_,_,_,_,_,_,_]) mixed [⟨[0],[],[(0,none)],false⟩,⟨[0],[],[(5,none)],false⟩,⟨[0],[0,1],[(17,some 0),(18,some 1)],false⟩,⟨[0],[0,1,2],[(19,some 2)],false⟩,⟨[0],[],[(1,none)],false⟩,⟨[0],[],[(5,none)],false⟩,⟨[0],[4,5],[(21,some 4),(22,some 5)],false⟩,⟨[0],[4,5,6],[(23,some 6)],false⟩,⟨[],[0,1,2,3,4,5,6,7],[],false⟩] 8 (by kernel_rfl) (by kernel_rfl)
    ·refine⟨?_,?_,?_,?_,?_,?_,?_,?_,trivial⟩
     iterate 8 (· intro tm hr;simp[AllL,rdV] at hr;simp[hr,Ad e9,Ad e10,← e11];intros;first|exact KD.mk|exact KD.mkN)
    ·rfl
    ·simp[tmD,putD,Ad e9,Ad e10,← e11];rfl
    ·simp[Ad e9,Ad e10,← e11]
     intros;rfl
    cases v11 with
    |true =>
     replace h:=iteT rfl h
     refine AW.cond_true (by simp) ?_
     apply AW.step
     ·simp
      intros;rfl
     obtain rfl:=oi h
     refine AW.ret ?_
     try simp only[nm]
     refine rP_i ?_
     refine Left.plain hnb (by simp[Tryz.f42,resV,resC,comp];rfl) rfl rfl ?_
     simp
    |false =>
     replace h:=iteF rfl h
     refine AW.cond_false (by simp) ?_
     refine AW.skip ?_
     try simp only[nm]
     replace h:=ltE h;obtain⟨v12,e12,h⟩:=h
     apply AW.last
     ·simp[← e12]
      intros;rfl
     obtain rfl:=oi h
     refine nP_i ?_
     refine Weak.mixN [] hn0 (by decide) ?_ ?_ rfl
     all_goals first|(simp[Ab,Ac,pickOb];done)|rfl
   |false =>
    replace h:=iteF rfl h
    refine AW.cond_false (by simp) ?_
    refine AW.exit ?_
    try simp only[nm]
    obtain rfl:=oi h
    try simp only[sp_l,sp_r]
    refine xP_i ?_
    refine Weak.mixN [] hn0 (by decide) ?_ ?_ rfl
    all_goals first|(simp[Ab,Ac,pickOb];done)|rfl
  ·rintro e s hp
   rcases y5 with y13|y14
   ·replace h:=smL h
    obtain⟨rfl,hw⟩:=hp
    refine⟨_,hw,?_⟩
    try simp only[nm]
    apply AW.step
    ·simp
     intros;rfl
    obtain rfl:=oi h
    refine AW.ret ?_
    refine Left.plain hnb (by simp[Tryz.f42,resV,resC,comp];rfl) rfl rfl ?_
    simp
   ·replace h:=smR h
    obtain⟨rfl,hl⟩:=hp
    refine⟨_,Weak.refl _,?_⟩
    obtain rfl:=oi h
    exact hl
theorem BM:Enters Tryz.prog 42:=enters Tryz.func42 (by kernel_rfl) rfl
end Go.Proofs.YtlbdhlbbkibgpaaGreat
namespace Go.Proofs.YtlbdhlbbkibgpaaGreat
open Go Go.RowKit
def E9 (n:Nat) (a0:List Claim) (a1:Int):Option (Int×Int×Bool) :=
lt (lenI a0) fun v1 =>
bn (iter n (fun (y2:Int) =>
lt (ltI y2 v1) fun v5 =>
ite' v5 (bn (nth a0 y2) fun v6 =>
bn (lt (leI v6.frm a1) fun v8 =>
ite' v8 (lt (leI a1 v6.to) fun v9 =>
some (v9)) (some (false))) fun (y7:Bool) =>
lt (y7) fun v10 =>
ite' v10 (some (.inr (.inr (v6.node,v6.epoch,true)))) (lt (addI .i64 y2 1) fun v11 =>
some (.inl v11))) (some (.inr (.inl ())))) 0) fun (y3:Unit ⊕ (Int×Int×Bool)) =>
sm y3 (fun y12=>some (0,0,false)) (fun y13=>some y13)
theorem KZ {n:Nat} {a0:List Claim} {a1:Int} {r:Int×Int×Bool} (h:E9 n a0 a1=some r):Sound Tryz.prog 34 [.l (.d false 4 (encClaim a0)),.l (.s (.int .i64 a1))] [] (.t [(false,[.s (.int .i64 r.1)]),(false,[.s (.int .i64 r.2.1)]),(false,[.s (.bool r.2.2)])]) []:=by
 unfold E9 at h
 refine Sound.of_aw (fn:=Tryz.f34) (c:=_) Tryz.func34 rfl (by simp[Tryz.f34]) fun cx hG hnb=>?_
 rw[show Tryz.f34.ntmps=30 from rfl]
 have hn0:cx.nb=0:=hnb
 simp only[An,initTm,List.map_cons,List.map_nil]
 apply AW.step
 ·simp
  intros;rfl
 refine AW.seq ?_
 replace h:=ltE h;obtain⟨v1,e1,h⟩:=h
 apply AW.step
 ·simp[Aa e1]
  intros;rfl
 refine AW.block ?_
 replace h:=bnE h;obtain⟨y3,g3,h⟩:=h
 refine AW.iterP g3 (mk:=fun gh ls q=>(⟨[(1,.l (.s (.int .i64 a1))),(9,.l (.d false 4 (encClaim a0))),(10,.l (.s (.int .i64 v1))),(11,.l (.s (.int .i64 q)))],[],30,gh,ls⟩:St)) (N:=fun gh ls=>(sp (xP 0 (cx:=cx) (fun _=>(⟨[],[],30,gh,ls⟩:St))) (rP (cx:=cx) (P:=Tryz.prog) Tryz.f34 (fun q=>.t [(false,[.s (.int .i64 q.1)]),(false,[.s (.int .i64 q.2.1)]),(false,[.s (.bool q.2.2)])]) (fun q=>[])))) ?_ (noS noX noR) ?_ ?_
 ·refine Weak.mixN [] hn0 (by decide) ?_ ?_ rfl
  all_goals first|(simp[Ab,Ac,pickOb];done)|rfl
 ·clear h;intro y2 y4 h
  replace h:=ltE h;obtain⟨v5,e5,h⟩:=h
  apply AW.step
  ·simp[← e5]
   intros;rfl
  refine AW.seq ?_
  cases v5 with
  |true =>
   replace h:=iteT rfl h
   refine AW.cond_true (by simp) ?_
   refine AW.skip ?_
   try simp only[nm]
   refine AW.seq ?_
   refine AW.block ?_
   replace h:=bnE h;obtain⟨v6,e6,h⟩:=h
   apply AW.step
   ·simp[Ad e6]
    intros;rfl
   replace h:=bnE h;obtain⟨y7,g7,h⟩:=h
   refine AW.flow (p:=fun gh ls=>(nP (cx:=cx) (fun q=>(⟨[(1,.l (.s (.int .i64 a1))),(8,.l (.p 0 0)),(9,.l (.d false 4 (encClaim a0))),(10,.l (.s (.int .i64 v1))),(11,.l (.s (.int .i64 y2))),(24,.l (.s (.bool q)))],[some ⟨81,4,false,none,[.s (.int .i64 v6.frm),.s (.int .i64 v6.to),.s (.int .i64 v6.node),.s (.int .i64 v6.epoch)]⟩],30,gh,ls⟩:St))) y7) ?_ ?_
   ·replace h:=g7;clear g7
    replace h:=ltE h;obtain⟨v8,e8,h⟩:=h
    cases v8 with
    |true =>
     replace h:=iteT rfl h
     replace h:=ltE h;obtain⟨v9,e9,h⟩:=h
     apply AW.last
     ·simp[← e8,← e9]
      intros;rfl
     obtain rfl:=oi h
     refine nP_i ?_
     refine Weak.mixN [some 0] hn0 (by decide) ?_ ?_ rfl
     all_goals first|(simp[Ab,Ac,pickOb];done)|rfl
    |false =>
     replace h:=iteF rfl h
     apply AW.last
     ·simp[← e8]
      intros;rfl
     obtain rfl:=oi h
     refine nP_i ?_
     refine Weak.mixN [some 0] hn0 (by decide) ?_ ?_ rfl
     all_goals first|(simp[Ab,Ac,pickOb];done)|rfl
   ·rintro e s hp
    obtain⟨rfl,hw⟩:=hp
    refine⟨_,hw,?_⟩
    try simp only[nm]
    replace h:=ltE h;obtain⟨v10,e10,h⟩:=h
    rw[← e10]
    cases v10 with
    |true =>
     replace h:=iteT rfl h
     refine AW.cond_true (by simp) ?_
     apply AW.drawnP (V:=[_,_,_,_,_]) mixed [⟨[0],[],[(8,none)],false⟩,⟨[0],[0],[(25,some 0)],false⟩,⟨[0],[],[(8,none)],false⟩,⟨[0],[2],[(27,some 2)],false⟩,⟨[0],[0,1],[(26,some 1)],false⟩,⟨[],[0,1,2,3,4],[],false⟩,⟨[],[0,1,2,3,4,5],[],false⟩] 5 (by kernel_rfl) (by kernel_rfl)
     ·refine⟨?_,?_,?_,?_,?_,trivial⟩
      iterate 5 (· intro tm hr;simp[AllL,rdV] at hr;simp[hr];intros;first|exact KD.mk|exact KD.mkN)
     ·rfl
     ·simp[tmD,putD];rfl
     ·simp
      intros;rfl
     obtain rfl:=oi h
     refine AW.ret ?_
     try simp only[nm]
     refine rP_i ?_
     refine Left.plain hnb (by simp[Tryz.f34,resV,resC,comp];rfl) rfl rfl ?_
     simp
    |false =>
     replace h:=iteF rfl h
     refine AW.cond_false (by simp) ?_
     refine AW.skip ?_
     try simp only[nm]
     replace h:=ltE h;obtain⟨v11,e11,h⟩:=h
     apply AW.last
     ·simp[← e11]
      intros;rfl
     obtain rfl:=oi h
     refine nP_i ?_
     refine Weak.mixN [] hn0 (by decide) ?_ ?_ rfl
     all_goals first|(simp[Ab,Ac,pickOb];done)|rfl
  |false =>
   replace h:=iteF rfl h
   refine AW.cond_false (by simp) ?_
   refine AW.exit ?_
   try simp only[nm]
   obtain rfl:=oi h
   try simp only[sp_l,sp_r]
   refine xP_i ?_
   refine Weak.mixN [] hn0 (by decide) ?_ ?_ rfl
   all_goals first|(simp[Ab,Ac,pickOb];done)|rfl
 ·rintro e s hp
  rcases y3 with y12|y13
  ·replace h:=smL h
   obtain⟨rfl,hw⟩:=hp
   refine⟨_,hw,?_⟩
   try simp only[nm]
   apply AW.step
   ·simp
    intros;rfl
   obtain rfl:=oi h
   refine AW.ret ?_
   refine Left.plain hnb (by simp[Tryz.f34,resV,resC,comp];rfl) rfl rfl ?_
   simp
  ·replace h:=smR h
   obtain⟨rfl,hl⟩:=hp
   refine⟨_,Weak.refl _,?_⟩
   obtain rfl:=oi h
   exact hl
theorem Kh:Enters Tryz.prog 34:=enters Tryz.func34 (by kernel_rfl) rfl
end Go.Proofs.YtlbdhlbbkibgpaaGreat
namespace Go.Proofs.YtlbdhlbbkibgpaaGreat
open Go Go.RowKit
variable {P:Program} {R:Option Nat} {cx:Cx} {Q:Post} {c:Code} {tm:Tm} {ob ob':List (Option Ob)} {nt:Nat} {gh:List Tm} {ls:Option Code}
@[simp] theorem inv_gap (o:Nat) (r:List (Option Nat)):inv (none::r) o=(inv r o).map (·+1):=by
 unfold inv
 rw[List.findIdx?_cons]
 rfl
end Go.Proofs.YtlbdhlbbkibgpaaGreat
namespace Go.Proofs.YtlbdhlbbkibgpaaGreat
open Go Go.RowKit
section
variable {P:Program} {R:Option Nat} {cx:Cx} {Q:Post} {c:Code} {tm:Tm} {ob ob':List (Option Ob)} {nt:Nat} {gh:List Tm} {ls:Option Code}
theorem Weak.nilCellR (o j sz:Nat) {z:Ob} (hz:ob[o]?=some (some z)) (hj:z.cs[j]?=some (.s (.slice none 0 0))) :
  Weak cx ⟨tm,ob,nt,gh,ls⟩ ⟨tm,ob.set o (some { z with cs:=z.cs.set j (.d false sz []) }),nt,gh,ls⟩:=by
 intro σ a w hr
 have hl:o<ob.length:=(List.getElem?_eq_some_iff.1 hz).1
 have hO:=hr.h.obs o z hz
 have hbl:∃ b k,σ o=some (some (b,k)):=by
  match hb:σ o with
  |none=>rw[hb] at hO;exact hO.elim
  |some none =>
   rw[hb] at hO
   rw[hO.2.1] at hj
   simp at hj
  |some (some (b,k))=>exact⟨b,k,rfl⟩
 obtain⟨b,k,hb⟩:=hbl
 rw[hb] at hO
 obtain⟨vs,rest,g1,g2,g4,g5⟩:=hO
 have hall:All2 (RelL w (Xd cx w σ ob) (Xe w σ ob) σ) vs (z.cs.set j (.d false sz [])):=by
  obtain⟨v,hv,hvr⟩:=g2.at j hj
  have hrel:RelL w (Xd cx w σ ob) (Xe w σ ob) σ v (.d false sz []):=by
   have e:=hvr.1
   show Rd w _ _ _
   rw[e]
   exact .sl none 0 0 sz [] 0 0 (fun _ _=>undef) rfl (Nat.le_refl _) (by omega) (fun e he=>by simp at he) (fun h=>by omega) (fun _=>rfl) (fun i j hi=>by omega) (fun i j e t he=>by simp at he)
  have:=g2.set j hrel
  have e:vs.set j v=vs:=by
   apply List.ext_getElem?
   intro i
   by_cases h:j=i
   ·subst h
    rw[List.getElem?_set_self (List.getElem?_eq_some_iff.1 hv).1,hv]
   ·rw[List.getElem?_set_ne h]
  rwa [e] at this
 have hwr:=hr.write (x':={ z with cs:=z.cs.set j (.d false sz []) }) hz hb vs rest hall rfl rfl (fun h=>g4 h) (fun h=>g5 h)
 refine Exists.intro σ ?_
 have e1:w.setRow b (vs++rest).toArray=w:=setRow_self _ _ _ _ _ g1
 rw[e1] at hwr
 exact hwr
theorem AW.nilCellR (o j sz:Nat) {z:Ob} (hz:ob[o]?=some (some z)) (hj:z.cs[j]?=some (.s (.slice none 0 0))) (ho:ob.set o (some { z with cs:=z.cs.set j (.d false sz []) })=ob') (k:AW P R cx c Q ⟨tm,ob',nt,gh,ls⟩):AW P R cx c Q ⟨tm,ob,nt,gh,ls⟩:=by
 subst ho
 exact AW.weak (Weak.nilCellR (z:=z) o j sz hz hj) k
end
end Go.Proofs.YtlbdhlbbkibgpaaGreat
namespace Go.Proofs.YtlbdhlbbkibgpaaGreat
open Go Go.RowKit
def Dq (n:Nat) (a0:List Pair) (a1:Effect):Option (List Pair) :=
bn (iter n (fun (y1:Bool×Int×List Pair) =>
lt (lenI a0) fun v4 =>
lt (ltI y1.2.1 v4) fun v5 =>
ite' v5 (bn (bn (bn (lt (notB y1.1) fun v9 =>
ite' v9 (bn (nth a0 y1.2.1) fun v10 =>
lt (geS v10.key a1.key) fun v11 =>
some (v11)) (some (false))) fun (y8:Bool) =>
lt (y8) fun v12 =>
ite' v12 (chk (room (y1.2.2.length+1) 96) <|
lt (y1.2.2++[(⟨a1.key,a1.item⟩:Pair)]) fun v14 =>
some ((true,v14))) (some ((y1.1,y1.2.2)))) fun (y7:Bool×List Pair) =>
bn (nth a0 y1.2.1) fun v15 =>
lt (neS v15.key a1.key) fun v16 =>
ite' v16 (chk (room (y7.2.length+1) 96) <|
lt (y7.2++[v15]) fun v18 =>
some ((y7.1,v18))) (some ((y7.1,y7.2)))) fun (y6:Bool×List Pair) =>
lt (addI .i64 y1.2.1 1) fun v19 =>
some (.inl (y6.1,v19,y6.2))) (some (.inr (y1.1,y1.2.2)))) (a1.gone,0,[])) fun (y2:Bool×List Pair) =>
bn (lt (notB y2.1) fun v21 =>
ite' v21 (chk (room (y2.2.length+1) 96) <|
lt (y2.2++[(⟨a1.key,a1.item⟩:Pair)]) fun v23 =>
some (v23)) (some (y2.2))) fun (y20:List Pair) =>
chk (room y20.length 1) <|
some y20
def DY1t1:List DI:=[⟨[0],[],[(6,none)],false⟩,⟨[0],[0],[(16,some 0)],false⟩,⟨[0],[0,1],[(17,some 1)],false⟩,⟨[0],[0,1,2],[(0,none),(18,some 2)],false⟩,⟨[0],[0,1,2],[(7,none),(18,some 2)],false⟩,⟨[0],[0,1,2,3,4],[(18,some 2),(19,some 3),(20,some 4)],false⟩,⟨[0],[0,1,2,3,4,5],[(18,some 2),(21,some 5)],false⟩,⟨[0],[0,1,2,3,4,5,6],[(18,some 2),(22,some 6)],false⟩,⟨[0],[0,1,2],[(3,none),(18,some 2)],false⟩,⟨[0],[0,1,2,8],[(18,some 2),(24,some 8)],false⟩,⟨[],[0,1,2,3,4,5,6,7,8,9],[],false⟩,⟨[],[0,1,2,3,4,5,6,7,8,9,10],[],false⟩]
theorem Mb {n:Nat} {a0:List Pair} {a1:Effect} {r:List Pair} (h:Dq n a0 a1=some r):Sound Tryz.prog 97 [.l (.d false 6 (encPair a0)),.g [.s (.string a1.key),.s (.bool a1.gone),.s (.int .i64 a1.item.kind),.s (.string a1.item.s),.d false 2 (encField a1.item.f),.d false 1 (encS a1.item.l),.s (.int .i64 a1.item.exp)]] [] (.l (.d false 6 (encPair r))) []:=by
 unfold Dq at h
 refine Sound.of_aw (fn:=Tryz.f97) (c:=_) Tryz.func97 rfl (by simp[Tryz.f97]) fun cx hG hnb=>?_
 rw[show Tryz.f97.ntmps=62 from rfl]
 have hn0:cx.nb=0:=hnb
 simp only[An,initTm,List.map_cons,List.map_nil]
 apply AW.step
 ·simp
  intros;rfl
 apply AW.step
 ·simp
  intros;rfl
 apply AW.step
 ·simp
  intros;rfl
 refine AW.seq ?_
 apply AW.step
 ·simp
  intros;rfl
 refine AW.block ?_
 replace h:=bnE h;obtain⟨y2,g2,h⟩:=h
 refine AW.iterP g2 (mk:=fun gh ls q=>(⟨[(0,.l (.d false 6 (encPair a0))),(3,.l (.p 0 0)),(5,.l (.r 1 6 0 q.2.2.length)),(6,.l (.s (.bool q.1))),(7,.l (.s (.int .i64 q.2.1)))],[some ⟨59,7,false,none,[.s (.string a1.key),.s (.bool a1.gone),.s (.int .i64 a1.item.kind),.s (.string a1.item.s),.d false 2 (encField a1.item.f),.d false 1 (encS a1.item.l),.s (.int .i64 a1.item.exp)]⟩,some ⟨114,6,true,none,lvs (encPair q.2.2)⟩],62,gh,ls⟩:St)) (N:=fun gh ls=>(xP 0 (cx:=cx) (fun q=>(⟨[(3,.l (.p 0 0)),(5,.l (.r 1 6 0 q.2.length)),(6,.l (.s (.bool q.1)))],[some ⟨59,7,false,none,[.s (.string a1.key),.s (.bool a1.gone),.s (.int .i64 a1.item.kind),.s (.string a1.item.s),.d false 2 (encField a1.item.f),.d false 1 (encS a1.item.l),.s (.int .i64 a1.item.exp)]⟩,some ⟨114,6,true,none,lvs (encPair q.2)⟩],62,gh,ls⟩:St)))) ?_ noX ?_ ?_
 ·refine W.nilRow 5 114 6 1 (by simp) rfl rfl ?_
  refine Weak.mixN [some 0,some 1] hn0 (by decide) ?_ ?_ rfl
  all_goals first|(simp[Ab,Ac,pickOb];done)|rfl
 ·clear h;intro y1 y3 h
  refine AW.seq ?_
  replace h:=ltE h;obtain⟨v4,e4,h⟩:=h
  replace h:=ltE h;obtain⟨v5,e5,h⟩:=h
  apply AW.step
  ·simp[Aa e4,← e5]
   intros;rfl
  cases v5 with
  |true =>
   replace h:=iteT rfl h
   refine AW.cond_true (by simp) ?_
   refine AW.skip ?_
   try simp only[nm]
   replace h:=bnE h;obtain⟨y6,g6,h⟩:=h
   refine AW.flow (p:=fun gh ls=>(nP (cx:=cx) (fun q=>(⟨[(0,.l (.d false 6 (encPair a0))),(3,.l (.p 0 0)),(5,.l (.r 1 6 0 q.2.length)),(6,.l (.s (.bool q.1))),(7,.l (.s (.int .i64 y1.2.1)))],[some ⟨59,7,false,none,[.s (.string a1.key),.s (.bool a1.gone),.s (.int .i64 a1.item.kind),.s (.string a1.item.s),.d false 2 (encField a1.item.f),.d false 1 (encS a1.item.l),.s (.int .i64 a1.item.exp)]⟩,some ⟨114,6,true,none,lvs (encPair q.2)⟩],62,gh,ls⟩:St))) y6) ?_ ?_
   ·replace h:=g6;clear g6
    refine AW.block ?_
    replace h:=bnE h;obtain⟨y7,g7,h⟩:=h
    refine AW.flow (p:=fun gh ls=>(nP (cx:=cx) (fun q=>(⟨[(0,.l (.d false 6 (encPair a0))),(3,.l (.p 0 0)),(5,.l (.r 1 6 0 q.2.length)),(6,.l (.s (.bool q.1))),(7,.l (.s (.int .i64 y1.2.1)))],[some ⟨59,7,false,none,[.s (.string a1.key),.s (.bool a1.gone),.s (.int .i64 a1.item.kind),.s (.string a1.item.s),.d false 2 (encField a1.item.f),.d false 1 (encS a1.item.l),.s (.int .i64 a1.item.exp)]⟩,some ⟨114,6,true,none,lvs (encPair q.2)⟩],62,gh,ls⟩:St))) y7) ?_ ?_
    ·replace h:=g7;clear g7
     replace h:=bnE h;obtain⟨y8,g8,h⟩:=h
     refine AW.flow (p:=fun gh ls=>(nP (cx:=cx) (fun q=>(⟨[(0,.l (.d false 6 (encPair a0))),(3,.l (.p 0 0)),(5,.l (.r 1 6 0 y1.2.2.length)),(6,.l (.s (.bool y1.1))),(7,.l (.s (.int .i64 y1.2.1))),(27,.l (.s (.bool q)))],[some ⟨59,7,false,none,[.s (.string a1.key),.s (.bool a1.gone),.s (.int .i64 a1.item.kind),.s (.string a1.item.s),.d false 2 (encField a1.item.f),.d false 1 (encS a1.item.l),.s (.int .i64 a1.item.exp)]⟩,some ⟨114,6,true,none,lvs (encPair y1.2.2)⟩],62,gh,ls⟩:St))) y8) ?_ ?_
     ·replace h:=g8;clear g8
      replace h:=ltE h;obtain⟨v9,e9,h⟩:=h
      cases v9 with
      |true =>
       replace h:=iteT rfl h
       replace h:=bnE h;obtain⟨v10,e10,h⟩:=h
       replace h:=ltE h;obtain⟨v11,e11,h⟩:=h
       apply AW.drawnR (V:=[_,_,_,_,_,_,_,_,_,_]) mixed DY1t1 10 (by kernel_rfl) (by kernel_rfl)
       ·refine⟨?_,?_,?_,?_,?_,?_,?_,?_,?_,?_,trivial⟩
        iterate 10 (· intro tm hr;simp[AllL,rdV] at hr;simp[hr,← e9,Ad e10,← e11];intros;first|exact KD.mk|exact KD.mkN)
       ·rfl
       ·simp[tmD,putD,← e9,Ad e10,← e11];rfl
       ·simp[← e9,Ad e10,← e11]
        intros;rfl
       obtain rfl:=oi h
       refine nP_i ?_
       refine Weak.mixN [some 0,some 1] hn0 (by decide) ?_ ?_ rfl
       all_goals first|(simp[Ab,Ac,pickOb];done)|rfl
      |false =>
       replace h:=iteF rfl h
       apply AW.drawnR (V:=[_,_,_,_,_,_,_,_,_,_]) mixed DY1t1 10 (by kernel_rfl) (by kernel_rfl)
       ·refine⟨?_,?_,?_,?_,?_,?_,?_,?_,?_,?_,trivial⟩
        iterate 10 (· intro tm hr;simp[AllL,rdV] at hr;simp[hr,← e9];intros;first|exact KD.mk|exact KD.mkN)
       ·rfl
       ·simp[tmD,putD,← e9];rfl
       ·simp[← e9]
        intros;rfl
       obtain rfl:=oi h
       refine nP_i ?_
       refine Weak.mixN [some 0,some 1] hn0 (by decide) ?_ ?_ rfl
       all_goals first|(simp[Ab,Ac,pickOb];done)|rfl
     ·rintro e s hp
      obtain⟨rfl,hw⟩:=hp
      refine⟨_,hw,?_⟩
      try simp only[nm]
      replace h:=ltE h;obtain⟨v12,e12,h⟩:=h
      rw[← e12]
      cases v12 with
      |true =>
       replace h:=iteT rfl h
       refine AW.cond_true (by simp) ?_
       replace h:=chkE h;obtain⟨e13,h⟩:=h
       replace h:=ltE h;obtain⟨v14,e14,h⟩:=h
       apply AW.step
       ·simp[← AX,← e14,Ao e14]
        intros
        refine Av ?_
        try simp[← AX,← e14,Ao e14]
        intros
        refine AJ (acc:=encPair y1.2.2) (ys:=encPair [(⟨a1.key,a1.item⟩:Pair)]) (cap:=none) (k:=1) BH Bu (by simp) (by simp[encPair,lvs]) (Ax _) (by simp) (by simp) (by first|(simp;done)|simpa using (Ah e13).1) ?_
        try simp[← AX,← e14,Ao e14]
        intros;rfl
       apply AW.last
       ·simp
        intros;rfl
       obtain rfl:=oi h
       refine nP_i ?_
       refine Weak.mixN [some 0,some 3] hn0 (by decide) ?_ ?_ rfl
       all_goals first|(simp[Ab,Ac,pickOb,D3];done)|rfl
      |false =>
       replace h:=iteF rfl h
       refine AW.cond_false (by simp) ?_
       refine AW.skip ?_
       try simp only[nm]
       obtain rfl:=oi h
       refine nP_i ?_
       refine Weak.mixN [some 0,some 1] hn0 (by decide) ?_ ?_ rfl
       all_goals first|(simp[Ab,Ac,pickOb];done)|rfl
    ·rintro e s hp
     obtain⟨rfl,hw⟩:=hp
     refine⟨_,hw,?_⟩
     try simp only[nm]
     replace h:=bnE h;obtain⟨v15,e15,h⟩:=h
     replace h:=ltE h;obtain⟨v16,e16,h⟩:=h
     apply AW.drawnP (V:=[_,_,_,_,_,_,_]) mixed [⟨[0],[],[(0,none)],false⟩,⟨[0],[],[(7,none)],false⟩,⟨[0],[0,1],[(36,some 0),(37,some 1)],false⟩,⟨[0],[0,1,2],[(38,some 2)],false⟩,⟨[0],[0,1,2,3],[(39,some 3)],false⟩,⟨[0],[],[(3,none)],false⟩,⟨[0],[5],[(41,some 5)],false⟩,⟨[],[0,1,2,3,4,5,6],[],false⟩] 7 (by kernel_rfl) (by kernel_rfl)
     ·refine⟨?_,?_,?_,?_,?_,?_,?_,trivial⟩
      iterate 7 (· intro tm hr;simp[AllL,rdV] at hr;simp[hr,Ad e15,← e16];intros;first|exact KD.mk|exact KD.mkN)
     ·rfl
     ·simp[tmD,putD,Ad e15,← e16];rfl
     ·simp[Ad e15,← e16]
      intros;rfl
     cases v16 with
     |true =>
      replace h:=iteT rfl h
      refine AW.cond_true (by simp) ?_
      replace h:=chkE h;obtain⟨e17,h⟩:=h
      replace h:=ltE h;obtain⟨v18,e18,h⟩:=h
      apply AW.last
      ·simp[Ad e15,← AX,← e18,Ao e18]
       intros
       refine Av ?_
       try simp[Ad e15,← AX,← e18,Ao e18]
       intros
       refine AJ (acc:=encPair y7.2) (ys:=encPair [v15]) (cap:=none) (k:=1) BH Bu (by simp) (by simp[encPair,lvs]) (Ax _) (by simp) (by simp) (by first|(simp;done)|simpa using (Ah e17).1) ?_
       try simp[Ad e15,← AX,← e18,Ao e18]
       intros;rfl
      obtain rfl:=oi h
      refine nP_i ?_
      refine Weak.mixN [some 0,some 3] hn0 (by decide) ?_ ?_ rfl
      all_goals first|(simp[Ab,Ac,pickOb,D3];done)|rfl
     |false =>
      replace h:=iteF rfl h
      refine AW.cond_false (by simp) ?_
      refine AW.skip ?_
      try simp only[nm]
      obtain rfl:=oi h
      refine nP_i ?_
      refine Weak.mixN [some 0,some 1] hn0 (by decide) ?_ ?_ rfl
      all_goals first|(simp[Ab,Ac,pickOb];done)|rfl
   ·rintro e s hp
    obtain⟨rfl,hw⟩:=hp
    refine⟨_,hw,?_⟩
    try simp only[nm]
    replace h:=ltE h;obtain⟨v19,e19,h⟩:=h
    apply AW.last
    ·simp[← e19]
     intros;rfl
    obtain rfl:=oi h
    refine nP_i ?_
    refine Weak.mixN [some 0,some 1] hn0 (by decide) ?_ ?_ rfl
    all_goals first|(simp[Ab,Ac,pickOb];done)|rfl
  |false =>
   replace h:=iteF rfl h
   refine AW.cond_false (by simp) ?_
   refine AW.exit ?_
   try simp only[nm]
   obtain rfl:=oi h
   refine xP_i ?_
   refine Weak.mixN [some 0,some 1] hn0 (by decide) ?_ ?_ rfl
   all_goals first|(simp[Ab,Ac,pickOb];done)|rfl
 ·rintro e s hp
  obtain⟨rfl,hw⟩:=hp
  refine⟨_,hw,?_⟩
  try simp only[nm]
  replace h:=bnE h;obtain⟨y20,g20,h⟩:=h
  refine AW.flow (p:=fun gh ls=>(nP (cx:=cx) (fun q=>(⟨[(5,.l (.r 0 6 0 q.length))],[some ⟨114,6,true,none,lvs (encPair q)⟩],62,gh,ls⟩:St))) y20) ?_ ?_
  ·replace h:=g20;clear g20
   replace h:=ltE h;obtain⟨v21,e21,h⟩:=h
   apply AW.step
   ·simp[← e21]
    intros;rfl
   cases v21 with
   |true =>
    replace h:=iteT rfl h
    refine AW.cond_true (by simp) ?_
    replace h:=chkE h;obtain⟨e22,h⟩:=h
    replace h:=ltE h;obtain⟨v23,e23,h⟩:=h
    apply AW.last
    ·simp[← AX,← e23,Ao e23]
     intros
     refine Av ?_
     try simp[← AX,← e23,Ao e23]
     intros
     refine AJ (acc:=encPair y2.2) (ys:=encPair [(⟨a1.key,a1.item⟩:Pair)]) (cap:=none) (k:=1) BH Bu (by simp) (by simp[encPair,lvs]) (Ax _) (by simp) (by simp) (by first|(simp;done)|simpa using (Ah e22).1) ?_
     try simp[← AX,← e23,Ao e23]
     intros;rfl
    obtain rfl:=oi h
    refine nP_i ?_
    refine Weak.mixN [some 3] hn0 (by decide) ?_ ?_ rfl
    all_goals first|(simp[Ab,Ac,pickOb,D3];done)|rfl
   |false =>
    replace h:=iteF rfl h
    refine AW.cond_false (by simp) ?_
    refine AW.skip ?_
    try simp only[nm]
    obtain rfl:=oi h
    refine nP_i ?_
    refine Weak.mixN [some 1] hn0 (by decide) ?_ ?_ rfl
    all_goals first|(simp[Ab,Ac,pickOb];done)|rfl
  ·rintro e s hp
   obtain⟨rfl,hw⟩:=hp
   refine⟨_,hw,?_⟩
   try simp only[nm]
   apply AW.step
   ·simp
    intros;rfl
   replace h:=chkE h;obtain⟨e24,h⟩:=h
   refine AW.frzRow 0 (ty:=114) (cap:=none) (sz:=6) (es:=encPair y20) (by simp) (by omega) (Ax _) (by first|exact (Ah e24).2|simpa using (Ah e24).2|simp) (by simp[Tm.frz,AV.frz,LV.frz];rfl) (by simp[Ob.frz,LV.frz];rfl) rfl ?_
   obtain rfl:=oi h
   refine AW.ret ?_
   refine Left.plain hnb (by simp[Tryz.f97,resV,resC,comp];rfl) rfl rfl ?_
   simp
theorem K0:Enters Tryz.prog 97:=enters Tryz.func97 (by kernel_rfl) rfl
def Dr (n:Nat) (a0:List Pair) (a1:List Effect):Option (List Pair) :=
chk (room a0.length 96) <|
chk (room a0.length 1) <|
bn (iter n (fun (y2:List Pair×Int) =>
lt (lenI a1) fun v6 =>
lt (ltI y2.2 v6) fun v7 =>
ite' v7 (bn (nth a1 y2.2) fun v8 =>
bn (Dq n y2.1 v8) fun v9 =>
lt (addI .i64 y2.2 1) fun v10 =>
some (.inl (v9,v10))) (some (.inr y2.1))) (a0,0)) fun (y3:List Pair) =>
some y3
theorem Mc {n:Nat} {a0:List Pair} {a1:List Effect} {r:List Pair} (h:Dr n a0 a1=some r):Sound Tryz.prog 61 [.l (.d false 6 (encPair a0)),.l (.d false 7 (encEffect a1))] [] (.l (.d false 6 (encPair r))) []:=by
 unfold Dr at h
 refine Sound.of_aw (fn:=Tryz.f61) (c:=_) Tryz.func61 rfl (by simp[Tryz.f61]) fun cx hG hnb=>?_
 rw[show Tryz.f61.ntmps=23 from rfl]
 have hn0:cx.nb=0:=hnb
 simp only[An,initTm,List.map_cons,List.map_nil]
 apply AW.step
 ·simp
  intros;rfl
 replace h:=chkE h;obtain⟨e1,h⟩:=h
 apply AW.step
 ·simp
  intros
  refine Av ?_
  try simp
  intros
  refine AJ (acc:=[]) (ys:=encPair a0) (cap:=none) (k:=a0.length) BH Bu (by simp) (by rw[N5];simp) (by simp) (by simp) (by simp) (by first|(simp;done)|simpa using (Ah e1).1) ?_
  try simp
  intros;rfl
 refine AW.seq ?_
 apply AW.step
 ·simp
  intros;rfl
 refine AW.block ?_
 replace h:=chkE h;obtain⟨e4,h⟩:=h
 replace h:=bnE h;obtain⟨y3,g3,h⟩:=h
 refine AW.iterP g3 (mk:=fun gh ls q=>(⟨[(1,.l (.d false 7 (encEffect a1))),(5,.l (.d false 6 (encPair q.1))),(6,.l (.s (.int .i64 q.2)))],[],23,gh,ls⟩:St)) (N:=fun gh ls=>(xP 0 (cx:=cx) (fun q=>(⟨[(5,.l (.d false 6 (encPair q)))],[],23,gh,ls⟩:St)))) ?_ noX ?_ ?_
 ·refine W.frzRow 1 (ty:=114) (cap:=none) (sz:=6) (es:=encPair a0) (by simp) (by omega) (Ax _) (by first|exact (Ah e4).2|simpa using (Ah e4).2|simp) (by simp[Tm.frz,AV.frz,LV.frz];rfl) (by simp[Ob.frz,LV.frz];rfl) rfl ?_
  refine Weak.mixN [] hn0 (by decide) ?_ ?_ rfl
  all_goals first|(simp[Ab,Ac,pickOb];done)|rfl
 ·clear h;intro y2 y5 h
  refine AW.seq ?_
  replace h:=ltE h;obtain⟨v6,e6,h⟩:=h
  replace h:=ltE h;obtain⟨v7,e7,h⟩:=h
  apply AW.step
  ·simp[Aa e6,← e7]
   intros;rfl
  cases v7 with
  |true =>
   replace h:=iteT rfl h
   refine AW.cond_true (by simp) ?_
   refine AW.skip ?_
   try simp only[nm]
   refine AW.seq ?_
   refine AW.block ?_
   replace h:=bnE h;obtain⟨v8,e8,h⟩:=h
   replace h:=bnE h;obtain⟨v9,e9,h⟩:=h
   apply AW.last
   ·simp[Ad e8]
    intros
    refine Ae K0 (Mb e9) rfl ⟨.same rfl,.same rfl,trivial⟩ ?_
    try simp[Ad e8]
    intros;rfl
   try simp only[nm]
   replace h:=ltE h;obtain⟨v10,e10,h⟩:=h
   apply AW.last
   ·simp[← e10]
    intros;rfl
   obtain rfl:=oi h
   refine nP_i ?_
   refine Weak.mixN [] hn0 (by decide) ?_ ?_ rfl
   all_goals first|(simp[Ab,Ac,pickOb];done)|rfl
  |false =>
   replace h:=iteF rfl h
   refine AW.cond_false (by simp) ?_
   refine AW.exit ?_
   try simp only[nm]
   obtain rfl:=oi h
   refine xP_i ?_
   refine Weak.mixN [] hn0 (by decide) ?_ ?_ rfl
   all_goals first|(simp[Ab,Ac,pickOb];done)|rfl
 ·rintro e s hp
  obtain⟨rfl,hw⟩:=hp
  refine⟨_,hw,?_⟩
  try simp only[nm]
  apply AW.step
  ·simp
   intros;rfl
  obtain rfl:=oi h
  refine AW.ret ?_
  refine Left.plain hnb (by simp[Tryz.f61,resV,resC,comp];rfl) rfl rfl ?_
  simp
theorem K1:Enters Tryz.prog 61:=enters Tryz.func61 (by kernel_rfl) rfl
def DV (n:Nat) (a0:List Pair) (a1:ByteArray):Option R5Got :=
bn (iter n (fun (y1:Int) =>
lt (lenI a0) fun v4 =>
lt (ltI y1 v4) fun v5 =>
ite' v5 (bn (nth a0 y1) fun v6 =>
lt (eqS v6.key a1) fun v7 =>
ite' v7 (some (.inr (.inr (⟨v6.item,true⟩:R5Got)))) (lt (addI .i64 y1 1) fun v8 =>
some (.inl v8))) (some (.inr (.inl ())))) 0) fun (y2:Unit ⊕ R5Got) =>
sm y2 (fun y9=>some (⟨(⟨0,⟨#[]⟩,[],[],0⟩:Item),false⟩:R5Got)) (fun y10=>some y10)
theorem Ck {n:Nat} {a0:List Pair} {a1:ByteArray} {r:R5Got} (h:DV n a0 a1=some r):Sound Tryz.prog 17 [.l (.d false 6 (encPair a0)),.l (.s (.string a1))] [] (.g [.s (.int .i64 r.i.kind),.s (.string r.i.s),.d false 2 (encField r.i.f),.d false 1 (encS r.i.l),.s (.int .i64 r.i.exp),.s (.bool r.ok)]) []:=by
 unfold DV at h
 refine Sound.of_aw (fn:=Tryz.f17) (c:=_) Tryz.func17 rfl (by simp[Tryz.f17]) fun cx hG hnb=>?_
 rw[show Tryz.f17.ntmps=26 from rfl]
 have hn0:cx.nb=0:=hnb
 simp only[An,initTm,List.map_cons,List.map_nil]
 apply AW.step
 ·simp
  intros;rfl
 refine AW.seq ?_
 apply AW.step
 ·simp
  intros;rfl
 refine AW.block ?_
 replace h:=bnE h;obtain⟨y2,g2,h⟩:=h
 refine AW.iterP g2 (mk:=fun gh ls q=>(⟨[(0,.l (.d false 6 (encPair a0))),(1,.l (.s (.string a1))),(4,.l (.p 0 0)),(5,.l (.s (.int .i64 q)))],[some ⟨62,6,false,none,[.s (.int .i64 0),.s (.string ⟨#[]⟩),.s (.slice none 0 0),.s (.slice none 0 0),.s (.int .i64 0),.s (.bool false)]⟩],26,gh,ls⟩:St)) (N:=fun gh ls=>(sp (xP 0 (cx:=cx) (fun _=>(⟨[(4,.l (.p 0 0))],[some ⟨62,6,false,none,[.s (.int .i64 0),.s (.string ⟨#[]⟩),.s (.slice none 0 0),.s (.slice none 0 0),.s (.int .i64 0),.s (.bool false)]⟩],26,gh,ls⟩:St))) (rP (cx:=cx) (P:=Tryz.prog) Tryz.f17 (fun q=>.g [.s (.int .i64 q.i.kind),.s (.string q.i.s),.d false 2 (encField q.i.f),.d false 1 (encS q.i.l),.s (.int .i64 q.i.exp),.s (.bool q.ok)]) (fun q=>[])))) ?_ (noS noX noR) ?_ ?_
 ·refine Weak.mixN [some 0] hn0 (by decide) ?_ ?_ rfl
  all_goals first|(simp[Ab,Ac,pickOb];done)|rfl
 ·clear h;intro y1 y3 h
  refine AW.seq ?_
  replace h:=ltE h;obtain⟨v4,e4,h⟩:=h
  replace h:=ltE h;obtain⟨v5,e5,h⟩:=h
  apply AW.step
  ·simp[Aa e4,← e5]
   intros;rfl
  cases v5 with
  |true =>
   replace h:=iteT rfl h
   refine AW.cond_true (by simp) ?_
   refine AW.skip ?_
   try simp only[nm]
   refine AW.seq ?_
   refine AW.block ?_
   replace h:=bnE h;obtain⟨v6,e6,h⟩:=h
   replace h:=ltE h;obtain⟨v7,e7,h⟩:=h
   apply AW.step
   ·simp[Ad e6,← e7]
    intros;rfl
   cases v7 with
   |true =>
    replace h:=iteT rfl h
    refine AW.cond_true (by simp) ?_
    apply AW.step
    ·simp[Ad e6]
     intros;rfl
    obtain rfl:=oi h
    refine AW.ret ?_
    try simp only[nm]
    refine rP_i ?_
    refine Left.plain hnb (by simp[Tryz.f17,resV,resC,comp];rfl) rfl rfl ?_
    simp
   |false =>
    replace h:=iteF rfl h
    refine AW.cond_false (by simp) ?_
    refine AW.skip ?_
    try simp only[nm]
    replace h:=ltE h;obtain⟨v8,e8,h⟩:=h
    apply AW.last
    ·simp[← e8]
     intros;rfl
    obtain rfl:=oi h
    refine nP_i ?_
    refine Weak.mixN [some 0] hn0 (by decide) ?_ ?_ rfl
    all_goals first|(simp[Ab,Ac,pickOb];done)|rfl
  |false =>
   replace h:=iteF rfl h
   refine AW.cond_false (by simp) ?_
   refine AW.exit ?_
   try simp only[nm]
   obtain rfl:=oi h
   try simp only[sp_l,sp_r]
   refine xP_i ?_
   refine Weak.mixN [some 0] hn0 (by decide) ?_ ?_ rfl
   all_goals first|(simp[Ab,Ac,pickOb];done)|rfl
 ·rintro e s hp
  rcases y2 with y9|y10
  ·replace h:=smL h
   obtain⟨rfl,hw⟩:=hp
   refine⟨_,hw,?_⟩
   try simp only[nm]
   apply AW.step
   ·simp
    intros;rfl
   refine AW.nilCellD 0 2 2 rfl rfl rfl rfl ?_
   refine AW.nilCellD 0 3 1 rfl rfl rfl rfl ?_
   obtain rfl:=oi h
   refine AW.ret ?_
   refine Left.plain hnb (by simp[Tryz.f17,resV,resC,comp];rfl) rfl rfl ?_
   simp
  ·replace h:=smR h
   obtain⟨rfl,hl⟩:=hp
   refine⟨_,Weak.refl _,?_⟩
   obtain rfl:=oi h
   exact hl
theorem BR:Enters Tryz.prog 17:=enters Tryz.func17 (by kernel_rfl) rfl
def Cy (n:Nat) (a0:ByteArray):Option ByteArray :=
bn (iter n (fun (y1:Int) =>
lt (lenS a0) fun v4 =>
lt (ltI y1 v4) fun v5 =>
ite' v5 (bn (atS a0 y1) fun v6 =>
lt (neI v6 123) fun v8 =>
ite' v8 (lt (addI .i64 y1 1) fun v9 =>
some (.inl v9)) (lt (addI .i64 y1 1) fun v10 =>
bn (iter n (fun (y11:Int) =>
lt (lenS a0) fun v14 =>
lt (ltI y11 v14) fun v15 =>
ite' v15 (bn (atS a0 y11) fun v16 =>
lt (eqI v16 125) fun v18 =>
ite' v18 (lt (addI .i64 y1 1) fun v19 =>
lt (eqI y11 v19) fun v20 =>
ite' v20 (some (.inr (.inr a0))) (bn (segSlh a0 v19 y11) fun v21 =>
some (.inr (.inr v21)))) (lt (addI .i64 y11 1) fun v23 =>
some (.inl v23))) (some (.inr (.inl ())))) v10) fun (y12:Unit ⊕ ByteArray) =>
sm y12 (fun y24=>some (.inr (.inr a0))) (fun y25=>some (.inr (.inr y25))))) (some (.inr (.inl ())))) 0) fun (y2:Unit ⊕ ByteArray) =>
sm y2 (fun y26=>some a0) (fun y27=>some y27)
theorem NO {n:Nat} {a0:ByteArray} {r:ByteArray} (h:Cy n a0=some r):Sound Tryz.prog 31 [.l (.s (.string a0))] [] (.l (.s (.string r))) []:=by
 unfold Cy at h
 refine Sound.of_aw (fn:=Tryz.f31) (c:=_) Tryz.func31 rfl (by simp[Tryz.f31]) fun cx hG hnb=>?_
 rw[show Tryz.f31.ntmps=39 from rfl]
 have hn0:cx.nb=0:=hnb
 simp only[An,initTm,List.map_cons,List.map_nil]
 apply AW.step
 ·simp
  intros;rfl
 refine AW.seq ?_
 apply AW.step
 ·simp
  intros;rfl
 refine AW.block ?_
 replace h:=bnE h;obtain⟨y2,g2,h⟩:=h
 refine AW.iterP g2 (mk:=fun gh ls q=>(⟨[(0,.l (.s (.string a0))),(3,.l (.s (.int .i64 q)))],[],39,gh,ls⟩:St)) (N:=fun gh ls=>(sp (xP 0 (cx:=cx) (fun _=>(⟨[(0,.l (.s (.string a0)))],[],39,gh,ls⟩:St))) (rP (cx:=cx) (P:=Tryz.prog) Tryz.f31 (fun q=>.l (.s (.string q))) (fun q=>[])))) ?_ (noS noX noR) ?_ ?_
 ·refine Weak.mixN [] hn0 (by decide) ?_ ?_ rfl
  all_goals first|(simp[Ab,Ac,pickOb];done)|rfl
 ·clear h;intro y1 y3 h
  refine AW.seq ?_
  replace h:=ltE h;obtain⟨v4,e4,h⟩:=h
  replace h:=ltE h;obtain⟨v5,e5,h⟩:=h
  apply AW.step
  ·simp[← e4,← e5]
   intros;rfl
  cases v5 with
  |true =>
   replace h:=iteT rfl h
   refine AW.cond_true (by simp) ?_
   refine AW.skip ?_
   try simp only[nm]
   refine AW.seq ?_
   refine AW.block ?_
   refine AW.seq ?_
   replace h:=bnE h;obtain⟨v6,e6,h⟩:=h
   have f7:=JH e6
   try simp at f7
   replace h:=ltE h;obtain⟨v8,e8,h⟩:=h
   apply AW.step
   ·simp[f7,← e8]
    intros;rfl
   cases v8 with
   |true =>
    replace h:=iteT rfl h
    refine AW.cond_true (by simp) ?_
    refine AW.exit ?_
    try simp only[nm]
    replace h:=ltE h;obtain⟨v9,e9,h⟩:=h
    apply AW.last
    ·simp[← e9]
     intros;rfl
    obtain rfl:=oi h
    refine nP_i ?_
    refine Weak.mixN [] hn0 (by decide) ?_ ?_ rfl
    all_goals first|(simp[Ab,Ac,pickOb];done)|rfl
   |false =>
    replace h:=iteF rfl h
    refine AW.cond_false (by simp) ?_
    refine AW.skip ?_
    try simp only[nm]
    refine AW.seq ?_
    replace h:=ltE h;obtain⟨v10,e10,h⟩:=h
    apply AW.step
    ·simp[← e10]
     intros;rfl
    refine AW.block ?_
    replace h:=bnE h;obtain⟨y12,g12,h⟩:=h
    refine AW.iterP g12 (mk:=fun gh ls q=>(⟨[(0,.l (.s (.string a0))),(3,.l (.s (.int .i64 y1))),(4,.l (.s (.int .i64 q)))],[],39,gh,ls⟩:St)) (N:=fun gh ls=>(sp (xP 2 (cx:=cx) (fun _=>(⟨[(0,.l (.s (.string a0)))],[],39,gh,ls⟩:St))) (rP (cx:=cx) (P:=Tryz.prog) Tryz.f31 (fun q=>.l (.s (.string q))) (fun q=>[])))) ?_ (noS noX noR) ?_ ?_
    ·refine Weak.mixN [] hn0 (by decide) ?_ ?_ rfl
     all_goals first|(simp[Ab,Ac,pickOb];done)|rfl
    ·clear h;intro y11 y13 h
     refine AW.seq ?_
     replace h:=ltE h;obtain⟨v14,e14,h⟩:=h
     replace h:=ltE h;obtain⟨v15,e15,h⟩:=h
     apply AW.step
     ·simp[← e14,← e15]
      intros;rfl
     cases v15 with
     |true =>
      replace h:=iteT rfl h
      refine AW.cond_true (by simp) ?_
      refine AW.skip ?_
      try simp only[nm]
      refine AW.seq ?_
      refine AW.block ?_
      replace h:=bnE h;obtain⟨v16,e16,h⟩:=h
      have f17:=JH e16
      try simp at f17
      replace h:=ltE h;obtain⟨v18,e18,h⟩:=h
      apply AW.step
      ·simp[f17,← e18]
       intros;rfl
      cases v18 with
      |true =>
       replace h:=iteT rfl h
       refine AW.cond_true (by simp) ?_
       refine AW.seq ?_
       replace h:=ltE h;obtain⟨v19,e19,h⟩:=h
       replace h:=ltE h;obtain⟨v20,e20,h⟩:=h
       apply AW.step
       ·simp[← e19,← e20]
        intros;rfl
       cases v20 with
       |true =>
        replace h:=iteT rfl h
        refine AW.cond_true (by simp) ?_
        apply AW.step
        ·simp
         intros;rfl
        obtain rfl:=oi h
        refine AW.ret ?_
        try simp only[nm]
        refine rP_i ?_
        refine Left.plain hnb (by simp[Tryz.f31,resV,resC,comp];rfl) rfl rfl ?_
        simp
       |false =>
        replace h:=iteF rfl h
        refine AW.cond_false (by simp) ?_
        refine AW.skip ?_
        try simp only[nm]
        replace h:=bnE h;obtain⟨v21,e21,h⟩:=h
        have f22:=NL e21
        try simp[← e19] at f22
        apply AW.step
        ·simp[← e19,f22]
         intros;rfl
        obtain rfl:=oi h
        refine AW.ret ?_
        try simp only[nm]
        refine rP_i ?_
        refine Left.plain hnb (by simp[Tryz.f31,resV,resC,comp];rfl) rfl rfl ?_
        simp
      |false =>
       replace h:=iteF rfl h
       refine AW.cond_false (by simp) ?_
       refine AW.skip ?_
       try simp only[nm]
       replace h:=ltE h;obtain⟨v23,e23,h⟩:=h
       apply AW.last
       ·simp[← e23]
        intros;rfl
       obtain rfl:=oi h
       refine nP_i ?_
       refine Weak.mixN [] hn0 (by decide) ?_ ?_ rfl
       all_goals first|(simp[Ab,Ac,pickOb];done)|rfl
     |false =>
      replace h:=iteF rfl h
      refine AW.cond_false (by simp) ?_
      refine AW.exit ?_
      try simp only[nm]
      obtain rfl:=oi h
      try simp only[sp_l,sp_r]
      refine xP_i ?_
      refine Weak.mixN [] hn0 (by decide) ?_ ?_ rfl
      all_goals first|(simp[Ab,Ac,pickOb];done)|rfl
    ·rintro e s hp
     rcases y12 with y24|y25
     ·replace h:=smL h
      obtain⟨rfl,hw⟩:=hp
      refine⟨_,hw,?_⟩
      try simp only[nm]
      apply AW.step
      ·simp
       intros;rfl
      obtain rfl:=oi h
      refine AW.ret ?_
      try simp only[nm]
      refine rP_i ?_
      refine Left.plain hnb (by simp[Tryz.f31,resV,resC,comp];rfl) rfl rfl ?_
      simp
     ·replace h:=smR h
      obtain⟨rfl,hl⟩:=hp
      refine⟨_,Weak.refl _,?_⟩
      obtain rfl:=oi h
      first|exact rP_i hl|(simp only[sp_l,sp_r];exact rP_i hl)|(simp only[sp_l,sp_r,Post.seq,Post.block,Nat.reduceEqDiff,reduceIte,Nat.zero_ne_one,Nat.one_ne_zero];exact rP_i hl)
  |false =>
   replace h:=iteF rfl h
   refine AW.cond_false (by simp) ?_
   refine AW.exit ?_
   try simp only[nm]
   obtain rfl:=oi h
   try simp only[sp_l,sp_r]
   refine xP_i ?_
   refine Weak.mixN [] hn0 (by decide) ?_ ?_ rfl
   all_goals first|(simp[Ab,Ac,pickOb];done)|rfl
 ·rintro e s hp
  rcases y2 with y26|y27
  ·replace h:=smL h
   obtain⟨rfl,hw⟩:=hp
   refine⟨_,hw,?_⟩
   try simp only[nm]
   apply AW.step
   ·simp
    intros;rfl
   obtain rfl:=oi h
   refine AW.ret ?_
   refine Left.plain hnb (by simp[Tryz.f31,resV,resC,comp];rfl) rfl rfl ?_
   simp
  ·replace h:=smR h
   obtain⟨rfl,hl⟩:=hp
   refine⟨_,Weak.refl _,?_⟩
   obtain rfl:=oi h
   exact hl
theorem M9:Enters Tryz.prog 31:=enters Tryz.func31 (by kernel_rfl) rfl
def Ez (n:Nat) (a0:ByteArray):Option Int :=
bn (iter n (fun (y1:Int×Int) =>
lt (lenS a0) fun v4 =>
lt (ltI y1.2 v4) fun v5 =>
ite' v5 (bn (atS a0 y1.2) fun v6 =>
lt (cvI .i64 v6) fun v8 =>
bn (shlI .i64 v8 8) fun v9 =>
lt (xorI .i64 y1.1 v9) fun v10 =>
bn (iter n (fun (y11:Int×Int) =>
lt (ltI y11.2 8) fun v14 =>
ite' v14 (bn (bn (shlI .i64 y11.1 1) fun v16 =>
lt (geI v16 65536) fun v17 =>
ite' v17 (lt (xorI .i64 v16 4129) fun v18 =>
lt (andI .i64 v18 65535) fun v19 =>
some (v19)) (some (v16))) fun (y15:Int) =>
lt (addI .i64 y11.2 1) fun v20 =>
some (.inl (y15,v20))) (some (.inr y11.1))) (v10,0)) fun (y12:Int) =>
lt (addI .i64 y1.2 1) fun v21 =>
some (.inl (y12,v21))) (some (.inr y1.1))) (0,0)) fun (y2:Int) =>
some y2
theorem NP {n:Nat} {a0:ByteArray} {r:Int} (h:Ez n a0=some r):Sound Tryz.prog 30 [.l (.s (.string a0))] [] (.l (.s (.int .i64 r))) []:=by
 unfold Ez at h
 refine Sound.of_aw (fn:=Tryz.f30) (c:=_) Tryz.func30 rfl (by simp[Tryz.f30]) fun cx hG hnb=>?_
 rw[show Tryz.f30.ntmps=31 from rfl]
 have hn0:cx.nb=0:=hnb
 simp only[An,initTm,List.map_cons,List.map_nil]
 apply AW.step
 ·simp
  intros;rfl
 apply AW.step
 ·simp
  intros;rfl
 refine AW.seq ?_
 apply AW.step
 ·simp
  intros;rfl
 refine AW.block ?_
 replace h:=bnE h;obtain⟨y2,g2,h⟩:=h
 refine AW.iterP g2 (mk:=fun gh ls q=>(⟨[(0,.l (.s (.string a0))),(3,.l (.s (.int .i64 q.1))),(4,.l (.s (.int .i64 q.2)))],[],31,gh,ls⟩:St)) (N:=fun gh ls=>(xP 0 (cx:=cx) (fun q=>(⟨[(3,.l (.s (.int .i64 q)))],[],31,gh,ls⟩:St)))) ?_ noX ?_ ?_
 ·refine Weak.mixN [] hn0 (by decide) ?_ ?_ rfl
  all_goals first|(simp[Ab,Ac,pickOb];done)|rfl
 ·clear h;intro y1 y3 h
  refine AW.seq ?_
  replace h:=ltE h;obtain⟨v4,e4,h⟩:=h
  replace h:=ltE h;obtain⟨v5,e5,h⟩:=h
  apply AW.step
  ·simp[← e4,← e5]
   intros;rfl
  cases v5 with
  |true =>
   replace h:=iteT rfl h
   refine AW.cond_true (by simp) ?_
   refine AW.skip ?_
   try simp only[nm]
   refine AW.seq ?_
   refine AW.block ?_
   replace h:=bnE h;obtain⟨v6,e6,h⟩:=h
   have f7:=JH e6
   try simp at f7
   replace h:=ltE h;obtain⟨v8,e8,h⟩:=h
   replace h:=bnE h;obtain⟨v9,e9,h⟩:=h
   replace h:=ltE h;obtain⟨v10,e10,h⟩:=h
   apply AW.step
   ·simp[f7,← e8,e9,← e10]
    intros;rfl
   apply AW.step
   ·simp
    intros;rfl
   refine AW.block ?_
   replace h:=bnE h;obtain⟨y12,g12,h⟩:=h
   refine AW.iterP g12 (mk:=fun gh ls q=>(⟨[(0,.l (.s (.string a0))),(3,.l (.s (.int .i64 q.1))),(4,.l (.s (.int .i64 y1.2))),(5,.l (.s (.int .i64 q.2)))],[],31,gh,ls⟩:St)) (N:=fun gh ls=>(xP 2 (cx:=cx) (fun q=>(⟨[(0,.l (.s (.string a0))),(3,.l (.s (.int .i64 q))),(4,.l (.s (.int .i64 y1.2)))],[],31,gh,ls⟩:St)))) ?_ noX ?_ ?_
   ·refine Weak.mixN [] hn0 (by decide) ?_ ?_ rfl
    all_goals first|(simp[Ab,Ac,pickOb];done)|rfl
   ·clear h;intro y11 y13 h
    refine AW.seq ?_
    replace h:=ltE h;obtain⟨v14,e14,h⟩:=h
    apply AW.step
    ·simp[← e14]
     intros;rfl
    cases v14 with
    |true =>
     replace h:=iteT rfl h
     refine AW.cond_true (by simp) ?_
     refine AW.skip ?_
     try simp only[nm]
     replace h:=bnE h;obtain⟨y15,g15,h⟩:=h
     refine AW.flow (p:=fun gh ls=>(nP (cx:=cx) (fun q=>(⟨[(0,.l (.s (.string a0))),(3,.l (.s (.int .i64 q))),(4,.l (.s (.int .i64 y1.2))),(5,.l (.s (.int .i64 y11.2)))],[],31,gh,ls⟩:St))) y15) ?_ ?_
     ·replace h:=g15;clear g15
      refine AW.block ?_
      replace h:=bnE h;obtain⟨v16,e16,h⟩:=h
      apply AW.step
      ·simp[e16]
       intros;rfl
      replace h:=ltE h;obtain⟨v17,e17,h⟩:=h
      apply AW.step
      ·simp[← e17]
       intros;rfl
      cases v17 with
      |true =>
       replace h:=iteT rfl h
       refine AW.cond_true (by simp) ?_
       replace h:=ltE h;obtain⟨v18,e18,h⟩:=h
       replace h:=ltE h;obtain⟨v19,e19,h⟩:=h
       apply AW.last
       ·simp[← e18,← e19]
        intros;rfl
       obtain rfl:=oi h
       refine nP_i ?_
       refine Weak.mixN [] hn0 (by decide) ?_ ?_ rfl
       all_goals first|(simp[Ab,Ac,pickOb];done)|rfl
      |false =>
       replace h:=iteF rfl h
       refine AW.cond_false (by simp) ?_
       refine AW.skip ?_
       try simp only[nm]
       obtain rfl:=oi h
       refine nP_i ?_
       refine Weak.mixN [] hn0 (by decide) ?_ ?_ rfl
       all_goals first|(simp[Ab,Ac,pickOb];done)|rfl
     ·rintro e s hp
      obtain⟨rfl,hw⟩:=hp
      refine⟨_,hw,?_⟩
      try simp only[nm]
      replace h:=ltE h;obtain⟨v20,e20,h⟩:=h
      apply AW.last
      ·simp[← e20]
       intros;rfl
      obtain rfl:=oi h
      refine nP_i ?_
      refine Weak.mixN [] hn0 (by decide) ?_ ?_ rfl
      all_goals first|(simp[Ab,Ac,pickOb];done)|rfl
    |false =>
     replace h:=iteF rfl h
     refine AW.cond_false (by simp) ?_
     refine AW.exit ?_
     try simp only[nm]
     obtain rfl:=oi h
     refine xP_i ?_
     refine Weak.mixN [] hn0 (by decide) ?_ ?_ rfl
     all_goals first|(simp[Ab,Ac,pickOb];done)|rfl
   ·rintro e s hp
    obtain⟨rfl,hw⟩:=hp
    refine⟨_,hw,?_⟩
    try simp only[nm]
    replace h:=ltE h;obtain⟨v21,e21,h⟩:=h
    apply AW.last
    ·simp[← e21]
     intros;rfl
    obtain rfl:=oi h
    refine nP_i ?_
    refine Weak.mixN [] hn0 (by decide) ?_ ?_ rfl
    all_goals first|(simp[Ab,Ac,pickOb];done)|rfl
  |false =>
   replace h:=iteF rfl h
   refine AW.cond_false (by simp) ?_
   refine AW.exit ?_
   try simp only[nm]
   obtain rfl:=oi h
   refine xP_i ?_
   refine Weak.mixN [] hn0 (by decide) ?_ ?_ rfl
   all_goals first|(simp[Ab,Ac,pickOb];done)|rfl
 ·rintro e s hp
  obtain⟨rfl,hw⟩:=hp
  refine⟨_,hw,?_⟩
  try simp only[nm]
  apply AW.step
  ·simp
   intros;rfl
  obtain rfl:=oi h
  refine AW.ret ?_
  refine Left.plain hnb (by simp[Tryz.f30,resV,resC,comp];rfl) rfl rfl ?_
  simp
theorem Na:Enters Tryz.prog 30:=enters Tryz.func30 (by kernel_rfl) rfl
def CC (n:Nat) (a0:ByteArray):Option Int :=
bn (Cy n a0) fun v1 =>
bn (Ez n v1) fun v2 =>
bn (remI .i64 v2 16384) fun v3 =>
some v3
theorem Nb {n:Nat} {a0:ByteArray} {r:Int} (h:CC n a0=some r):Sound Tryz.prog 9 [.l (.s (.string a0))] [] (.l (.s (.int .i64 r))) []:=by
 unfold CC at h
 refine Sound.of_aw (fn:=Tryz.f9) (c:=_) Tryz.func9 rfl (by simp[Tryz.f9]) fun cx hG hnb=>?_
 rw[show Tryz.f9.ntmps=7 from rfl]
 have hn0:cx.nb=0:=hnb
 simp only[An,initTm,List.map_cons,List.map_nil]
 apply AW.step
 ·simp
  intros;rfl
 replace h:=bnE h;obtain⟨v1,e1,h⟩:=h
 replace h:=bnE h;obtain⟨v2,e2,h⟩:=h
 replace h:=bnE h;obtain⟨v3,e3,h⟩:=h
 apply AW.step
 ·simp[e3]
  intros
  refine Ae M9 (NO e1) rfl ⟨.same rfl,trivial⟩ ?_
  try simp[e3]
  intros
  refine Ae Na (NP e2) rfl ⟨.same rfl,trivial⟩ ?_
  try simp[e3]
  intros;rfl
 obtain rfl:=oi h
 refine AW.ret ?_
 refine Left.plain hnb (by simp[Tryz.f9,resV,resC,comp];rfl) rfl rfl ?_
 simp
theorem Md:Enters Tryz.prog 9:=enters Tryz.func9 (by kernel_rfl) rfl
def CW (n:Nat) (a0:Pair) (a1:ByteArray):Option Int :=
lt (cmpB a0.key a1) fun v1 =>
some v1
theorem FT {n:Nat} {a0:Pair} {a1:ByteArray} {r:Int} (h:CW n a0 a1=some r):Sound Tryz.prog 127 [.g [.s (.string a0.key),.s (.int .i64 a0.item.kind),.s (.string a0.item.s),.d false 2 (encField a0.item.f),.d false 1 (encS a0.item.l),.s (.int .i64 a0.item.exp)],.l (.s (.string a1))] [] (.l (.s (.int .i64 r))) []:=by
 unfold CW at h
 refine Sound.of_aw (fn:=Tryz.f127) (c:=_) Tryz.func127 rfl (by simp[Tryz.f127]) fun cx hG hnb=>?_
 rw[show Tryz.f127.ntmps=9 from rfl]
 have hn0:cx.nb=0:=hnb
 simp only[An,initTm,List.map_cons,List.map_nil]
 apply AW.step
 ·simp
  intros;rfl
 replace h:=ltE h;obtain⟨v1,e1,h⟩:=h
 apply AW.step
 ·simp[← e1]
  intros
  refine Ae Gf (GC a0.key a1) rfl ⟨.same rfl,.same rfl,trivial⟩ ?_
  try simp[← e1]
  intros;rfl
 obtain rfl:=oi h
 refine AW.ret ?_
 refine Left.plain hnb (by simp[Tryz.f127,resV,resC,comp];rfl) rfl rfl ?_
 simp
theorem Fw:Enters Tryz.prog 127:=enters Tryz.func127 (by kernel_rfl) rfl
def AH (n:Nat) (a0:List Pair) (a1:ByteArray):Option (Int×Bool) :=
lt (lenI a0) fun v1 =>
bn (iter n (fun (y2:Int×Int) =>
lt (ltI y2.1 y2.2) fun v5 =>
ite' v5 (lt (addI .i64 y2.1 y2.2) fun v6 =>
lt (cvI .u64 v6) fun v7 =>
bn (shrI .u64 v7 1) fun v8 =>
lt (cvI .i64 v8) fun v9 =>
bn (nth a0 v9) fun v10 =>
bn (CW n v10 a1) fun v11 =>
lt (ltI v11 0) fun v12 =>
ite' v12 (lt (addI .i64 v9 1) fun v13 =>
some (.inl (v13,y2.2))) (some (.inl (y2.1,v9)))) (some (.inr y2.1))) (0,v1)) fun (y3:Int) =>
bn (lt (ltI y3 v1) fun v15 =>
ite' v15 (bn (nth a0 y3) fun v16 =>
bn (CW n v16 a1) fun v17 =>
lt (eqI v17 0) fun v18 =>
some (v18)) (some (false))) fun (y14:Bool) =>
some (y3,y14)
theorem DL {n:Nat} {a0:List Pair} {a1:ByteArray} {r:Int×Bool} (h:AH n a0 a1=some r):Sound Tryz.prog 126 [.l (.d false 6 (encPair a0)),.l (.s (.string a1)),.l (.s (.func (.func 127) #[] #[]))] [] (.t [(false,[.s (.int .i64 r.1)]),(false,[.s (.bool r.2)])]) []:=by
 unfold AH at h
 refine Sound.of_aw (fn:=Tryz.f126) (c:=_) Tryz.func126 rfl (by simp[Tryz.f126]) fun cx hG hnb=>?_
 rw[show Tryz.f126.ntmps=49 from rfl]
 have hn0:cx.nb=0:=hnb
 simp only[An,initTm,List.map_cons,List.map_nil]
 apply AW.step
 ·simp
  intros;rfl
 replace h:=ltE h;obtain⟨v1,e1,h⟩:=h
 apply AW.step
 ·simp[Aa e1]
  intros;rfl
 apply AW.step
 ·simp
  intros;rfl
 refine AW.seq ?_
 refine AW.block ?_
 replace h:=bnE h;obtain⟨y3,g3,h⟩:=h
 refine AW.iterP g3 (mk:=fun gh ls q=>(⟨[(0,.l (.d false 6 (encPair a0))),(1,.l (.s (.string a1))),(2,.l (.s (.func (.func 127) #[] #[]))),(8,.l (.s (.int .i64 v1))),(9,.l (.s (.int .i64 q.1))),(10,.l (.s (.int .i64 q.2)))],[],49,gh,ls⟩:St)) (N:=fun gh ls=>(xP 0 (cx:=cx) (fun q=>(⟨[(0,.l (.d false 6 (encPair a0))),(1,.l (.s (.string a1))),(2,.l (.s (.func (.func 127) #[] #[]))),(8,.l (.s (.int .i64 v1))),(9,.l (.s (.int .i64 q)))],[],49,gh,ls⟩:St)))) ?_ noX ?_ ?_
 ·refine Weak.mixN [] hn0 (by decide) ?_ ?_ rfl
  all_goals first|(simp[Ab,Ac,pickOb];done)|rfl
 ·clear h;intro y2 y4 h
  refine AW.seq ?_
  replace h:=ltE h;obtain⟨v5,e5,h⟩:=h
  apply AW.step
  ·simp[← e5]
   intros;rfl
  cases v5 with
  |true =>
   replace h:=iteT rfl h
   refine AW.cond_true (by simp) ?_
   refine AW.skip ?_
   try simp only[nm]
   refine AW.block ?_
   replace h:=ltE h;obtain⟨v6,e6,h⟩:=h
   replace h:=ltE h;obtain⟨v7,e7,h⟩:=h
   replace h:=bnE h;obtain⟨v8,e8,h⟩:=h
   replace h:=ltE h;obtain⟨v9,e9,h⟩:=h
   apply AW.step
   ·simp[← e6,← e7,e8,← e9]
    intros;rfl
   replace h:=bnE h;obtain⟨v10,e10,h⟩:=h
   replace h:=bnE h;obtain⟨v11,e11,h⟩:=h
   replace h:=ltE h;obtain⟨v12,e12,h⟩:=h
   apply AW.step
   ·simp[Ad e10,← e12]
    intros
    refine Ae Fw (FT e11) rfl ⟨.same rfl,.same rfl,trivial⟩ ?_
    try simp[Ad e10,← e12]
    intros;rfl
   cases v12 with
   |true =>
    replace h:=iteT rfl h
    refine AW.cond_true (by simp) ?_
    replace h:=ltE h;obtain⟨v13,e13,h⟩:=h
    apply AW.last
    ·simp[← e13]
     intros;rfl
    obtain rfl:=oi h
    refine nP_i ?_
    refine Weak.mixN [] hn0 (by decide) ?_ ?_ rfl
    all_goals first|(simp[Ab,Ac,pickOb];done)|rfl
   |false =>
    replace h:=iteF rfl h
    refine AW.cond_false (by simp) ?_
    apply AW.last
    ·simp
     intros;rfl
    obtain rfl:=oi h
    refine nP_i ?_
    refine Weak.mixN [] hn0 (by decide) ?_ ?_ rfl
    all_goals first|(simp[Ab,Ac,pickOb];done)|rfl
  |false =>
   replace h:=iteF rfl h
   refine AW.cond_false (by simp) ?_
   refine AW.exit ?_
   try simp only[nm]
   obtain rfl:=oi h
   refine xP_i ?_
   refine Weak.mixN [] hn0 (by decide) ?_ ?_ rfl
   all_goals first|(simp[Ab,Ac,pickOb];done)|rfl
 ·rintro e s hp
  obtain⟨rfl,hw⟩:=hp
  refine⟨_,hw,?_⟩
  try simp only[nm]
  replace h:=bnE h;obtain⟨y14,g14,h⟩:=h
  refine AW.flow (p:=fun gh ls=>(nP (cx:=cx) (fun q=>(⟨[(6,.l (.s (.int .i64 y3))),(7,.l (.s (.bool q)))],[],49,gh,ls⟩:St))) y14) ?_ ?_
  ·replace h:=g14;clear g14
   replace h:=ltE h;obtain⟨v15,e15,h⟩:=h
   cases v15 with
   |true =>
    replace h:=iteT rfl h
    replace h:=bnE h;obtain⟨v16,e16,h⟩:=h
    replace h:=bnE h;obtain⟨v17,e17,h⟩:=h
    replace h:=ltE h;obtain⟨v18,e18,h⟩:=h
    apply AW.last
    ·simp[← e15,Ad e16,← e18]
     intros
     refine Ae Fw (FT e17) rfl ⟨.same rfl,.same rfl,trivial⟩ ?_
     try simp[← e15,Ad e16,← e18]
     intros;rfl
    obtain rfl:=oi h
    refine nP_i ?_
    refine Weak.mixN [] hn0 (by decide) ?_ ?_ rfl
    all_goals first|(simp[Ab,Ac,pickOb];done)|rfl
   |false =>
    replace h:=iteF rfl h
    apply AW.last
    ·simp[← e15]
     intros;rfl
    obtain rfl:=oi h
    refine nP_i ?_
    refine Weak.mixN [] hn0 (by decide) ?_ ?_ rfl
    all_goals first|(simp[Ab,Ac,pickOb];done)|rfl
  ·rintro e s hp
   obtain⟨rfl,hw⟩:=hp
   refine⟨_,hw,?_⟩
   try simp only[nm]
   obtain rfl:=oi h
   refine AW.ret ?_
   refine Left.plain hnb (by simp[Tryz.f126,resV,resC,comp];rfl) rfl rfl ?_
   simp
theorem Dt:Enters Tryz.prog 126:=enters Tryz.func126 (by kernel_rfl) rfl
def EG (n:Nat) (a0:List Pair) (a1:ByteArray):Option (Int×Bool) :=
bn (AH n a0 a1) fun v1 =>
some (v1.1,v1.2)
theorem Ki {n:Nat} {a0:List Pair} {a1:ByteArray} {r:Int×Bool} (h:EG n a0 a1=some r):Sound Tryz.prog 107 [.l (.d false 6 (encPair a0)),.l (.s (.string a1))] [] (.t [(false,[.s (.int .i64 r.1)]),(false,[.s (.bool r.2)])]) []:=by
 unfold EG at h
 refine Sound.of_aw (fn:=Tryz.f107) (c:=_) Tryz.func107 rfl (by simp[Tryz.f107]) fun cx hG hnb=>?_
 rw[show Tryz.f107.ntmps=11 from rfl]
 have hn0:cx.nb=0:=hnb
 simp only[An,initTm,List.map_cons,List.map_nil]
 apply AW.step
 ·simp
  intros;rfl
 replace h:=bnE h;obtain⟨v1,e1,h⟩:=h
 apply AW.step
 ·simp
  intros
  refine Ae Dt (DL e1) rfl ⟨.same rfl,.same rfl,.same rfl,trivial⟩ ?_
  try simp
  intros;rfl
 obtain rfl:=oi h
 refine AW.ret ?_
 refine Left.plain hnb (by simp[Tryz.f107,resV,resC,comp];rfl) rfl rfl ?_
 simp
theorem Jp:Enters Tryz.prog 107:=enters Tryz.func107 (by kernel_rfl) rfl
def Bm (n:Nat) (a0:Item):Option Item :=
chk (small 32 a0.f) <|
chk (small 16 a0.l) <|
chk (room a0.f.length 1) <|
chk (room a0.l.length 1) <|
some a0
theorem Du {n:Nat} {a0:Item} {r:Item} (h:Bm n a0=some r):Sound Tryz.prog 108 [.g [.s (.int .i64 a0.kind),.s (.string a0.s),.d false 2 (encField a0.f),.d false 1 (encS a0.l),.s (.int .i64 a0.exp)]] [] (.g [.s (.int .i64 r.kind),.s (.string r.s),.d false 2 (encField r.f),.d false 1 (encS r.l),.s (.int .i64 r.exp)]) []:=by
 unfold Bm at h
 refine Sound.of_aw (fn:=Tryz.f108) (c:=_) Tryz.func108 rfl (by simp[Tryz.f108]) fun cx hG hnb=>?_
 rw[show Tryz.f108.ntmps=12 from rfl]
 have hn0:cx.nb=0:=hnb
 simp only[An,initTm,List.map_cons,List.map_nil]
 apply AW.step
 ·simp
  intros;rfl
 replace h:=chkE h;obtain⟨e1,h⟩:=h
 replace h:=chkE h;obtain⟨e2,h⟩:=h
 apply AW.drawnE (V:=[_,_,_,_,_,_,_]) (M:=[[some ⟨57,5,false,none,[.s (.int .i64 a0.kind),.s (.string a0.s),.d false 2 (encField a0.f),.d false 1 (encS a0.l),.s (.int .i64 a0.exp)]⟩,some ⟨57,5,false,none,[.s (.int .i64 0),.s (.string ⟨#[]⟩),.s (.slice none 0 0),.s (.slice none 0 0),.s (.int .i64 0)]⟩],[some ⟨57,5,false,none,[.s (.int .i64 a0.kind),.s (.string a0.s),.d false 2 (encField a0.f),.d false 1 (encS a0.l),.s (.int .i64 a0.exp)]⟩,some ⟨57,5,false,none,[.s (.int .i64 0),.s (.string ⟨#[]⟩),.s (.slice none 0 0),.s (.slice none 0 0),.s (.int .i64 0)]⟩,some ⟨157,2,true,none,lvs (encField a0.f)⟩],[some ⟨57,5,false,none,[.s (.int .i64 a0.kind),.s (.string a0.s),.d false 2 (encField a0.f),.d false 1 (encS a0.l),.s (.int .i64 a0.exp)]⟩,some ⟨57,5,false,none,[.s (.int .i64 0),.s (.string ⟨#[]⟩),.s (.slice none 0 0),.s (.slice none 0 0),.s (.int .i64 0)]⟩,some ⟨157,2,true,none,lvs (encField a0.f)⟩,some ⟨9,1,true,none,lvs (encS a0.l)⟩]]) mixed [⟨[0],[],[(1,none)],false⟩,⟨[0],[0],[(3,some 0)],false⟩,⟨[0],[0,1],[(4,some 1)],true⟩,⟨[0,1],[],[(1,none)],false⟩,⟨[0,1],[3],[(6,some 3)],false⟩,⟨[1],[0,1,2,3,4],[(7,some 4)],true⟩,⟨[1,2],[0,1,2,3,4],[(1,none)],false⟩,⟨[],[0,1,2,3,4,5,6],[],false⟩,⟨[],[0,1,2,3,4,5,6,7],[],false⟩,⟨[],[0,1,2,3,4,5,6,7,8],[],false⟩] 7 2 (by kernel_rfl) (by kernel_rfl)
 ·rfl
 ·refine⟨?_,?_,?_,⟨?_,?_⟩,⟨?_,?_⟩,?_,⟨?_,?_⟩,trivial⟩
  iterate 2 (· intro tm hr;simp[AllL,rdV] at hr;simp[hr,outR];intros;first|exact KD.mk|exact KD.mkN)
  ·intro tm hr
   simp[AllL,rdV] at hr
   simp[hr,outR]
   intros
   refine AF Hn (H0 a0.f (Bv e1)) rfl (by simp) ⟨.d _ _ _,trivial⟩ ?_
   try simp[outR]
   intros;first|exact KD.mk|exact KD.mkN
  iterate 4 (· intro tm hr;simp[AllL,rdV] at hr;simp[hr,outR];intros;first|exact KD.mk|exact KD.mkN)
  ·intro tm hr
   simp[AllL,rdV] at hr
   simp[hr,outR]
   intros
   refine AF LD (M2 a0.l (Bv e2)) rfl (by simp) ⟨.d _ _ _,trivial⟩ ?_
   try simp[outR]
   intros;first|exact KD.mk|exact KD.mkN
  iterate 2 (· intro tm hr;simp[AllL,rdV] at hr;simp[hr,outR];intros;first|exact KD.mk|exact KD.mkN)
 ·rfl
 ·simp[tmD,putD,outR];rfl
 ·simp[outR]
  intros;rfl
 apply AW.step
 ·simp
  intros;rfl
 replace h:=chkE h;obtain⟨e3,h⟩:=h
 refine AW.frzRow 2 (ty:=157) (cap:=none) (sz:=2) (es:=encField a0.f) (by simp) (by omega) (CN _) (by first|exact (Ah e3).2|simpa using (Ah e3).2|simp) (by simp[Tm.frz,AV.frz,LV.frz];rfl) (by simp[Ob.frz,LV.frz];rfl) rfl ?_
 replace h:=chkE h;obtain⟨e4,h⟩:=h
 refine AW.frzRow 3 (ty:=9) (cap:=none) (sz:=1) (es:=encS a0.l) (by simp) (by omega) (De _) (by first|exact (Ah e4).2|simpa using (Ah e4).2|simp) (by simp[Tm.frz,AV.frz,LV.frz];rfl) (by simp[Ob.frz,LV.frz];rfl) rfl ?_
 obtain rfl:=oi h
 refine AW.ret ?_
 refine Left.plain hnb (by simp[Tryz.f108,resV,resC,comp];rfl) rfl rfl ?_
 simp
theorem C5:Enters Tryz.prog 108:=enters Tryz.func108 (by kernel_rfl) rfl
def Fa (n:Nat) (a0:List Pair) (a1:ByteArray):Option (Item×Bool) :=
bn (EG n a0 a1) fun v1 =>
lt (notB v1.2) fun v2 =>
ite' v2 (some ((⟨0,⟨#[]⟩,[],[],0⟩:Item),false)) (bn (nth a0 v1.1) fun v3 =>
bn (Bm n v3.item) fun v4 =>
some (v4,true))
theorem K2 {n:Nat} {a0:List Pair} {a1:ByteArray} {r:Item×Bool} (h:Fa n a0 a1=some r):Sound Tryz.prog 80 [.l (.d false 6 (encPair a0)),.l (.s (.string a1))] [] (.t [(true,[.s (.int .i64 r.1.kind),.s (.string r.1.s),.d false 2 (encField r.1.f),.d false 1 (encS r.1.l),.s (.int .i64 r.1.exp)]),(false,[.s (.bool r.2)])]) []:=by
 unfold Fa at h
 refine Sound.of_aw (fn:=Tryz.f80) (c:=_) Tryz.func80 rfl (by simp[Tryz.f80]) fun cx hG hnb=>?_
 rw[show Tryz.f80.ntmps=23 from rfl]
 have hn0:cx.nb=0:=hnb
 simp only[An,initTm,List.map_cons,List.map_nil]
 apply AW.step
 ·simp
  intros;rfl
 replace h:=bnE h;obtain⟨v1,e1,h⟩:=h
 apply AW.step
 ·simp
  intros
  refine Ae Jp (Ki e1) rfl ⟨.same rfl,.same rfl,trivial⟩ ?_
  try simp
  intros;rfl
 refine AW.seq ?_
 replace h:=ltE h;obtain⟨v2,e2,h⟩:=h
 apply AW.step
 ·simp[← e2]
  intros;rfl
 cases v2 with
 |true =>
  replace h:=iteT rfl h
  refine AW.cond_true (by simp) ?_
  apply AW.step
  ·simp
   intros;rfl
  refine AW.nilCellD 0 2 2 rfl rfl rfl rfl ?_
  refine AW.nilCellD 0 3 1 rfl rfl rfl rfl ?_
  obtain rfl:=oi h
  refine AW.ret ?_
  refine Left.plain hnb (by simp[Tryz.f80,resV,resC,comp];rfl) rfl rfl ?_
  simp
 |false =>
  replace h:=iteF rfl h
  refine AW.cond_false (by simp) ?_
  refine AW.skip ?_
  try simp only[nm]
  replace h:=bnE h;obtain⟨v3,e3,h⟩:=h
  replace h:=bnE h;obtain⟨v4,e4,h⟩:=h
  apply AW.step
  ·simp[Ad e3]
   intros
   refine Ae C5 (Du e4) rfl ⟨.same rfl,trivial⟩ ?_
   try simp[Ad e3]
   intros;rfl
  obtain rfl:=oi h
  refine AW.ret ?_
  refine Left.plain hnb (by simp[Tryz.f80,resV,resC,comp];rfl) rfl rfl ?_
  simp
theorem Kj:Enters Tryz.prog 80:=enters Tryz.func80 (by kernel_rfl) rfl
def Cc (n:Nat) (a0:Pair) (a1:ByteArray):Option Int :=
lt (cmpB a0.key a1) fun v1 =>
some v1
theorem ET {n:Nat} {a0:Pair} {a1:ByteArray} {r:Int} (h:Cc n a0 a1=some r):Sound Tryz.prog 127 [.g [.s (.string a0.key),.s (.int .i64 a0.item.kind),.s (.string a0.item.s),.d true 2 (encField a0.item.f),.d true 1 (encS a0.item.l),.s (.int .i64 a0.item.exp)],.l (.s (.string a1))] [] (.l (.s (.int .i64 r))) []:=by
 unfold Cc at h
 refine Sound.of_aw (fn:=Tryz.f127) (c:=_) Tryz.func127 rfl (by simp[Tryz.f127]) fun cx hG hnb=>?_
 rw[show Tryz.f127.ntmps=9 from rfl]
 have hn0:cx.nb=0:=hnb
 simp only[An,initTm,List.map_cons,List.map_nil]
 apply AW.step
 ·simp
  intros;rfl
 replace h:=ltE h;obtain⟨v1,e1,h⟩:=h
 apply AW.step
 ·simp[← e1]
  intros
  refine Ae Gf (GC a0.key a1) rfl ⟨.same rfl,.same rfl,trivial⟩ ?_
  try simp[← e1]
  intros;rfl
 obtain rfl:=oi h
 refine AW.ret ?_
 refine Left.plain hnb (by simp[Tryz.f127,resV,resC,comp];rfl) rfl rfl ?_
 simp
theorem EA:Enters Tryz.prog 127:=enters Tryz.func127 (by kernel_rfl) rfl
def AM (n:Nat) (a0:List Pair) (a1:ByteArray):Option (Int×Bool) :=
lt (lenI a0) fun v1 =>
bn (iter n (fun (y2:Int×Int) =>
lt (ltI y2.1 y2.2) fun v5 =>
ite' v5 (lt (addI .i64 y2.1 y2.2) fun v6 =>
lt (cvI .u64 v6) fun v7 =>
bn (shrI .u64 v7 1) fun v8 =>
lt (cvI .i64 v8) fun v9 =>
bn (nth a0 v9) fun v10 =>
bn (Cc n v10 a1) fun v11 =>
lt (ltI v11 0) fun v12 =>
ite' v12 (lt (addI .i64 v9 1) fun v13 =>
some (.inl (v13,y2.2))) (some (.inl (y2.1,v9)))) (some (.inr y2.1))) (0,v1)) fun (y3:Int) =>
bn (lt (ltI y3 v1) fun v15 =>
ite' v15 (bn (nth a0 y3) fun v16 =>
bn (Cc n v16 a1) fun v17 =>
lt (eqI v17 0) fun v18 =>
some (v18)) (some (false))) fun (y14:Bool) =>
some (y3,y14)
theorem CI {n:Nat} {a0:List Pair} {a1:ByteArray} {r:Int×Bool} (h:AM n a0 a1=some r):Sound Tryz.prog 126 [.l (.d true 6 (encPair a0)),.l (.s (.string a1)),.l (.s (.func (.func 127) #[] #[]))] [] (.t [(false,[.s (.int .i64 r.1)]),(false,[.s (.bool r.2)])]) []:=by
 unfold AM at h
 refine Sound.of_aw (fn:=Tryz.f126) (c:=_) Tryz.func126 rfl (by simp[Tryz.f126]) fun cx hG hnb=>?_
 rw[show Tryz.f126.ntmps=49 from rfl]
 have hn0:cx.nb=0:=hnb
 simp only[An,initTm,List.map_cons,List.map_nil]
 apply AW.step
 ·simp
  intros;rfl
 replace h:=ltE h;obtain⟨v1,e1,h⟩:=h
 apply AW.step
 ·simp[Aa e1]
  intros;rfl
 apply AW.step
 ·simp
  intros;rfl
 refine AW.seq ?_
 refine AW.block ?_
 replace h:=bnE h;obtain⟨y3,g3,h⟩:=h
 refine AW.iterP g3 (mk:=fun gh ls q=>(⟨[(0,.l (.d true 6 (encPair a0))),(1,.l (.s (.string a1))),(2,.l (.s (.func (.func 127) #[] #[]))),(8,.l (.s (.int .i64 v1))),(9,.l (.s (.int .i64 q.1))),(10,.l (.s (.int .i64 q.2)))],[],49,gh,ls⟩:St)) (N:=fun gh ls=>(xP 0 (cx:=cx) (fun q=>(⟨[(0,.l (.d true 6 (encPair a0))),(1,.l (.s (.string a1))),(2,.l (.s (.func (.func 127) #[] #[]))),(8,.l (.s (.int .i64 v1))),(9,.l (.s (.int .i64 q)))],[],49,gh,ls⟩:St)))) ?_ noX ?_ ?_
 ·refine Weak.mixN [] hn0 (by decide) ?_ ?_ rfl
  all_goals first|(simp[Ab,Ac,pickOb];done)|rfl
 ·clear h;intro y2 y4 h
  refine AW.seq ?_
  replace h:=ltE h;obtain⟨v5,e5,h⟩:=h
  apply AW.step
  ·simp[← e5]
   intros;rfl
  cases v5 with
  |true =>
   replace h:=iteT rfl h
   refine AW.cond_true (by simp) ?_
   refine AW.skip ?_
   try simp only[nm]
   refine AW.block ?_
   replace h:=ltE h;obtain⟨v6,e6,h⟩:=h
   replace h:=ltE h;obtain⟨v7,e7,h⟩:=h
   replace h:=bnE h;obtain⟨v8,e8,h⟩:=h
   replace h:=ltE h;obtain⟨v9,e9,h⟩:=h
   apply AW.step
   ·simp[← e6,← e7,e8,← e9]
    intros;rfl
   replace h:=bnE h;obtain⟨v10,e10,h⟩:=h
   replace h:=bnE h;obtain⟨v11,e11,h⟩:=h
   replace h:=ltE h;obtain⟨v12,e12,h⟩:=h
   apply AW.step
   ·simp[Ad e10,← e12]
    intros
    refine Ae EA (ET e11) rfl ⟨.g ⟨.s _,.s _,.s _,.al _ _ _,.al _ _ _,.s _,trivial⟩,.same rfl,trivial⟩ ?_
    try simp[Ad e10,← e12]
    intros;rfl
   cases v12 with
   |true =>
    replace h:=iteT rfl h
    refine AW.cond_true (by simp) ?_
    replace h:=ltE h;obtain⟨v13,e13,h⟩:=h
    apply AW.last
    ·simp[← e13]
     intros;rfl
    obtain rfl:=oi h
    refine nP_i ?_
    refine Weak.mixN [] hn0 (by decide) ?_ ?_ rfl
    all_goals first|(simp[Ab,Ac,pickOb];done)|rfl
   |false =>
    replace h:=iteF rfl h
    refine AW.cond_false (by simp) ?_
    apply AW.last
    ·simp
     intros;rfl
    obtain rfl:=oi h
    refine nP_i ?_
    refine Weak.mixN [] hn0 (by decide) ?_ ?_ rfl
    all_goals first|(simp[Ab,Ac,pickOb];done)|rfl
  |false =>
   replace h:=iteF rfl h
   refine AW.cond_false (by simp) ?_
   refine AW.exit ?_
   try simp only[nm]
   obtain rfl:=oi h
   refine xP_i ?_
   refine Weak.mixN [] hn0 (by decide) ?_ ?_ rfl
   all_goals first|(simp[Ab,Ac,pickOb];done)|rfl
 ·rintro e s hp
  obtain⟨rfl,hw⟩:=hp
  refine⟨_,hw,?_⟩
  try simp only[nm]
  replace h:=bnE h;obtain⟨y14,g14,h⟩:=h
  refine AW.flow (p:=fun gh ls=>(nP (cx:=cx) (fun q=>(⟨[(6,.l (.s (.int .i64 y3))),(7,.l (.s (.bool q)))],[],49,gh,ls⟩:St))) y14) ?_ ?_
  ·replace h:=g14;clear g14
   replace h:=ltE h;obtain⟨v15,e15,h⟩:=h
   cases v15 with
   |true =>
    replace h:=iteT rfl h
    replace h:=bnE h;obtain⟨v16,e16,h⟩:=h
    replace h:=bnE h;obtain⟨v17,e17,h⟩:=h
    replace h:=ltE h;obtain⟨v18,e18,h⟩:=h
    apply AW.last
    ·simp[← e15,Ad e16,← e18]
     intros
     refine Ae EA (ET e17) rfl ⟨.g ⟨.s _,.s _,.s _,.al _ _ _,.al _ _ _,.s _,trivial⟩,.same rfl,trivial⟩ ?_
     try simp[← e15,Ad e16,← e18]
     intros;rfl
    obtain rfl:=oi h
    refine nP_i ?_
    refine Weak.mixN [] hn0 (by decide) ?_ ?_ rfl
    all_goals first|(simp[Ab,Ac,pickOb];done)|rfl
   |false =>
    replace h:=iteF rfl h
    apply AW.last
    ·simp[← e15]
     intros;rfl
    obtain rfl:=oi h
    refine nP_i ?_
    refine Weak.mixN [] hn0 (by decide) ?_ ?_ rfl
    all_goals first|(simp[Ab,Ac,pickOb];done)|rfl
  ·rintro e s hp
   obtain⟨rfl,hw⟩:=hp
   refine⟨_,hw,?_⟩
   try simp only[nm]
   obtain rfl:=oi h
   refine AW.ret ?_
   refine Left.plain hnb (by simp[Tryz.f126,resV,resC,comp];rfl) rfl rfl ?_
   simp
theorem CD:Enters Tryz.prog 126:=enters Tryz.func126 (by kernel_rfl) rfl
def Bw (n:Nat) (a0:List Pair) (a1:ByteArray):Option (Int×Bool) :=
bn (AM n a0 a1) fun v1 =>
some (v1.1,v1.2)
theorem H2 {n:Nat} {a0:List Pair} {a1:ByteArray} {r:Int×Bool} (h:Bw n a0 a1=some r):Sound Tryz.prog 107 [.l (.d true 6 (encPair a0)),.l (.s (.string a1))] [] (.t [(false,[.s (.int .i64 r.1)]),(false,[.s (.bool r.2)])]) []:=by
 unfold Bw at h
 refine Sound.of_aw (fn:=Tryz.f107) (c:=_) Tryz.func107 rfl (by simp[Tryz.f107]) fun cx hG hnb=>?_
 rw[show Tryz.f107.ntmps=11 from rfl]
 have hn0:cx.nb=0:=hnb
 simp only[An,initTm,List.map_cons,List.map_nil]
 apply AW.step
 ·simp
  intros;rfl
 replace h:=bnE h;obtain⟨v1,e1,h⟩:=h
 apply AW.step
 ·simp
  intros
  refine Ae CD (CI e1) rfl ⟨.d _ _ _,.same rfl,.same rfl,trivial⟩ ?_
  try simp
  intros;rfl
 obtain rfl:=oi h
 refine AW.ret ?_
 refine Left.plain hnb (by simp[Tryz.f107,resV,resC,comp];rfl) rfl rfl ?_
 simp
theorem HB:Enters Tryz.prog 107:=enters Tryz.func107 (by kernel_rfl) rfl
def BU (n:Nat) (a0:List Pair) (a1:List Effect):Option (List Pair) :=
chk (small 96 a0) <|
lt (lenI a0) fun v2 =>
bn (iter n (fun (y3:Int×List Pair) =>
lt (ltI y3.1 v2) fun v6 =>
ite' v6 (bn (nth y3.2 y3.1) fun v7 =>
bn (Bm n v7.item) fun v9 =>
lt (y3.2.set y3.1.toNat (⟨v7.key,v9⟩:Pair)) fun v11 =>
lt (addI .i64 y3.1 1) fun v15 =>
some (.inl (v15,v11))) (some (.inr y3.2))) (0,a0)) fun (y4:List Pair) =>
lt (lenI a1) fun v16 =>
bn (iter n (fun (y17:Int×List Pair) =>
lt (ltI y17.1 v16) fun v20 =>
ite' v20 (bn (bn (nth a1 y17.1) fun v22 =>
chk (room y17.2.length 1) <|
bn (Bw n y17.2 v22.key) fun v24 =>
bn (lt (v24.2) fun v26 =>
ite' v26 (some ((true,v22.gone))) (some ((false,false)))) fun (y25:Bool×Bool) =>
lt (y25.2) fun v27 =>
ite' v27 (lt (addI .i64 v24.1 1) fun v28 =>
chk (delB y17.2 v24.1 v28) <|
lt (delL y17.2 v24.1.toNat) fun v30 =>
some (v30)) (lt (y25.1) fun v31 =>
ite' v31 (bn (Bm n v22.item) fun v32 =>
bn (nth y17.2 v24.1) fun v33 =>
lt (y17.2.set v24.1.toNat (⟨v33.key,v32⟩:Pair)) fun v35 =>
some (v35)) (lt (notB v22.gone) fun v38 =>
ite' v38 (bn (Bm n v22.item) fun v39 =>
chk (insB y17.2 v24.1) <|
lt (insL y17.2 v24.1.toNat (⟨v22.key,v39⟩:Pair)) fun v41 =>
some (v41)) (some (y17.2))))) fun (y21:List Pair) =>
lt (addI .i64 y17.1 1) fun v42 =>
some (.inl (v42,y21))) (some (.inr y17.2))) (0,y4)) fun (y18:List Pair) =>
chk (room y18.length 1) <|
some y18
theorem Jq {n:Nat} {a0:List Pair} {a1:List Effect} {r:List Pair} (h:BU n a0 a1=some r):Sound Tryz.prog 81 [.l (.d false 6 (encPair a0)),.l (.d false 7 (encEffect a1))] [] (.l (.d false 6 (encPair r))) []:=by
 unfold BU at h
 refine Sound.of_aw (fn:=Tryz.f81) (c:=_) Tryz.func81 rfl (by simp[Tryz.f81]) fun cx hG hnb=>?_
 rw[show Tryz.f81.ntmps=78 from rfl]
 have hn0:cx.nb=0:=hnb
 simp only[An,initTm,List.map_cons,List.map_nil]
 apply AW.step
 ·simp
  intros;rfl
 replace h:=chkE h;obtain⟨e1,h⟩:=h
 apply AW.step
 ·simp[outR]
  intros
  refine AF H1 (I5 a0 (Bv e1)) rfl (by simp) ⟨.same rfl,trivial⟩ ?_
  try simp[outR]
  intros;rfl
 refine AW.seq ?_
 replace h:=ltE h;obtain⟨v2,e2,h⟩:=h
 apply AW.step
 ·simp[Aa e2]
  intros;rfl
 refine AW.block ?_
 replace h:=bnE h;obtain⟨y4,g4,h⟩:=h
 refine AW.iterP g4 (mk:=fun gh ls q=>(⟨[(1,.l (.d false 7 (encEffect a1))),(5,.l (.r 0 6 0 q.2.length)),(14,.l (.s (.int .i64 v2))),(15,.l (.s (.int .i64 q.1)))],[some ⟨114,6,true,none,lvs (encPair q.2)⟩],78,gh,ls⟩:St)) (N:=fun gh ls=>(xP 0 (cx:=cx) (fun q=>(⟨[(1,.l (.d false 7 (encEffect a1))),(5,.l (.r 0 6 0 q.length))],[some ⟨114,6,true,none,lvs (encPair q)⟩],78,gh,ls⟩:St)))) ?_ noX ?_ ?_
 ·refine Weak.mixN [some 0] hn0 (by decide) ?_ ?_ rfl
  all_goals first|(simp[Ab,Ac,pickOb];done)|rfl
 ·clear h;intro y3 y5 h
  replace h:=ltE h;obtain⟨v6,e6,h⟩:=h
  apply AW.step
  ·simp[← e6]
   intros;rfl
  refine AW.seq ?_
  cases v6 with
  |true =>
   replace h:=iteT rfl h
   refine AW.cond_true (by simp) ?_
   refine AW.skip ?_
   try simp only[nm]
   refine AW.seq ?_
   refine AW.block ?_
   apply AW.step
   ·simp
    intros;rfl
   replace h:=bnE h;obtain⟨v7,e7,h⟩:=h
   have f8:=A0 e7
   try simp[Ad e7] at f8
   replace h:=bnE h;obtain⟨v9,e9,h⟩:=h
   have f10:=A0 e7
   try simp[Ad e7,f8,BB (Ad e7).2 (j:=1) (k:=5) (by decide),A2 (Ad e7).2 (j:=1) (m:=5) (by decide),lvs1] at f10
   replace h:=ltE h;obtain⟨v11,e11,h⟩:=h
   have f12:=FE (Ad e7).2 e11 (j:=1) (cs:=[.s (.int .i64 v9.kind),.s (.string v9.s),.d false 2 (encField v9.f),.d false 1 (encS v9.l),.s (.int .i64 v9.exp)]) (by simp) rfl
   try simp at f12
   have f13:=f8
   try simp only[AC e11] at f13
   have f14:=f10
   try simp only[AC e11] at f14
   apply AW.last
   ·simp[Ad e7,f8,BB (Ad e7).2 (j:=1) (k:=5) (by decide),A2 (Ad e7).2 (j:=1) (m:=5) (by decide),lvs1,f10,f12,f13,f14]
    intros
    refine Ae C5 (Du e9) rfl ⟨.same rfl,trivial⟩ ?_
    try simp[Ad e7,f8,BB (Ad e7).2 (j:=1) (k:=5) (by decide),A2 (Ad e7).2 (j:=1) (m:=5) (by decide),lvs1,f10,f12,f13,f14]
    intros;rfl
   try simp only[nm]
   replace h:=ltE h;obtain⟨v15,e15,h⟩:=h
   apply AW.last
   ·simp[← e15]
    intros;rfl
   obtain rfl:=oi h
   refine nP_i ?_
   refine Weak.mixN [some 0] hn0 (by decide) ?_ ?_ rfl
   all_goals first|(simp[Ab,Ac,pickOb,AC e11];done)|rfl
  |false =>
   replace h:=iteF rfl h
   refine AW.cond_false (by simp) ?_
   refine AW.exit ?_
   try simp only[nm]
   obtain rfl:=oi h
   refine xP_i ?_
   refine Weak.mixN [some 0] hn0 (by decide) ?_ ?_ rfl
   all_goals first|(simp[Ab,Ac,pickOb];done)|rfl
 ·rintro e s hp
  obtain⟨rfl,hw⟩:=hp
  refine⟨_,hw,?_⟩
  try simp only[nm]
  refine AW.seq ?_
  replace h:=ltE h;obtain⟨v16,e16,h⟩:=h
  apply AW.step
  ·simp[Aa e16]
   intros;rfl
  refine AW.block ?_
  replace h:=bnE h;obtain⟨y18,g18,h⟩:=h
  refine AW.iterP g18 (mk:=fun gh ls q=>(⟨[(5,.l (.r 0 6 0 q.2.length)),(29,.l (.d false 7 (encEffect a1))),(30,.l (.s (.int .i64 v16))),(31,.l (.s (.int .i64 q.1)))],[some ⟨114,6,true,none,lvs (encPair q.2)⟩],78,gh,ls⟩:St)) (N:=fun gh ls=>(xP 2 (cx:=cx) (fun q=>(⟨[(5,.l (.r 0 6 0 q.length))],[some ⟨114,6,true,none,lvs (encPair q)⟩],78,gh,ls⟩:St)))) ?_ noX ?_ ?_
  ·refine Weak.mixN [some 0] hn0 (by decide) ?_ ?_ rfl
   all_goals first|(simp[Ab,Ac,pickOb];done)|rfl
  ·clear h;intro y17 y19 h
   replace h:=ltE h;obtain⟨v20,e20,h⟩:=h
   apply AW.step
   ·simp[← e20]
    intros;rfl
   refine AW.seq ?_
   cases v20 with
   |true =>
    replace h:=iteT rfl h
    refine AW.cond_true (by simp) ?_
    refine AW.skip ?_
    try simp only[nm]
    replace h:=bnE h;obtain⟨y21,g21,h⟩:=h
    refine AW.flow (p:=fun gh ls=>(nP (cx:=cx) (fun q=>(⟨[(5,.l (.r 0 6 0 q.length)),(29,.l (.d false 7 (encEffect a1))),(30,.l (.s (.int .i64 v16))),(31,.l (.s (.int .i64 y17.1)))],[some ⟨114,6,true,none,lvs (encPair q)⟩],78,gh,ls⟩:St))) y21) ?_ ?_
    ·replace h:=g21;clear g21
     refine AW.block ?_
     replace h:=bnE h;obtain⟨v22,e22,h⟩:=h
     apply AW.step
     ·simp[Ad e22]
      intros;rfl
     replace h:=chkE h;obtain⟨e23,h⟩:=h
     replace h:=bnE h;obtain⟨v24,e24,h⟩:=h
     apply AW.step
     ·simp
      intros
      refine Ae HB (H2 e24) rfl ⟨.rowd (by simp) rfl (by omega) (Ax _) (by simp) (by first|exact (Ah e23).2|simpa using (Ah e23).2|simp),.same rfl,trivial⟩ ?_
      try simp
      intros;rfl
     refine AW.block ?_
     replace h:=bnE h;obtain⟨y25,g25,h⟩:=h
     refine AW.flow (p:=fun gh ls=>(nP (cx:=cx) (fun q=>(⟨[(5,.l (.r 0 6 0 y17.2.length)),(8,.l (.p 1 0)),(9,.l (.s (.int .i64 v24.1))),(10,.l (.s (.bool q.1))),(29,.l (.d false 7 (encEffect a1))),(30,.l (.s (.int .i64 v16))),(31,.l (.s (.int .i64 y17.1))),(42,.l (.s (.bool q.2)))],[some ⟨114,6,true,none,lvs (encPair y17.2)⟩,some ⟨59,7,false,none,[.s (.string v22.key),.s (.bool v22.gone),.s (.int .i64 v22.item.kind),.s (.string v22.item.s),.d false 2 (encField v22.item.f),.d false 1 (encS v22.item.l),.s (.int .i64 v22.item.exp)]⟩],78,gh,ls⟩:St))) y25) ?_ ?_
     ·replace h:=g25;clear g25
      replace h:=ltE h;obtain⟨v26,e26,h⟩:=h
      cases v26 with
      |true =>
       replace h:=iteT rfl h
       apply AW.last
       ·simp[← e26]
        intros;rfl
       obtain rfl:=oi h
       refine nP_i ?_
       refine Weak.mixN [some 0,some 1] hn0 (by decide) ?_ ?_ rfl
       all_goals first|(simp[Ab,Ac,pickOb];done)|rfl
      |false =>
       replace h:=iteF rfl h
       apply AW.last
       ·simp[← e26]
        intros;rfl
       obtain rfl:=oi h
       refine nP_i ?_
       refine Weak.mixN [some 0,some 1] hn0 (by decide) ?_ ?_ rfl
       all_goals first|(simp[Ab,Ac,pickOb];done)|rfl
     ·rintro e s hp
      obtain⟨rfl,hw⟩:=hp
      refine⟨_,hw,?_⟩
      try simp only[nm]
      replace h:=ltE h;obtain⟨v27,e27,h⟩:=h
      rw[← e27]
      cases v27 with
      |true =>
       replace h:=iteT rfl h
       refine AW.cond_true (by simp) ?_
       replace h:=ltE h;obtain⟨v28,e28,h⟩:=h
       replace h:=chkE h;obtain⟨e29,h⟩:=h
       replace h:=ltE h;obtain⟨v30,e30,h⟩:=h
       apply AW.last
       ·simp[← e28,obAfter,outR,keptR,Ab,Ac,← e30,Ke e29 e30]
        intros
        refine Dp [0] [2] ⟨_,rfl,rfl,rfl,rfl⟩ L6 (OD y17.2 v24.1 v28 e29) (by decide) rfl rfl (by simp[pickOb]) rfl rfl rfl (by simp) (by simp) ⟨.l (.own (by simp[Ab,Ac])),.l (.s _),.l (.s _),trivial⟩ ?_
        try simp[← e28,obAfter,outR,keptR,Ab,Ac,← e30,Ke e29 e30]
        intros;rfl
       obtain rfl:=oi h
       refine nP_i ?_
       refine Weak.mixN [some 2] hn0 (by decide) ?_ ?_ rfl
       all_goals first|(simp[Ab,Ac,pickOb];done)|rfl
      |false =>
       replace h:=iteF rfl h
       refine AW.cond_false (by simp) ?_
       apply AW.step
       ·simp
        intros;rfl
       replace h:=ltE h;obtain⟨v31,e31,h⟩:=h
       rw[← e31]
       cases v31 with
       |true =>
        replace h:=iteT rfl h
        refine AW.cond_true (by simp) ?_
        replace h:=bnE h;obtain⟨v32,e32,h⟩:=h
        replace h:=bnE h;obtain⟨v33,e33,h⟩:=h
        have f34:=A0 e33
        try simp[Ad e33] at f34
        replace h:=ltE h;obtain⟨v35,e35,h⟩:=h
        have f36:=FE (Ad e33).2 e35 (j:=1) (cs:=[.s (.int .i64 v32.kind),.s (.string v32.s),.d false 2 (encField v32.f),.d false 1 (encS v32.l),.s (.int .i64 v32.exp)]) (by simp) rfl
        try simp at f36
        have f37:=f34
        try simp only[AC e35] at f37
        apply AW.last
        ·simp[Ad e33,f34,A2 (Ad e33).2 (j:=1) (m:=5) (by decide),f36,f37]
         intros
         refine Ae C5 (Du e32) rfl ⟨.same rfl,trivial⟩ ?_
         try simp[Ad e33,f34,A2 (Ad e33).2 (j:=1) (m:=5) (by decide),f36,f37]
         intros;rfl
        obtain rfl:=oi h
        refine nP_i ?_
        refine Weak.mixN [some 0] hn0 (by decide) ?_ ?_ rfl
        all_goals first|(simp[Ab,Ac,pickOb,AC e35];done)|rfl
       |false =>
        replace h:=iteF rfl h
        refine AW.cond_false (by simp) ?_
        replace h:=ltE h;obtain⟨v38,e38,h⟩:=h
        apply AW.step
        ·simp[← e38]
         intros;rfl
        cases v38 with
        |true =>
         replace h:=iteT rfl h
         refine AW.cond_true (by simp) ?_
         replace h:=bnE h;obtain⟨v39,e39,h⟩:=h
         replace h:=chkE h;obtain⟨e40,h⟩:=h
         replace h:=ltE h;obtain⟨v41,e41,h⟩:=h
         apply AW.drawnF (V:=[_,_,_,_,_,_,_,_,_]) (M:=[[some ⟨114,6,true,none,lvs (encPair y17.2)⟩,some ⟨59,7,false,none,[.s (.string v22.key),.s (.bool v22.gone),.s (.int .i64 v22.item.kind),.s (.string v22.item.s),.d false 2 (encField v22.item.f),.d false 1 (encS v22.item.l),.s (.int .i64 v22.item.exp)]⟩],[some ⟨114,6,true,none,lvs (encPair y17.2)⟩,some ⟨59,7,false,none,[.s (.string v22.key),.s (.bool v22.gone),.s (.int .i64 v22.item.kind),.s (.string v22.item.s),.d false 2 (encField v22.item.f),.d false 1 (encS v22.item.l),.s (.int .i64 v22.item.exp)]⟩,some ⟨114,6,true,none,[.s (.string v22.key),.s (.int .i64 v39.kind),.s (.string v39.s),.d false 2 (encField v39.f),.d false 1 (encS v39.l),.s (.int .i64 v39.exp)]⟩]]) mixed [⟨[0,1],[],[(5,none)],false⟩,⟨[0,1],[],[(9,none)],false⟩,⟨[0],[],[(8,none)],false⟩,⟨[0],[2],[(68,some 2)],false⟩,⟨[0],[],[(8,none)],false⟩,⟨[0],[4],[(70,some 4)],false⟩,⟨[0],[4,5],[(71,some 5)],false⟩,⟨[0],[2,3,4,5,6],[(69,some 3),(72,some 6)],false⟩,⟨[0],[2,3,4,5,6,7],[(73,some 7)],true⟩,⟨[],[0,1,2,3,4,5,6,7,8],[],false⟩,⟨[],[0,1,2,3,4,5,6,7,8,9],[],false⟩] 9 1 (by kernel_rfl) (by kernel_rfl)
         ·rfl
         ·refine⟨⟨?_,?_⟩,⟨?_,?_⟩,?_,?_,?_,?_,?_,?_,?_,trivial⟩
          iterate 8 (· intro tm hr;simp[AllL,rdV] at hr;simp[hr,obAfter,outR,keptR,Ab,Ac,← e41,Bf e40 e41];intros;first|exact KD.mk|exact KD.mkN)
          ·intro tm hr
           simp[AllL,rdV] at hr
           simp[hr,obAfter,outR,keptR,Ab,Ac,← e41,Bf e40 e41]
           intros
           refine Ae C5 (Du e39) rfl ⟨.same rfl,trivial⟩ ?_
           try simp[obAfter,outR,keptR,Ab,Ac,← e41,Bf e40 e41]
           intros;first|exact KD.mk|exact KD.mkN
          ·intro tm hr;simp[AllL,rdV] at hr;simp[hr,obAfter,outR,keptR,Ab,Ac,← e41,Bf e40 e41];intros;first|exact KD.mk|exact KD.mkN
          ·intro tm hr
           simp[AllL,rdV] at hr
           simp[hr,obAfter,outR,keptR,Ab,Ac,← e41,Bf e40 e41]
           intros
           refine Av ?_
           try simp[obAfter,outR,keptR,Ab,Ac,← e41,Bf e40 e41]
           intros;first|exact KD.mk|exact KD.mkN
         ·rfl
         ·simp[tmD,putD,obAfter,outR,keptR,Ab,Ac,← e41,Bf e40 e41];rfl
         ·simp[obAfter,outR,keptR,Ab,Ac,← e41,Bf e40 e41]
          intros
          refine Dp [0,2] [3,4] ⟨_,rfl,rfl,_,rfl,rfl,rfl,rfl⟩ L8 (OF y17.2 v24.1 (⟨v22.key,v39⟩:Pair) e40) (by decide) rfl rfl (by simp[pickOb,D3]) rfl rfl rfl (by simp) (by simp) ⟨.l (.own (by simp[Ab,Ac])),.l (.s _),.l (.own (by simp[Ab,Ac])),trivial⟩ ?_
          try simp[obAfter,outR,keptR,Ab,Ac,← e41,Bf e40 e41]
          intros;rfl
         obtain rfl:=oi h
         refine nP_i ?_
         refine Weak.mixN [some 3] hn0 (by decide) ?_ ?_ rfl
         all_goals first|(simp[Ab,Ac,pickOb];done)|rfl
        |false =>
         replace h:=iteF rfl h
         refine AW.cond_false (by simp) ?_
         refine AW.skip ?_
         try simp only[nm]
         obtain rfl:=oi h
         refine nP_i ?_
         refine Weak.mixN [some 0] hn0 (by decide) ?_ ?_ rfl
         all_goals first|(simp[Ab,Ac,pickOb];done)|rfl
    ·rintro e s hp
     obtain⟨rfl,hw⟩:=hp
     refine⟨_,hw,?_⟩
     try simp only[nm]
     replace h:=ltE h;obtain⟨v42,e42,h⟩:=h
     apply AW.last
     ·simp[← e42]
      intros;rfl
     obtain rfl:=oi h
     refine nP_i ?_
     refine Weak.mixN [some 0] hn0 (by decide) ?_ ?_ rfl
     all_goals first|(simp[Ab,Ac,pickOb];done)|rfl
   |false =>
    replace h:=iteF rfl h
    refine AW.cond_false (by simp) ?_
    refine AW.exit ?_
    try simp only[nm]
    obtain rfl:=oi h
    refine xP_i ?_
    refine Weak.mixN [some 0] hn0 (by decide) ?_ ?_ rfl
    all_goals first|(simp[Ab,Ac,pickOb];done)|rfl
  ·rintro e s hp
   obtain⟨rfl,hw⟩:=hp
   refine⟨_,hw,?_⟩
   try simp only[nm]
   apply AW.step
   ·simp
    intros;rfl
   replace h:=chkE h;obtain⟨e43,h⟩:=h
   refine AW.frzRow 0 (ty:=114) (cap:=none) (sz:=6) (es:=encPair y18) (by simp) (by omega) (Ax _) (by first|exact (Ah e43).2|simpa using (Ah e43).2|simp) (by simp[Tm.frz,AV.frz,LV.frz];rfl) (by simp[Ob.frz,LV.frz];rfl) rfl ?_
   obtain rfl:=oi h
   refine AW.ret ?_
   refine Left.plain hnb (by simp[Tryz.f81,resV,resC,comp];rfl) rfl rfl ?_
   simp
theorem ID:Enters Tryz.prog 81:=enters Tryz.func81 (by kernel_rfl) rfl
def EH (n:Nat) (a0:List Pair) (a1:Int):Option (List Pair×Int) :=
some (a0,a1)
theorem Kk {n:Nat} {a0:List Pair} {a1:Int} {r:List Pair×Int} (h:EH n a0 a1=some r):Sound Tryz.prog 78 [.l (.d false 6 (encPair a0)),.l (.s (.int .i64 a1))] [] (.l (.f 103 [0,1])) [some ⟨25,1,false,none,[.d false 6 (encPair r.1)]⟩,some ⟨3,1,false,none,[.s (.int .i64 r.2)]⟩]:=by
 unfold EH at h
 refine Sound.of_aw (fn:=Tryz.f78) (c:=_) Tryz.func78 rfl (by simp[Tryz.f78]) fun cx hG hnb=>?_
 rw[show Tryz.f78.ntmps=6 from rfl]
 have hn0:cx.nb=0:=hnb
 simp only[An,initTm,List.map_cons,List.map_nil]
 apply AW.step
 ·simp
  intros;rfl
 apply AW.step
 ·simp
  intros;rfl
 obtain rfl:=oi h
 refine AW.ret ?_
 refine Left.of (av:=_) (by simp[Tryz.f78,resV,resC,comp];rfl) ?_
 exact LeftV.mix 0 [some 0,some 1] hn0 rfl (by decide) rfl (by simp[pickOb,Ab,Ac]) (by simp[Ab,Ac])
theorem Jr:Enters Tryz.prog 78:=enters Tryz.func78 (by kernel_rfl) rfl
def Bn (n:Nat) (a0:ByteArray) (a1:Int):Option Int :=
lt (idxB a0 a1) fun v1 =>
some v1
theorem Dl {n:Nat} {a0:ByteArray} {a1:Int} {r:Int} (h:Bn n a0 a1=some r):Sound Tryz.prog 163 [.l (.s (.string a0)),.l (.s (.int .u8 a1))] [] (.l (.s (.int .i64 r))) []:=by
 unfold Bn at h
 refine Sound.of_aw (fn:=Tryz.f163) (c:=_) Tryz.func163 rfl (by simp[Tryz.f163]) fun cx hG hnb=>?_
 rw[show Tryz.f163.ntmps=8 from rfl]
 have hn0:cx.nb=0:=hnb
 simp only[An,initTm,List.map_cons,List.map_nil]
 apply AW.step
 ·simp
  intros;rfl
 replace h:=ltE h;obtain⟨v1,e1,h⟩:=h
 apply AW.step
 ·simp[← e1]
  intros
  refine Ma Tryz.func172 (by kernel_rfl) (by kernel_rfl) (by kernel_rfl) (by kernel_rfl) ?_
  try simp[← e1]
  intros;rfl
 obtain rfl:=oi h
 refine AW.ret ?_
 refine Left.plain hnb (by simp[Tryz.f163,resV,resC,comp];rfl) rfl rfl ?_
 simp
theorem C6:Enters Tryz.prog 163:=enters Tryz.func163 (by kernel_rfl) rfl
def Bo (n:Nat) (a0:ByteArray):Option Int :=
lt (eqS ⟨#[123]⟩ a0) fun v1 =>
ite' v1 (some 0) (bn (Bn n a0 123) fun v2 =>
some v2)
theorem Gn {n:Nat} {a0:ByteArray} {r:Int} (h:Bo n a0=some r):Sound Tryz.prog 152 [.l (.s (.string a0)),.l (.s (.string ⟨#[123]⟩))] [] (.l (.s (.int .i64 r))) []:=by
 unfold Bo at h
 refine Sound.of_aw (fn:=Tryz.f152) (c:=_) Tryz.func152 rfl (by simp[Tryz.f152]) fun cx hG hnb=>?_
 rw[show Tryz.f152.ntmps=143 from rfl]
 have hn0:cx.nb=0:=hnb
 simp only[An,initTm,List.map_cons,List.map_nil]
 apply AW.step
 ·simp
  intros;rfl
 apply AW.step
 ·simp[(show lenS ⟨#[123]⟩=1 from rfl)]
  intros;rfl
 refine AW.seq ?_
 refine AW.block ?_
 replace h:=ltE h;obtain⟨v1,e1,h⟩:=h
 apply AW.step
 ·simp[(show eqI 1 0=false from rfl),← e1]
  intros;rfl
 cases v1 with
 |true =>
  replace h:=iteT rfl h
  refine AW.cond_true (by simp) ?_
  apply AW.step
  ·simp
   intros;rfl
  obtain rfl:=oi h
  refine AW.ret ?_
  refine Left.plain hnb (by simp[Tryz.f152,resV,resC,comp];rfl) rfl rfl ?_
  simp
 |false =>
  replace h:=iteF rfl h
  refine AW.cond_false (by simp) ?_
  apply AW.step
  ·simp[(show eqI 1 1=true from rfl)]
   intros;rfl
  refine AW.cond_true (by simp) ?_
  replace h:=bnE h;obtain⟨v2,e2,h⟩:=h
  apply AW.step
  ·simp[(show (0:Nat)<ByteArray.size ⟨#[123]⟩ by decide),(show bAt ⟨#[123]⟩ 0=123 from rfl)]
   intros
   refine Ae C6 (Dl e2) rfl ⟨.same rfl,.same rfl,trivial⟩ ?_
   try simp[(show (0:Nat)<ByteArray.size ⟨#[123]⟩ by decide),(show bAt ⟨#[123]⟩ 0=123 from rfl)]
   intros;rfl
  obtain rfl:=oi h
  refine AW.ret ?_
  refine Left.plain hnb (by simp[Tryz.f152,resV,resC,comp];rfl) rfl rfl ?_
  simp
theorem F6:Enters Tryz.prog 152:=enters Tryz.func152 (by kernel_rfl) rfl
def BD (n:Nat) (a0:ByteArray):Option (ByteArray×ByteArray×Bool) :=
bn (Bo n a0) fun v1 =>
lt (geI v1 0) fun v2 =>
ite' v2 (bn (segSh a0 v1) fun v3 =>
lt (addI .i64 v1 1) fun v5 =>
bn (segSl a0 v5) fun v6 =>
some (v3,v6,true)) (some (a0,⟨#[]⟩,false))
def DY1t2:List DI:=[⟨[0],[],[(0,none)],false⟩,⟨[0],[],[(7,none)],false⟩,⟨[0],[0,1],[(13,some 0),(14,some 1)],false⟩,⟨[0],[],[(0,none)],false⟩,⟨[0],[],[(7,none)],false⟩,⟨[0],[],[(1,none)],false⟩,⟨[0],[5],[(18,some 5)],false⟩,⟨[0],[4,5,6],[(17,some 4),(19,some 6)],false⟩,⟨[0],[3,4,5,6,7],[(16,some 3),(20,some 7)],false⟩,⟨[0],[0,1,2],[(15,some 2)],false⟩,⟨[],[0,1,2,3,4,5,6,7,8,9],[],false⟩,⟨[],[0,1,2,3,4,5,6,7,8,9,10],[],false⟩]
theorem Hc {n:Nat} {a0:ByteArray} {r:ByteArray×ByteArray×Bool} (h:BD n a0=some r):Sound Tryz.prog 147 [.l (.s (.string a0)),.l (.s (.string ⟨#[123]⟩))] [] (.t [(false,[.s (.string r.1)]),(false,[.s (.string r.2.1)]),(false,[.s (.bool r.2.2)])]) []:=by
 unfold BD at h
 refine Sound.of_aw (fn:=Tryz.f147) (c:=_) Tryz.func147 rfl (by simp[Tryz.f147]) fun cx hG hnb=>?_
 rw[show Tryz.f147.ntmps=23 from rfl]
 have hn0:cx.nb=0:=hnb
 simp only[An,initTm,List.map_cons,List.map_nil]
 apply AW.step
 ·simp
  intros;rfl
 refine AW.seq ?_
 replace h:=bnE h;obtain⟨v1,e1,h⟩:=h
 apply AW.step
 ·simp
  intros
  refine Ae F6 (Gn e1) rfl ⟨.same rfl,.same rfl,trivial⟩ ?_
  try simp
  intros;rfl
 replace h:=ltE h;obtain⟨v2,e2,h⟩:=h
 apply AW.step
 ·simp[← e2]
  intros;rfl
 cases v2 with
 |true =>
  replace h:=iteT rfl h
  refine AW.cond_true (by simp) ?_
  replace h:=bnE h;obtain⟨v3,e3,h⟩:=h
  have f4:=Lz e3
  try simp at f4
  replace h:=ltE h;obtain⟨v5,e5,h⟩:=h
  replace h:=bnE h;obtain⟨v6,e6,h⟩:=h
  have f7:=Ly e6
  try simp[f4,(show lenS ⟨#[123]⟩=1 from rfl),← e5] at f7
  apply AW.drawnP (V:=[_,_,_,_,_,_,_,_,_,_]) mixed DY1t2 10 (by kernel_rfl) (by kernel_rfl)
  ·refine⟨?_,?_,?_,?_,?_,?_,?_,?_,?_,?_,trivial⟩
   iterate 10 (· intro tm hr;simp[AllL,rdV] at hr;simp[hr,f4,(show lenS ⟨#[123]⟩=1 from rfl),← e5,f7];intros;first|exact KD.mk|exact KD.mkN)
  ·rfl
  ·simp[tmD,putD,f4,(show lenS ⟨#[123]⟩=1 from rfl),← e5,f7];rfl
  ·simp[f4,(show lenS ⟨#[123]⟩=1 from rfl),← e5,f7]
   intros;rfl
  obtain rfl:=oi h
  refine AW.ret ?_
  refine Left.plain hnb (by simp[Tryz.f147,resV,resC,comp];rfl) rfl rfl ?_
  simp
 |false =>
  replace h:=iteF rfl h
  refine AW.cond_false (by simp) ?_
  refine AW.skip ?_
  try simp only[nm]
  apply AW.step
  ·simp
   intros;rfl
  obtain rfl:=oi h
  refine AW.ret ?_
  refine Left.plain hnb (by simp[Tryz.f147,resV,resC,comp];rfl) rfl rfl ?_
  simp
theorem GJ:Enters Tryz.prog 147:=enters Tryz.func147 (by kernel_rfl) rfl
def Bx (n:Nat) (a0:ByteArray):Option (ByteArray×ByteArray×Bool) :=
bn (BD n a0) fun v1 =>
some (v1.1,v1.2.1,v1.2.2)
theorem Js {n:Nat} {a0:ByteArray} {r:ByteArray×ByteArray×Bool} (h:Bx n a0=some r):Sound Tryz.prog 138 [.l (.s (.string a0)),.l (.s (.string ⟨#[123]⟩))] [] (.t [(false,[.s (.string r.1)]),(false,[.s (.string r.2.1)]),(false,[.s (.bool r.2.2)])]) []:=by
 unfold Bx at h
 refine Sound.of_aw (fn:=Tryz.f138) (c:=_) Tryz.func138 rfl (by simp[Tryz.f138]) fun cx hG hnb=>?_
 rw[show Tryz.f138.ntmps=13 from rfl]
 have hn0:cx.nb=0:=hnb
 simp only[An,initTm,List.map_cons,List.map_nil]
 apply AW.step
 ·simp
  intros;rfl
 replace h:=bnE h;obtain⟨v1,e1,h⟩:=h
 apply AW.step
 ·simp
  intros
  refine Ae GJ (Hc e1) rfl ⟨.same rfl,.same rfl,trivial⟩ ?_
  try simp
  intros;rfl
 obtain rfl:=oi h
 refine AW.ret ?_
 refine Left.plain hnb (by simp[Tryz.f138,resV,resC,comp];rfl) rfl rfl ?_
 simp
theorem IE:Enters Tryz.prog 138:=enters Tryz.func138 (by kernel_rfl) rfl
def A6 (n:Nat) (a0:ByteArray):Option Int :=
lt (eqS ⟨#[125]⟩ a0) fun v1 =>
ite' v1 (some 0) (bn (Bn n a0 125) fun v2 =>
some v2)
theorem FF {n:Nat} {a0:ByteArray} {r:Int} (h:A6 n a0=some r):Sound Tryz.prog 152 [.l (.s (.string a0)),.l (.s (.string ⟨#[125]⟩))] [] (.l (.s (.int .i64 r))) []:=by
 unfold A6 at h
 refine Sound.of_aw (fn:=Tryz.f152) (c:=_) Tryz.func152 rfl (by simp[Tryz.f152]) fun cx hG hnb=>?_
 rw[show Tryz.f152.ntmps=143 from rfl]
 have hn0:cx.nb=0:=hnb
 simp only[An,initTm,List.map_cons,List.map_nil]
 apply AW.step
 ·simp
  intros;rfl
 apply AW.step
 ·simp[(show lenS ⟨#[125]⟩=1 from rfl)]
  intros;rfl
 refine AW.seq ?_
 refine AW.block ?_
 replace h:=ltE h;obtain⟨v1,e1,h⟩:=h
 apply AW.step
 ·simp[(show eqI 1 0=false from rfl),← e1]
  intros;rfl
 cases v1 with
 |true =>
  replace h:=iteT rfl h
  refine AW.cond_true (by simp) ?_
  apply AW.step
  ·simp
   intros;rfl
  obtain rfl:=oi h
  refine AW.ret ?_
  refine Left.plain hnb (by simp[Tryz.f152,resV,resC,comp];rfl) rfl rfl ?_
  simp
 |false =>
  replace h:=iteF rfl h
  refine AW.cond_false (by simp) ?_
  apply AW.step
  ·simp[(show eqI 1 1=true from rfl)]
   intros;rfl
  refine AW.cond_true (by simp) ?_
  replace h:=bnE h;obtain⟨v2,e2,h⟩:=h
  apply AW.step
  ·simp[(show (0:Nat)<ByteArray.size ⟨#[125]⟩ by decide),(show bAt ⟨#[125]⟩ 0=125 from rfl)]
   intros
   refine Ae C6 (Dl e2) rfl ⟨.same rfl,.same rfl,trivial⟩ ?_
   try simp[(show (0:Nat)<ByteArray.size ⟨#[125]⟩ by decide),(show bAt ⟨#[125]⟩ 0=125 from rfl)]
   intros;rfl
  obtain rfl:=oi h
  refine AW.ret ?_
  refine Left.plain hnb (by simp[Tryz.f152,resV,resC,comp];rfl) rfl rfl ?_
  simp
theorem Fl:Enters Tryz.prog 152:=enters Tryz.func152 (by kernel_rfl) rfl
def Bh (n:Nat) (a0:ByteArray):Option (ByteArray×ByteArray×Bool) :=
bn (A6 n a0) fun v1 =>
lt (geI v1 0) fun v2 =>
ite' v2 (bn (segSh a0 v1) fun v3 =>
lt (addI .i64 v1 1) fun v5 =>
bn (segSl a0 v5) fun v6 =>
some (v3,v6,true)) (some (a0,⟨#[]⟩,false))
theorem F7 {n:Nat} {a0:ByteArray} {r:ByteArray×ByteArray×Bool} (h:Bh n a0=some r):Sound Tryz.prog 147 [.l (.s (.string a0)),.l (.s (.string ⟨#[125]⟩))] [] (.t [(false,[.s (.string r.1)]),(false,[.s (.string r.2.1)]),(false,[.s (.bool r.2.2)])]) []:=by
 unfold Bh at h
 refine Sound.of_aw (fn:=Tryz.f147) (c:=_) Tryz.func147 rfl (by simp[Tryz.f147]) fun cx hG hnb=>?_
 rw[show Tryz.f147.ntmps=23 from rfl]
 have hn0:cx.nb=0:=hnb
 simp only[An,initTm,List.map_cons,List.map_nil]
 apply AW.step
 ·simp
  intros;rfl
 refine AW.seq ?_
 replace h:=bnE h;obtain⟨v1,e1,h⟩:=h
 apply AW.step
 ·simp
  intros
  refine Ae Fl (FF e1) rfl ⟨.same rfl,.same rfl,trivial⟩ ?_
  try simp
  intros;rfl
 replace h:=ltE h;obtain⟨v2,e2,h⟩:=h
 apply AW.step
 ·simp[← e2]
  intros;rfl
 cases v2 with
 |true =>
  replace h:=iteT rfl h
  refine AW.cond_true (by simp) ?_
  replace h:=bnE h;obtain⟨v3,e3,h⟩:=h
  have f4:=Lz e3
  try simp at f4
  replace h:=ltE h;obtain⟨v5,e5,h⟩:=h
  replace h:=bnE h;obtain⟨v6,e6,h⟩:=h
  have f7:=Ly e6
  try simp[f4,(show lenS ⟨#[125]⟩=1 from rfl),← e5] at f7
  apply AW.drawnP (V:=[_,_,_,_,_,_,_,_,_,_]) mixed DY1t2 10 (by kernel_rfl) (by kernel_rfl)
  ·refine⟨?_,?_,?_,?_,?_,?_,?_,?_,?_,?_,trivial⟩
   iterate 10 (· intro tm hr;simp[AllL,rdV] at hr;simp[hr,f4,(show lenS ⟨#[125]⟩=1 from rfl),← e5,f7];intros;first|exact KD.mk|exact KD.mkN)
  ·rfl
  ·simp[tmD,putD,f4,(show lenS ⟨#[125]⟩=1 from rfl),← e5,f7];rfl
  ·simp[f4,(show lenS ⟨#[125]⟩=1 from rfl),← e5,f7]
   intros;rfl
  obtain rfl:=oi h
  refine AW.ret ?_
  refine Left.plain hnb (by simp[Tryz.f147,resV,resC,comp];rfl) rfl rfl ?_
  simp
 |false =>
  replace h:=iteF rfl h
  refine AW.cond_false (by simp) ?_
  refine AW.skip ?_
  try simp only[nm]
  apply AW.step
  ·simp
   intros;rfl
  obtain rfl:=oi h
  refine AW.ret ?_
  refine Left.plain hnb (by simp[Tryz.f147,resV,resC,comp];rfl) rfl rfl ?_
  simp
theorem FU:Enters Tryz.prog 147:=enters Tryz.func147 (by kernel_rfl) rfl
def A8 (n:Nat) (a0:ByteArray):Option (ByteArray×ByteArray×Bool) :=
bn (Bh n a0) fun v1 =>
some (v1.1,v1.2.1,v1.2.2)
theorem HC {n:Nat} {a0:ByteArray} {r:ByteArray×ByteArray×Bool} (h:A8 n a0=some r):Sound Tryz.prog 138 [.l (.s (.string a0)),.l (.s (.string ⟨#[125]⟩))] [] (.t [(false,[.s (.string r.1)]),(false,[.s (.string r.2.1)]),(false,[.s (.bool r.2.2)])]) []:=by
 unfold A8 at h
 refine Sound.of_aw (fn:=Tryz.f138) (c:=_) Tryz.func138 rfl (by simp[Tryz.f138]) fun cx hG hnb=>?_
 rw[show Tryz.f138.ntmps=13 from rfl]
 have hn0:cx.nb=0:=hnb
 simp only[An,initTm,List.map_cons,List.map_nil]
 apply AW.step
 ·simp
  intros;rfl
 replace h:=bnE h;obtain⟨v1,e1,h⟩:=h
 apply AW.step
 ·simp
  intros
  refine Ae FU (F7 e1) rfl ⟨.same rfl,.same rfl,trivial⟩ ?_
  try simp
  intros;rfl
 obtain rfl:=oi h
 refine AW.ret ?_
 refine Left.plain hnb (by simp[Tryz.f138,resV,resC,comp];rfl) rfl rfl ?_
 simp
theorem He:Enters Tryz.prog 138:=enters Tryz.func138 (by kernel_rfl) rfl
def BS (n:Nat) (a0:ByteArray):Option ByteArray :=
bn (Bx n a0) fun v1 =>
bn (A8 n v1.2.1) fun v2 =>
bn (lt (v1.2.2) fun v4 =>
ite' v4 (lt (v2.2.2) fun v5 =>
ite' v5 (lt (neS v2.1 ⟨#[]⟩) fun v6 =>
some (v6)) (some (false))) (some (false))) fun (y3:Bool) =>
lt (y3) fun v7 =>
ite' v7 (some v2.1) (some a0)
theorem Me {n:Nat} {a0:ByteArray} {r:ByteArray} (h:BS n a0=some r):Sound Tryz.prog 117 [.l (.s (.string a0))] [] (.l (.s (.string r))) []:=by
 unfold BS at h
 refine Sound.of_aw (fn:=Tryz.f117) (c:=_) Tryz.func117 rfl (by simp[Tryz.f117]) fun cx hG hnb=>?_
 rw[show Tryz.f117.ntmps=31 from rfl]
 have hn0:cx.nb=0:=hnb
 simp only[An,initTm,List.map_cons,List.map_nil]
 apply AW.step
 ·simp
  intros;rfl
 replace h:=bnE h;obtain⟨v1,e1,h⟩:=h
 apply AW.step
 ·simp
  intros
  refine Ae IE (Js e1) rfl ⟨.same rfl,.same rfl,trivial⟩ ?_
  try simp
  intros;rfl
 replace h:=bnE h;obtain⟨v2,e2,h⟩:=h
 apply AW.step
 ·simp
  intros
  refine Ae He (HC e2) rfl ⟨.same rfl,.same rfl,trivial⟩ ?_
  try simp
  intros;rfl
 refine AW.seq ?_
 replace h:=bnE h;obtain⟨y3,g3,h⟩:=h
 refine AW.flow (p:=fun gh ls=>(nP (cx:=cx) (fun q=>(⟨[(0,.l (.s (.string a0))),(6,.l (.s (.string v2.1))),(28,.l (.s (.bool q)))],[],31,gh,ls⟩:St))) y3) ?_ ?_
 ·replace h:=g3;clear g3
  replace h:=ltE h;obtain⟨v4,e4,h⟩:=h
  cases v4 with
  |true =>
   replace h:=iteT rfl h
   replace h:=ltE h;obtain⟨v5,e5,h⟩:=h
   cases v5 with
   |true =>
    replace h:=iteT rfl h
    replace h:=ltE h;obtain⟨v6,e6,h⟩:=h
    apply AW.last
    ·simp[← e4,← e5,← e6]
     intros;rfl
    obtain rfl:=oi h
    refine nP_i ?_
    refine Weak.mixN [] hn0 (by decide) ?_ ?_ rfl
    all_goals first|(simp[Ab,Ac,pickOb];done)|rfl
   |false =>
    replace h:=iteF rfl h
    apply AW.last
    ·simp[← e4,← e5]
     intros;rfl
    obtain rfl:=oi h
    refine nP_i ?_
    refine Weak.mixN [] hn0 (by decide) ?_ ?_ rfl
    all_goals first|(simp[Ab,Ac,pickOb];done)|rfl
  |false =>
   replace h:=iteF rfl h
   apply AW.last
   ·simp[← e4]
    intros;rfl
   obtain rfl:=oi h
   refine nP_i ?_
   refine Weak.mixN [] hn0 (by decide) ?_ ?_ rfl
   all_goals first|(simp[Ab,Ac,pickOb];done)|rfl
 ·rintro e s hp
  obtain⟨rfl,hw⟩:=hp
  refine⟨_,hw,?_⟩
  try simp only[nm]
  replace h:=ltE h;obtain⟨v7,e7,h⟩:=h
  rw[← e7]
  cases v7 with
  |true =>
   replace h:=iteT rfl h
   refine AW.cond_true (by simp) ?_
   apply AW.step
   ·simp
    intros;rfl
   obtain rfl:=oi h
   refine AW.ret ?_
   refine Left.plain hnb (by simp[Tryz.f117,resV,resC,comp];rfl) rfl rfl ?_
   simp
  |false =>
   replace h:=iteF rfl h
   refine AW.cond_false (by simp) ?_
   refine AW.skip ?_
   try simp only[nm]
   apply AW.step
   ·simp
    intros;rfl
   obtain rfl:=oi h
   refine AW.ret ?_
   refine Left.plain hnb (by simp[Tryz.f117,resV,resC,comp];rfl) rfl rfl ?_
   simp
theorem K3:Enters Tryz.prog 117:=enters Tryz.func117 (by kernel_rfl) rfl
def Dv (n:Nat) (a0:List Int):Option Int :=
lt (lenI a0) fun v1 =>
bn (iter n (fun (y2:Int×Int) =>
lt (ltI y2.2 v1) fun v5 =>
ite' v5 (bn (nth a0 y2.2) fun v6 =>
lt (cvI .u16 v6) fun v7 =>
bn (shlI .u16 v7 8) fun v8 =>
lt (xorI .u16 y2.1 v8) fun v9 =>
bn (iter n (fun (y10:Int×Int) =>
lt (ltI y10.2 8) fun v13 =>
ite' v13 (bn (shrI .u16 y10.1 15) fun v14 =>
bn (shlI .u16 y10.1 1) fun v15 =>
lt (mulI .u16 4129 v14) fun v16 =>
lt (xorI .u16 v15 v16) fun v17 =>
lt (addI .i64 y10.2 1) fun v18 =>
some (.inl (v17,v18))) (some (.inr y10.1))) (v9,0)) fun (y11:Int) =>
lt (addI .i64 y2.2 1) fun v19 =>
some (.inl (y11,v19))) (some (.inr y2.1))) (0,0)) fun (y3:Int) =>
lt (cvI .i64 y3) fun v20 =>
some v20
theorem Mf {n:Nat} {a0:List Int} {r:Int} (h:Dv n a0=some r):Sound Tryz.prog 116 [.l (.d false 1 (encU a0))] [] (.l (.s (.int .i64 r))) []:=by
 unfold Dv at h
 refine Sound.of_aw (fn:=Tryz.f116) (c:=_) Tryz.func116 rfl (by simp[Tryz.f116]) fun cx hG hnb=>?_
 rw[show Tryz.f116.ntmps=31 from rfl]
 have hn0:cx.nb=0:=hnb
 simp only[An,initTm,List.map_cons,List.map_nil]
 apply AW.step
 ·simp
  intros;rfl
 apply AW.step
 ·simp
  intros;rfl
 refine AW.seq ?_
 replace h:=ltE h;obtain⟨v1,e1,h⟩:=h
 apply AW.step
 ·simp[Aa e1]
  intros;rfl
 refine AW.block ?_
 replace h:=bnE h;obtain⟨y3,g3,h⟩:=h
 refine AW.iterP g3 (mk:=fun gh ls q=>(⟨[(3,.l (.s (.int .u16 q.1))),(7,.l (.d false 1 (encU a0))),(8,.l (.s (.int .i64 v1))),(9,.l (.s (.int .i64 q.2)))],[],31,gh,ls⟩:St)) (N:=fun gh ls=>(xP 0 (cx:=cx) (fun q=>(⟨[(3,.l (.s (.int .u16 q)))],[],31,gh,ls⟩:St)))) ?_ noX ?_ ?_
 ·refine Weak.mixN [] hn0 (by decide) ?_ ?_ rfl
  all_goals first|(simp[Ab,Ac,pickOb];done)|rfl
 ·clear h;intro y2 y4 h
  replace h:=ltE h;obtain⟨v5,e5,h⟩:=h
  apply AW.step
  ·simp[← e5]
   intros;rfl
  refine AW.seq ?_
  cases v5 with
  |true =>
   replace h:=iteT rfl h
   refine AW.cond_true (by simp) ?_
   refine AW.skip ?_
   try simp only[nm]
   refine AW.seq ?_
   refine AW.block ?_
   replace h:=bnE h;obtain⟨v6,e6,h⟩:=h
   apply AW.step
   ·simp[Ad e6]
    intros;rfl
   replace h:=ltE h;obtain⟨v7,e7,h⟩:=h
   replace h:=bnE h;obtain⟨v8,e8,h⟩:=h
   replace h:=ltE h;obtain⟨v9,e9,h⟩:=h
   apply AW.step
   ·simp[← e7,e8,← e9]
    intros;rfl
   apply AW.step
   ·simp
    intros;rfl
   refine AW.block ?_
   replace h:=bnE h;obtain⟨y11,g11,h⟩:=h
   refine AW.iterP g11 (mk:=fun gh ls q=>(⟨[(3,.l (.s (.int .u16 q.1))),(7,.l (.d false 1 (encU a0))),(8,.l (.s (.int .i64 v1))),(9,.l (.s (.int .i64 y2.2))),(18,.l (.s (.int .i64 q.2)))],[],31,gh,ls⟩:St)) (N:=fun gh ls=>(xP 2 (cx:=cx) (fun q=>(⟨[(3,.l (.s (.int .u16 q))),(7,.l (.d false 1 (encU a0))),(8,.l (.s (.int .i64 v1))),(9,.l (.s (.int .i64 y2.2)))],[],31,gh,ls⟩:St)))) ?_ noX ?_ ?_
   ·refine Weak.mixN [] hn0 (by decide) ?_ ?_ rfl
    all_goals first|(simp[Ab,Ac,pickOb];done)|rfl
   ·clear h;intro y10 y12 h
    replace h:=ltE h;obtain⟨v13,e13,h⟩:=h
    apply AW.step
    ·simp[← e13]
     intros;rfl
    refine AW.seq ?_
    cases v13 with
    |true =>
     replace h:=iteT rfl h
     refine AW.cond_true (by simp) ?_
     refine AW.skip ?_
     try simp only[nm]
     refine AW.seq ?_
     refine AW.block ?_
     replace h:=bnE h;obtain⟨v14,e14,h⟩:=h
     apply AW.step
     ·simp[e14]
      intros;rfl
     replace h:=bnE h;obtain⟨v15,e15,h⟩:=h
     replace h:=ltE h;obtain⟨v16,e16,h⟩:=h
     replace h:=ltE h;obtain⟨v17,e17,h⟩:=h
     apply AW.last
     ·simp[e15,← e16,← e17]
      intros;rfl
     try simp only[nm]
     replace h:=ltE h;obtain⟨v18,e18,h⟩:=h
     apply AW.last
     ·simp[← e18]
      intros;rfl
     obtain rfl:=oi h
     refine nP_i ?_
     refine Weak.mixN [] hn0 (by decide) ?_ ?_ rfl
     all_goals first|(simp[Ab,Ac,pickOb];done)|rfl
    |false =>
     replace h:=iteF rfl h
     refine AW.cond_false (by simp) ?_
     refine AW.exit ?_
     try simp only[nm]
     obtain rfl:=oi h
     refine xP_i ?_
     refine Weak.mixN [] hn0 (by decide) ?_ ?_ rfl
     all_goals first|(simp[Ab,Ac,pickOb];done)|rfl
   ·rintro e s hp
    obtain⟨rfl,hw⟩:=hp
    refine⟨_,hw,?_⟩
    try simp only[nm]
    replace h:=ltE h;obtain⟨v19,e19,h⟩:=h
    apply AW.last
    ·simp[← e19]
     intros;rfl
    obtain rfl:=oi h
    refine nP_i ?_
    refine Weak.mixN [] hn0 (by decide) ?_ ?_ rfl
    all_goals first|(simp[Ab,Ac,pickOb];done)|rfl
  |false =>
   replace h:=iteF rfl h
   refine AW.cond_false (by simp) ?_
   refine AW.exit ?_
   try simp only[nm]
   obtain rfl:=oi h
   refine xP_i ?_
   refine Weak.mixN [] hn0 (by decide) ?_ ?_ rfl
   all_goals first|(simp[Ab,Ac,pickOb];done)|rfl
 ·rintro e s hp
  obtain⟨rfl,hw⟩:=hp
  refine⟨_,hw,?_⟩
  try simp only[nm]
  replace h:=ltE h;obtain⟨v20,e20,h⟩:=h
  apply AW.step
  ·simp[← e20]
   intros;rfl
  obtain rfl:=oi h
  refine AW.ret ?_
  refine Left.plain hnb (by simp[Tryz.f116,resV,resC,comp];rfl) rfl rfl ?_
  simp
theorem K4:Enters Tryz.prog 116:=enters Tryz.func116 (by kernel_rfl) rfl
def CE (n:Nat) (a0:ByteArray):Option Int :=
bn (BS n a0) fun v1 =>
chk (room v1.size 1) <|
lt (bytesI v1) fun v3 =>
bn (Dv n v3) fun v4 =>
bn (remI .i64 v4 16384) fun v5 =>
some v5
theorem GK {n:Nat} {a0:ByteArray} {r:Int} (h:CE n a0=some r):Sound Tryz.prog 87 [.l (.s (.string a0))] [] (.l (.s (.int .i64 r))) []:=by
 unfold CE at h
 refine Sound.of_aw (fn:=Tryz.f87) (c:=_) Tryz.func87 rfl (by simp[Tryz.f87]) fun cx hG hnb=>?_
 rw[show Tryz.f87.ntmps=8 from rfl]
 have hn0:cx.nb=0:=hnb
 simp only[An,initTm,List.map_cons,List.map_nil]
 apply AW.step
 ·simp
  intros;rfl
 replace h:=bnE h;obtain⟨v1,e1,h⟩:=h
 replace h:=chkE h;obtain⟨e2,h⟩:=h
 replace h:=ltE h;obtain⟨v3,e3,h⟩:=h
 replace h:=bnE h;obtain⟨v4,e4,h⟩:=h
 replace h:=bnE h;obtain⟨v5,e5,h⟩:=h
 apply AW.step
 ·simp[(Ah e2).2,← e3,e5]
  intros
  refine Ae K3 (Me e1) rfl ⟨.same rfl,trivial⟩ ?_
  try simp[(Ah e2).2,← e3,e5]
  intros
  refine Ae K4 (Mf e4) rfl ⟨.same rfl,trivial⟩ ?_
  try simp[(Ah e2).2,← e3,e5]
  intros;rfl
 obtain rfl:=oi h
 refine AW.ret ?_
 refine Left.plain hnb (by simp[Tryz.f87,resV,resC,comp];rfl) rfl rfl ?_
 simp
theorem F8:Enters Tryz.prog 87:=enters Tryz.func87 (by kernel_rfl) rfl
def BJ (n:Nat) (b1_0:List Pair) (b1_1:Int):Option (List ByteArray) :=
bn (lt (lenI b1_0) fun v2 =>
bn (iter n (fun (y3:Int×List ByteArray) =>
lt (ltI y3.1 v2) fun v6 =>
ite' v6 (bn (nth b1_0 y3.1) fun v7 =>
bn (CE n v7.key) fun v8 =>
lt (eqI v8 b1_1) fun v9 =>
ite' v9 (chk (room (y3.2.length+1) 16) <|
lt (y3.2++[v7.key]) fun v11 =>
lt (addI .i64 y3.1 1) fun v12 =>
some (.inl (v12,v11))) (lt (addI .i64 y3.1 1) fun v13 =>
some (.inl (v13,y3.2)))) (some (.inr y3.2))) (0,[])) fun (y4:List ByteArray) =>
some (y4)) fun (y1:List ByteArray) =>
chk (room y1.length 1) <|
some y1
def DY1t3:List DI:=[⟨[0],[],[(5,none)],false⟩,⟨[0],[0],[(12,some 0)],false⟩,⟨[0],[0,1],[(13,some 1)],false⟩,⟨[0],[],[(2,none)],false⟩,⟨[0],[0,1,2,3],[(14,some 2),(15,some 3)],false⟩,⟨[0],[0,1,2,3,4],[(16,some 4)],false⟩,⟨[0],[0,1,2,3,4,5],[(0,none),(17,some 5)],false⟩,⟨[0],[0,1,2,3,4,5],[(5,none),(17,some 5)],false⟩,⟨[0],[0,1,2,3,4,5,7],[(17,some 5),(19,some 7)],false⟩,⟨[],[0,1,2,3,4,5,6,7,8],[],false⟩,⟨[],[0,1,2,3,4,5,6,7,8,9],[],false⟩,⟨[],[0,1,2,3,4,5,6,7,8,9,10],[],false⟩]
theorem EY {n:Nat} {b1_0:List Pair} {b1_1:Int} {r:List ByteArray} (h:BJ n b1_0 b1_1=some r):Sound Tryz.prog 102 [.l (.s (.slice none 0 0)),.l (.f 103 [0,1])] [⟨25,1,false,none,[.d false 6 (encPair b1_0)]⟩,⟨3,1,false,none,[.s (.int .i64 b1_1)]⟩] (.l (.d false 1 (encS r))) [some ⟨25,1,false,none,[.d false 6 (encPair b1_0)]⟩,some ⟨3,1,false,none,[.s (.int .i64 b1_1)]⟩]:=by
 unfold BJ at h
 refine Sound.of_aw (fn:=Tryz.f102) (c:=_) Tryz.func102 rfl (by simp[Tryz.f102]) fun cx hG hnb=>?_
 rw[show Tryz.f102.ntmps=13 from rfl]
 have hn0:cx.nb=2:=hnb
 simp only[An,initTm,List.map_cons,List.map_nil]
 apply AW.step
 ·simp
  intros;rfl
 replace h:=bnE h;obtain⟨y1,g1,h⟩:=h
 refine AW.flow (p:=fun gh ls=>(nP (cx:=cx) (fun q=>(⟨[(2,.l (.p 2 0))],[some ⟨25,1,false,none,[.d false 6 (encPair b1_0)]⟩,some ⟨3,1,false,none,[.s (.int .i64 b1_1)]⟩,some ⟨55,1,false,none,[.r 3 1 0 q.length]⟩,some ⟨9,1,true,none,lvs (encS q)⟩],13,gh,ls⟩:St))) y1) ?_ ?_
 ·replace h:=g1;clear g1
  apply AW.step
  ·simp
   intros;rfl
  refine AW.block ?_
  refine AW.weak (Weak.keep [(2,.l (.p 2 0)),(6,.l (.f 103 [0,1]))] (by simp)) ?_
  refine AW.rangeG rfl Tryz.func103 (by kernel_rfl) rfl (by decide) rfl rfl fun cxI1 yl1 hnI1 hY1=>?_
  have hnJ1:cxI1.nb=2:=hnI1.trans hn0
  simp only[initTm,List.map_cons,List.map_nil]
  replace h:=ltE h;obtain⟨v2,e2,h⟩:=h
  apply AW.step
  ·simp[Aa e2]
   intros;rfl
  refine AW.block ?_
  replace h:=bnE h;obtain⟨y4,g4,h⟩:=h
  refine AW.iterP g4 (mk:=fun gh ls q=>(⟨[(0,.l (.s (.func (.yield yl1) #[] #[]))),(2,.l (.p 1 0)),(6,.l (.d false 6 (encPair b1_0))),(7,.l (.s (.int .i64 v2))),(8,.l (.s (.int .i64 q.1)))],[some ⟨25,1,false,none,[.d false 6 (encPair b1_0)]⟩,some ⟨3,1,false,none,[.s (.int .i64 b1_1)]⟩,some ⟨55,1,false,none,[.r 3 1 0 q.2.length]⟩,some ⟨9,1,true,none,lvs (encS q.2)⟩],25,gh,ls⟩:St)) (N:=fun gh ls=>(xP 0 (cx:=cxI1) (fun q=>(⟨[],[some ⟨25,1,false,none,[.d false 6 (encPair b1_0)]⟩,some ⟨3,1,false,none,[.s (.int .i64 b1_1)]⟩,some ⟨55,1,false,none,[.r 3 1 0 q.length]⟩,some ⟨9,1,true,none,lvs (encS q)⟩],25,gh,ls⟩:St)))) ?_ noX ?_ ?_
  ·refine W.nilCell 2 0 9 1 3 rfl rfl rfl rfl rfl ?_
   refine Weak.mixB 2 [some 0,some 1,some 2,some 3] hnJ1 (by decide) (by decide) ?_ ?_ ?_
   all_goals first|(simp[Ab,Ac,pickOb];done)|rfl
  ·clear h;intro y3 y5 h
   replace h:=ltE h;obtain⟨v6,e6,h⟩:=h
   apply AW.step
   ·simp[← e6]
    intros;rfl
   refine AW.seq ?_
   cases v6 with
   |true =>
    replace h:=iteT rfl h
    refine AW.cond_true (by simp) ?_
    refine AW.skip ?_
    try simp only[nm]
    refine AW.seq ?_
    refine AW.block ?_
    replace h:=bnE h;obtain⟨v7,e7,h⟩:=h
    apply AW.step
    ·simp[Ad e7]
     intros;rfl
    replace h:=bnE h;obtain⟨v8,e8,h⟩:=h
    replace h:=ltE h;obtain⟨v9,e9,h⟩:=h
    cases v9 with
    |true =>
     replace h:=iteT rfl h
     apply AW.drawnYP (V:=[_,_,_,_,_,_,_,_,_]) mixed DY1t3 9 (by kernel_rfl) (by kernel_rfl)
     ·refine⟨?_,?_,?_,?_,?_,?_,?_,?_,?_,trivial⟩
      iterate 2 (· intro tm hr;simp[AllL,rdV] at hr;simp[hr,← e9];intros;first|exact KD.mk|exact KD.mkN)
      ·intro tm hr
       simp[AllL,rdV] at hr
       simp[hr,← e9]
       intros
       refine Ae F8 (GK e8) rfl ⟨.same rfl,trivial⟩ ?_
       try simp[← e9]
       intros;first|exact KD.mk|exact KD.mkN
      iterate 6 (· intro tm hr;simp[AllL,rdV] at hr;simp[hr,← e9];intros;first|exact KD.mk|exact KD.mkN)
     ·rfl
     ·simp[tmD,putD,← e9];rfl
     apply xopsY.yield hY1 9 9 rfl rfl rfl (by decide)
     ·simp[← e9]
      intros;rfl
     ·rfl
     ·first|trivial|simp[← e9]
     ·rfl
     ·rfl
     ·simp[puts,← e9];rfl
     intro cxR1 hnR1
     have hnS1:cxR1.nb=2:=hnR1.trans hnJ1
     apply AW.last
     ·simp
      intros;rfl
     refine⟨rfl,?_⟩
     refine AW.block ?_
     replace h:=chkE h;obtain⟨e10,h⟩:=h
     replace h:=ltE h;obtain⟨v11,e11,h⟩:=h
     apply AW.last
     ·simp[← Bb,← e11,Ao e11]
      intros
      refine Av ?_
      try simp[← Bb,← e11,Ao e11]
      intros
      refine AJ (acc:=encS y3.2) (ys:=encS [v7.key]) (cap:=none) (k:=1) Eo E4 (by simp) (by simp[encS,lvs]) (De _) (by simp) (by simp) (by first|(simp;done)|simpa using (Ah e10).1) ?_
      try simp[← Bb,← e11,Ao e11]
      intros;rfl
     refine⟨_,_,rfl,?_⟩
     refine Bl _ _ _ rfl ?_
     simp[puts,← e9]
     try intros
     unfold KK
     refine AW.cond_false (by simp) ?_
     refine AW.skip ?_
     try simp only[nm]
     replace h:=ltE h;obtain⟨v12,e12,h⟩:=h
     apply AW.last
     ·simp[← e12]
      intros;rfl
     obtain rfl:=oi h
     refine nP_i ?_
     refine Weak.mixB 2 [some 0,some 1,some 2,some 6] hnJ1 (by decide) (by decide) ?_ ?_ ?_
     all_goals first|(simp[Ab,Ac,pickOb,Fs];done)|rfl
    |false =>
     replace h:=iteF rfl h
     apply AW.drawnP (V:=[_,_,_,_,_,_,_,_,_]) mixed DY1t3 9 (by kernel_rfl) (by kernel_rfl)
     ·refine⟨?_,?_,?_,?_,?_,?_,?_,?_,?_,trivial⟩
      iterate 2 (· intro tm hr;simp[AllL,rdV] at hr;simp[hr,← e9];intros;first|exact KD.mk|exact KD.mkN)
      ·intro tm hr
       simp[AllL,rdV] at hr
       simp[hr,← e9]
       intros
       refine Ae F8 (GK e8) rfl ⟨.same rfl,trivial⟩ ?_
       try simp[← e9]
       intros;first|exact KD.mk|exact KD.mkN
      iterate 6 (· intro tm hr;simp[AllL,rdV] at hr;simp[hr,← e9];intros;first|exact KD.mk|exact KD.mkN)
     ·rfl
     ·simp[tmD,putD,← e9];rfl
     ·simp[← e9]
      intros;rfl
     refine AW.cond_false (by simp) ?_
     refine AW.skip ?_
     try simp only[nm]
     replace h:=ltE h;obtain⟨v13,e13,h⟩:=h
     apply AW.last
     ·simp[← e13]
      intros;rfl
     obtain rfl:=oi h
     refine nP_i ?_
     refine Weak.mixB 2 [some 0,some 1,some 2,some 3] hnJ1 (by decide) (by decide) ?_ ?_ ?_
     all_goals first|(simp[Ab,Ac,pickOb];done)|rfl
   |false =>
    replace h:=iteF rfl h
    refine AW.cond_false (by simp) ?_
    refine AW.exit ?_
    try simp only[nm]
    obtain rfl:=oi h
    refine xP_i ?_
    refine Weak.mixB 2 [some 0,some 1,some 2,some 3] hnJ1 (by decide) (by decide) ?_ ?_ ?_
    all_goals first|(simp[Ab,Ac,pickOb];done)|rfl
  ·rintro e s hp
   obtain⟨rfl,hw⟩:=hp
   refine⟨_,hw,?_⟩
   try simp only[nm]
   refine⟨_,_,rfl,?_⟩
   try simp only[]
   try simp only[nm]
   obtain rfl:=oi h
   refine nP_i ?_
   refine Weak.mixB 2 [some 0,some 1,some 2,some 3] hn0 (by decide) (by decide) ?_ ?_ ?_
   all_goals first|(simp[Ab,Ac,pickOb];done)|rfl
 ·rintro e s hp
  obtain⟨rfl,hw⟩:=hp
  refine⟨_,hw,?_⟩
  try simp only[nm]
  apply AW.step
  ·simp
   intros;rfl
  replace h:=chkE h;obtain⟨e14,h⟩:=h
  refine AW.frzRow 3 (ty:=9) (cap:=none) (sz:=1) (es:=encS y1) (by simp) (by omega) (De _) (by first|exact (Ah e14).2|simpa using (Ah e14).2|simp) (by simp[Tm.frz,AV.frz,LV.frz];rfl) (by simp[Ob.frz,LV.frz];rfl) rfl ?_
  obtain rfl:=oi h
  refine AW.ret ?_
  refine Left.of (av:=_) (by simp[Tryz.f102,resV,resC,comp];rfl) ?_
  exact LeftV.mix 2 [some 0,some 1] hn0 rfl (by decide) rfl (by simp[pickOb,Ab,Ac]) (by simp[Ab,Ac])
theorem EJ:Enters Tryz.prog 102:=enters Tryz.func102 (by kernel_rfl) rfl
def BZ (n:Nat) (b0_0:List Pair) (b0_1:Int):Option (List ByteArray) :=
bn (BJ n b0_0 b0_1) fun v1 =>
some v1
theorem Fm {n:Nat} {b0_0:List Pair} {b0_1:Int} {r:List ByteArray} (h:BZ n b0_0 b0_1=some r):Sound Tryz.prog 77 [.l (.f 103 [0,1])] [⟨25,1,false,none,[.d false 6 (encPair b0_0)]⟩,⟨3,1,false,none,[.s (.int .i64 b0_1)]⟩] (.l (.d false 1 (encS r))) [some ⟨25,1,false,none,[.d false 6 (encPair b0_0)]⟩,some ⟨3,1,false,none,[.s (.int .i64 b0_1)]⟩]:=by
 unfold BZ at h
 refine Sound.of_aw (fn:=Tryz.f77) (c:=_) Tryz.func77 rfl (by simp[Tryz.f77]) fun cx hG hnb=>?_
 rw[show Tryz.f77.ntmps=5 from rfl]
 have hn0:cx.nb=2:=hnb
 simp only[An,initTm,List.map_cons,List.map_nil]
 apply AW.step
 ·simp
  intros;rfl
 replace h:=bnE h;obtain⟨v1,e1,h⟩:=h
 apply AW.step
 ·simp
  intros
  refine Ca [0,1] EJ (EY e1) (by decide) (by simp[pickOb,Ab,Ac]) rfl rfl (by simp) ⟨.l (.s _),.l (.fn (by simp)),trivial⟩ ?_
  try simp
  intros;rfl
 obtain rfl:=oi h
 refine AW.ret ?_
 refine Left.of (av:=_) (by simp[Tryz.f77,resV,resC,comp];rfl) ?_
 exact LeftV.mix 2 [some 0,some 1] hn0 rfl (by decide) rfl (by simp[pickOb,Ab,Ac]) (by simp[Ab,Ac])
theorem Fb:Enters Tryz.prog 77:=enters Tryz.func77 (by kernel_rfl) rfl
def FG (n:Nat) (a0:List Pair) (a1:Int):Option (List ByteArray) :=
bn (EH n a0 a1) fun v1 =>
bn (BZ n v1.1 v1.2) fun v2 =>
some v2
theorem Mg {n:Nat} {a0:List Pair} {a1:Int} {r:List ByteArray} (h:FG n a0 a1=some r):Sound Tryz.prog 38 [.l (.d false 6 (encPair a0)),.l (.s (.int .i64 a1))] [] (.l (.d false 1 (encS r))) []:=by
 unfold FG at h
 refine Sound.of_aw (fn:=Tryz.f38) (c:=_) Tryz.func38 rfl (by simp[Tryz.f38]) fun cx hG hnb=>?_
 rw[show Tryz.f38.ntmps=9 from rfl]
 have hn0:cx.nb=0:=hnb
 simp only[An,initTm,List.map_cons,List.map_nil]
 apply AW.step
 ·simp
  intros;rfl
 replace h:=bnE h;obtain⟨v1,e1,h⟩:=h
 replace h:=bnE h;obtain⟨v2,e2,h⟩:=h
 apply AW.step
 ·simp
  intros
  refine AF Jr (Kk e1) rfl (by simp) ⟨.same rfl,.same rfl,trivial⟩ ?_
  try simp
  intros
  refine Ca [0,1] Fb (Fm e2) (by decide) (by simp[pickOb,Ab,Ac]) rfl rfl (by simp) ⟨.l (.fn (by simp)),trivial⟩ ?_
  try simp
  intros;rfl
 obtain rfl:=oi h
 refine AW.ret ?_
 refine Left.plain hnb (by simp[Tryz.f38,resV,resC,comp];rfl) rfl rfl ?_
 simp
theorem K5:Enters Tryz.prog 38:=enters Tryz.func38 (by kernel_rfl) rfl
def Co (n:Nat) (a0:List Effect):Option (List Effect) :=
chk (small 104 a0) <|
lt (lenI a0) fun v2 =>
bn (iter n (fun (y3:Int×List Effect) =>
lt (ltI y3.1 v2) fun v6 =>
ite' v6 (bn (nth y3.2 y3.1) fun v7 =>
bn (Bm n v7.item) fun v9 =>
lt (y3.2.set y3.1.toNat (⟨v7.key,v7.gone,v9⟩:Effect)) fun v11 =>
lt (addI .i64 y3.1 1) fun v15 =>
some (.inl (v15,v11))) (some (.inr y3.2))) (0,a0)) fun (y4:List Effect) =>
chk (room y4.length 1) <|
some y4
theorem Jt {n:Nat} {a0:List Effect} {r:List Effect} (h:Co n a0=some r):Sound Tryz.prog 131 [.l (.d false 7 (encEffect a0))] [] (.l (.d false 7 (encEffect r))) []:=by
 unfold Co at h
 refine Sound.of_aw (fn:=Tryz.f131) (c:=_) Tryz.func131 rfl (by simp[Tryz.f131]) fun cx hG hnb=>?_
 rw[show Tryz.f131.ntmps=24 from rfl]
 have hn0:cx.nb=0:=hnb
 simp only[An,initTm,List.map_cons,List.map_nil]
 apply AW.step
 ·simp
  intros;rfl
 replace h:=chkE h;obtain⟨e1,h⟩:=h
 apply AW.step
 ·simp[outR]
  intros
  refine AF GH (Hm a0 (Bv e1)) rfl (by simp) ⟨.same rfl,trivial⟩ ?_
  try simp[outR]
  intros;rfl
 refine AW.seq ?_
 replace h:=ltE h;obtain⟨v2,e2,h⟩:=h
 apply AW.step
 ·simp[Aa e2]
  intros;rfl
 refine AW.block ?_
 replace h:=bnE h;obtain⟨y4,g4,h⟩:=h
 refine AW.iterP g4 (mk:=fun gh ls q=>(⟨[(3,.l (.r 0 7 0 q.2.length)),(8,.l (.s (.int .i64 v2))),(9,.l (.s (.int .i64 q.1)))],[some ⟨59,7,true,none,lvs (encEffect q.2)⟩],24,gh,ls⟩:St)) (N:=fun gh ls=>(xP 0 (cx:=cx) (fun q=>(⟨[(3,.l (.r 0 7 0 q.length))],[some ⟨59,7,true,none,lvs (encEffect q)⟩],24,gh,ls⟩:St)))) ?_ noX ?_ ?_
 ·refine Weak.mixN [some 0] hn0 (by decide) ?_ ?_ rfl
  all_goals first|(simp[Ab,Ac,pickOb];done)|rfl
 ·clear h;intro y3 y5 h
  replace h:=ltE h;obtain⟨v6,e6,h⟩:=h
  apply AW.step
  ·simp[← e6]
   intros;rfl
  refine AW.seq ?_
  cases v6 with
  |true =>
   replace h:=iteT rfl h
   refine AW.cond_true (by simp) ?_
   refine AW.skip ?_
   try simp only[nm]
   refine AW.seq ?_
   refine AW.block ?_
   apply AW.step
   ·simp
    intros;rfl
   replace h:=bnE h;obtain⟨v7,e7,h⟩:=h
   have f8:=A0 e7
   try simp[Ad e7] at f8
   replace h:=bnE h;obtain⟨v9,e9,h⟩:=h
   have f10:=A0 e7
   try simp[Ad e7,f8,Be (Ad e7).2 (j:=2) (k:=5) (by decide),A3 (Ad e7).2 (j:=2) (m:=5) (by decide),lvs1] at f10
   replace h:=ltE h;obtain⟨v11,e11,h⟩:=h
   have f12:=Gg (Ad e7).2 e11 (j:=2) (cs:=[.s (.int .i64 v9.kind),.s (.string v9.s),.d false 2 (encField v9.f),.d false 1 (encS v9.l),.s (.int .i64 v9.exp)]) (by simp) rfl
   try simp at f12
   have f13:=f8
   try simp only[AC e11] at f13
   have f14:=f10
   try simp only[AC e11] at f14
   apply AW.last
   ·simp[Ad e7,f8,Be (Ad e7).2 (j:=2) (k:=5) (by decide),A3 (Ad e7).2 (j:=2) (m:=5) (by decide),lvs1,f10,f12,f13,f14]
    intros
    refine Ae C5 (Du e9) rfl ⟨.same rfl,trivial⟩ ?_
    try simp[Ad e7,f8,Be (Ad e7).2 (j:=2) (k:=5) (by decide),A3 (Ad e7).2 (j:=2) (m:=5) (by decide),lvs1,f10,f12,f13,f14]
    intros;rfl
   try simp only[nm]
   replace h:=ltE h;obtain⟨v15,e15,h⟩:=h
   apply AW.last
   ·simp[← e15]
    intros;rfl
   obtain rfl:=oi h
   refine nP_i ?_
   refine Weak.mixN [some 0] hn0 (by decide) ?_ ?_ rfl
   all_goals first|(simp[Ab,Ac,pickOb,AC e11];done)|rfl
  |false =>
   replace h:=iteF rfl h
   refine AW.cond_false (by simp) ?_
   refine AW.exit ?_
   try simp only[nm]
   obtain rfl:=oi h
   refine xP_i ?_
   refine Weak.mixN [some 0] hn0 (by decide) ?_ ?_ rfl
   all_goals first|(simp[Ab,Ac,pickOb];done)|rfl
 ·rintro e s hp
  obtain⟨rfl,hw⟩:=hp
  refine⟨_,hw,?_⟩
  try simp only[nm]
  apply AW.step
  ·simp
   intros;rfl
  replace h:=chkE h;obtain⟨e16,h⟩:=h
  refine AW.frzRow 0 (ty:=59) (cap:=none) (sz:=7) (es:=encEffect y4) (by simp) (by omega) (BC _) (by first|exact (Ah e16).2|simpa using (Ah e16).2|simp) (by simp[Tm.frz,AV.frz,LV.frz];rfl) (by simp[Ob.frz,LV.frz];rfl) rfl ?_
  obtain rfl:=oi h
  refine AW.ret ?_
  refine Left.plain hnb (by simp[Tryz.f131,resV,resC,comp];rfl) rfl rfl ?_
  simp
theorem IF:Enters Tryz.prog 131:=enters Tryz.func131 (by kernel_rfl) rfl
def C7 (n:Nat) (a0:List Effect) (a1:Int):Option (List Effect) :=
lt (lenI a0) fun v1 =>
lt (subI .i64 v1 a1) fun v2 =>
lt (maxI 0 v2) fun v3 =>
bn (segl a0 v3) fun v4 =>
bn (Co n v4) fun v6 =>
some v6
theorem K6 {n:Nat} {a0:List Effect} {a1:Int} {r:List Effect} (h:C7 n a0 a1=some r):Sound Tryz.prog 111 [.l (.d false 7 (encEffect a0)),.l (.s (.int .i64 a1))] [] (.l (.d false 7 (encEffect r))) []:=by
 unfold C7 at h
 refine Sound.of_aw (fn:=Tryz.f111) (c:=_) Tryz.func111 rfl (by simp[Tryz.f111]) fun cx hG hnb=>?_
 rw[show Tryz.f111.ntmps=13 from rfl]
 have hn0:cx.nb=0:=hnb
 simp only[An,initTm,List.map_cons,List.map_nil]
 apply AW.step
 ·simp
  intros;rfl
 replace h:=ltE h;obtain⟨v1,e1,h⟩:=h
 replace h:=ltE h;obtain⟨v2,e2,h⟩:=h
 replace h:=ltE h;obtain⟨v3,e3,h⟩:=h
 replace h:=bnE h;obtain⟨v4,e4,h⟩:=h
 have f5:=IA e4
 try simp[Aa e1,← e2,← e3] at f5
 replace h:=bnE h;obtain⟨v6,e6,h⟩:=h
 apply AW.step
 ·simp[Aa e1,← e2,← e3,f5]
  intros
  refine Ae IF (Jt e6) rfl ⟨.same rfl,trivial⟩ ?_
  try simp[Aa e1,← e2,← e3,f5]
  intros;rfl
 obtain rfl:=oi h
 refine AW.ret ?_
 refine Left.plain hnb (by simp[Tryz.f111,resV,resC,comp];rfl) rfl rfl ?_
 simp
theorem Kl:Enters Tryz.prog 111:=enters Tryz.func111 (by kernel_rfl) rfl
def CP (n:Nat) (a0:Feed) (a1:List Effect):Option Feed :=
lt (lenI a1) fun v1 =>
lt (addI .i64 a0.off v1) fun v2 =>
chk (catB [a0.back,a1]) <|
lt (List.flatten [a0.back,a1]) fun v4 =>
bn (C7 n v4 64) fun v5 =>
some (⟨a0.rid,v2,v5,a0.prev,a0.upto⟩:Feed)
theorem Mh {n:Nat} {a0:Feed} {a1:List Effect} {r:Feed} (h:CP n a0 a1=some r):Sound Tryz.prog 82 [.g [.s (.int .i64 a0.rid.node),.s (.int .i64 a0.rid.epoch),.s (.int .i64 a0.off),.d false 7 (encEffect a0.back),.s (.int .i64 a0.prev.node),.s (.int .i64 a0.prev.epoch),.s (.int .i64 a0.upto)],.l (.d false 7 (encEffect a1))] [] (.g [.s (.int .i64 r.rid.node),.s (.int .i64 r.rid.epoch),.s (.int .i64 r.off),.d false 7 (encEffect r.back),.s (.int .i64 r.prev.node),.s (.int .i64 r.prev.epoch),.s (.int .i64 r.upto)]) []:=by
 unfold CP at h
 refine Sound.of_aw (fn:=Tryz.f82) (c:=_) Tryz.func82 rfl (by simp[Tryz.f82]) fun cx hG hnb=>?_
 rw[show Tryz.f82.ntmps=19 from rfl]
 have hn0:cx.nb=0:=hnb
 simp only[An,initTm,List.map_cons,List.map_nil]
 apply AW.step
 ·simp
  intros;rfl
 replace h:=ltE h;obtain⟨v1,e1,h⟩:=h
 replace h:=ltE h;obtain⟨v2,e2,h⟩:=h
 apply AW.step
 ·simp[Aa e1,← e2]
  intros;rfl
 replace h:=chkE h;obtain⟨e3,h⟩:=h
 replace h:=ltE h;obtain⟨v4,e4,h⟩:=h
 replace h:=bnE h;obtain⟨v5,e5,h⟩:=h
 apply AW.step
 ·simp[obAfter,outR,keptR,Ab,Ac,← e4]
  intros
  refine Av ?_
  try simp[obAfter,outR,keptR,Ab,Ac,← e4]
  intros
  refine Dp [2] [3] ⟨_,rfl,rfl,rfl,rfl⟩ Kg (M8 [a0.back,a1] e3) (by decide) rfl rfl (by simp[pickOb]) rfl rfl rfl (by simp) (by simp) ⟨.l (.own (by simp[Ab,Ac])),trivial⟩ ?_
  try simp[obAfter,outR,keptR,Ab,Ac,← e4]
  intros
  refine Ae Kl (K6 e5) rfl ⟨.same rfl,.same rfl,trivial⟩ ?_
  try simp[obAfter,outR,keptR,Ab,Ac,← e4]
  intros;rfl
 apply AW.step
 ·simp
  intros;rfl
 obtain rfl:=oi h
 refine AW.ret ?_
 refine Left.plain hnb (by simp[Tryz.f82,resV,resC,comp];rfl) rfl rfl ?_
 simp
theorem K7:Enters Tryz.prog 82:=enters Tryz.func82 (by kernel_rfl) rfl
def BE (n:Nat) (a0:Int):Option ByteArray :=
lt (cvI .u64 a0) fun v1 =>
bn (lt (ltI a0 0) fun v3 =>
ite' v3 (lt (negI .u64 v1) fun v4 =>
some (v4)) (some (v1))) fun (y2:Int) =>
bn (iter n (fun (y5:Int×ByteArray) =>
lt (geI y5.1 10) fun v8 =>
ite' v8 (bn (remI .u64 y5.1 10) fun v9 =>
lt (addI .u64 48 v9) fun v10 =>
lt (cvI .u8 v10) fun v11 =>
lt (strL [v11]) fun v12 =>
bn (catS v12 y5.2) fun v14 =>
bn (quoI .u64 y5.1 10) fun v15 =>
some (.inl (v15,v14))) (some (.inr (y5.1,y5.2)))) (y2,⟨#[]⟩)) fun (y6:Int×ByteArray) =>
lt (addI .u64 48 y6.1) fun v16 =>
lt (cvI .u8 v16) fun v17 =>
lt (strL [v17]) fun v18 =>
bn (catS v18 y6.2) fun v20 =>
lt (ltI a0 0) fun v21 =>
ite' v21 (bn (catS ⟨#[45]⟩ v20) fun v22 =>
some v22) (some v20)
theorem CQ {n:Nat} {a0:Int} {r:ByteArray} (h:BE n a0=some r):Sound Tryz.prog 32 [.l (.s (.int .i64 a0))] [] (.l (.s (.string r))) []:=by
 unfold BE at h
 refine Sound.of_aw (fn:=Tryz.f32) (c:=_) Tryz.func32 rfl (by simp[Tryz.f32]) fun cx hG hnb=>?_
 rw[show Tryz.f32.ntmps=35 from rfl]
 have hn0:cx.nb=0:=hnb
 simp only[An,initTm,List.map_cons,List.map_nil]
 apply AW.step
 ·simp
  intros;rfl
 replace h:=ltE h;obtain⟨v1,e1,h⟩:=h
 apply AW.step
 ·simp[← e1]
  intros;rfl
 replace h:=bnE h;obtain⟨y2,g2,h⟩:=h
 refine AW.flow (p:=fun gh ls=>(nP (cx:=cx) (fun q=>(⟨[(0,.l (.s (.int .i64 a0))),(3,.l (.s (.int .u64 q))),(4,.l (.s (.string ⟨#[]⟩)))],[],35,gh,ls⟩:St))) y2) ?_ ?_
 ·replace h:=g2;clear g2
  replace h:=ltE h;obtain⟨v3,e3,h⟩:=h
  apply AW.step
  ·simp[← e3]
   intros;rfl
  cases v3 with
  |true =>
   replace h:=iteT rfl h
   refine AW.cond_true (by simp) ?_
   replace h:=ltE h;obtain⟨v4,e4,h⟩:=h
   apply AW.last
   ·simp[← e4]
    intros;rfl
   obtain rfl:=oi h
   refine nP_i ?_
   refine Weak.mixN [] hn0 (by decide) ?_ ?_ rfl
   all_goals first|(simp[Ab,Ac,pickOb];done)|rfl
  |false =>
   replace h:=iteF rfl h
   refine AW.cond_false (by simp) ?_
   refine AW.skip ?_
   try simp only[nm]
   obtain rfl:=oi h
   refine nP_i ?_
   refine Weak.mixN [] hn0 (by decide) ?_ ?_ rfl
   all_goals first|(simp[Ab,Ac,pickOb];done)|rfl
 ·rintro e s hp
  obtain⟨rfl,hw⟩:=hp
  refine⟨_,hw,?_⟩
  try simp only[nm]
  refine AW.seq ?_
  refine AW.block ?_
  replace h:=bnE h;obtain⟨y6,g6,h⟩:=h
  refine AW.iterP g6 (mk:=fun gh ls q=>(⟨[(0,.l (.s (.int .i64 a0))),(3,.l (.s (.int .u64 q.1))),(4,.l (.s (.string q.2)))],[],35,gh,ls⟩:St)) (N:=fun gh ls=>(xP 0 (cx:=cx) (fun q=>(⟨[(0,.l (.s (.int .i64 a0))),(3,.l (.s (.int .u64 q.1))),(4,.l (.s (.string q.2)))],[],35,gh,ls⟩:St)))) ?_ noX ?_ ?_
  ·refine Weak.mixN [] hn0 (by decide) ?_ ?_ rfl
   all_goals first|(simp[Ab,Ac,pickOb];done)|rfl
  ·clear h;intro y5 y7 h
   refine AW.seq ?_
   replace h:=ltE h;obtain⟨v8,e8,h⟩:=h
   apply AW.step
   ·simp[← e8]
    intros;rfl
   cases v8 with
   |true =>
    replace h:=iteT rfl h
    refine AW.cond_true (by simp) ?_
    refine AW.skip ?_
    try simp only[nm]
    refine AW.block ?_
    replace h:=bnE h;obtain⟨v9,e9,h⟩:=h
    replace h:=ltE h;obtain⟨v10,e10,h⟩:=h
    replace h:=ltE h;obtain⟨v11,e11,h⟩:=h
    replace h:=ltE h;obtain⟨v12,e12,h⟩:=h
    have f13:(⟨#[UInt8.ofNat (v11).toNat]⟩:ByteArray)=v12:=e12.symm
    replace h:=bnE h;obtain⟨v14,e14,h⟩:=h
    apply AW.step
    ·simp[e9,← e10,← e11,f13,e14]
     intros
     refine Av ?_
     try simp[e9,← e10,← e11,f13,e14]
     intros;rfl
    replace h:=bnE h;obtain⟨v15,e15,h⟩:=h
    apply AW.last
    ·simp[e15]
     intros;rfl
    obtain rfl:=oi h
    refine nP_i ?_
    refine Weak.mixN [] hn0 (by decide) ?_ ?_ rfl
    all_goals first|(simp[Ab,Ac,pickOb,Ex];done)|rfl
   |false =>
    replace h:=iteF rfl h
    refine AW.cond_false (by simp) ?_
    refine AW.exit ?_
    try simp only[nm]
    obtain rfl:=oi h
    refine xP_i ?_
    refine Weak.mixN [] hn0 (by decide) ?_ ?_ rfl
    all_goals first|(simp[Ab,Ac,pickOb];done)|rfl
  ·rintro e s hp
   obtain⟨rfl,hw⟩:=hp
   refine⟨_,hw,?_⟩
   try simp only[nm]
   replace h:=ltE h;obtain⟨v16,e16,h⟩:=h
   replace h:=ltE h;obtain⟨v17,e17,h⟩:=h
   replace h:=ltE h;obtain⟨v18,e18,h⟩:=h
   have f19:(⟨#[UInt8.ofNat (v17).toNat]⟩:ByteArray)=v18:=e18.symm
   replace h:=bnE h;obtain⟨v20,e20,h⟩:=h
   apply AW.step
   ·simp[← e16,← e17,f19,e20]
    intros
    refine Av ?_
    try simp[← e16,← e17,f19,e20]
    intros;rfl
   refine AW.seq ?_
   replace h:=ltE h;obtain⟨v21,e21,h⟩:=h
   apply AW.step
   ·simp[← e21]
    intros;rfl
   cases v21 with
   |true =>
    replace h:=iteT rfl h
    refine AW.cond_true (by simp) ?_
    replace h:=bnE h;obtain⟨v22,e22,h⟩:=h
    apply AW.step
    ·simp[e22]
     intros;rfl
    obtain rfl:=oi h
    refine AW.ret ?_
    refine Left.plain hnb (by simp[Tryz.f32,resV,resC,comp];rfl) rfl rfl ?_
    simp
   |false =>
    replace h:=iteF rfl h
    refine AW.cond_false (by simp) ?_
    refine AW.skip ?_
    try simp only[nm]
    apply AW.step
    ·simp
     intros;rfl
    obtain rfl:=oi h
    refine AW.ret ?_
    refine Left.plain hnb (by simp[Tryz.f32,resV,resC,comp];rfl) rfl rfl ?_
    simp
theorem Cp:Enters Tryz.prog 32:=enters Tryz.func32 (by kernel_rfl) rfl
def A1 (n:Nat) (a0:Int):Option ByteArray :=
bn (remI .u8 a0 4) fun v1 =>
lt (addI .u8 97 v1) fun v2 =>
lt (strL [v2]) fun v3 =>
bn (catS ⟨#[123]⟩ v3) fun v5 =>
bn (catS v5 ⟨#[125]⟩) fun v6 =>
lt (cvI .i64 a0) fun v7 =>
bn (quoI .i64 v7 4) fun v8 =>
bn (remI .i64 v8 5) fun v9 =>
bn (BE n v9) fun v10 =>
bn (catS v6 v10) fun v11 =>
some v11
theorem I8 {n:Nat} {a0:Int} {r:ByteArray} (h:A1 n a0=some r):Sound Tryz.prog 10 [.l (.s (.int .u8 a0))] [] (.l (.s (.string r))) []:=by
 unfold A1 at h
 refine Sound.of_aw (fn:=Tryz.f10) (c:=_) Tryz.func10 rfl (by simp[Tryz.f10]) fun cx hG hnb=>?_
 rw[show Tryz.f10.ntmps=16 from rfl]
 have hn0:cx.nb=0:=hnb
 simp only[An,initTm,List.map_cons,List.map_nil]
 apply AW.step
 ·simp
  intros;rfl
 replace h:=bnE h;obtain⟨v1,e1,h⟩:=h
 replace h:=ltE h;obtain⟨v2,e2,h⟩:=h
 replace h:=ltE h;obtain⟨v3,e3,h⟩:=h
 have f4:(⟨#[UInt8.ofNat (v2).toNat]⟩:ByteArray)=v3:=e3.symm
 replace h:=bnE h;obtain⟨v5,e5,h⟩:=h
 replace h:=bnE h;obtain⟨v6,e6,h⟩:=h
 replace h:=ltE h;obtain⟨v7,e7,h⟩:=h
 replace h:=bnE h;obtain⟨v8,e8,h⟩:=h
 replace h:=bnE h;obtain⟨v9,e9,h⟩:=h
 replace h:=bnE h;obtain⟨v10,e10,h⟩:=h
 replace h:=bnE h;obtain⟨v11,e11,h⟩:=h
 apply AW.drawnE (V:=[_,_,_,_,_,_,_,_,_,_,_,_]) (M:=[[],[some ⟨5,1,true,none,[.s (.int .u8 v2)]⟩]]) mixed [⟨[0],[],[(0,none)],false⟩,⟨[0],[0],[(3,some 0)],false⟩,⟨[0],[0,1],[(4,some 1)],false⟩,⟨[0],[0,1,2],[(5,some 2)],true⟩,⟨[1],[0,1,2,3],[(6,some 3)],false⟩,⟨[1],[0,1,2,3,4],[(7,some 4)],false⟩,⟨[1],[0,1,2,3,4,5],[(8,some 5)],false⟩,⟨[0,1],[],[(0,none)],false⟩,⟨[0,1],[7],[(10,some 7)],false⟩,⟨[0,1],[7,8],[(11,some 8)],false⟩,⟨[0,1],[7,8,9],[(12,some 9)],false⟩,⟨[0,1],[7,8,9,10],[(13,some 10)],false⟩,⟨[],[0,1,2,3,4,5,6,7,8,9,10,11],[],false⟩,⟨[],[0,1,2,3,4,5,6,7,8,9,10,11,12],[],false⟩] 12 1 (by kernel_rfl) (by kernel_rfl)
 ·rfl
 ·refine⟨?_,?_,?_,?_,?_,?_,?_,⟨?_,?_⟩,⟨?_,?_⟩,⟨?_,?_⟩,⟨?_,?_⟩,⟨?_,?_⟩,trivial⟩
  iterate 3 (· intro tm hr;simp[AllL,rdV] at hr;simp[hr,e1,← e2,f4,e5,e6,← e7,e8,e9,e11];intros;first|exact KD.mk|exact KD.mkN)
  ·intro tm hr
   simp[AllL,rdV] at hr
   simp[hr,e1,← e2,f4,e5,e6,← e7,e8,e9,e11]
   intros
   refine Av ?_
   try simp[e1,← e2,f4,e5,e6,← e7,e8,e9,e11]
   intros;first|exact KD.mk|exact KD.mkN
  iterate 11 (· intro tm hr;simp[AllL,rdV] at hr;simp[hr,e1,← e2,f4,e5,e6,← e7,e8,e9,e11];intros;first|exact KD.mk|exact KD.mkN)
  ·intro tm hr
   simp[AllL,rdV] at hr
   simp[hr,e1,← e2,f4,e5,e6,← e7,e8,e9,e11]
   intros
   refine Ae Cp (CQ e10) rfl ⟨.same rfl,trivial⟩ ?_
   try simp[e1,← e2,f4,e5,e6,← e7,e8,e9,e11]
   intros;first|exact KD.mk|exact KD.mkN
  ·intro tm hr
   simp[AllL,rdV] at hr
   simp[hr,e1,← e2,f4,e5,e6,← e7,e8,e9,e11]
   intros
   refine Ae Cp (CQ e10) rfl ⟨.same rfl,trivial⟩ ?_
   try simp[e1,← e2,f4,e5,e6,← e7,e8,e9,e11]
   intros;first|exact KD.mk|exact KD.mkN
 ·rfl
 ·simp[tmD,putD,e1,← e2,f4,e5,e6,← e7,e8,e9,e11];rfl
 ·simp[e1,← e2,f4,e5,e6,← e7,e8,e9,e11]
  intros;rfl
 obtain rfl:=oi h
 refine AW.ret ?_
 refine Left.plain hnb (by simp[Tryz.f10,resV,resC,comp];rfl) rfl rfl ?_
 simp
theorem H3:Enters Tryz.prog 10:=enters Tryz.func10 (by kernel_rfl) rfl
def CF (n:Nat) (a0:List Field) (a1:ByteArray) (a2:ByteArray):Option (List Field) :=
bn (iter n (fun (y1:Bool×Int×List Field) =>
lt (lenI a0) fun v4 =>
lt (ltI y1.2.1 v4) fun v5 =>
ite' v5 (bn (bn (bn (lt (notB y1.1) fun v9 =>
ite' v9 (bn (nth a0 y1.2.1) fun v10 =>
lt (geS v10.name a1) fun v11 =>
some (v11)) (some (false))) fun (y8:Bool) =>
lt (y8) fun v12 =>
ite' v12 (chk (room (y1.2.2.length+1) 32) <|
lt (y1.2.2++[(⟨a1,a2⟩:Field)]) fun v14 =>
some ((true,v14))) (some ((y1.1,y1.2.2)))) fun (y7:Bool×List Field) =>
bn (nth a0 y1.2.1) fun v15 =>
lt (neS v15.name a1) fun v16 =>
ite' v16 (chk (room (y7.2.length+1) 32) <|
lt (y7.2++[v15]) fun v18 =>
some ((y7.1,v18))) (some ((y7.1,y7.2)))) fun (y6:Bool×List Field) =>
lt (addI .i64 y1.2.1 1) fun v19 =>
some (.inl (y6.1,v19,y6.2))) (some (.inr (y1.1,y1.2.2)))) (false,0,[])) fun (y2:Bool×List Field) =>
bn (lt (notB y2.1) fun v21 =>
ite' v21 (chk (room (y2.2.length+1) 32) <|
lt (y2.2++[(⟨a1,a2⟩:Field)]) fun v23 =>
some (v23)) (some (y2.2))) fun (y20:List Field) =>
chk (room y20.length 1) <|
some y20
theorem Nc {n:Nat} {a0:List Field} {a1:ByteArray} {a2:ByteArray} {r:List Field} (h:CF n a0 a1 a2=some r):Sound Tryz.prog 84 [.l (.d false 2 (encField a0)),.l (.s (.string a1)),.l (.s (.string a2))] [] (.l (.d false 2 (encField r))) []:=by
 unfold CF at h
 refine Sound.of_aw (fn:=Tryz.f84) (c:=_) Tryz.func84 rfl (by simp[Tryz.f84]) fun cx hG hnb=>?_
 rw[show Tryz.f84.ntmps=56 from rfl]
 have hn0:cx.nb=0:=hnb
 simp only[An,initTm,List.map_cons,List.map_nil]
 apply AW.step
 ·simp
  intros;rfl
 apply AW.step
 ·simp
  intros;rfl
 apply AW.step
 ·simp
  intros;rfl
 refine AW.seq ?_
 apply AW.step
 ·simp
  intros;rfl
 refine AW.block ?_
 replace h:=bnE h;obtain⟨y2,g2,h⟩:=h
 refine AW.iterP g2 (mk:=fun gh ls q=>(⟨[(0,.l (.d false 2 (encField a0))),(1,.l (.s (.string a1))),(2,.l (.s (.string a2))),(7,.l (.r 0 2 0 q.2.2.length)),(8,.l (.s (.bool q.1))),(9,.l (.s (.int .i64 q.2.1)))],[some ⟨157,2,true,none,lvs (encField q.2.2)⟩],56,gh,ls⟩:St)) (N:=fun gh ls=>(xP 0 (cx:=cx) (fun q=>(⟨[(1,.l (.s (.string a1))),(2,.l (.s (.string a2))),(7,.l (.r 0 2 0 q.2.length)),(8,.l (.s (.bool q.1)))],[some ⟨157,2,true,none,lvs (encField q.2)⟩],56,gh,ls⟩:St)))) ?_ noX ?_ ?_
 ·refine W.nilRow 7 157 2 0 (by simp) rfl rfl ?_
  refine Weak.mixN [some 0] hn0 (by decide) ?_ ?_ rfl
  all_goals first|(simp[Ab,Ac,pickOb];done)|rfl
 ·clear h;intro y1 y3 h
  refine AW.seq ?_
  replace h:=ltE h;obtain⟨v4,e4,h⟩:=h
  replace h:=ltE h;obtain⟨v5,e5,h⟩:=h
  apply AW.step
  ·simp[Aa e4,← e5]
   intros;rfl
  cases v5 with
  |true =>
   replace h:=iteT rfl h
   refine AW.cond_true (by simp) ?_
   refine AW.skip ?_
   try simp only[nm]
   replace h:=bnE h;obtain⟨y6,g6,h⟩:=h
   refine AW.flow (p:=fun gh ls=>(nP (cx:=cx) (fun q=>(⟨[(0,.l (.d false 2 (encField a0))),(1,.l (.s (.string a1))),(2,.l (.s (.string a2))),(7,.l (.r 0 2 0 q.2.length)),(8,.l (.s (.bool q.1))),(9,.l (.s (.int .i64 y1.2.1)))],[some ⟨157,2,true,none,lvs (encField q.2)⟩],56,gh,ls⟩:St))) y6) ?_ ?_
   ·replace h:=g6;clear g6
    refine AW.block ?_
    replace h:=bnE h;obtain⟨y7,g7,h⟩:=h
    refine AW.flow (p:=fun gh ls=>(nP (cx:=cx) (fun q=>(⟨[(0,.l (.d false 2 (encField a0))),(1,.l (.s (.string a1))),(2,.l (.s (.string a2))),(7,.l (.r 0 2 0 q.2.length)),(8,.l (.s (.bool q.1))),(9,.l (.s (.int .i64 y1.2.1)))],[some ⟨157,2,true,none,lvs (encField q.2)⟩],56,gh,ls⟩:St))) y7) ?_ ?_
    ·replace h:=g7;clear g7
     replace h:=bnE h;obtain⟨y8,g8,h⟩:=h
     refine AW.flow (p:=fun gh ls=>(nP (cx:=cx) (fun q=>(⟨[(0,.l (.d false 2 (encField a0))),(1,.l (.s (.string a1))),(2,.l (.s (.string a2))),(7,.l (.r 0 2 0 y1.2.2.length)),(8,.l (.s (.bool y1.1))),(9,.l (.s (.int .i64 y1.2.1))),(26,.l (.s (.bool q)))],[some ⟨157,2,true,none,lvs (encField y1.2.2)⟩],56,gh,ls⟩:St))) y8) ?_ ?_
     ·replace h:=g8;clear g8
      replace h:=ltE h;obtain⟨v9,e9,h⟩:=h
      cases v9 with
      |true =>
       replace h:=iteT rfl h
       replace h:=bnE h;obtain⟨v10,e10,h⟩:=h
       replace h:=ltE h;obtain⟨v11,e11,h⟩:=h
       apply AW.last
       ·simp[← e9,Ad e10,← e11]
        intros;rfl
       obtain rfl:=oi h
       refine nP_i ?_
       refine Weak.mixN [some 0] hn0 (by decide) ?_ ?_ rfl
       all_goals first|(simp[Ab,Ac,pickOb];done)|rfl
      |false =>
       replace h:=iteF rfl h
       apply AW.last
       ·simp[← e9]
        intros;rfl
       obtain rfl:=oi h
       refine nP_i ?_
       refine Weak.mixN [some 0] hn0 (by decide) ?_ ?_ rfl
       all_goals first|(simp[Ab,Ac,pickOb];done)|rfl
     ·rintro e s hp
      obtain⟨rfl,hw⟩:=hp
      refine⟨_,hw,?_⟩
      try simp only[nm]
      replace h:=ltE h;obtain⟨v12,e12,h⟩:=h
      rw[← e12]
      cases v12 with
      |true =>
       replace h:=iteT rfl h
       refine AW.cond_true (by simp) ?_
       replace h:=chkE h;obtain⟨e13,h⟩:=h
       replace h:=ltE h;obtain⟨v14,e14,h⟩:=h
       apply AW.step
       ·simp[← AZ,← e14,Ao e14]
        intros
        refine Av ?_
        try simp[← AZ,← e14,Ao e14]
        intros
        refine AJ (acc:=encField y1.2.2) (ys:=encField [(⟨a1,a2⟩:Field)]) (cap:=none) (k:=1) G3 F5 (by simp) (by simp[encField,lvs]) (CN _) (by simp) (by simp) (by first|(simp;done)|simpa using (Ah e13).1) ?_
        try simp[← AZ,← e14,Ao e14]
        intros;rfl
       apply AW.last
       ·simp
        intros;rfl
       obtain rfl:=oi h
       refine nP_i ?_
       refine Weak.mixN [some 2] hn0 (by decide) ?_ ?_ rfl
       all_goals first|(simp[Ab,Ac,pickOb,EF];done)|rfl
      |false =>
       replace h:=iteF rfl h
       refine AW.cond_false (by simp) ?_
       refine AW.skip ?_
       try simp only[nm]
       obtain rfl:=oi h
       refine nP_i ?_
       refine Weak.mixN [some 0] hn0 (by decide) ?_ ?_ rfl
       all_goals first|(simp[Ab,Ac,pickOb];done)|rfl
    ·rintro e s hp
     obtain⟨rfl,hw⟩:=hp
     refine⟨_,hw,?_⟩
     try simp only[nm]
     replace h:=bnE h;obtain⟨v15,e15,h⟩:=h
     replace h:=ltE h;obtain⟨v16,e16,h⟩:=h
     apply AW.step
     ·simp[Ad e15,← e16]
      intros;rfl
     cases v16 with
     |true =>
      replace h:=iteT rfl h
      refine AW.cond_true (by simp) ?_
      replace h:=chkE h;obtain⟨e17,h⟩:=h
      replace h:=ltE h;obtain⟨v18,e18,h⟩:=h
      apply AW.last
      ·simp[Ad e15,← AZ,← e18,Ao e18]
       intros
       refine Av ?_
       try simp[Ad e15,← AZ,← e18,Ao e18]
       intros
       refine AJ (acc:=encField y7.2) (ys:=encField [v15]) (cap:=none) (k:=1) G3 F5 (by simp) (by simp[encField,lvs]) (CN _) (by simp) (by simp) (by first|(simp;done)|simpa using (Ah e17).1) ?_
       try simp[Ad e15,← AZ,← e18,Ao e18]
       intros;rfl
      obtain rfl:=oi h
      refine nP_i ?_
      refine Weak.mixN [some 2] hn0 (by decide) ?_ ?_ rfl
      all_goals first|(simp[Ab,Ac,pickOb,EF];done)|rfl
     |false =>
      replace h:=iteF rfl h
      refine AW.cond_false (by simp) ?_
      refine AW.skip ?_
      try simp only[nm]
      obtain rfl:=oi h
      refine nP_i ?_
      refine Weak.mixN [some 0] hn0 (by decide) ?_ ?_ rfl
      all_goals first|(simp[Ab,Ac,pickOb];done)|rfl
   ·rintro e s hp
    obtain⟨rfl,hw⟩:=hp
    refine⟨_,hw,?_⟩
    try simp only[nm]
    replace h:=ltE h;obtain⟨v19,e19,h⟩:=h
    apply AW.last
    ·simp[← e19]
     intros;rfl
    obtain rfl:=oi h
    refine nP_i ?_
    refine Weak.mixN [some 0] hn0 (by decide) ?_ ?_ rfl
    all_goals first|(simp[Ab,Ac,pickOb];done)|rfl
  |false =>
   replace h:=iteF rfl h
   refine AW.cond_false (by simp) ?_
   refine AW.exit ?_
   try simp only[nm]
   obtain rfl:=oi h
   refine xP_i ?_
   refine Weak.mixN [some 0] hn0 (by decide) ?_ ?_ rfl
   all_goals first|(simp[Ab,Ac,pickOb];done)|rfl
 ·rintro e s hp
  obtain⟨rfl,hw⟩:=hp
  refine⟨_,hw,?_⟩
  try simp only[nm]
  replace h:=bnE h;obtain⟨y20,g20,h⟩:=h
  refine AW.flow (p:=fun gh ls=>(nP (cx:=cx) (fun q=>(⟨[(7,.l (.r 0 2 0 q.length))],[some ⟨157,2,true,none,lvs (encField q)⟩],56,gh,ls⟩:St))) y20) ?_ ?_
  ·replace h:=g20;clear g20
   replace h:=ltE h;obtain⟨v21,e21,h⟩:=h
   apply AW.step
   ·simp[← e21]
    intros;rfl
   cases v21 with
   |true =>
    replace h:=iteT rfl h
    refine AW.cond_true (by simp) ?_
    replace h:=chkE h;obtain⟨e22,h⟩:=h
    replace h:=ltE h;obtain⟨v23,e23,h⟩:=h
    apply AW.last
    ·simp[← AZ,← e23,Ao e23]
     intros
     refine Av ?_
     try simp[← AZ,← e23,Ao e23]
     intros
     refine AJ (acc:=encField y2.2) (ys:=encField [(⟨a1,a2⟩:Field)]) (cap:=none) (k:=1) G3 F5 (by simp) (by simp[encField,lvs]) (CN _) (by simp) (by simp) (by first|(simp;done)|simpa using (Ah e22).1) ?_
     try simp[← AZ,← e23,Ao e23]
     intros;rfl
    obtain rfl:=oi h
    refine nP_i ?_
    refine Weak.mixN [some 2] hn0 (by decide) ?_ ?_ rfl
    all_goals first|(simp[Ab,Ac,pickOb,EF];done)|rfl
   |false =>
    replace h:=iteF rfl h
    refine AW.cond_false (by simp) ?_
    refine AW.skip ?_
    try simp only[nm]
    obtain rfl:=oi h
    refine nP_i ?_
    refine Weak.mixN [some 0] hn0 (by decide) ?_ ?_ rfl
    all_goals first|(simp[Ab,Ac,pickOb];done)|rfl
  ·rintro e s hp
   obtain⟨rfl,hw⟩:=hp
   refine⟨_,hw,?_⟩
   try simp only[nm]
   apply AW.step
   ·simp
    intros;rfl
   replace h:=chkE h;obtain⟨e24,h⟩:=h
   refine AW.frzRow 0 (ty:=157) (cap:=none) (sz:=2) (es:=encField y20) (by simp) (by omega) (CN _) (by first|exact (Ah e24).2|simpa using (Ah e24).2|simp) (by simp[Tm.frz,AV.frz,LV.frz];rfl) (by simp[Ob.frz,LV.frz];rfl) rfl ?_
   obtain rfl:=oi h
   refine AW.ret ?_
   refine Left.plain hnb (by simp[Tryz.f84,resV,resC,comp];rfl) rfl rfl ?_
   simp
theorem Mi:Enters Tryz.prog 84:=enters Tryz.func84 (by kernel_rfl) rfl
def H4 (n:Nat) (a0:List ByteArray) (a1:ByteArray):Option Bool :=
bn (iter n (fun (y1:Int) =>
lt (lenI a0) fun v4 =>
lt (ltI y1 v4) fun v5 =>
ite' v5 (bn (nth a0 y1) fun v6 =>
lt (eqS v6 a1) fun v7 =>
ite' v7 (some (.inr (.inr true))) (lt (addI .i64 y1 1) fun v8 =>
some (.inl v8))) (some (.inr (.inl ())))) 0) fun (y2:Unit ⊕ Bool) =>
sm y2 (fun y9=>some false) (fun y10=>some y10)
def B6 (n:Nat) (a0:List ByteArray) (a1:ByteArray):Option Bool :=
bn (iter n (fun (y1:Int) =>
lt (lenI a0) fun v4 =>
lt (ltI y1 v4) fun v5 =>
ite' v5 (bn (nth a0 y1) fun v6 =>
lt (eqS v6 a1) fun v7 =>
ite' v7 (some (.inr (.inr true))) (lt (addI .i64 y1 1) fun v8 =>
some (.inl v8))) (some (.inr (.inl ())))) 0) fun (y2:Unit ⊕ Bool) =>
sm y2 (fun y9=>some false) (fun y10=>some y10)
theorem Km {n:Nat} {a0:List ByteArray} {a1:ByteArray} {r:Bool} (h:B6 n a0 a1=some r):Sound Tryz.prog 113 [.l (.d true 1 (encS a0)),.l (.s (.string a1))] [] (.l (.s (.bool r))) []:=by
 unfold B6 at h
 refine Sound.of_aw (fn:=Tryz.f113) (c:=_) Tryz.func113 rfl (by simp[Tryz.f113]) fun cx hG hnb=>?_
 rw[show Tryz.f113.ntmps=18 from rfl]
 have hn0:cx.nb=0:=hnb
 simp only[An,initTm,List.map_cons,List.map_nil]
 apply AW.step
 ·simp
  intros;rfl
 refine AW.seq ?_
 apply AW.step
 ·simp
  intros;rfl
 refine AW.block ?_
 replace h:=bnE h;obtain⟨y2,g2,h⟩:=h
 refine AW.iterP g2 (mk:=fun gh ls q=>(⟨[(0,.l (.d true 1 (encS a0))),(1,.l (.s (.string a1))),(5,.l (.s (.int .i64 q)))],[],18,gh,ls⟩:St)) (N:=fun gh ls=>(sp (xP 0 (cx:=cx) (fun _=>(⟨[],[],18,gh,ls⟩:St))) (rP (cx:=cx) (P:=Tryz.prog) Tryz.f113 (fun q=>.l (.s (.bool q))) (fun q=>[])))) ?_ (noS noX noR) ?_ ?_
 ·refine Weak.mixN [] hn0 (by decide) ?_ ?_ rfl
  all_goals first|(simp[Ab,Ac,pickOb];done)|rfl
 ·clear h;intro y1 y3 h
  refine AW.seq ?_
  replace h:=ltE h;obtain⟨v4,e4,h⟩:=h
  replace h:=ltE h;obtain⟨v5,e5,h⟩:=h
  apply AW.step
  ·simp[Aa e4,← e5]
   intros;rfl
  cases v5 with
  |true =>
   replace h:=iteT rfl h
   refine AW.cond_true (by simp) ?_
   refine AW.skip ?_
   try simp only[nm]
   refine AW.seq ?_
   refine AW.block ?_
   replace h:=bnE h;obtain⟨v6,e6,h⟩:=h
   replace h:=ltE h;obtain⟨v7,e7,h⟩:=h
   apply AW.step
   ·simp[Ad e6,← e7]
    intros;rfl
   cases v7 with
   |true =>
    replace h:=iteT rfl h
    refine AW.cond_true (by simp) ?_
    apply AW.step
    ·simp
     intros;rfl
    obtain rfl:=oi h
    refine AW.ret ?_
    try simp only[nm]
    refine rP_i ?_
    refine Left.plain hnb (by simp[Tryz.f113,resV,resC,comp];rfl) rfl rfl ?_
    simp
   |false =>
    replace h:=iteF rfl h
    refine AW.cond_false (by simp) ?_
    refine AW.skip ?_
    try simp only[nm]
    replace h:=ltE h;obtain⟨v8,e8,h⟩:=h
    apply AW.last
    ·simp[← e8]
     intros;rfl
    obtain rfl:=oi h
    refine nP_i ?_
    refine Weak.mixN [] hn0 (by decide) ?_ ?_ rfl
    all_goals first|(simp[Ab,Ac,pickOb];done)|rfl
  |false =>
   replace h:=iteF rfl h
   refine AW.cond_false (by simp) ?_
   refine AW.exit ?_
   try simp only[nm]
   obtain rfl:=oi h
   try simp only[sp_l,sp_r]
   refine xP_i ?_
   refine Weak.mixN [] hn0 (by decide) ?_ ?_ rfl
   all_goals first|(simp[Ab,Ac,pickOb];done)|rfl
 ·rintro e s hp
  rcases y2 with y9|y10
  ·replace h:=smL h
   obtain⟨rfl,hw⟩:=hp
   refine⟨_,hw,?_⟩
   try simp only[nm]
   apply AW.step
   ·simp
    intros;rfl
   obtain rfl:=oi h
   refine AW.ret ?_
   refine Left.plain hnb (by simp[Tryz.f113,resV,resC,comp];rfl) rfl rfl ?_
   simp
  ·replace h:=smR h
   obtain⟨rfl,hl⟩:=hp
   refine⟨_,Weak.refl _,?_⟩
   obtain rfl:=oi h
   exact hl
theorem Ju:Enters Tryz.prog 113:=enters Tryz.func113 (by kernel_rfl) rfl
def BK (n:Nat) (a0:List ByteArray) (a1:ByteArray):Option (List ByteArray) :=
bn (B6 n a0 a1) fun v1 =>
ite' v1 (chk (room a0.length 16) <|
some a0) (bn (iter n (fun (y3:Int) =>
bn (lt (lenI a0) fun v7 =>
lt (ltI y3 v7) fun v8 =>
ite' v8 (bn (nth a0 y3) fun v9 =>
lt (ltS v9 a1) fun v10 =>
some (v10)) (some (false))) fun (y6:Bool) =>
lt (y6) fun v11 =>
ite' v11 (lt (addI .i64 y3 1) fun v12 =>
some (.inl v12)) (some (.inr y3))) 0) fun (y4:Int) =>
bn (segh a0 y4) fun v13 =>
chk (room v13.length 16) <|
chk (room (v13.length+1) 16) <|
lt (v13++[a1]) fun v17 =>
bn (segl a0 y4) fun v18 =>
chk (room (v17.length+v18.length) 16) <|
lt (v17++v18) fun v21 =>
some v21)
theorem Kn {n:Nat} {a0:List ByteArray} {a1:ByteArray} {r:List ByteArray} (h:BK n a0 a1=some r):Sound Tryz.prog 85 [.l (.d true 1 (encS a0)),.l (.s (.string a1))] [] (.l (.r 0 1 0 r.length)) [some ⟨9,1,true,none,lvs (encS r)⟩]:=by
 unfold BK at h
 refine Sound.of_aw (fn:=Tryz.f85) (c:=_) Tryz.func85 rfl (by simp[Tryz.f85]) fun cx hG hnb=>?_
 rw[show Tryz.f85.ntmps=41 from rfl]
 have hn0:cx.nb=0:=hnb
 simp only[An,initTm,List.map_cons,List.map_nil]
 apply AW.step
 ·simp
  intros;rfl
 refine AW.seq ?_
 replace h:=bnE h;obtain⟨v1,e1,h⟩:=h
 apply AW.step
 ·simp
  intros
  refine Ae Ju (Km e1) rfl ⟨.d _ _ _,.same rfl,trivial⟩ ?_
  try simp
  intros;rfl
 cases v1 with
 |true =>
  replace h:=iteT rfl h
  refine AW.cond_true (by simp) ?_
  replace h:=chkE h;obtain⟨e2,h⟩:=h
  apply AW.step
  ·simp
   intros
   refine Av ?_
   try simp
   intros
   refine AJ (acc:=[]) (ys:=encS a0) (cap:=none) (k:=a0.length) Eo E4 (by simp) (by rw[J5,Fu];simp) (by simp) (by simp) (by simp) (by first|(simp;done)|simpa using (Ah e2).1) ?_
   try simp
   intros;rfl
  obtain rfl:=oi h
  refine AW.ret ?_
  refine Left.of (av:=_) (by simp[Tryz.f85,resV,resC,comp];rfl) ?_
  exact LeftV.mix 0 [some 1] hn0 rfl (by decide) rfl (by simp[pickOb,Ab,Ac]) (by simp[Ab,Ac])
 |false =>
  replace h:=iteF rfl h
  refine AW.cond_false (by simp) ?_
  refine AW.skip ?_
  try simp only[nm]
  apply AW.step
  ·simp
   intros;rfl
  refine AW.seq ?_
  refine AW.block ?_
  replace h:=bnE h;obtain⟨y4,g4,h⟩:=h
  refine AW.iterP g4 (mk:=fun gh ls q=>(⟨[(0,.l (.d true 1 (encS a0))),(1,.l (.s (.string a1))),(5,.l (.s (.int .i64 q)))],[],41,gh,ls⟩:St)) (N:=fun gh ls=>(xP 0 (cx:=cx) (fun q=>(⟨[(0,.l (.d true 1 (encS a0))),(1,.l (.s (.string a1))),(5,.l (.s (.int .i64 q)))],[],41,gh,ls⟩:St)))) ?_ noX ?_ ?_
  ·refine Weak.mixN [] hn0 (by decide) ?_ ?_ rfl
   all_goals first|(simp[Ab,Ac,pickOb];done)|rfl
  ·clear h;intro y3 y5 h
   refine AW.seq ?_
   replace h:=bnE h;obtain⟨y6,g6,h⟩:=h
   refine AW.flow (p:=fun gh ls=>(nP (cx:=cx) (fun q=>(⟨[(0,.l (.d true 1 (encS a0))),(1,.l (.s (.string a1))),(5,.l (.s (.int .i64 y3))),(24,.l (.s (.bool q)))],[],41,gh,ls⟩:St))) y6) ?_ ?_
   ·replace h:=g6;clear g6
    replace h:=ltE h;obtain⟨v7,e7,h⟩:=h
    replace h:=ltE h;obtain⟨v8,e8,h⟩:=h
    cases v8 with
    |true =>
     replace h:=iteT rfl h
     replace h:=bnE h;obtain⟨v9,e9,h⟩:=h
     replace h:=ltE h;obtain⟨v10,e10,h⟩:=h
     apply AW.last
     ·simp[Aa e7,← e8,Ad e9,← e10]
      intros;rfl
     obtain rfl:=oi h
     refine nP_i ?_
     refine Weak.mixN [] hn0 (by decide) ?_ ?_ rfl
     all_goals first|(simp[Ab,Ac,pickOb];done)|rfl
    |false =>
     replace h:=iteF rfl h
     apply AW.last
     ·simp[Aa e7,← e8]
      intros;rfl
     obtain rfl:=oi h
     refine nP_i ?_
     refine Weak.mixN [] hn0 (by decide) ?_ ?_ rfl
     all_goals first|(simp[Ab,Ac,pickOb];done)|rfl
   ·rintro e s hp
    obtain⟨rfl,hw⟩:=hp
    refine⟨_,hw,?_⟩
    try simp only[nm]
    replace h:=ltE h;obtain⟨v11,e11,h⟩:=h
    rw[← e11]
    cases v11 with
    |true =>
     replace h:=iteT rfl h
     refine AW.cond_true (by simp) ?_
     refine AW.skip ?_
     try simp only[nm]
     refine AW.block ?_
     replace h:=ltE h;obtain⟨v12,e12,h⟩:=h
     apply AW.last
     ·simp[← e12]
      intros;rfl
     obtain rfl:=oi h
     refine nP_i ?_
     refine Weak.mixN [] hn0 (by decide) ?_ ?_ rfl
     all_goals first|(simp[Ab,Ac,pickOb];done)|rfl
    |false =>
     replace h:=iteF rfl h
     refine AW.cond_false (by simp) ?_
     refine AW.exit ?_
     try simp only[nm]
     obtain rfl:=oi h
     refine xP_i ?_
     refine Weak.mixN [] hn0 (by decide) ?_ ?_ rfl
     all_goals first|(simp[Ab,Ac,pickOb];done)|rfl
  ·rintro e s hp
   obtain⟨rfl,hw⟩:=hp
   refine⟨_,hw,?_⟩
   try simp only[nm]
   replace h:=bnE h;obtain⟨v13,e13,h⟩:=h
   have f14:=MY e13
   try simp at f14
   replace h:=chkE h;obtain⟨e15,h⟩:=h
   apply AW.step
   ·simp[f14]
    intros
    refine Av ?_
    try simp[f14]
    intros
    refine AJ (acc:=[]) (ys:=encS v13) (cap:=none) (k:=v13.length) Eo E4 (by simp) (by rw[J5,Fu];simp) (by simp) (by simp) (by simp) (by first|(simp;done)|simpa using (Ah e15).1) ?_
    try simp[f14]
    intros;rfl
   replace h:=chkE h;obtain⟨e16,h⟩:=h
   replace h:=ltE h;obtain⟨v17,e17,h⟩:=h
   apply AW.step
   ·simp[← Bb,← e17,Ao e17]
    intros
    refine Av ?_
    try simp[← Bb,← e17,Ao e17]
    intros
    refine AJ (acc:=encS v13) (ys:=encS [a1]) (cap:=none) (k:=1) Eo E4 (by simp) (by simp[encS,lvs]) (De _) (by simp) (by simp) (by first|(simp;done)|simpa using (Ah e16).1) ?_
    try simp[← Bb,← e17,Ao e17]
    intros;rfl
   replace h:=bnE h;obtain⟨v18,e18,h⟩:=h
   have f19:=MX e18
   try simp at f19
   replace h:=chkE h;obtain⟨e20,h⟩:=h
   replace h:=ltE h;obtain⟨v21,e21,h⟩:=h
   apply AW.step
   ·simp[f19,← Bb,← e21,LA e21]
    intros
    refine AJ (acc:=encS v17) (ys:=encS v18) (cap:=none) (k:=v18.length) Eo E4 (by simp) (by rw[J5,Fu];simp) (De _) (by simp) (by simp) (by first|(simp;done)|simpa using (Ah e20).1) ?_
    try simp[f19,← Bb,← e21,LA e21]
    intros;rfl
   obtain rfl:=oi h
   refine AW.ret ?_
   refine Left.of (av:=_) (by simp[Tryz.f85,resV,resC,comp];rfl) ?_
   exact LeftV.mix 0 [some 4] hn0 rfl (by decide) rfl (by simp[pickOb,Ab,Ac,Fs]) (by simp[Ab,Ac,Fs])
theorem Jv:Enters Tryz.prog 85:=enters Tryz.func85 (by kernel_rfl) rfl
def Cd (n:Nat) (a0:List Int) (a1:Int):Option Item :=
lt (lenI a0) fun v1 =>
lt (eqI v1 0) fun v2 =>
ite' v2 (some (⟨1,⟨#[]⟩,[],[],0⟩:Item)) (bn (nth a0 0) fun v3 =>
lt (cvI .i64 v3) fun v4 =>
bn (remI .i64 v4 4) fun v5 =>
lt (addI .i64 1 v5) fun v6 =>
bn (bn (remI .u8 a1 3) fun v8 =>
lt (eqI v8 0) fun v9 =>
ite' v9 (lt (cvI .i64 a1) fun v10 =>
some (v10)) (some (0))) fun (y7:Int) =>
bn (iter n (fun (y11:Int×ByteArray×List Field×List ByteArray) =>
bn (lt (lenI a0) fun v15 =>
lt (ltI y11.1 v15) fun v16 =>
ite' v16 (lt (ltI y11.1 9) fun v17 =>
some (v17)) (some (false))) fun (y14:Bool) =>
lt (y14) fun v18 =>
ite' v18 (bn (bn (nth a0 y11.1) fun v20 =>
bn (remI .u8 v20 5) fun v21 =>
lt (addI .u8 97 v21) fun v22 =>
lt (strL [v22]) fun v23 =>
lt (cvI .i64 v20) fun v25 =>
bn (remI .i64 v25 3) fun v26 =>
bn (BE n v26) fun v27 =>
bn (catS v23 v27) fun v28 =>
lt (eqI v6 1) fun v29 =>
ite' v29 (bn (catS y11.2.1 v28) fun v30 =>
some ((v30,y11.2.2.1,y11.2.2.2))) (lt (eqI v6 2) fun v31 =>
ite' v31 (lt (subI .i64 v25 100) fun v32 =>
bn (BE n v32) fun v33 =>
bn (CF n y11.2.2.1 v28 v33) fun v34 =>
some ((y11.2.1,v34,y11.2.2.2))) (lt (eqI v6 3) fun v35 =>
ite' v35 (chk (room (y11.2.2.2.length+1) 16) <|
lt (y11.2.2.2++[v28]) fun v37 =>
some ((y11.2.1,y11.2.2.1,v37))) (chk (room y11.2.2.2.length 1) <|
bn (BK n y11.2.2.2 v28) fun v39 =>
some ((y11.2.1,y11.2.2.1,v39)))))) fun (y19:ByteArray×List Field×List ByteArray) =>
lt (addI .i64 y11.1 1) fun v40 =>
some (.inl (v40,y19.1,y19.2.1,y19.2.2))) (some (.inr (y11.2.1,y11.2.2.1,y11.2.2.2)))) (1,⟨#[]⟩,[],[])) fun (y12:ByteArray×List Field×List ByteArray) =>
bn (lt (lenI a0) fun v42 =>
lt (eqI v42 1) fun v43 =>
ite' v43 (lt (neI v6 1) fun v44 =>
some (v44)) (some (false))) fun (y41:Bool) =>
lt (y41) fun v45 =>
ite' v45 (bn (nth a0 0) fun v46 =>
lt (cvI .i64 v46) fun v47 =>
bn (BE n v47) fun v48 =>
some (⟨1,v48,[],[],y7⟩:Item)) (chk (room y12.2.2.length 1) <|
some (⟨v6,y12.1,y12.2.1,y12.2.2,y7⟩:Item)))
theorem Nd {n:Nat} {a0:List Int} {a1:Int} {r:Item} (h:Cd n a0 a1=some r):Sound Tryz.prog 47 [.l (.d false 1 (encU a0)),.l (.s (.int .u8 a1))] [] (.g [.s (.int .i64 r.kind),.s (.string r.s),.d false 2 (encField r.f),.d false 1 (encS r.l),.s (.int .i64 r.exp)]) []:=by
 unfold Cd at h
 refine Sound.of_aw (fn:=Tryz.f47) (c:=_) Tryz.func47 rfl (by simp[Tryz.f47]) fun cx hG hnb=>?_
 rw[show Tryz.f47.ntmps=104 from rfl]
 have hn0:cx.nb=0:=hnb
 simp only[An,initTm,List.map_cons,List.map_nil]
 apply AW.step
 ·simp
  intros;rfl
 refine AW.seq ?_
 replace h:=ltE h;obtain⟨v1,e1,h⟩:=h
 replace h:=ltE h;obtain⟨v2,e2,h⟩:=h
 apply AW.step
 ·simp[Aa e1,← e2]
  intros;rfl
 cases v2 with
 |true =>
  replace h:=iteT rfl h
  refine AW.cond_true (by simp) ?_
  apply AW.step
  ·simp
   intros;rfl
  refine AW.nilCellD 0 2 2 rfl rfl rfl rfl ?_
  refine AW.nilCellD 0 3 1 rfl rfl rfl rfl ?_
  obtain rfl:=oi h
  refine AW.ret ?_
  refine Left.plain hnb (by simp[Tryz.f47,resV,resC,comp];rfl) rfl rfl ?_
  simp
 |false =>
  replace h:=iteF rfl h
  refine AW.cond_false (by simp) ?_
  refine AW.skip ?_
  try simp only[nm]
  replace h:=bnE h;obtain⟨v3,e3,h⟩:=h
  replace h:=ltE h;obtain⟨v4,e4,h⟩:=h
  replace h:=bnE h;obtain⟨v5,e5,h⟩:=h
  replace h:=ltE h;obtain⟨v6,e6,h⟩:=h
  apply AW.step
  ·simp[(show a0[0]?=some v3 from (Ad e3).2),← e4,e5,← e6]
   intros;rfl
  replace h:=bnE h;obtain⟨y7,g7,h⟩:=h
  refine AW.flow (p:=fun gh ls=>(nP (cx:=cx) (fun q=>(⟨[(0,.l (.d false 1 (encU a0))),(4,.l (.p 0 0)),(5,.l (.p 1 0))],[some ⟨57,5,false,none,[.s (.int .i64 0),.s (.string ⟨#[]⟩),.s (.slice none 0 0),.s (.slice none 0 0),.s (.int .i64 0)]⟩,some ⟨57,5,false,none,[.s (.int .i64 v6),.s (.string ⟨#[]⟩),.s (.slice none 0 0),.s (.slice none 0 0),.s (.int .i64 q)]⟩],104,gh,ls⟩:St))) y7) ?_ ?_
  ·replace h:=g7;clear g7
   replace h:=bnE h;obtain⟨v8,e8,h⟩:=h
   replace h:=ltE h;obtain⟨v9,e9,h⟩:=h
   apply AW.step
   ·simp[e8,← e9]
    intros;rfl
   cases v9 with
   |true =>
    replace h:=iteT rfl h
    refine AW.cond_true (by simp) ?_
    replace h:=ltE h;obtain⟨v10,e10,h⟩:=h
    apply AW.last
    ·simp[← e10]
     intros;rfl
    obtain rfl:=oi h
    refine nP_i ?_
    refine Weak.mixN [some 0,some 1] hn0 (by decide) ?_ ?_ rfl
    all_goals first|(simp[Ab,Ac,pickOb];done)|rfl
   |false =>
    replace h:=iteF rfl h
    refine AW.cond_false (by simp) ?_
    refine AW.skip ?_
    try simp only[nm]
    obtain rfl:=oi h
    refine nP_i ?_
    refine Weak.mixN [some 0,some 1] hn0 (by decide) ?_ ?_ rfl
    all_goals first|(simp[Ab,Ac,pickOb];done)|rfl
  ·rintro e s hp
   obtain⟨rfl,hw⟩:=hp
   refine⟨_,hw,?_⟩
   try simp only[nm]
   refine AW.seq ?_
   apply AW.step
   ·simp
    intros;rfl
   refine AW.block ?_
   replace h:=bnE h;obtain⟨y12,g12,h⟩:=h
   refine AW.iterP g12 (mk:=fun gh ls q=>(⟨[(0,.l (.d false 1 (encU a0))),(4,.l (.p 0 0)),(5,.l (.p 1 0)),(6,.l (.s (.int .i64 q.1)))],[some ⟨57,5,false,none,[.s (.int .i64 0),.s (.string ⟨#[]⟩),.s (.slice none 0 0),.s (.slice none 0 0),.s (.int .i64 0)]⟩,some ⟨57,5,false,none,[.s (.int .i64 v6),.s (.string q.2.1),.d false 2 (encField q.2.2.1),.r 2 1 0 q.2.2.2.length,.s (.int .i64 y7)]⟩,some ⟨9,1,true,none,lvs (encS q.2.2.2)⟩],104,gh,ls⟩:St)) (N:=fun gh ls=>(xP 0 (cx:=cx) (fun q=>(⟨[(0,.l (.d false 1 (encU a0))),(4,.l (.p 0 0)),(5,.l (.p 1 0))],[some ⟨57,5,false,none,[.s (.int .i64 0),.s (.string ⟨#[]⟩),.s (.slice none 0 0),.s (.slice none 0 0),.s (.int .i64 0)]⟩,some ⟨57,5,false,none,[.s (.int .i64 v6),.s (.string q.1),.d false 2 (encField q.2.1),.r 2 1 0 q.2.2.length,.s (.int .i64 y7)]⟩,some ⟨9,1,true,none,lvs (encS q.2.2)⟩],104,gh,ls⟩:St)))) ?_ noX ?_ ?_
   ·refine W.nilCellD 1 2 2 rfl rfl rfl rfl ?_
    refine W.nilCell 1 3 9 1 2 rfl rfl rfl rfl rfl ?_
    refine Weak.mixN [some 0,some 1,some 2] hn0 (by decide) ?_ ?_ rfl
    all_goals first|(simp[Ab,Ac,pickOb];done)|rfl
   ·clear h;intro y11 y13 h
    refine AW.seq ?_
    replace h:=bnE h;obtain⟨y14,g14,h⟩:=h
    refine AW.flow (p:=fun gh ls=>(nP (cx:=cx) (fun q=>(⟨[(0,.l (.d false 1 (encU a0))),(4,.l (.p 0 0)),(5,.l (.p 1 0)),(6,.l (.s (.int .i64 y11.1))),(32,.l (.s (.bool q)))],[some ⟨57,5,false,none,[.s (.int .i64 0),.s (.string ⟨#[]⟩),.s (.slice none 0 0),.s (.slice none 0 0),.s (.int .i64 0)]⟩,some ⟨57,5,false,none,[.s (.int .i64 v6),.s (.string y11.2.1),.d false 2 (encField y11.2.2.1),.r 2 1 0 y11.2.2.2.length,.s (.int .i64 y7)]⟩,some ⟨9,1,true,none,lvs (encS y11.2.2.2)⟩],104,gh,ls⟩:St))) y14) ?_ ?_
    ·replace h:=g14;clear g14
     replace h:=ltE h;obtain⟨v15,e15,h⟩:=h
     replace h:=ltE h;obtain⟨v16,e16,h⟩:=h
     cases v16 with
     |true =>
      replace h:=iteT rfl h
      replace h:=ltE h;obtain⟨v17,e17,h⟩:=h
      apply AW.last
      ·simp[Aa e15,← e16,← e17]
       intros;rfl
      obtain rfl:=oi h
      refine nP_i ?_
      refine Weak.mixN [some 0,some 1,some 2] hn0 (by decide) ?_ ?_ rfl
      all_goals first|(simp[Ab,Ac,pickOb];done)|rfl
     |false =>
      replace h:=iteF rfl h
      apply AW.last
      ·simp[Aa e15,← e16]
       intros;rfl
      obtain rfl:=oi h
      refine nP_i ?_
      refine Weak.mixN [some 0,some 1,some 2] hn0 (by decide) ?_ ?_ rfl
      all_goals first|(simp[Ab,Ac,pickOb];done)|rfl
    ·rintro e s hp
     obtain⟨rfl,hw⟩:=hp
     refine⟨_,hw,?_⟩
     try simp only[nm]
     replace h:=ltE h;obtain⟨v18,e18,h⟩:=h
     rw[← e18]
     cases v18 with
     |true =>
      replace h:=iteT rfl h
      refine AW.cond_true (by simp) ?_
      refine AW.skip ?_
      try simp only[nm]
      replace h:=bnE h;obtain⟨y19,g19,h⟩:=h
      refine AW.flow (p:=fun gh ls=>(nP (cx:=cx) (fun q=>(⟨[(0,.l (.d false 1 (encU a0))),(4,.l (.p 0 0)),(5,.l (.p 1 0)),(6,.l (.s (.int .i64 y11.1)))],[some ⟨57,5,false,none,[.s (.int .i64 0),.s (.string ⟨#[]⟩),.s (.slice none 0 0),.s (.slice none 0 0),.s (.int .i64 0)]⟩,some ⟨57,5,false,none,[.s (.int .i64 v6),.s (.string q.1),.d false 2 (encField q.2.1),.r 2 1 0 q.2.2.length,.s (.int .i64 y7)]⟩,some ⟨9,1,true,none,lvs (encS q.2.2)⟩],104,gh,ls⟩:St))) y19) ?_ ?_
      ·replace h:=g19;clear g19
       refine AW.block ?_
       replace h:=bnE h;obtain⟨v20,e20,h⟩:=h
       replace h:=bnE h;obtain⟨v21,e21,h⟩:=h
       replace h:=ltE h;obtain⟨v22,e22,h⟩:=h
       replace h:=ltE h;obtain⟨v23,e23,h⟩:=h
       have f24:(⟨#[UInt8.ofNat (v22).toNat]⟩:ByteArray)=v23:=e23.symm
       replace h:=ltE h;obtain⟨v25,e25,h⟩:=h
       replace h:=bnE h;obtain⟨v26,e26,h⟩:=h
       replace h:=bnE h;obtain⟨v27,e27,h⟩:=h
       replace h:=bnE h;obtain⟨v28,e28,h⟩:=h
       apply AW.drawnE (V:=[_,_,_,_,_,_,_,_,_,_,_,_,_,_,_]) (M:=[[some ⟨57,5,false,none,[.s (.int .i64 0),.s (.string ⟨#[]⟩),.s (.slice none 0 0),.s (.slice none 0 0),.s (.int .i64 0)]⟩,some ⟨57,5,false,none,[.s (.int .i64 v6),.s (.string y11.2.1),.d false 2 (encField y11.2.2.1),.r 2 1 0 y11.2.2.2.length,.s (.int .i64 y7)]⟩,some ⟨9,1,true,none,lvs (encS y11.2.2.2)⟩],[some ⟨57,5,false,none,[.s (.int .i64 0),.s (.string ⟨#[]⟩),.s (.slice none 0 0),.s (.slice none 0 0),.s (.int .i64 0)]⟩,some ⟨57,5,false,none,[.s (.int .i64 v6),.s (.string y11.2.1),.d false 2 (encField y11.2.2.1),.r 2 1 0 y11.2.2.2.length,.s (.int .i64 y7)]⟩,some ⟨9,1,true,none,lvs (encS y11.2.2.2)⟩,some ⟨5,1,true,none,[.s (.int .u8 v22)]⟩]]) mixed [⟨[0],[],[(0,none)],false⟩,⟨[0],[],[(6,none)],false⟩,⟨[0],[0,1],[(35,some 0),(36,some 1)],false⟩,⟨[0],[0,1,2],[(37,some 2)],false⟩,⟨[0],[0,1,2,3],[(38,some 3)],false⟩,⟨[0],[0,1,2,3,4],[(39,some 4)],false⟩,⟨[0],[0,1,2,3,4,5],[(40,some 5)],true⟩,⟨[1],[0,1,2,3,4,5,6],[(41,some 6)],false⟩,⟨[0,1],[],[(0,none)],false⟩,⟨[0,1],[],[(6,none)],false⟩,⟨[0,1],[8,9],[(43,some 8),(44,some 9)],false⟩,⟨[0,1],[8,9,10],[(45,some 10)],false⟩,⟨[0,1],[8,9,10,11],[(46,some 11)],false⟩,⟨[0,1],[8,9,10,11,12],[(47,some 12)],false⟩,⟨[0,1],[8,9,10,11,12,13],[(48,some 13)],false⟩,⟨[],[0,1,2,3,4,5,6,7,8,9,10,11,12,13,14],[],false⟩,⟨[],[0,1,2,3,4,5,6,7,8,9,10,11,12,13,14,15],[],false⟩] 15 1 (by kernel_rfl) (by kernel_rfl)
       ·rfl
       ·refine⟨?_,?_,?_,?_,?_,?_,?_,?_,⟨?_,?_⟩,⟨?_,?_⟩,⟨?_,?_⟩,⟨?_,?_⟩,⟨?_,?_⟩,⟨?_,?_⟩,⟨?_,?_⟩,trivial⟩
        iterate 6 (· intro tm hr;simp[AllL,rdV] at hr;simp[hr,Ad e20,e21,← e22,f24,← e25,e26,e28];intros;first|exact KD.mk|exact KD.mkN)
        ·intro tm hr
         simp[AllL,rdV] at hr
         simp[hr,Ad e20,e21,← e22,f24,← e25,e26,e28]
         intros
         refine Av ?_
         try simp[Ad e20,e21,← e22,f24,← e25,e26,e28]
         intros;first|exact KD.mk|exact KD.mkN
        iterate 13 (· intro tm hr;simp[AllL,rdV] at hr;simp[hr,Ad e20,e21,← e22,f24,← e25,e26,e28];intros;first|exact KD.mk|exact KD.mkN)
        ·intro tm hr
         simp[AllL,rdV] at hr
         simp[hr,Ad e20,e21,← e22,f24,← e25,e26,e28]
         intros
         refine Ae Cp (CQ e27) rfl ⟨.same rfl,trivial⟩ ?_
         try simp[Ad e20,e21,← e22,f24,← e25,e26,e28]
         intros;first|exact KD.mk|exact KD.mkN
        ·intro tm hr
         simp[AllL,rdV] at hr
         simp[hr,Ad e20,e21,← e22,f24,← e25,e26,e28]
         intros
         refine Ae Cp (CQ e27) rfl ⟨.same rfl,trivial⟩ ?_
         try simp[Ad e20,e21,← e22,f24,← e25,e26,e28]
         intros;first|exact KD.mk|exact KD.mkN
       ·rfl
       ·simp[tmD,putD,Ad e20,e21,← e22,f24,← e25,e26,e28];rfl
       ·simp[Ad e20,e21,← e22,f24,← e25,e26,e28]
        intros;rfl
       apply AW.step
       ·simp
        intros;rfl
       refine AW.block ?_
       replace h:=ltE h;obtain⟨v29,e29,h⟩:=h
       apply AW.step
       ·simp[← e29]
        intros;rfl
       cases v29 with
       |true =>
        replace h:=iteT rfl h
        refine AW.cond_true (by simp) ?_
        replace h:=bnE h;obtain⟨v30,e30,h⟩:=h
        apply AW.last
        ·simp[e30]
         intros;rfl
        obtain rfl:=oi h
        refine nP_i ?_
        refine Weak.mixN [some 0,some 1,some 2] hn0 (by decide) ?_ ?_ rfl
        all_goals first|(simp[Ab,Ac,pickOb,Ex];done)|rfl
       |false =>
        replace h:=iteF rfl h
        refine AW.cond_false (by simp) ?_
        replace h:=ltE h;obtain⟨v31,e31,h⟩:=h
        apply AW.step
        ·simp[← e31]
         intros;rfl
        cases v31 with
        |true =>
         replace h:=iteT rfl h
         refine AW.cond_true (by simp) ?_
         replace h:=ltE h;obtain⟨v32,e32,h⟩:=h
         replace h:=bnE h;obtain⟨v33,e33,h⟩:=h
         replace h:=bnE h;obtain⟨v34,e34,h⟩:=h
         apply AW.drawnR (V:=[_,_,_,_,_,_,_,_,_,_]) mixed [⟨[0],[],[(5,none)],false⟩,⟨[0],[0],[(67,some 0)],false⟩,⟨[0],[],[(7,none)],false⟩,⟨[0],[],[(0,none)],false⟩,⟨[0],[],[(6,none)],false⟩,⟨[0],[3,4],[(70,some 3),(71,some 4)],false⟩,⟨[0],[3,4,5],[(72,some 5)],false⟩,⟨[0],[3,4,5,6],[(73,some 6)],false⟩,⟨[0],[3,4,5,6,7],[(74,some 7)],false⟩,⟨[0],[3,4,5,6,7,8],[(75,some 8)],false⟩,⟨[],[0,1,2,3,4,5,6,7,8,9],[],false⟩,⟨[],[0,1,2,3,4,5,6,7,8,9,10],[],false⟩,⟨[],[0,1,2,3,4,5,6,7,8,9,10,11],[],false⟩] 10 (by kernel_rfl) (by kernel_rfl)
         ·refine⟨?_,?_,?_,?_,?_,?_,?_,?_,?_,?_,trivial⟩
          iterate 9 (· intro tm hr;simp[AllL,rdV] at hr;simp[hr,Ad e20,← e25,← e32];intros;first|exact KD.mk|exact KD.mkN)
          ·intro tm hr
           simp[AllL,rdV] at hr
           simp[hr,Ad e20,← e25,← e32]
           intros
           refine Ae Cp (CQ e33) rfl ⟨.same rfl,trivial⟩ ?_
           try simp[Ad e20,← e25,← e32]
           intros;first|exact KD.mk|exact KD.mkN
         ·rfl
         ·simp[tmD,putD,Ad e20,← e25,← e32];rfl
         ·simp[Ad e20,← e25,← e32]
          intros
          refine Ae Mi (Nc e34) rfl ⟨.same rfl,.same rfl,.same rfl,trivial⟩ ?_
          try simp[Ad e20,← e25,← e32]
          intros;rfl
         obtain rfl:=oi h
         refine nP_i ?_
         refine Weak.mixN [some 0,some 1,some 2] hn0 (by decide) ?_ ?_ rfl
         all_goals first|(simp[Ab,Ac,pickOb,Ex];done)|rfl
        |false =>
         replace h:=iteF rfl h
         refine AW.cond_false (by simp) ?_
         replace h:=ltE h;obtain⟨v35,e35,h⟩:=h
         apply AW.step
         ·simp[← e35]
          intros;rfl
         cases v35 with
         |true =>
          replace h:=iteT rfl h
          refine AW.cond_true (by simp) ?_
          replace h:=chkE h;obtain⟨e36,h⟩:=h
          replace h:=ltE h;obtain⟨v37,e37,h⟩:=h
          apply AW.last
          ·simp[← Bb,← e37,Ao e37]
           intros
           refine Av ?_
           try simp[← Bb,← e37,Ao e37]
           intros
           refine AJ (acc:=encS y11.2.2.2) (ys:=encS [v28]) (cap:=none) (k:=1) Eo E4 (by simp) (by simp[encS,lvs]) (De _) (by simp) (by simp) (by first|(simp;done)|simpa using (Ah e36).1) ?_
           try simp[← Bb,← e37,Ao e37]
           intros;rfl
          obtain rfl:=oi h
          refine nP_i ?_
          refine Weak.mixN [some 0,some 1,some 5] hn0 (by decide) ?_ ?_ rfl
          all_goals first|(simp[Ab,Ac,pickOb,Fs,Ex];done)|rfl
         |false =>
          replace h:=iteF rfl h
          refine AW.cond_false (by simp) ?_
          replace h:=chkE h;obtain⟨e38,h⟩:=h
          replace h:=bnE h;obtain⟨v39,e39,h⟩:=h
          apply AW.last
          ·simp[outR]
           intros
           refine AF Jv (Kn e39) rfl (by simp) ⟨.rowd (by simp) rfl (by omega) (De _) (by simp) (by first|exact (Ah e38).2|simpa using (Ah e38).2|simp),.same rfl,trivial⟩ ?_
           try simp[outR]
           intros;rfl
          obtain rfl:=oi h
          refine nP_i ?_
          refine Weak.mixN [some 0,some 1,some 4] hn0 (by decide) ?_ ?_ rfl
          all_goals first|(simp[Ab,Ac,pickOb,Ex];done)|rfl
      ·rintro e s hp
       obtain⟨rfl,hw⟩:=hp
       refine⟨_,hw,?_⟩
       try simp only[nm]
       replace h:=ltE h;obtain⟨v40,e40,h⟩:=h
       apply AW.last
       ·simp[← e40]
        intros;rfl
       obtain rfl:=oi h
       refine nP_i ?_
       refine Weak.mixN [some 0,some 1,some 2] hn0 (by decide) ?_ ?_ rfl
       all_goals first|(simp[Ab,Ac,pickOb];done)|rfl
     |false =>
      replace h:=iteF rfl h
      refine AW.cond_false (by simp) ?_
      refine AW.exit ?_
      try simp only[nm]
      obtain rfl:=oi h
      refine xP_i ?_
      refine Weak.mixN [some 0,some 1,some 2] hn0 (by decide) ?_ ?_ rfl
      all_goals first|(simp[Ab,Ac,pickOb];done)|rfl
   ·rintro e s hp
    obtain⟨rfl,hw⟩:=hp
    refine⟨_,hw,?_⟩
    try simp only[nm]
    refine AW.seq ?_
    replace h:=bnE h;obtain⟨y41,g41,h⟩:=h
    refine AW.flow (p:=fun gh ls=>(nP (cx:=cx) (fun q=>(⟨[(0,.l (.d false 1 (encU a0))),(4,.l (.p 0 0)),(5,.l (.p 1 0)),(94,.l (.s (.bool q)))],[some ⟨57,5,false,none,[.s (.int .i64 0),.s (.string ⟨#[]⟩),.s (.slice none 0 0),.s (.slice none 0 0),.s (.int .i64 0)]⟩,some ⟨57,5,false,none,[.s (.int .i64 v6),.s (.string y12.1),.d false 2 (encField y12.2.1),.r 2 1 0 y12.2.2.length,.s (.int .i64 y7)]⟩,some ⟨9,1,true,none,lvs (encS y12.2.2)⟩],104,gh,ls⟩:St))) y41) ?_ ?_
    ·replace h:=g41;clear g41
     replace h:=ltE h;obtain⟨v42,e42,h⟩:=h
     replace h:=ltE h;obtain⟨v43,e43,h⟩:=h
     cases v43 with
     |true =>
      replace h:=iteT rfl h
      replace h:=ltE h;obtain⟨v44,e44,h⟩:=h
      apply AW.last
      ·simp[Aa e42,← e43,← e44]
       intros;rfl
      obtain rfl:=oi h
      refine nP_i ?_
      refine Weak.mixN [some 0,some 1,some 2] hn0 (by decide) ?_ ?_ rfl
      all_goals first|(simp[Ab,Ac,pickOb];done)|rfl
     |false =>
      replace h:=iteF rfl h
      apply AW.last
      ·simp[Aa e42,← e43]
       intros;rfl
      obtain rfl:=oi h
      refine nP_i ?_
      refine Weak.mixN [some 0,some 1,some 2] hn0 (by decide) ?_ ?_ rfl
      all_goals first|(simp[Ab,Ac,pickOb];done)|rfl
    ·rintro e s hp
     obtain⟨rfl,hw⟩:=hp
     refine⟨_,hw,?_⟩
     try simp only[nm]
     replace h:=ltE h;obtain⟨v45,e45,h⟩:=h
     rw[← e45]
     cases v45 with
     |true =>
      replace h:=iteT rfl h
      refine AW.cond_true (by simp) ?_
      replace h:=bnE h;obtain⟨v46,e46,h⟩:=h
      replace h:=ltE h;obtain⟨v47,e47,h⟩:=h
      replace h:=bnE h;obtain⟨v48,e48,h⟩:=h
      apply AW.drawnP (V:=[_,_,_,_,_,_,_]) mixed [⟨[0],[],[(0,none)],false⟩,⟨[0],[0],[(95,some 0)],false⟩,⟨[0],[0,1],[(96,some 1)],false⟩,⟨[0],[0,1,2],[(97,some 2)],false⟩,⟨[0],[0,1,2,3],[(98,some 3)],false⟩,⟨[0],[],[(5,none)],false⟩,⟨[0],[5],[(100,some 5)],false⟩,⟨[],[0,1,2,3,4,5,6],[],false⟩,⟨[],[0,1,2,3,4,5,6,7],[],false⟩] 7 (by kernel_rfl) (by kernel_rfl)
      ·refine⟨?_,?_,?_,?_,?_,?_,?_,trivial⟩
       iterate 4 (· intro tm hr;simp[AllL,rdV] at hr;simp[hr,(show a0[0]?=some v46 from (Ad e46).2),← e47];intros;first|exact KD.mk|exact KD.mkN)
       ·intro tm hr
        simp[AllL,rdV] at hr
        simp[hr,(show a0[0]?=some v46 from (Ad e46).2),← e47]
        intros
        refine Ae Cp (CQ e48) rfl ⟨.same rfl,trivial⟩ ?_
        try simp[(show a0[0]?=some v46 from (Ad e46).2),← e47]
        intros;first|exact KD.mk|exact KD.mkN
       iterate 2 (· intro tm hr;simp[AllL,rdV] at hr;simp[hr,(show a0[0]?=some v46 from (Ad e46).2),← e47];intros;first|exact KD.mk|exact KD.mkN)
      ·rfl
      ·simp[tmD,putD,(show a0[0]?=some v46 from (Ad e46).2),← e47];rfl
      ·simp[(show a0[0]?=some v46 from (Ad e46).2),← e47]
       intros;rfl
      refine AW.nilCellD 0 2 2 rfl rfl rfl rfl ?_
      refine AW.nilCellD 0 3 1 rfl rfl rfl rfl ?_
      obtain rfl:=oi h
      refine AW.ret ?_
      refine Left.plain hnb (by simp[Tryz.f47,resV,resC,comp];rfl) rfl rfl ?_
      simp
     |false =>
      replace h:=iteF rfl h
      refine AW.cond_false (by simp) ?_
      refine AW.skip ?_
      try simp only[nm]
      apply AW.step
      ·simp
       intros;rfl
      replace h:=chkE h;obtain⟨e49,h⟩:=h
      refine AW.frzRow 2 (ty:=9) (cap:=none) (sz:=1) (es:=encS y12.2.2) (by simp) (by omega) (De _) (by first|exact (Ah e49).2|simpa using (Ah e49).2|simp) (by simp[Tm.frz,AV.frz,LV.frz];rfl) (by simp[Ob.frz,LV.frz];rfl) rfl ?_
      obtain rfl:=oi h
      refine AW.ret ?_
      refine Left.plain hnb (by simp[Tryz.f47,resV,resC,comp];rfl) rfl rfl ?_
      simp
theorem Mj:Enters Tryz.prog 47:=enters Tryz.func47 (by kernel_rfl) rfl
def Bi (n:Nat) (a0:List Int):Option (List Effect) :=
bn (iter n (fun (y1:Int×List Effect) =>
bn (lt (addI .i64 y1.1 3) fun v5 =>
lt (lenI a0) fun v6 =>
lt (ltI v5 v6) fun v7 =>
ite' v7 (lt (lenI y1.2) fun v8 =>
lt (ltI v8 40) fun v9 =>
some (v9)) (some (false))) fun (y4:Bool) =>
lt (y4) fun v10 =>
ite' v10 (bn (nth a0 y1.1) fun v11 =>
bn (A1 n v11) fun v12 =>
lt (addI .i64 y1.1 1) fun v13 =>
bn (nth a0 v13) fun v14 =>
bn (remI .u8 v14 4) fun v15 =>
lt (eqI v15 0) fun v16 =>
bn (lt (notB v16) fun v18 =>
ite' v18 (lt (addI .i64 y1.1 4) fun v19 =>
bn (seglh a0 v13 v19) fun v20 =>
lt (addI .i64 y1.1 2) fun v22 =>
bn (nth a0 v22) fun v23 =>
bn (Cd n v20 v23) fun v24 =>
some ((⟨v12,v16,v24⟩:Effect))) (some ((⟨v12,v16,(⟨0,⟨#[]⟩,[],[],0⟩:Item)⟩:Effect)))) fun (y17:Effect) =>
chk (room (y1.2.length+1) 104) <|
lt (y1.2++[y17]) fun v26 =>
lt (addI .i64 y1.1 4) fun v27 =>
some (.inl (v27,v26))) (some (.inr y1.2))) (0,[])) fun (y2:List Effect) =>
chk (room y2.length 1) <|
some y2
theorem Gh {n:Nat} {a0:List Int} {r:List Effect} (h:Bi n a0=some r):Sound Tryz.prog 15 [.l (.d false 1 (encU a0))] [] (.l (.d false 7 (encEffect r))) []:=by
 unfold Bi at h
 refine Sound.of_aw (fn:=Tryz.f15) (c:=_) Tryz.func15 rfl (by simp[Tryz.f15]) fun cx hG hnb=>?_
 rw[show Tryz.f15.ntmps=52 from rfl]
 have hn0:cx.nb=0:=hnb
 simp only[An,initTm,List.map_cons,List.map_nil]
 apply AW.step
 ·simp
  intros;rfl
 apply AW.step
 ·simp
  intros;rfl
 refine AW.seq ?_
 apply AW.step
 ·simp
  intros;rfl
 refine AW.block ?_
 replace h:=bnE h;obtain⟨y2,g2,h⟩:=h
 refine AW.iterP g2 (mk:=fun gh ls q=>(⟨[(0,.l (.d false 1 (encU a0))),(3,.l (.r 0 7 0 q.2.length)),(4,.l (.s (.int .i64 q.1)))],[some ⟨59,7,true,none,lvs (encEffect q.2)⟩],52,gh,ls⟩:St)) (N:=fun gh ls=>(xP 0 (cx:=cx) (fun q=>(⟨[(3,.l (.r 0 7 0 q.length))],[some ⟨59,7,true,none,lvs (encEffect q)⟩],52,gh,ls⟩:St)))) ?_ noX ?_ ?_
 ·refine W.nilRow 3 59 7 0 (by simp) rfl rfl ?_
  refine Weak.mixN [some 0] hn0 (by decide) ?_ ?_ rfl
  all_goals first|(simp[Ab,Ac,pickOb];done)|rfl
 ·clear h;intro y1 y3 h
  refine AW.seq ?_
  replace h:=bnE h;obtain⟨y4,g4,h⟩:=h
  refine AW.flow (p:=fun gh ls=>(nP (cx:=cx) (fun q=>(⟨[(0,.l (.d false 1 (encU a0))),(3,.l (.r 0 7 0 y1.2.length)),(4,.l (.s (.int .i64 y1.1))),(15,.l (.s (.bool q)))],[some ⟨59,7,true,none,lvs (encEffect y1.2)⟩],52,gh,ls⟩:St))) y4) ?_ ?_
  ·replace h:=g4;clear g4
   replace h:=ltE h;obtain⟨v5,e5,h⟩:=h
   replace h:=ltE h;obtain⟨v6,e6,h⟩:=h
   replace h:=ltE h;obtain⟨v7,e7,h⟩:=h
   cases v7 with
   |true =>
    replace h:=iteT rfl h
    replace h:=ltE h;obtain⟨v8,e8,h⟩:=h
    replace h:=ltE h;obtain⟨v9,e9,h⟩:=h
    apply AW.last
    ·simp[← e5,Aa e6,← e7,Aa e8,← e9]
     intros;rfl
    obtain rfl:=oi h
    refine nP_i ?_
    refine Weak.mixN [some 0] hn0 (by decide) ?_ ?_ rfl
    all_goals first|(simp[Ab,Ac,pickOb];done)|rfl
   |false =>
    replace h:=iteF rfl h
    apply AW.last
    ·simp[← e5,Aa e6,← e7]
     intros;rfl
    obtain rfl:=oi h
    refine nP_i ?_
    refine Weak.mixN [some 0] hn0 (by decide) ?_ ?_ rfl
    all_goals first|(simp[Ab,Ac,pickOb];done)|rfl
  ·rintro e s hp
   obtain⟨rfl,hw⟩:=hp
   refine⟨_,hw,?_⟩
   try simp only[nm]
   replace h:=ltE h;obtain⟨v10,e10,h⟩:=h
   rw[← e10]
   cases v10 with
   |true =>
    replace h:=iteT rfl h
    refine AW.cond_true (by simp) ?_
    refine AW.skip ?_
    try simp only[nm]
    refine AW.seq ?_
    refine AW.block ?_
    replace h:=bnE h;obtain⟨v11,e11,h⟩:=h
    replace h:=bnE h;obtain⟨v12,e12,h⟩:=h
    replace h:=ltE h;obtain⟨v13,e13,h⟩:=h
    replace h:=bnE h;obtain⟨v14,e14,h⟩:=h
    replace h:=bnE h;obtain⟨v15,e15,h⟩:=h
    replace h:=ltE h;obtain⟨v16,e16,h⟩:=h
    apply AW.drawnE (V:=[_,_,_,_,_,_,_,_,_,_,_,_,_,_]) (M:=[[some ⟨59,7,true,none,lvs (encEffect y1.2)⟩],[some ⟨59,7,true,none,lvs (encEffect y1.2)⟩,some ⟨59,7,false,none,[.s (.string ⟨#[]⟩),.s (.bool false),.s (.int .i64 0),.s (.string ⟨#[]⟩),.s (.slice none 0 0),.s (.slice none 0 0),.s (.int .i64 0)]⟩]]) mixed [⟨[0,1],[],[(0,none)],false⟩,⟨[0,1],[],[(4,none)],false⟩,⟨[0,1],[0,1],[(18,some 0),(19,some 1)],false⟩,⟨[0,1],[0,1,2],[(20,some 2)],false⟩,⟨[0,1],[0,1,2,3],[(21,some 3)],false⟩,⟨[0,1],[],[(0,none)],false⟩,⟨[0,1],[],[(4,none)],false⟩,⟨[0,1],[6],[(24,some 6)],false⟩,⟨[0,1],[5,6,7],[(23,some 5),(25,some 7)],false⟩,⟨[0,1],[5,6,7,8],[(26,some 8)],false⟩,⟨[0,1],[5,6,7,8,9],[(27,some 9)],false⟩,⟨[0,1],[5,6,7,8,9,10],[(28,some 10)],false⟩,⟨[0,1],[0,1,2,3,4,5,6,7,8,9,10,11],[(22,some 4),(29,some 11)],false⟩,⟨[0],[],[],true⟩,⟨[],[0,1,2,3,4,5,6,7,8,9,10,11,12,13],[],false⟩] 14 1 (by kernel_rfl) (by kernel_rfl)
    ·rfl
    ·refine⟨⟨?_,?_⟩,⟨?_,?_⟩,⟨?_,?_⟩,⟨?_,?_⟩,⟨?_,?_⟩,⟨?_,?_⟩,⟨?_,?_⟩,⟨?_,?_⟩,⟨?_,?_⟩,⟨?_,?_⟩,⟨?_,?_⟩,⟨?_,?_⟩,⟨?_,?_⟩,?_,trivial⟩
     iterate 8 (· intro tm hr;simp[AllL,rdV] at hr;simp[hr,Ad e11,← e13,Ad e14,e15,← e16];intros;first|exact KD.mk|exact KD.mkN)
     ·intro tm hr
      simp[AllL,rdV] at hr
      simp[hr,Ad e11,← e13,Ad e14,e15,← e16]
      intros
      refine Ae H3 (I8 e12) rfl ⟨.same rfl,trivial⟩ ?_
      try simp[Ad e11,← e13,Ad e14,e15,← e16]
      intros;first|exact KD.mk|exact KD.mkN
     ·intro tm hr
      simp[AllL,rdV] at hr
      simp[hr,Ad e11,← e13,Ad e14,e15,← e16]
      intros
      refine Ae H3 (I8 e12) rfl ⟨.same rfl,trivial⟩ ?_
      try simp[Ad e11,← e13,Ad e14,e15,← e16]
      intros;first|exact KD.mk|exact KD.mkN
     iterate 17 (· intro tm hr;simp[AllL,rdV] at hr;simp[hr,Ad e11,← e13,Ad e14,e15,← e16];intros;first|exact KD.mk|exact KD.mkN)
    ·rfl
    ·simp[tmD,putD,Ad e11,← e13,Ad e14,e15,← e16];rfl
    ·simp[Ad e11,← e13,Ad e14,e15,← e16]
     intros;rfl
    replace h:=bnE h;obtain⟨y17,g17,h⟩:=h
    refine AW.flow (p:=fun gh ls=>(nP (cx:=cx) (fun q=>(⟨[(0,.l (.d false 1 (encU a0))),(3,.l (.r 0 7 0 y1.2.length)),(4,.l (.s (.int .i64 y1.1))),(5,.l (.p 1 0))],[some ⟨59,7,true,none,lvs (encEffect y1.2)⟩,some ⟨59,7,false,none,[.s (.string q.key),.s (.bool q.gone),.s (.int .i64 q.item.kind),.s (.string q.item.s),.d false 2 (encField q.item.f),.d false 1 (encS q.item.l),.s (.int .i64 q.item.exp)]⟩],52,gh,ls⟩:St))) y17) ?_ ?_
    ·replace h:=g17;clear g17
     replace h:=ltE h;obtain⟨v18,e18,h⟩:=h
     apply AW.step
     ·simp[← e18]
      intros;rfl
     cases v18 with
     |true =>
      replace h:=iteT rfl h
      refine AW.cond_true (by simp) ?_
      replace h:=ltE h;obtain⟨v19,e19,h⟩:=h
      replace h:=bnE h;obtain⟨v20,e20,h⟩:=h
      have f21:=L1 e20
      try simp[← e13,← e19] at f21
      replace h:=ltE h;obtain⟨v22,e22,h⟩:=h
      replace h:=bnE h;obtain⟨v23,e23,h⟩:=h
      replace h:=bnE h;obtain⟨v24,e24,h⟩:=h
      apply AW.drawnR (V:=[_,_,_,_,_,_,_,_,_,_,_]) mixed [⟨[0],[],[(0,none)],false⟩,⟨[0],[],[(4,none)],false⟩,⟨[0],[1],[(35,some 1)],false⟩,⟨[0],[],[(4,none)],false⟩,⟨[0],[3],[(37,some 3)],false⟩,⟨[0],[0,1,2,3,4],[(34,some 0),(36,some 2),(38,some 4)],false⟩,⟨[0],[],[(0,none)],false⟩,⟨[0],[],[(4,none)],false⟩,⟨[0],[7],[(41,some 7)],false⟩,⟨[0],[6,7,8],[(40,some 6),(42,some 8)],false⟩,⟨[0],[6,7,8,9],[(43,some 9)],false⟩,⟨[],[0,1,2,3,4,5,6,7,8,9,10],[],false⟩,⟨[],[0,1,2,3,4,5,6,7,8,9,10,11],[],false⟩,⟨[],[0,1,2,3,4,5,6,7,8,9,10,11,12],[],false⟩] 11 (by kernel_rfl) (by kernel_rfl)
      ·refine⟨?_,?_,?_,?_,?_,?_,?_,?_,?_,?_,?_,trivial⟩
       iterate 11 (· intro tm hr;simp[AllL,rdV] at hr;simp[hr,← e13,← e19,f21,← e22,Ad e23];intros;first|exact KD.mk|exact KD.mkN)
      ·rfl
      ·simp[tmD,putD,← e13,← e19,f21,← e22,Ad e23];rfl
      ·simp[← e13,← e19,f21,← e22,Ad e23]
       intros
       refine Ae Mj (Nd e24) rfl ⟨.same rfl,.same rfl,trivial⟩ ?_
       try simp[← e13,← e19,f21,← e22,Ad e23]
       intros;rfl
      obtain rfl:=oi h
      refine nP_i ?_
      refine Weak.mixN [some 0,some 1] hn0 (by decide) ?_ ?_ rfl
      all_goals first|(simp[Ab,Ac,pickOb];done)|rfl
     |false =>
      replace h:=iteF rfl h
      refine AW.cond_false (by simp) ?_
      refine AW.skip ?_
      try simp only[nm]
      obtain rfl:=oi h
      refine nP_i ?_
      refine W.nilCellD 1 4 2 rfl rfl rfl rfl ?_
      refine W.nilCellD 1 5 1 rfl rfl rfl rfl ?_
      refine Weak.mixN [some 0,some 1] hn0 (by decide) ?_ ?_ rfl
      all_goals first|(simp[Ab,Ac,pickOb];done)|rfl
    ·rintro e s hp
     obtain⟨rfl,hw⟩:=hp
     refine⟨_,hw,?_⟩
     try simp only[nm]
     replace h:=chkE h;obtain⟨e25,h⟩:=h
     replace h:=ltE h;obtain⟨v26,e26,h⟩:=h
     apply AW.last
     ·simp[← CA,← e26,Ao e26]
      intros
      refine Av ?_
      try simp[← CA,← e26,Ao e26]
      intros
      refine AJ (acc:=encEffect y1.2) (ys:=encEffect [y17]) (cap:=none) (k:=1) It Is (by simp) (by simp[encEffect,lvs]) (BC _) (by simp) (by simp) (by first|(simp;done)|simpa using (Ah e25).1) ?_
      try simp[← CA,← e26,Ao e26]
      intros;rfl
     try simp only[nm]
     replace h:=ltE h;obtain⟨v27,e27,h⟩:=h
     apply AW.last
     ·simp[← e27]
      intros;rfl
     obtain rfl:=oi h
     refine nP_i ?_
     refine Weak.mixN [some 3] hn0 (by decide) ?_ ?_ rfl
     all_goals first|(simp[Ab,Ac,pickOb,Ep];done)|rfl
   |false =>
    replace h:=iteF rfl h
    refine AW.cond_false (by simp) ?_
    refine AW.exit ?_
    try simp only[nm]
    obtain rfl:=oi h
    refine xP_i ?_
    refine Weak.mixN [some 0] hn0 (by decide) ?_ ?_ rfl
    all_goals first|(simp[Ab,Ac,pickOb];done)|rfl
 ·rintro e s hp
  obtain⟨rfl,hw⟩:=hp
  refine⟨_,hw,?_⟩
  try simp only[nm]
  apply AW.step
  ·simp
   intros;rfl
  replace h:=chkE h;obtain⟨e28,h⟩:=h
  refine AW.frzRow 0 (ty:=59) (cap:=none) (sz:=7) (es:=encEffect y2) (by simp) (by omega) (BC _) (by first|exact (Ah e28).2|simpa using (Ah e28).2|simp) (by simp[Tm.frz,AV.frz,LV.frz];rfl) (by simp[Ob.frz,LV.frz];rfl) rfl ?_
  obtain rfl:=oi h
  refine AW.ret ?_
  refine Left.plain hnb (by simp[Tryz.f15,resV,resC,comp];rfl) rfl rfl ?_
  simp
theorem FV:Enters Tryz.prog 15:=enters Tryz.func15 (by kernel_rfl) rfl
def CR (n:Nat) (a0:List Int):Option (List Pair) :=
bn (Bi n a0) fun v1 =>
bn (Dr n [] v1) fun v2 =>
some v2
theorem Mk {n:Nat} {a0:List Int} {r:List Pair} (h:CR n a0=some r):Sound Tryz.prog 29 [.l (.d false 1 (encU a0))] [] (.l (.d false 6 (encPair r))) []:=by
 unfold CR at h
 refine Sound.of_aw (fn:=Tryz.f29) (c:=_) Tryz.func29 rfl (by simp[Tryz.f29]) fun cx hG hnb=>?_
 rw[show Tryz.f29.ntmps=6 from rfl]
 have hn0:cx.nb=0:=hnb
 simp only[An,initTm,List.map_cons,List.map_nil]
 apply AW.step
 ·simp
  intros;rfl
 replace h:=bnE h;obtain⟨v1,e1,h⟩:=h
 replace h:=bnE h;obtain⟨v2,e2,h⟩:=h
 apply AW.step
 ·simp
  intros
  refine Ae FV (Gh e1) rfl ⟨.same rfl,trivial⟩ ?_
  try simp
  intros
  refine Ae K1 (Mc e2) rfl ⟨.nil _ _,.same rfl,trivial⟩ ?_
  try simp
  intros;rfl
 obtain rfl:=oi h
 refine AW.ret ?_
 refine Left.plain hnb (by simp[Tryz.f29,resV,resC,comp];rfl) rfl rfl ?_
 simp
theorem K8:Enters Tryz.prog 29:=enters Tryz.func29 (by kernel_rfl) rfl
end Go.Proofs.YtlbdhlbbkibgpaaGreat
