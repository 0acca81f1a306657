/- Part 3 of the proof. -/
import Derived.Test.YthjenkmbbnjcnaaPg2
set_option linter.unusedVariables false
set_option linter.unusedSimpArgs false
set_option linter.constructorNameAsVariable false
set_option maxRecDepth 8000
set_option maxHeartbeats 8000000
namespace Go.Proofs.Ythjenkmbbnjcnaa
open Go Go.RowKit
def small {α:Type} (c:Nat) (l:List α):Bool:=decide (l.length*c≤140737488355328∧l.length≤140737488355328)
theorem AP {α:Type} {c:Nat} {l:List α} (h:small c l=true):l.length*c≤140737488355328∧l.length≤140737488355328:=by simpa [small] using h
set_option maxRecDepth 8000 in
theorem IC (l:List (List Int)) (hl:l.length*24≤140737488355328∧l.length≤140737488355328):Sound Try.prog 80 [.l (.d false 1 ((encLI l)))] [] (.l (.r 0 1 0 l.length)) [some ⟨44,1,true,none,lvs (encLI l)⟩]:=by
 refine Sound.of_aw (fn:=Try.f80) (c:=_) Try.func80 rfl (by simp[Try.f80]) fun cx hG hnb=>?_
 rw[show Try.f80.ntmps=8 from rfl]
 have hn0:cx.nb=0:=hnb
 refine AW.step (by simp;rfl) ?_
 refine AW.seq ?_
 refine AW.stepN (fun s=>∃ b:Bool,(encLI l≠[]→b=false)∧s=⟨[(4,.l (.s (.bool b))),(3,.l (.d false 1 (encLI l))),(2,.l (.s (.slice none 0 0))),(0,.l (.d false 1 (encLI l)))],[],8,[],none⟩) ?_ ?_
 ·simp
 rintro s ⟨b,hb,rfl⟩
 refine AW.cond rfl (fun h=>?_) (fun h=>AW.skip ?_)
 ·have he:l=[]:=by
   cases l with
   |nil=>rfl
   |cons x l=>simp at hb;rw[hb] at h;simp at h
  subst he
  refine AW.step (by simp;rfl) ?_
  refine AW.ret (Left.of (av:=.l (.s (.slice none 0 0))) (by simp[Try.f80,resV,resC]) ?_)
  refine LeftV.weak (Weak.nilRow 0 44 1 rfl) ?_
  refine LeftV.now hnb [some 0] (fun i j o hi hj=>?_) rfl ?_ ?_
  ·cases i <;> cases j <;> simp_all
  ·simp[pickOb,St.add,Ob.ren,lvs]
  ·rfl
 ·simp only[Post.seq]
  apply AW.step
  ·simp[Value.oneCell']
   refine Ar ?_
   try simp
   refine Bo (q:=(l.length,lvs (encLI l))) (z:=⟨44,1,true,none,[]⟩) Gi Gh (by simp) (by simp[← FJ]) (by simp) (by simp) (by simp) (by simp;omega) ?_
   simp[St.grow,obsBut,A3]
   rfl
  refine AW.ret (Left.of (av:=.l (.r 0 1 0 l.length)) (by simp[Try.f80,resV,resC]) ?_)
  refine LeftV.now hnb [some 0] (fun i j o hi hj=>?_) rfl ?_ rfl
  ·cases i <;> cases j <;> simp_all
  ·simp[pickOb,Ob.ren,A3]
theorem HD:Enters Try.prog 80:=enters Try.func80 (by kernel_rfl) rfl
set_option maxRecDepth 8000 in
theorem FT (l:List Claim) (hl:l.length*32≤140737488355328∧l.length≤140737488355328):Sound Try.prog 66 [.l (.d true 4 ((encClaim l)))] [] (.l (.r 0 4 0 l.length)) [some ⟨41,4,true,none,lvs (encClaim l)⟩]:=by
 refine Sound.of_aw (fn:=Try.f66) (c:=_) Try.func66 rfl (by simp[Try.f66]) fun cx hG hnb=>?_
 rw[show Try.f66.ntmps=8 from rfl]
 have hn0:cx.nb=0:=hnb
 refine AW.step (by simp;rfl) ?_
 refine AW.seq ?_
 refine AW.stepN (fun s=>∃ b:Bool,(encClaim l≠[]→b=false)∧s=⟨[(4,.l (.s (.bool b))),(3,.l (.d true 4 (encClaim l))),(2,.l (.s (.slice none 0 0))),(0,.l (.d true 4 (encClaim l)))],[],8,[],none⟩) ?_ ?_
 ·simp
 rintro s ⟨b,hb,rfl⟩
 refine AW.cond rfl (fun h=>?_) (fun h=>AW.skip ?_)
 ·have he:l=[]:=by
   cases l with
   |nil=>rfl
   |cons x l=>simp at hb;rw[hb] at h;simp at h
  subst he
  refine AW.step (by simp;rfl) ?_
  refine AW.ret (Left.of (av:=.l (.s (.slice none 0 0))) (by simp[Try.f66,resV,resC]) ?_)
  refine LeftV.weak (Weak.nilRow 0 41 4 rfl) ?_
  refine LeftV.now hnb [some 0] (fun i j o hi hj=>?_) rfl ?_ ?_
  ·cases i <;> cases j <;> simp_all
  ·simp[pickOb,St.add,Ob.ren,lvs]
  ·rfl
 ·simp only[Post.seq]
  apply AW.step
  ·simp[Value.oneCell']
   refine Ar ?_
   try simp
   refine Bo (q:=(l.length,lvs (encClaim l))) (z:=⟨41,4,true,none,[]⟩) Fa E9 (by simp) (by simp[GX]) (by simp) (by simp) (by simp) (by simp;omega) ?_
   simp[St.grow,obsBut,A3]
   rfl
  refine AW.ret (Left.of (av:=.l (.r 0 4 0 l.length)) (by simp[Try.f66,resV,resC]) ?_)
  refine LeftV.now hnb [some 0] (fun i j o hi hj=>?_) rfl ?_ rfl
  ·cases i <;> cases j <;> simp_all
  ·simp[pickOb,Ob.ren,A3]
theorem Fl:Enters Try.prog 66:=enters Try.func66 (by kernel_rfl) rfl
set_option maxRecDepth 8000 in
theorem Fm (l:List Effect) (hl:l.length*104≤140737488355328∧l.length≤140737488355328):Sound Try.prog 78 [.l (.d false 7 ((encEffect l)))] [] (.l (.r 0 7 0 l.length)) [some ⟨141,7,true,none,lvs (encEffect l)⟩]:=by
 refine Sound.of_aw (fn:=Try.f78) (c:=_) Try.func78 rfl (by simp[Try.f78]) fun cx hG hnb=>?_
 rw[show Try.f78.ntmps=8 from rfl]
 have hn0:cx.nb=0:=hnb
 refine AW.step (by simp;rfl) ?_
 refine AW.seq ?_
 refine AW.stepN (fun s=>∃ b:Bool,(encEffect l≠[]→b=false)∧s=⟨[(4,.l (.s (.bool b))),(3,.l (.d false 7 (encEffect l))),(2,.l (.s (.slice none 0 0))),(0,.l (.d false 7 (encEffect l)))],[],8,[],none⟩) ?_ ?_
 ·simp
 rintro s ⟨b,hb,rfl⟩
 refine AW.cond rfl (fun h=>?_) (fun h=>AW.skip ?_)
 ·have he:l=[]:=by
   cases l with
   |nil=>rfl
   |cons x l=>simp at hb;rw[hb] at h;simp at h
  subst he
  refine AW.step (by simp;rfl) ?_
  refine AW.ret (Left.of (av:=.l (.s (.slice none 0 0))) (by simp[Try.f78,resV,resC]) ?_)
  refine LeftV.weak (Weak.nilRow 0 141 7 rfl) ?_
  refine LeftV.now hnb [some 0] (fun i j o hi hj=>?_) rfl ?_ ?_
  ·cases i <;> cases j <;> simp_all
  ·simp[pickOb,St.add,Ob.ren,lvs]
  ·rfl
 ·simp only[Post.seq]
  apply AW.step
  ·simp[Value.oneCell']
   refine Ar ?_
   try simp
   refine Bo (q:=(l.length,lvs (encEffect l))) (z:=⟨141,7,true,none,[]⟩) It Hu (by simp) (by simp[← FJ]) (by simp) (by simp) (by simp) (by simp;omega) ?_
   simp[St.grow,obsBut,A3]
   rfl
  refine AW.ret (Left.of (av:=.l (.r 0 7 0 l.length)) (by simp[Try.f78,resV,resC]) ?_)
  refine LeftV.now hnb [some 0] (fun i j o hi hj=>?_) rfl ?_ rfl
  ·cases i <;> cases j <;> simp_all
  ·simp[pickOb,Ob.ren,A3]
theorem E0:Enters Try.prog 78:=enters Try.func78 (by kernel_rfl) rfl
set_option maxRecDepth 8000 in
theorem FU (l:List Field) (hl:l.length*32≤140737488355328∧l.length≤140737488355328):Sound Try.prog 110 [.l (.d true 2 ((encField l)))] [] (.l (.r 0 2 0 l.length)) [some ⟨179,2,true,none,lvs (encField l)⟩]:=by
 refine Sound.of_aw (fn:=Try.f110) (c:=_) Try.func110 rfl (by simp[Try.f110]) fun cx hG hnb=>?_
 rw[show Try.f110.ntmps=8 from rfl]
 have hn0:cx.nb=0:=hnb
 refine AW.step (by simp;rfl) ?_
 refine AW.seq ?_
 refine AW.stepN (fun s=>∃ b:Bool,(encField l≠[]→b=false)∧s=⟨[(4,.l (.s (.bool b))),(3,.l (.d true 2 (encField l))),(2,.l (.s (.slice none 0 0))),(0,.l (.d true 2 (encField l)))],[],8,[],none⟩) ?_ ?_
 ·simp
 rintro s ⟨b,hb,rfl⟩
 refine AW.cond rfl (fun h=>?_) (fun h=>AW.skip ?_)
 ·have he:l=[]:=by
   cases l with
   |nil=>rfl
   |cons x l=>simp at hb;rw[hb] at h;simp at h
  subst he
  refine AW.step (by simp;rfl) ?_
  refine AW.ret (Left.of (av:=.l (.s (.slice none 0 0))) (by simp[Try.f110,resV,resC]) ?_)
  refine LeftV.weak (Weak.nilRow 0 179 2 rfl) ?_
  refine LeftV.now hnb [some 0] (fun i j o hi hj=>?_) rfl ?_ ?_
  ·cases i <;> cases j <;> simp_all
  ·simp[pickOb,St.add,Ob.ren,lvs]
  ·rfl
 ·simp only[Post.seq]
  apply AW.step
  ·simp[Value.oneCell']
   refine Ar ?_
   try simp
   refine Bo (q:=(l.length,lvs (encField l))) (z:=⟨179,2,true,none,[]⟩) Ex Ew (by simp) (by simp[GT]) (by simp) (by simp) (by simp) (by simp;omega) ?_
   simp[St.grow,obsBut,A3]
   rfl
  refine AW.ret (Left.of (av:=.l (.r 0 2 0 l.length)) (by simp[Try.f110,resV,resC]) ?_)
  refine LeftV.now hnb [some 0] (fun i j o hi hj=>?_) rfl ?_ rfl
  ·cases i <;> cases j <;> simp_all
  ·simp[pickOb,Ob.ren,A3]
theorem Fn:Enters Try.prog 110:=enters Try.func110 (by kernel_rfl) rfl
set_option maxRecDepth 8000 in
theorem GK (l:List Move) (hl:l.length*40≤140737488355328∧l.length≤140737488355328):Sound Try.prog 75 [.l (.d true 4 ((encMove l)))] [] (.l (.r 0 4 0 l.length)) [some ⟨72,4,true,none,lvs (encMove l)⟩]:=by
 refine Sound.of_aw (fn:=Try.f75) (c:=_) Try.func75 rfl (by simp[Try.f75]) fun cx hG hnb=>?_
 rw[show Try.f75.ntmps=8 from rfl]
 have hn0:cx.nb=0:=hnb
 refine AW.step (by simp;rfl) ?_
 refine AW.seq ?_
 refine AW.stepN (fun s=>∃ b:Bool,(encMove l≠[]→b=false)∧s=⟨[(4,.l (.s (.bool b))),(3,.l (.d true 4 (encMove l))),(2,.l (.s (.slice none 0 0))),(0,.l (.d true 4 (encMove l)))],[],8,[],none⟩) ?_ ?_
 ·simp
 rintro s ⟨b,hb,rfl⟩
 refine AW.cond rfl (fun h=>?_) (fun h=>AW.skip ?_)
 ·have he:l=[]:=by
   cases l with
   |nil=>rfl
   |cons x l=>simp at hb;rw[hb] at h;simp at h
  subst he
  refine AW.step (by simp;rfl) ?_
  refine AW.ret (Left.of (av:=.l (.s (.slice none 0 0))) (by simp[Try.f75,resV,resC]) ?_)
  refine LeftV.weak (Weak.nilRow 0 72 4 rfl) ?_
  refine LeftV.now hnb [some 0] (fun i j o hi hj=>?_) rfl ?_ ?_
  ·cases i <;> cases j <;> simp_all
  ·simp[pickOb,St.add,Ob.ren,lvs]
  ·rfl
 ·simp only[Post.seq]
  apply AW.step
  ·simp[Value.oneCell']
   refine Ar ?_
   try simp
   refine Bo (q:=(l.length,lvs (encMove l))) (z:=⟨72,4,true,none,[]⟩) B0 Cl (by simp) (by simp[HA]) (by simp) (by simp) (by simp) (by simp;omega) ?_
   simp[St.grow,obsBut,A3]
   rfl
  refine AW.ret (Left.of (av:=.l (.r 0 4 0 l.length)) (by simp[Try.f75,resV,resC]) ?_)
  refine LeftV.now hnb [some 0] (fun i j o hi hj=>?_) rfl ?_ rfl
  ·cases i <;> cases j <;> simp_all
  ·simp[pickOb,Ob.ren,A3]
theorem FV:Enters Try.prog 75:=enters Try.func75 (by kernel_rfl) rfl
set_option maxRecDepth 8000 in
theorem GL (l:List Pair) (hl:l.length*96≤140737488355328∧l.length≤140737488355328):Sound Try.prog 77 [.l (.d false 6 ((encPair l)))] [] (.l (.r 0 6 0 l.length)) [some ⟨138,6,true,none,lvs (encPair l)⟩]:=by
 refine Sound.of_aw (fn:=Try.f77) (c:=_) Try.func77 rfl (by simp[Try.f77]) fun cx hG hnb=>?_
 rw[show Try.f77.ntmps=8 from rfl]
 have hn0:cx.nb=0:=hnb
 refine AW.step (by simp;rfl) ?_
 refine AW.seq ?_
 refine AW.stepN (fun s=>∃ b:Bool,(encPair l≠[]→b=false)∧s=⟨[(4,.l (.s (.bool b))),(3,.l (.d false 6 (encPair l))),(2,.l (.s (.slice none 0 0))),(0,.l (.d false 6 (encPair l)))],[],8,[],none⟩) ?_ ?_
 ·simp
 rintro s ⟨b,hb,rfl⟩
 refine AW.cond rfl (fun h=>?_) (fun h=>AW.skip ?_)
 ·have he:l=[]:=by
   cases l with
   |nil=>rfl
   |cons x l=>simp at hb;rw[hb] at h;simp at h
  subst he
  refine AW.step (by simp;rfl) ?_
  refine AW.ret (Left.of (av:=.l (.s (.slice none 0 0))) (by simp[Try.f77,resV,resC]) ?_)
  refine LeftV.weak (Weak.nilRow 0 138 6 rfl) ?_
  refine LeftV.now hnb [some 0] (fun i j o hi hj=>?_) rfl ?_ ?_
  ·cases i <;> cases j <;> simp_all
  ·simp[pickOb,St.add,Ob.ren,lvs]
  ·rfl
 ·simp only[Post.seq]
  apply AW.step
  ·simp[Value.oneCell']
   refine Ar ?_
   try simp
   refine Bo (q:=(l.length,lvs (encPair l))) (z:=⟨138,6,true,none,[]⟩) Eo DM (by simp) (by simp[← FJ]) (by simp) (by simp) (by simp) (by simp;omega) ?_
   simp[St.grow,obsBut,A3]
   rfl
  refine AW.ret (Left.of (av:=.l (.r 0 6 0 l.length)) (by simp[Try.f77,resV,resC]) ?_)
  refine LeftV.now hnb [some 0] (fun i j o hi hj=>?_) rfl ?_ rfl
  ·cases i <;> cases j <;> simp_all
  ·simp[pickOb,Ob.ren,A3]
theorem FW:Enters Try.prog 77:=enters Try.func77 (by kernel_rfl) rfl
set_option maxRecDepth 8000 in
theorem GM (l:List Seen) (hl:l.length*24≤140737488355328∧l.length≤140737488355328):Sound Try.prog 76 [.l (.d true 3 ((encSeen l)))] [] (.l (.r 0 3 0 l.length)) [some ⟨131,3,true,none,lvs (encSeen l)⟩]:=by
 refine Sound.of_aw (fn:=Try.f76) (c:=_) Try.func76 rfl (by simp[Try.f76]) fun cx hG hnb=>?_
 rw[show Try.f76.ntmps=8 from rfl]
 have hn0:cx.nb=0:=hnb
 refine AW.step (by simp;rfl) ?_
 refine AW.seq ?_
 refine AW.stepN (fun s=>∃ b:Bool,(encSeen l≠[]→b=false)∧s=⟨[(4,.l (.s (.bool b))),(3,.l (.d true 3 (encSeen l))),(2,.l (.s (.slice none 0 0))),(0,.l (.d true 3 (encSeen l)))],[],8,[],none⟩) ?_ ?_
 ·simp
 rintro s ⟨b,hb,rfl⟩
 refine AW.cond rfl (fun h=>?_) (fun h=>AW.skip ?_)
 ·have he:l=[]:=by
   cases l with
   |nil=>rfl
   |cons x l=>simp at hb;rw[hb] at h;simp at h
  subst he
  refine AW.step (by simp;rfl) ?_
  refine AW.ret (Left.of (av:=.l (.s (.slice none 0 0))) (by simp[Try.f76,resV,resC]) ?_)
  refine LeftV.weak (Weak.nilRow 0 131 3 rfl) ?_
  refine LeftV.now hnb [some 0] (fun i j o hi hj=>?_) rfl ?_ ?_
  ·cases i <;> cases j <;> simp_all
  ·simp[pickOb,St.add,Ob.ren,lvs]
  ·rfl
 ·simp only[Post.seq]
  apply AW.step
  ·simp[Value.oneCell']
   refine Ar ?_
   try simp
   refine Bo (q:=(l.length,lvs (encSeen l))) (z:=⟨131,3,true,none,[]⟩) Kd JL (by simp) (by simp[HB]) (by simp) (by simp) (by simp) (by simp;omega) ?_
   simp[St.grow,obsBut,A3]
   rfl
  refine AW.ret (Left.of (av:=.l (.r 0 3 0 l.length)) (by simp[Try.f76,resV,resC]) ?_)
  refine LeftV.now hnb [some 0] (fun i j o hi hj=>?_) rfl ?_ rfl
  ·cases i <;> cases j <;> simp_all
  ·simp[pickOb,Ob.ren,A3]
theorem FX:Enters Try.prog 76:=enters Try.func76 (by kernel_rfl) rfl
set_option maxRecDepth 8000 in
theorem E1 (l:List Int) (hl:l.length*8≤140737488355328∧l.length≤140737488355328):Sound Try.prog 63 [.l (.d true 1 ((encI l)))] [] (.l (.r 0 1 0 l.length)) [some ⟨3,1,true,none,lvs (encI l)⟩]:=by
 refine Sound.of_aw (fn:=Try.f63) (c:=_) Try.func63 rfl (by simp[Try.f63]) fun cx hG hnb=>?_
 rw[show Try.f63.ntmps=8 from rfl]
 have hn0:cx.nb=0:=hnb
 refine AW.step (by simp;rfl) ?_
 refine AW.seq ?_
 refine AW.stepN (fun s=>∃ b:Bool,(encI l≠[]→b=false)∧s=⟨[(4,.l (.s (.bool b))),(3,.l (.d true 1 (encI l))),(2,.l (.s (.slice none 0 0))),(0,.l (.d true 1 (encI l)))],[],8,[],none⟩) ?_ ?_
 ·simp
 rintro s ⟨b,hb,rfl⟩
 refine AW.cond rfl (fun h=>?_) (fun h=>AW.skip ?_)
 ·have he:l=[]:=by
   cases l with
   |nil=>rfl
   |cons x l=>simp at hb;rw[hb] at h;simp at h
  subst he
  refine AW.step (by simp;rfl) ?_
  refine AW.ret (Left.of (av:=.l (.s (.slice none 0 0))) (by simp[Try.f63,resV,resC]) ?_)
  refine LeftV.weak (Weak.nilRow 0 3 1 rfl) ?_
  refine LeftV.now hnb [some 0] (fun i j o hi hj=>?_) rfl ?_ ?_
  ·cases i <;> cases j <;> simp_all
  ·simp[pickOb,St.add,Ob.ren,lvs]
  ·rfl
 ·simp only[Post.seq]
  apply AW.step
  ·simp[Value.oneCell']
   refine Ar ?_
   try simp
   refine Bo (q:=(l.length,lvs (encI l))) (z:=⟨3,1,true,none,[]⟩) Is Jk (by simp) (by simp[Jm]) (by simp) (by simp) (by simp) (by simp;omega) ?_
   simp[St.grow,obsBut,A3]
   rfl
  refine AW.ret (Left.of (av:=.l (.r 0 1 0 l.length)) (by simp[Try.f63,resV,resC]) ?_)
  refine LeftV.now hnb [some 0] (fun i j o hi hj=>?_) rfl ?_ rfl
  ·cases i <;> cases j <;> simp_all
  ·simp[pickOb,Ob.ren,A3]
theorem DE:Enters Try.prog 63:=enters Try.func63 (by kernel_rfl) rfl
theorem Jv (l:List Int) (hl:l.length*8≤140737488355328∧l.length≤140737488355328):Sound Try.prog 63 [.l (.d true 1 (encI l))] [] (.l (.d false 1 (encI l))) [] :=
 (E1 l hl).frz (by simp) (by omega) (DD l) (by omega)
set_option maxRecDepth 8000 in
theorem Jw (l:List ByteArray) (hl:l.length*16≤140737488355328∧l.length≤140737488355328):Sound Try.prog 111 [.l (.d true 1 ((encS l)))] [] (.l (.r 0 1 0 l.length)) [some ⟨9,1,true,none,lvs (encS l)⟩]:=by
 refine Sound.of_aw (fn:=Try.f111) (c:=_) Try.func111 rfl (by simp[Try.f111]) fun cx hG hnb=>?_
 rw[show Try.f111.ntmps=8 from rfl]
 have hn0:cx.nb=0:=hnb
 refine AW.step (by simp;rfl) ?_
 refine AW.seq ?_
 refine AW.stepN (fun s=>∃ b:Bool,(encS l≠[]→b=false)∧s=⟨[(4,.l (.s (.bool b))),(3,.l (.d true 1 (encS l))),(2,.l (.s (.slice none 0 0))),(0,.l (.d true 1 (encS l)))],[],8,[],none⟩) ?_ ?_
 ·simp
 rintro s ⟨b,hb,rfl⟩
 refine AW.cond rfl (fun h=>?_) (fun h=>AW.skip ?_)
 ·have he:l=[]:=by
   cases l with
   |nil=>rfl
   |cons x l=>simp at hb;rw[hb] at h;simp at h
  subst he
  refine AW.step (by simp;rfl) ?_
  refine AW.ret (Left.of (av:=.l (.s (.slice none 0 0))) (by simp[Try.f111,resV,resC]) ?_)
  refine LeftV.weak (Weak.nilRow 0 9 1 rfl) ?_
  refine LeftV.now hnb [some 0] (fun i j o hi hj=>?_) rfl ?_ ?_
  ·cases i <;> cases j <;> simp_all
  ·simp[pickOb,St.add,Ob.ren,lvs]
  ·rfl
 ·simp only[Post.seq]
  apply AW.step
  ·simp[Value.oneCell']
   refine Ar ?_
   try simp
   refine Bo (q:=(l.length,lvs (encS l))) (z:=⟨9,1,true,none,[]⟩) CF DL (by simp) (by simp[D9]) (by simp) (by simp) (by simp) (by simp;omega) ?_
   simp[St.grow,obsBut,A3]
   rfl
  refine AW.ret (Left.of (av:=.l (.r 0 1 0 l.length)) (by simp[Try.f111,resV,resC]) ?_)
  refine LeftV.now hnb [some 0] (fun i j o hi hj=>?_) rfl ?_ rfl
  ·cases i <;> cases j <;> simp_all
  ·simp[pickOb,Ob.ren,A3]
theorem ID:Enters Try.prog 111:=enters Try.func111 (by kernel_rfl) rfl
def insL {α:Type} (l:List α) (i:Nat) (x:α):List α:=l.take i++x::l.drop i
theorem Fo {α:Type} (l:List α) (i:Nat) (x:α) (h:i≤l.length):(insL l i x).length=l.length+1:=by
 simp[insL]
 omega
def delL {α:Type} (l:List α) (i:Nat):List α:=l.take i++l.drop (i+1)
def insB {α:Type} (l:List α) (i:Int):Bool:=decide (0≤i∧i≤l.length∧l.length≤1000000000)
def delB {α:Type} (l:List α) (i j:Int):Bool:=decide (0≤i∧i<l.length∧j=i+1∧l.length≤1000000000)
theorem Fx {α:Type} {l m:List α} {i:Int} {x:α} (h:insB l i=true) (e:m=insL l i.toNat x):l.length+1=m.length:=by
 simp[insB] at h
 rw[e,Fo l i.toNat x (by omega)]
set_option maxRecDepth 8000 in
set_option maxHeartbeats 8000000 in
theorem Jx (l:List Move) (i:Nat) (x:Move) (hi:i≤l.length) (hl:l.length≤1000000000):Sound Try.prog 61 [.l (.r 0 4 0 l.length),.l (.s (.int .i64 i)),.l (.r 1 4 0 1)] [⟨72,4,true,none,lvs (encMove l)⟩,⟨72,4,true,none,lvs (encMove [x])⟩] (.l (.r 0 4 0 (l.length+1))) [some ⟨72,4,true,none,lvs (encMove (insL l i x))⟩,some ⟨72,4,true,none,lvs (encMove [x])⟩]:=by
 refine Sound.of_aw (fn:=Try.f61) (c:=_) Try.func61 rfl (by simp[Try.f61]) fun cx hG hnb=>?_
 rw[show Try.f61.ntmps=95 from rfl]
 have hn0:cx.nb=2:=hnb
 have hlv:(lvs (encMove l)).length=l.length*4:=by rw[AC (At l)];simp
 have hw1:=Hq (show l.length+1≤9223372036854775807 by omega)
 have hlx:(lvs (encMove [x])).length=4:=by rw[AC (At _)];simp
 refine AW.step (by simp[hi,hw1];rfl) ?_
 refine AW.step (by simp[hi,hw1,hlv];rfl) ?_
 refine AW.step (by simp[hi,hw1];rfl) ?_
 refine AW.seq ?_
 refine AW.step (by simp[hi,hw1];rfl) ?_
 refine AW.cond rfl (fun h3=>?_) (fun h3=>?_)
 ·simp at h3
 ·try simp at h3
  refine AW.skip ?_
  simp only[Post.seq,Post.block,if_true]
  refine AW.step (by simp[hi,hw1];rfl) ?_
  refine AW.seq ?_
  refine AW.step (by simp[hi,hw1];rfl) ?_
  refine AW.cond rfl (fun h6=>?_) (fun h6=>?_)
  ·simp at h6
   have hins:insL l i x=l++[x]:=by simp[insL,show i=l.length by omega]
   apply AW.step
   ·simp[hi,hw1]
    refine GF (acc:=encMove l) (ys:=encMove [x]) (cap:=none) (k:=1) B0 Cl (by simp) (Ka (e:=72) (cap:=none) (by simp) (At _) (by simp)) (At _) (by simp) (by simp) (by omega) ?_
    simp[St.grow,obsBut,← Cn,← hins]
    try simp[hi,hw1]
    rfl
   refine AW.ret ?_
   refine Left.of (av:=_) (by simp[Try.f61,resV,resC,comp,hi,hw1];rfl) ?_
   exact LeftV.rows [some 0,some 1] (by simp;omega) (Gg (by omega)) rfl rfl (by simp[pickOb,hi,hw1]) (by simp[hi,hw1])
  ·simp at h6
   have hil:i<l.length:=by omega
   have hin:(i:Int)+(l.length+1 - i:Nat)=l.length+1:=by omega
   have hin2:i+(l.length+1 - i)=l.length+1:=by omega
   have hw2:=Hq (show i+1≤9223372036854775807 by omega)
   refine AW.skip ?_
   simp only[Post.seq,Post.block,if_true]
   refine AW.seq ?_
   apply AW.stepK
   simp[hi,hw1]
   refine JK B0 rfl rfl fun c hc1 _ hc3=>?_
   simp[hw1]
   unfold KK
   refine AW.cond rfl (fun h8=>?_) (fun h8=>?_)
   ·simp at h8
    have hcl:c=l.length:=by omega
    obtain⟨es2,he2⟩:∃ es2,es2=(encMove l).take i++List.replicate (l.length+1 - i) [.v (.int .i64 0),.v (.int .i64 0),.v (.int .i64 0),.v (.string ⟨#[]⟩)]:=⟨_,rfl⟩
    have hs2:∀ e∈es2,e.length=4:=by
     intro e he
     rw[he2] at he
     rcases List.mem_append.1 he with h|h
     ·exact At l e (List.mem_of_mem_take h)
     ·rw[(List.mem_replicate.1 h).2];rfl
    have hn2:es2.length=l.length+1:=by rw[he2];simp;omega
    have hv2:(lvs es2).length=(l.length+1)*4:=by rw[AC hs2,hn2]
    obtain⟨es3,he3⟩:∃ es3,es3=es2.take i++encMove [x]++es2.drop (i+1):=⟨_,rfl⟩
    have hs3:∀ e∈es3,e.length=4:=by
     intro e he
     rw[he3] at he
     simp only[List.mem_append] at he
     rcases he with (h|h)|h
     ·exact hs2 e (List.mem_of_mem_take h)
     ·exact At _ e h
     ·exact hs2 e (List.mem_of_mem_drop h)
    have hn3:es3.length=l.length+1:=by rw[he3];simp[hn2];omega
    have hv3:(lvs es3).length=(l.length+1)*4:=by rw[AC hs3,hn3]
    have hend:es3.take (i+1)++((encMove l).drop i).take (l.length - i)=encMove (insL l i x):=by
     rw[List.take_of_length_le (l:=(encMove l).drop i) (by simp)]
     rw[he3,List.take_append_of_le_length (by simp[hn2];omega),List.take_of_length_le (by simp;omega),he2,List.take_append_of_le_length (by simp;omega)]
     simp[encMove,insL,List.take_take]
    apply AW.step
    ·simp[hi,hw1,hlv]
     repeat refine⟨by omega,?_⟩
     refine Jh (zr:=[.v (.int .i64 0),.v (.int .i64 0),.v (.int .i64 0),.v (.string ⟨#[]⟩)]) (es:=encMove l) B0 Cl rfl ⟨rfl,rfl,by omega⟩ rfl rfl (At _) (by simp;omega) (l.length+1 - i) (by rw[Jf (by omega) (by omega)];omega) (by omega) (by omega) (by omega) (by omega) ?_
     simp[hin2]
     try simp[hi,hw1,hlv]
     rfl
    apply AW.step
    ·simp[hi,hw1,hv2,← he2]
     repeat refine⟨by omega,?_⟩
     refine D6 B0 Cl rfl (by simp[hv2]) (by omega) 1 (by omega) (by omega) (Hs (cap:=none) rfl (At [x]) (by simp)) (GH (fs:=encMove [x]) hs2 (At _) (by simp[hn2];omega)) ?_
     simp[← he3]
     try simp[hi,hw1,hv2,← he2]
     rfl
    apply AW.drawnP (V:=[_,_,_,_,_,_,_,_]) mixed [⟨[0],[],[(9,none)],false⟩,⟨[0],[],[(1,none)],false⟩,⟨[0],[],[(7,none)],false⟩,⟨[0],[1,2],[(47,some 1),(48,some 2)],false⟩,⟨[0],[0,1,2,3],[(46,some 0),(49,some 3)],false⟩,⟨[0],[],[(0,none)],false⟩,⟨[0],[],[(1,none)],false⟩,⟨[0],[5,6],[(51,some 5),(52,some 6)],false⟩,⟨[],[0,1,2,3,4,5,6,7],[],false⟩] 8 (by kernel_rfl) (by kernel_rfl)
    ·refine⟨?_,?_,?_,?_,?_,?_,?_,?_,trivial⟩
     ·intro tm hr
      simp[AllL,rdV] at hr
      simp[hr,hi,hw1,hv3,hw2,hlv]
      repeat refine⟨by omega,?_⟩
      exact KD.mk
     ·intro tm hr
      simp[AllL,rdV] at hr
      simp[hr,hi,hw1,hv3,hw2,hlv]
      repeat refine⟨by omega,?_⟩
      exact KD.mk
     ·intro tm hr
      simp[AllL,rdV] at hr
      simp[hr,hi,hw1,hv3,hw2,hlv]
      repeat refine⟨by omega,?_⟩
      exact KD.mk
     ·intro tm hr
      simp[AllL,rdV] at hr
      simp[hr,hi,hw1,hv3,hw2,hlv]
      repeat refine⟨by omega,?_⟩
      exact KD.mk
     ·intro tm hr
      simp[AllL,rdV] at hr
      simp[hr,hi,hw1,hv3,hw2,hlv]
      repeat refine⟨by omega,?_⟩
      exact KD.mk
     ·intro tm hr
      simp[AllL,rdV] at hr
      simp[hr,hi,hw1,hv3,hw2,hlv]
      repeat refine⟨by omega,?_⟩
      exact KD.mk
     ·intro tm hr
      simp[AllL,rdV] at hr
      simp[hr,hi,hw1,hv3,hw2,hlv]
      repeat refine⟨by omega,?_⟩
      exact KD.mk
     ·intro tm hr
      simp[AllL,rdV] at hr
      simp[hr,hi,hw1,hv3,hw2,hlv]
      repeat refine⟨by omega,?_⟩
      exact KD.mk
    ·rfl
    ·simp[tmD,putD,hi,hw1,hv3,hw2,hlv];rfl
    ·simp[hi,hw1,hv3,hw2,hlv]
     repeat refine⟨by omega,?_⟩
     refine D6 B0 Cl rfl (by simp[hv3]) (by omega) (l.length - i) (by omega) (by omega) (Hs (cap:=some c) rfl (At l) (by simp;omega)) (IQ (fs:=((encMove l).drop i).take (l.length - i)) hs3 (fun e he=>At l e (List.mem_of_mem_drop (List.mem_of_mem_take he))) (by omega) (by simp[hn3];omega)) ?_
     try simp[hend]
     try simp[hi,hw1,hv3,hw2,hlv]
     rfl
    refine AW.step (by simp[hi,hw1];rfl) ?_
    refine AW.ret ?_
    refine Left.of (av:=_) (by simp[Try.f61,resV,resC,comp,hi,hw1];rfl) ?_
    exact LeftV.rows [some 2,some 1] (by simp;omega) (Gg (by omega)) rfl rfl (by simp[pickOb,hi,hw1]) (by simp[hi,hw1])
   ·have hc':l.length+1≤c:=by
     simp at h8
     omega
    refine AW.room 0 4 rfl rfl rfl (by simp[hlv];omega) rfl rfl ?_
    have hlv3:(lvs (encMove l)++[LV.u,LV.u,LV.u,LV.u]).length=(l.length+1)*4:=by simp[hlv];omega
    refine AW.skip ?_
    simp only[Post.seq,Post.block,if_true]
    refine AW.step (by simp[hi,hw1,hlv3,hlv];(repeat refine⟨by omega,?_⟩);rfl) ?_
    refine AW.seq ?_
    apply AW.step
    ·simp[hi,hw1,hlv3,hw2]
     repeat refine⟨by omega,?_⟩
     refine Gf (t:=58) (tb:=4) Try.func84 (by kernel_rfl) (by kernel_rfl) (by kernel_rfl) (by kernel_rfl) B0 Cl rfl rfl (by omega) (by simp) ?_
     try simp[hi,hw1,hlv3,hw2]
     rfl
    refine AW.cond rfl (fun h14=>?_) (fun h14=>?_)
    ·try simp at h14
     apply AW.drawnP (V:=[_,_,_,_,_,_,_,_]) mixed [⟨[0],[],[(0,none)],false⟩,⟨[0],[],[(1,none)],false⟩,⟨[0],[],[(7,none)],false⟩,⟨[0],[1,2],[(70,some 1),(71,some 2)],false⟩,⟨[0],[0,1,2,3],[(69,some 0),(72,some 3)],false⟩,⟨[0],[],[(0,none)],false⟩,⟨[0],[],[(1,none)],false⟩,⟨[0],[5,6],[(74,some 5),(75,some 6)],false⟩,⟨[],[0,1,2,3,4,5,6,7],[],false⟩] 8 (by kernel_rfl) (by kernel_rfl)
     ·refine⟨?_,?_,?_,?_,?_,?_,?_,?_,trivial⟩
      ·intro tm hr
       simp[AllL,rdV] at hr
       simp[hr,hi,hw1,hlv3,hw2]
       repeat refine⟨by omega,?_⟩
       exact KD.mk
      ·intro tm hr
       simp[AllL,rdV] at hr
       simp[hr,hi,hw1,hlv3,hw2]
       repeat refine⟨by omega,?_⟩
       exact KD.mk
      ·intro tm hr
       simp[AllL,rdV] at hr
       simp[hr,hi,hw1,hlv3,hw2]
       repeat refine⟨by omega,?_⟩
       exact KD.mk
      ·intro tm hr
       simp[AllL,rdV] at hr
       simp[hr,hi,hw1,hlv3,hw2]
       repeat refine⟨by omega,?_⟩
       exact KD.mk
      ·intro tm hr
       simp[AllL,rdV] at hr
       simp[hr,hi,hw1,hlv3,hw2]
       repeat refine⟨by omega,?_⟩
       exact KD.mk
      ·intro tm hr
       simp[AllL,rdV] at hr
       simp[hr,hi,hw1,hlv3,hw2]
       repeat refine⟨by omega,?_⟩
       exact KD.mk
      ·intro tm hr
       simp[AllL,rdV] at hr
       simp[hr,hi,hw1,hlv3,hw2]
       repeat refine⟨by omega,?_⟩
       exact KD.mk
      ·intro tm hr
       simp[AllL,rdV] at hr
       simp[hr,hi,hw1,hlv3,hw2]
       repeat refine⟨by omega,?_⟩
       exact KD.mk
     ·rfl
     ·simp[tmD,putD,hi,hw1,hlv3,hw2];rfl
     ·simp[hi,hw1,hlv3,hw2]
      repeat refine⟨by omega,?_⟩
      refine D6 B0 Cl rfl (by simp[hlv3]) (by omega) (l.length - i) (by omega) (by omega) (Ip (cap:=some c) (us:=[.u,.u,.u,.u]) rfl (At l) (by simp;omega)) (GG (fs:=((encMove l).drop i).take (l.length - i)) (At l) (fun e he=>At l e (List.mem_of_mem_drop (List.mem_of_mem_take he))) (by simp;omega) (by simp;omega)) ?_
      try simp[hi,hw1,hlv3,hw2]
      rfl
     obtain⟨es4,he4⟩:∃ es4,es4=(encMove l).take (i+1)++((encMove l).drop i).take (l.length - i):=⟨_,rfl⟩
     have hs4:∀ e∈es4,e.length=4:=by
      intro e he
      rw[he4] at he
      rcases List.mem_append.1 he with h|h
      ·exact At l e (List.mem_of_mem_take h)
      ·exact At l e (List.mem_of_mem_drop (List.mem_of_mem_take h))
     have hn4:es4.length=l.length+1:=by rw[he4];simp;omega
     have hend:es4.take i++encMove [x]++es4.drop (i+1)=encMove (insL l i x):=by
      have hA:((encMove l).take (i+1)).length=i+1:=by simp;omega
      rw[he4,List.drop_left' hA,List.take_append_of_le_length (by omega),List.take_take,Nat.min_eq_left (by omega),List.take_of_length_le (l:=(encMove l).drop i) (by simp)]
      simp[encMove,insL]
     have hv4:(lvs es4).length=(l.length+1)*4:=by rw[AC hs4,hn4]
     simp only[← he4]
     apply AW.step
     ·simp[hi,hw1,hv4]
      repeat refine⟨by omega,?_⟩
      refine D6 B0 Cl rfl (by simp[hv4]) (by omega) 1 (by omega) (by omega) (Hs (cap:=none) rfl (At [x]) (by simp)) (GH (fs:=encMove [x]) hs4 (At _) (by rw[hn4,Gj];simp;omega)) ?_
      simp[hend]
      try simp[hi,hw1,hv4]
      rfl
     refine AW.step (by simp[hi,hw1];rfl) ?_
     refine AW.ret ?_
     refine Left.of (av:=_) (by simp[Try.f61,resV,resC,comp,hi,hw1];rfl) ?_
     refine LeftV.shrink 0 ((l.length+1)*4) rfl rfl rfl rfl ?_
     have hlf:(lvs (encMove (insL l i x))).take ((l.length+1)*4)=lvs (encMove (insL l i x)):=List.take_of_length_le (by rw[AC (At _)];simp[Fo l i x hi])
     exact LeftV.rows [some 0,some 1] (by simp;omega) (Gg (by omega)) rfl rfl (by simp[pickOb,hlf]) (by simp)
    ·simp at h14
theorem IY:Enters Try.prog 61:=enters Try.func61 (by kernel_rfl) rfl
theorem Kr (l:List Move) (i:Int) (x:Move) (h:insB l i=true):Sound Try.prog 61 [.l (.r 0 4 0 l.length),.l (.s (.int .i64 i)),.l (.r 1 4 0 1)] [⟨72,4,true,none,lvs (encMove l)⟩,⟨72,4,true,none,lvs (encMove [x])⟩] (.l (.r 0 4 0 (l.length+1)))
  [some ⟨72,4,true,none,lvs (encMove (insL l i.toNat x))⟩,some ⟨72,4,true,none,lvs (encMove [x])⟩]:=by
 simp[insB] at h
 have:=Jx l i.toNat x (by omega) (by omega)
 rwa [show ((i.toNat:Nat):Int)=i by omega] at this
def flatL {α:Type} (ss:List (List α)) (i:Nat):List α:=(ss.take i).flatten
def catB {α:Type} (ss:List (List α)):Bool:=decide (ss.flatten.length≤1000000000∧ss.length≤1000000000)
def zero_Span:List Value:=[.int .i64 0,.int .i64 0]
end Go.Proofs.Ythjenkmbbnjcnaa
namespace Go.Proofs.Ythjenkmbbnjcnaa
open Go Go.RowKit
section
variable {P:Program} {d:Option Nat} {t:Nat} {st:St} {K:St→Prop} {k:IntKind} {a b:Int} {x y:ByteArray} {p q:Bool}
@[simp high] theorem xs_add:xeq P .add t (.l (.s (.int k a))) (.l (.s (.int k b))) st d K=K (st.put d (.l (.s (.int k (addI k a b))))):=by simp[xeq,bopP,bop,addI]
@[simp high] theorem xs_sub:xeq P .sub t (.l (.s (.int k a))) (.l (.s (.int k b))) st d K=K (st.put d (.l (.s (.int k (subI k a b))))):=by simp[xeq,bopP,bop,subI]
@[simp high] theorem xs_mul:xeq P .mul t (.l (.s (.int k a))) (.l (.s (.int k b))) st d K=K (st.put d (.l (.s (.int k (mulI k a b))))):=by simp[xeq,bopP,bop,mulI]
@[simp high] theorem xs_and:xeq P .and t (.l (.s (.int k a))) (.l (.s (.int k b))) st d K=K (st.put d (.l (.s (.int k (andI k a b))))):=by simp[xeq,bopP,bop,andI]
@[simp high] theorem xs_xor:xeq P .xor t (.l (.s (.int k a))) (.l (.s (.int k b))) st d K=K (st.put d (.l (.s (.int k (xorI k a b))))):=by simp[xeq,bopP,bop,xorI]
@[simp high] theorem xs_quo:xeq P .quo t (.l (.s (.int k a))) (.l (.s (.int k b))) st d K=wh (quoI k a b) fun c=>K (st.put d (.l (.s (.int k c)))):=by
 unfold quoI;split <;> simp_all [xeq,bopP,bop]
@[simp high] theorem xs_rem:xeq P .rem t (.l (.s (.int k a))) (.l (.s (.int k b))) st d K=wh (remI k a b) fun c=>K (st.put d (.l (.s (.int k c)))):=by
 unfold remI;split <;> simp_all [xeq,bopP,bop]
@[simp high] theorem xs_shl {k':IntKind}:xeq P .shl t (.l (.s (.int k a))) (.l (.s (.int k' b))) st d K=wh (shlI k a b) fun c=>K (st.put d (.l (.s (.int k c)))):=by
 unfold shlI;simp only[xeq,bopP,bop];split <;> rfl
@[simp high] theorem xs_shr {k':IntKind}:xeq P .shr t (.l (.s (.int k a))) (.l (.s (.int k' b))) st d K=wh (shrI k a b) fun c=>K (st.put d (.l (.s (.int k c)))):=by
 unfold shrI;simp only[xeq,bopP,bop];split <;> rfl
@[simp high] theorem xs_eql:xeq P .eql t (.l (.s (.int k a))) (.l (.s (.int k b))) st d K=K (st.put d (.l (.s (.bool (eqI a b))))):=by simp[xeq,bopP,bop,eqI]
@[simp high] theorem xs_neq:xeq P .neq t (.l (.s (.int k a))) (.l (.s (.int k b))) st d K=K (st.put d (.l (.s (.bool (neI a b))))):=by simp[xeq,bopP,bop,neI]
@[simp high] theorem xs_lss:xeq P .lss t (.l (.s (.int k a))) (.l (.s (.int k b))) st d K=K (st.put d (.l (.s (.bool (ltI a b))))):=by simp[xeq,bopP,bop,ltI]
@[simp high] theorem xs_leq:xeq P .leq t (.l (.s (.int k a))) (.l (.s (.int k b))) st d K=K (st.put d (.l (.s (.bool (leI a b))))):=by simp[xeq,bopP,bop,leI]
@[simp high] theorem xs_gtr:xeq P .gtr t (.l (.s (.int k a))) (.l (.s (.int k b))) st d K=K (st.put d (.l (.s (.bool (gtI a b))))):=by simp[xeq,bopP,bop,gtI]
@[simp high] theorem xs_geq:xeq P .geq t (.l (.s (.int k a))) (.l (.s (.int k b))) st d K=K (st.put d (.l (.s (.bool (geI a b))))):=by simp[xeq,bopP,bop,geI]
@[simp high] theorem xs_eqlS:xeq P .eql t (.l (.s (.string x))) (.l (.s (.string y))) st d K=K (st.put d (.l (.s (.bool (eqS x y))))):=by simp[xeq,bopP,bop,eqS]
@[simp high] theorem xs_neqS:xeq P .neq t (.l (.s (.string x))) (.l (.s (.string y))) st d K=K (st.put d (.l (.s (.bool (neS x y))))):=by simp[xeq,bopP,bop,neS]
@[simp high] theorem xs_lssS:xeq P .lss t (.l (.s (.string x))) (.l (.s (.string y))) st d K=K (st.put d (.l (.s (.bool (ltS x y))))):=by simp[xeq,bopP,bop,ltS]
@[simp high] theorem xs_geqS:xeq P .geq t (.l (.s (.string x))) (.l (.s (.string y))) st d K=K (st.put d (.l (.s (.bool (geS x y))))):=by simp[xeq,bopP,bop,geS]
@[simp high] theorem xs_cat:xeq P .add t (.l (.s (.string x))) (.l (.s (.string y))) st d K=wh (catS x y) fun c=>K (st.put d (.l (.s (.string c)))):=by
 unfold catS;simp only[xeq,bopP,bop];split <;> rfl
@[simp high] theorem xs_eqlB:xeq P .eql t (.l (.s (.bool p))) (.l (.s (.bool q))) st d K=(sk P t=some 2∧K (st.put d (.l (.s (.bool (eqB p q)))))):=by
 simp only[xeq,bopP,eqB];split <;> simp_all
def andO:Option Bool→Option Bool→Option Bool
 |some b,some c=>some (andB b c)
 |_,_=>none
@[simp] theorem veqs_n:veqs [] [] []=some true:=rfl
@[simp] theorem andO_s (b c:Bool):andO (some b) (some c)=some (andB b c):=rfl
@[simp high] theorem xs_not {ty:TypeId} {pos:String} {af:Array Edge} {g:Option (Nat×Bool)} {x':Operand}:xo P ⟨d,.unOp .not t x',ty,pos,af,g⟩ st K=wb (st.ev x') fun b=>K (st.put d (.l (.s (.bool (notB b))))):=by
 rw[Im]
 generalize st.ev x'=v
 cases v with
 |l y =>
  cases y with
  |s z=>cases z <;> first|rfl|(simp[ws,wb,uop])
  |_=>rfl
 |_=>rfl
def wik (v:AV) (k:IntKind→Int→Prop):Prop :=
 match v with
 |.l (.s (.int kd n))=>k kd n
 |_=>False
@[congr] theorem wik_congr {x y:AV} {k:IntKind→Int→Prop} (h:x=y):wik x k=wik y k:=by rw[h]
@[simp] theorem wik_i (kd:IntKind) (n:Int) (k:IntKind→Int→Prop):wik (.l (.s (.int kd n))) k=k kd n:=nr rfl
@[simp high] theorem xs_neg {ty:TypeId} {pos:String} {af:Array Edge} {g:Option (Nat×Bool)} {x':Operand}:xo P ⟨d,.unOp .neg t x',ty,pos,af,g⟩ st K=wik (st.ev x') fun k b=>K (st.put d (.l (.s (.int k (negI k b))))):=by
 rw[Im]
 generalize st.ev x'=v
 cases v with
 |l y =>
  cases y with
  |s z=>cases z <;> first|rfl|(simp[ws,wik,uop])
  |_=>rfl
 |_=>rfl
@[simp high] theorem xs_conv (s t:Nat):xconv P s t (.l (.s (.int k a))) st d K=((P.underlying s).isSome=true∧wh (intF P t) fun k=>K (st.put d (.l (.s (.int k (cvI k a)))))):=nr rfl
@[simp high] theorem xs_max:xmm max (.l (.s (.int k a))) (.l (.s (.int k b))) st d K=K (st.put d (.l (.s (.int k (maxI a b))))):=by simp[xmm,maxI]
@[simp high] theorem xs_min:xmm min (.l (.s (.int k a))) (.l (.s (.int k b))) st d K=K (st.put d (.l (.s (.int k (minI a b))))):=by simp[xmm,minI]
end
section
variable {P:Program} {d:Option Nat} {t:Nat} {st:St} {K:St→Prop} {x:ByteArray} {ob sz lo hi:Nat} {al:Bool}
@[simp high] theorem xs_lenS:xlen P t (.l (.s (.string x))) st d K=(strF P t=true∧K (st.put d (.l (.s (.int .i64 (lenS x)))))):=nr rfl
end
def idxB (a:ByteArray) (c:Int):Int:=Lib.indexByte a.data.toList c.toNat.toUInt8
theorem IZ {P:Program} {st:St} {f:Nat} {fn:Func} {a:ByteArray} {c:Int} {dst:Option Nat} {K:St→Prop} (hf:P.funcs[f]?=some fn) (hname:(fn.name == "runtime.NumGoroutine")=false) (hb:fn.body.isNone=true) (hn:Extern.findNext fn=none)
  (he:Extern.find fn=some Extern.BytealgIndexByte.indexByte) (hk:K (st.put dst (.l (.s (.int .i64 (idxB a c)))))):xcall P f [.l (.s (.string a)),.l (.s (.int .u8 c))] st dst K:=by
 refine .inr (.inl ⟨.int .i64 (idxB a c),rfl,fun cx σ ac w vs hr hv=>?_,hk⟩)
 match vs,hv with
 |[x,y],hv =>
  obtain⟨⟨rfl,_⟩,⟨rfl,_⟩,_⟩:=hv
  rw[run_callFunc_extern hf hname hb hn he]
  have:=Lib.run_indexByteString (P:=P) a c w
  rw[this]
  rfl
 |[],hv=>exact hv.elim
 |[_],hv=>exact hv.2.elim
 |_::_::_::_,hv=>exact hv.2.2.elim
def bytesI (s:ByteArray):List Int:=s.data.toList.map fun b=>(b.toNat:Int)
@[simp] theorem bytesT_eq (s:ByteArray):bytesT s=encU (bytesI s):=by simp[bytesT,encU,bytesI,Function.comp_def]
end Go.Proofs.Ythjenkmbbnjcnaa
namespace Go.Proofs.Ythjenkmbbnjcnaa
open Go Go.RowKit
end Go.Proofs.Ythjenkmbbnjcnaa
namespace Go.Proofs.Ythjenkmbbnjcnaa
open Go Go.RowKit
def Dk (n:Nat) (a0:Int):Option Int :=
bn (lt (geI a0 4294967296) fun v2 =>
ite' v2 (bn (shrI .u64 a0 32) fun v3 =>
some ((v3,32))) (some ((a0,0)))) fun (y1:Int×Int) =>
bn (lt (geI y1.1 65536) fun v5 =>
ite' v5 (bn (shrI .u64 y1.1 16) fun v6 =>
lt (addI .i64 y1.2 16) fun v7 =>
some ((v6,v7))) (some ((y1.1,y1.2)))) fun (y4:Int×Int) =>
bn (lt (geI y4.1 256) fun v9 =>
ite' v9 (bn (shrI .u64 y4.1 8) fun v10 =>
lt (addI .i64 y4.2 8) fun v11 =>
some ((v10,v11))) (some ((y4.1,y4.2)))) fun (y8:Int×Int) =>
lt (cvI .u8 y8.1) fun v12 =>
bn (atS ⟨#[0,1,2,2,3,3,3,3,4,4,4,4,4,4,4,4,5,5,5,5,5,5,5,5,5,5,5,5,5,5,5,5,6,6,6,6,6,6,6,6,6,6,6,6,6,6,6,6,6,6,6,6,6,6,6,6,6,6,6,6,6,6,6,6,7,7,7,7,7,7,7,7,7,7,7,7,7,7,7,7,7,7,7,7,7,7,7,7,7,7,7,7,7,7,7,7,7,7,7,7,7,7,7,7,7,7,7,7,7,7,7,7,7,7,7,7,7,7,7,7,7,7,7,7,7,7,7,7,8,8,8,8,8,8,8,8,8,8,8,8,8,8,8,8,8,8,8,8,8,8,8,8,8,8,8,8,8,8,8,8,8,8,8,8,8,8,8,8,8,8,8,8,8,8,8,8,8,8,8,8,8,8,8,8,8,8,8,8,8,8,8,8,8,8,8,8,8,8,8,8,8,8,8,8,8,8,8,8,8,8,8,8,8,8,8,8,8,8,8,8,8,8,8,8,8,8,8,8,8,8,8,8,8,8,8,8,8,8,8,8,8,8,8,8,8,8,8,8,8,8,8,8,8,8,8,8]⟩ v12) fun v13 =>
lt (cvI .i64 v13) fun v15 =>
lt (addI .i64 y8.2 v15) fun v16 =>
some v16
theorem HE {n:Nat} {a0:Int} {r:Int} (h:Dk n a0=some r):Sound Try.prog 106 [.l (.s (.int .u64 a0))] [] (.l (.s (.int .i64 r))) []:=by
 unfold Dk at h
 refine Sound.of_aw (fn:=Try.f106) (c:=_) Try.func106 rfl (by simp[Try.f106]) fun cx hG hnb=>?_
 rw[show Try.f106.ntmps=25 from rfl]
 have hn0:cx.nb=0:=hnb
 simp only[Al,initTm,List.map_cons,List.map_nil]
 apply AW.step
 ·simp
  intros;rfl
 replace h:=bnE h;obtain⟨y1,g1,h⟩:=h
 refine AW.flow (p:=fun gh ls=>(nP (cx:=cx) (fun q=>(⟨[(0,.l (.s (.int .u64 q.1))),(2,.l (.s (.int .i64 q.2)))],[],25,gh,ls⟩:St))) y1) ?_ ?_
 ·replace h:=g1;clear g1
  replace h:=ltE h;obtain⟨v2,e2,h⟩:=h
  apply AW.step
  ·simp[← e2]
   intros;rfl
  cases v2 with
  |true =>
   replace h:=iteT rfl h
   refine AW.cond_true (by simp) ?_
   replace h:=bnE h;obtain⟨v3,e3,h⟩:=h
   apply AW.step
   ·simp[e3]
    intros;rfl
   apply AW.last
   ·simp
    intros;rfl
   obtain rfl:=oi h
   refine nP_i ?_
   refine Weak.mixN [] hn0 (by decide) ?_ ?_ rfl
   all_goals first|(simp[Ac,Ae,pickOb];done)|rfl
  |false =>
   replace h:=iteF rfl h
   refine AW.cond_false (by simp) ?_
   refine AW.skip ?_
   try simp only[nm]
   obtain rfl:=oi h
   refine nP_i ?_
   refine Weak.mixN [] hn0 (by decide) ?_ ?_ rfl
   all_goals first|(simp[Ac,Ae,pickOb];done)|rfl
 ·rintro e s hp
  obtain⟨rfl,hw⟩:=hp
  refine⟨_,hw,?_⟩
  try simp only[nm]
  replace h:=bnE h;obtain⟨y4,g4,h⟩:=h
  refine AW.flow (p:=fun gh ls=>(nP (cx:=cx) (fun q=>(⟨[(0,.l (.s (.int .u64 q.1))),(2,.l (.s (.int .i64 q.2)))],[],25,gh,ls⟩:St))) y4) ?_ ?_
  ·replace h:=g4;clear g4
   replace h:=ltE h;obtain⟨v5,e5,h⟩:=h
   apply AW.step
   ·simp[← e5]
    intros;rfl
   cases v5 with
   |true =>
    replace h:=iteT rfl h
    refine AW.cond_true (by simp) ?_
    replace h:=bnE h;obtain⟨v6,e6,h⟩:=h
    apply AW.step
    ·simp[e6]
     intros;rfl
    replace h:=ltE h;obtain⟨v7,e7,h⟩:=h
    apply AW.last
    ·simp[← e7]
     intros;rfl
    obtain rfl:=oi h
    refine nP_i ?_
    refine Weak.mixN [] hn0 (by decide) ?_ ?_ rfl
    all_goals first|(simp[Ac,Ae,pickOb];done)|rfl
   |false =>
    replace h:=iteF rfl h
    refine AW.cond_false (by simp) ?_
    refine AW.skip ?_
    try simp only[nm]
    obtain rfl:=oi h
    refine nP_i ?_
    refine Weak.mixN [] hn0 (by decide) ?_ ?_ rfl
    all_goals first|(simp[Ac,Ae,pickOb];done)|rfl
  ·rintro e s hp
   obtain⟨rfl,hw⟩:=hp
   refine⟨_,hw,?_⟩
   try simp only[nm]
   replace h:=bnE h;obtain⟨y8,g8,h⟩:=h
   refine AW.flow (p:=fun gh ls=>(nP (cx:=cx) (fun q=>(⟨[(0,.l (.s (.int .u64 q.1))),(2,.l (.s (.int .i64 q.2)))],[],25,gh,ls⟩:St))) y8) ?_ ?_
   ·replace h:=g8;clear g8
    replace h:=ltE h;obtain⟨v9,e9,h⟩:=h
    apply AW.step
    ·simp[← e9]
     intros;rfl
    cases v9 with
    |true =>
     replace h:=iteT rfl h
     refine AW.cond_true (by simp) ?_
     replace h:=bnE h;obtain⟨v10,e10,h⟩:=h
     apply AW.step
     ·simp[e10]
      intros;rfl
     replace h:=ltE h;obtain⟨v11,e11,h⟩:=h
     apply AW.last
     ·simp[← e11]
      intros;rfl
     obtain rfl:=oi h
     refine nP_i ?_
     refine Weak.mixN [] hn0 (by decide) ?_ ?_ rfl
     all_goals first|(simp[Ac,Ae,pickOb];done)|rfl
    |false =>
     replace h:=iteF rfl h
     refine AW.cond_false (by simp) ?_
     refine AW.skip ?_
     try simp only[nm]
     obtain rfl:=oi h
     refine nP_i ?_
     refine Weak.mixN [] hn0 (by decide) ?_ ?_ rfl
     all_goals first|(simp[Ac,Ae,pickOb];done)|rfl
   ·rintro e s hp
    obtain⟨rfl,hw⟩:=hp
    refine⟨_,hw,?_⟩
    try simp only[nm]
    replace h:=ltE h;obtain⟨v12,e12,h⟩:=h
    replace h:=bnE h;obtain⟨v13,e13,h⟩:=h
    have f14:=atS_d e13
    try simp[← e12] at f14
    replace h:=ltE h;obtain⟨v15,e15,h⟩:=h
    replace h:=ltE h;obtain⟨v16,e16,h⟩:=h
    apply AW.step
    ·simp[← e12,f14,← e15,← e16]
     intros;rfl
    obtain rfl:=oi h
    refine AW.ret ?_
    refine Left.plain hnb (by simp[Try.f106,resV,resC,comp];rfl) rfl rfl ?_
    simp
theorem GZ:Enters Try.prog 106:=enters Try.func106 (by kernel_rfl) rfl
def Da (n:Nat) (a0:Int):Option Int :=
bn (Dk n a0) fun v1 =>
some v1
theorem FY {n:Nat} {a0:Int} {r:Int} (h:Da n a0=some r):Sound Try.prog 71 [.l (.s (.int .u64 a0))] [] (.l (.s (.int .i64 r))) []:=by
 unfold Da at h
 refine Sound.of_aw (fn:=Try.f71) (c:=_) Try.func71 rfl (by simp[Try.f71]) fun cx hG hnb=>?_
 rw[show Try.f71.ntmps=8 from rfl]
 have hn0:cx.nb=0:=hnb
 simp only[Al,initTm,List.map_cons,List.map_nil]
 apply AW.step
 ·simp
  intros;rfl
 refine AW.seq ?_
 refine AW.cond_false (by simp) ?_
 refine AW.skip ?_
 try simp only[nm]
 replace h:=bnE h;obtain⟨v1,e1,h⟩:=h
 apply AW.step
 ·simp
  intros
  refine Ag GZ (HE e1) rfl ⟨.same rfl,trivial⟩ ?_
  try simp
  intros;rfl
 obtain rfl:=oi h
 refine AW.ret ?_
 refine Left.plain hnb (by simp[Try.f71,resV,resC,comp];rfl) rfl rfl ?_
 simp
theorem Fp:Enters Try.prog 71:=enters Try.func71 (by kernel_rfl) rfl
def Bi (n:Nat) (a0:Int):Option Bool :=
lt (neI a0 a0) fun v1 =>
some v1
theorem Ea {n:Nat} {a0:Int} {r:Bool} (h:Bi n a0=some r):Sound Try.prog 112 [.l (.s (.int .i64 a0))] [] (.l (.s (.bool r))) []:=by
 unfold Bi at h
 refine Sound.of_aw (fn:=Try.f112) (c:=_) Try.func112 rfl (by simp[Try.f112]) fun cx hG hnb=>?_
 rw[show Try.f112.ntmps=6 from rfl]
 have hn0:cx.nb=0:=hnb
 simp only[Al,initTm,List.map_cons,List.map_nil]
 apply AW.step
 ·simp
  intros;rfl
 replace h:=ltE h;obtain⟨v1,e1,h⟩:=h
 apply AW.step
 ·simp[← e1]
  intros;rfl
 obtain rfl:=oi h
 refine AW.ret ?_
 refine Left.plain hnb (by simp[Try.f112,resV,resC,comp];rfl) rfl rfl ?_
 simp
theorem DS:Enters Try.prog 112:=enters Try.func112 (by kernel_rfl) rfl
def Bc (n:Nat) (a0:Int) (a1:Int):Option Int :=
bn (Bi n a0) fun v1 =>
bn (Bi n a1) fun v2 =>
ite' v1 (ite' v2 (some 0) (some (-1))) (ite' v2 (some 1) (lt (ltI a0 a1) fun v3 =>
ite' v3 (some (-1)) (lt (gtI a0 a1) fun v4 =>
ite' v4 (some 1) (some 0))))
theorem Dv {n:Nat} {a0:Int} {a1:Int} {r:Int} (h:Bc n a0 a1=some r):Sound Try.prog 83 [.l (.s (.int .i64 a0)),.l (.s (.int .i64 a1))] [] (.l (.s (.int .i64 r))) []:=by
 unfold Bc at h
 refine Sound.of_aw (fn:=Try.f83) (c:=_) Try.func83 rfl (by simp[Try.f83]) fun cx hG hnb=>?_
 rw[show Try.f83.ntmps=20 from rfl]
 have hn0:cx.nb=0:=hnb
 simp only[Al,initTm,List.map_cons,List.map_nil]
 apply AW.step
 ·simp
  intros;rfl
 replace h:=bnE h;obtain⟨v1,e1,h⟩:=h
 apply AW.step
 ·simp
  intros
  refine Ag DS (Ea e1) rfl ⟨.same rfl,trivial⟩ ?_
  try simp
  intros;rfl
 replace h:=bnE h;obtain⟨v2,e2,h⟩:=h
 apply AW.step
 ·simp
  intros
  refine Ag DS (Ea e2) rfl ⟨.same rfl,trivial⟩ ?_
  try simp
  intros;rfl
 refine AW.seq ?_
 apply AW.step
 ·simp
  intros;rfl
 cases v1 with
 |true =>
  replace h:=iteT rfl h
  refine AW.cond_true (by simp) ?_
  refine AW.seq ?_
  apply AW.step
  ·simp
   intros;rfl
  cases v2 with
  |true =>
   replace h:=iteT rfl h
   refine AW.cond_true (by simp) ?_
   apply AW.step
   ·simp
    intros;rfl
   obtain rfl:=oi h
   refine AW.ret ?_
   refine Left.plain hnb (by simp[Try.f83,resV,resC,comp];rfl) rfl rfl ?_
   simp
  |false =>
   replace h:=iteF rfl h
   refine AW.cond_false (by simp) ?_
   refine AW.skip ?_
   try simp only[nm]
   apply AW.step
   ·simp
    intros;rfl
   obtain rfl:=oi h
   refine AW.ret ?_
   refine Left.plain hnb (by simp[Try.f83,resV,resC,comp];rfl) rfl rfl ?_
   simp
 |false =>
  replace h:=iteF rfl h
  refine AW.cond_false (by simp) ?_
  refine AW.skip ?_
  try simp only[nm]
  refine AW.seq ?_
  apply AW.step
  ·simp
   intros;rfl
  cases v2 with
  |true =>
   replace h:=iteT rfl h
   refine AW.cond_true (by simp) ?_
   apply AW.step
   ·simp
    intros;rfl
   obtain rfl:=oi h
   refine AW.ret ?_
   refine Left.plain hnb (by simp[Try.f83,resV,resC,comp];rfl) rfl rfl ?_
   simp
  |false =>
   replace h:=iteF rfl h
   refine AW.cond_false (by simp) ?_
   refine AW.skip ?_
   try simp only[nm]
   refine AW.seq ?_
   replace h:=ltE h;obtain⟨v3,e3,h⟩:=h
   apply AW.step
   ·simp[← e3]
    intros;rfl
   cases v3 with
   |true =>
    replace h:=iteT rfl h
    refine AW.cond_true (by simp) ?_
    apply AW.step
    ·simp
     intros;rfl
    obtain rfl:=oi h
    refine AW.ret ?_
    refine Left.plain hnb (by simp[Try.f83,resV,resC,comp];rfl) rfl rfl ?_
    simp
   |false =>
    replace h:=iteF rfl h
    refine AW.cond_false (by simp) ?_
    refine AW.skip ?_
    try simp only[nm]
    refine AW.seq ?_
    replace h:=ltE h;obtain⟨v4,e4,h⟩:=h
    apply AW.step
    ·simp[← e4]
     intros;rfl
    cases v4 with
    |true =>
     replace h:=iteT rfl h
     refine AW.cond_true (by simp) ?_
     apply AW.step
     ·simp
      intros;rfl
     obtain rfl:=oi h
     refine AW.ret ?_
     refine Left.plain hnb (by simp[Try.f83,resV,resC,comp];rfl) rfl rfl ?_
     simp
    |false =>
     replace h:=iteF rfl h
     refine AW.cond_false (by simp) ?_
     refine AW.skip ?_
     try simp only[nm]
     apply AW.step
     ·simp
      intros;rfl
     obtain rfl:=oi h
     refine AW.ret ?_
     refine Left.plain hnb (by simp[Try.f83,resV,resC,comp];rfl) rfl rfl ?_
     simp
theorem De:Enters Try.prog 83:=enters Try.func83 (by kernel_rfl) rfl
def Av (n:Nat) (a0:Span) (a1:Span):Option Int :=
bn (Bc n a0.frm a1.frm) fun v1 =>
some v1
theorem AE {n:Nat} {a0:Span} {a1:Span} {r:Int} (h:Av n a0 a1=some r):Sound Try.prog 95 [.g [.s (.int .i64 a0.frm),.s (.int .i64 a0.to)],.g [.s (.int .i64 a1.frm),.s (.int .i64 a1.to)]] [] (.l (.s (.int .i64 r))) []:=by
 unfold Av at h
 refine Sound.of_aw (fn:=Try.f95) (c:=_) Try.func95 rfl (by simp[Try.f95]) fun cx hG hnb=>?_
 rw[show Try.f95.ntmps=10 from rfl]
 have hn0:cx.nb=0:=hnb
 simp only[Al,initTm,List.map_cons,List.map_nil]
 apply AW.step
 ·simp
  intros;rfl
 replace h:=bnE h;obtain⟨v1,e1,h⟩:=h
 apply AW.step
 ·simp
  intros
  refine Ag De (Dv e1) rfl ⟨.same rfl,.same rfl,trivial⟩ ?_
  try simp
  intros;rfl
 obtain rfl:=oi h
 refine AW.ret ?_
 refine Left.plain hnb (by simp[Try.f95,resV,resC,comp];rfl) rfl rfl ?_
 simp
theorem AB:Enters Try.prog 95:=enters Try.func95 (by kernel_rfl) rfl
def AU (n:Nat) (a0:List Span) (a1:Int) (a2:Int):Option (List Span) :=
lt (addI .i64 a1 1) fun v1 =>
bn (iter n (fun (y2:Int×List Span) =>
lt (ltI y2.1 a2) fun v5 =>
ite' v5 (bn (iter n (fun (y6:Int×List Span) =>
bn (lt (gtI y6.1 a1) fun v10 =>
ite' v10 (bn (nth y6.2 y6.1) fun v11 =>
lt (subI .i64 y6.1 1) fun v13 =>
bn (nth y6.2 v13) fun v14 =>
bn (Av n v11 v14) fun v16 =>
lt (ltI v16 0) fun v17 =>
some (v17)) (some (false))) fun (y9:Bool) =>
lt (y9) fun v18 =>
ite' v18 (lt (subI .i64 y6.1 1) fun v19 =>
bn (nth y6.2 v19) fun v20 =>
bn (nth y6.2 y6.1) fun v22 =>
lt (y6.2.set y6.1.toNat v20) fun v25 =>
bn (nth v25 v19) fun v30 =>
lt (v25.set v19.toNat v22) fun v32 =>
some (.inl (v19,v32))) (some (.inr y6.2))) (y2.1,y2.2)) fun (y7:List Span) =>
lt (addI .i64 y2.1 1) fun v41 =>
some (.inl (v41,y7))) (some (.inr y2.2))) (v1,a0)) fun (y3:List Span) =>
some y3
def DX20t1:List DI:=[⟨[0],[],[(9,none)],false⟩,⟨[0],[],[(1,none)],false⟩,⟨[0],[0,1],[(18,some 0),(19,some 1)],false⟩,⟨[0],[0,1,2],[(20,some 2)],false⟩,⟨[0],[0,1,2,3],[(3,none),(21,some 3)],false⟩,⟨[0],[0,1,2,3],[(0,none),(21,some 3)],false⟩,⟨[0],[0,1,2,3],[(9,none),(21,some 3)],false⟩,⟨[0],[0,1,2,3,5,6],[(21,some 3),(23,some 5),(24,some 6)],false⟩,⟨[0],[0,1,2,3,5,6,7],[(21,some 3),(25,some 7)],false⟩,⟨[0],[0,1,2,3],[(0,none),(21,some 3)],false⟩,⟨[0],[0,1,2,3],[(9,none),(21,some 3)],false⟩,⟨[0],[0,1,2,3,10],[(21,some 3),(28,some 10)],false⟩,⟨[0],[0,1,2,3,9,10,11],[(21,some 3),(27,some 9),(29,some 11)],false⟩,⟨[0],[0,1,2,3,9,10,11,12],[(21,some 3),(30,some 12)],false⟩,⟨[],[0,1,2,3,4,5,6,7,8,9,10,11,12,13],[],false⟩,⟨[],[0,1,2,3,4,5,6,7,8,9,10,11,12,13,14],[],false⟩,⟨[],[0,1,2,3,4,5,6,7,8,9,10,11,12,13,14,15],[],false⟩]
theorem B4 {n:Nat} {a0:List Span} {a1:Int} {a2:Int} {r:List Span} (h:AU n a0 a1 a2=some r):Sound Try.prog 142 [.l (.r 0 2 0 a0.length),.l (.s (.int .i64 a1)),.l (.s (.int .i64 a2)),.l (.s (.func (.func 95) #[] #[]))] [⟨43,2,false,some 0,lvs (encSpan a0)⟩] (.t []) [some ⟨43,2,false,some 0,lvs (encSpan r)⟩]:=by
 unfold AU at h
 refine Sound.of_aw (fn:=Try.f142) (c:=_) Try.func142 rfl (by simp[Try.f142]) fun cx hG hnb=>?_
 rw[show Try.f142.ntmps=53 from rfl]
 have hn0:cx.nb=1:=hnb
 simp only[Al,initTm,List.map_cons,List.map_nil]
 replace h:=ltE h;obtain⟨v1,e1,h⟩:=h
 apply AW.step
 ·simp[← e1]
  intros;rfl
 refine AW.block ?_
 replace h:=bnE h;obtain⟨y3,g3,h⟩:=h
 refine AW.iterP g3 (mk:=fun gh ls q=>(⟨[(0,.l (.r 0 2 0 q.2.length)),(1,.l (.s (.int .i64 a1))),(2,.l (.s (.int .i64 a2))),(3,.l (.s (.func (.func 95) #[] #[]))),(8,.l (.s (.int .i64 q.1)))],[some ⟨43,2,false,some 0,lvs (encSpan q.2)⟩],53,gh,ls⟩:St)) (N:=fun gh ls=>(xP 0 (cx:=cx) (fun q=>(⟨[],[some ⟨43,2,false,some 0,lvs (encSpan q)⟩],53,gh,ls⟩:St)))) ?_ noX ?_ ?_
 ·refine Weak.mixB 1 [some 0] hn0 (by decide) (by decide) ?_ ?_ ?_
  all_goals first|(simp[Ac,Ae,pickOb];done)|rfl
 ·clear h;intro y2 y4 h
  refine AW.seq ?_
  replace h:=ltE h;obtain⟨v5,e5,h⟩:=h
  apply AW.step
  ·simp[← e5]
   intros;rfl
  cases v5 with
  |true =>
   replace h:=iteT rfl h
   refine AW.cond_true (by simp) ?_
   refine AW.skip ?_
   try simp only[nm]
   refine AW.seq ?_
   refine AW.block ?_
   apply AW.step
   ·simp
    intros;rfl
   refine AW.block ?_
   replace h:=bnE h;obtain⟨y7,g7,h⟩:=h
   refine AW.iterP g7 (mk:=fun gh ls q=>(⟨[(0,.l (.r 0 2 0 q.2.length)),(1,.l (.s (.int .i64 a1))),(2,.l (.s (.int .i64 a2))),(3,.l (.s (.func (.func 95) #[] #[]))),(8,.l (.s (.int .i64 y2.1))),(9,.l (.s (.int .i64 q.1)))],[some ⟨43,2,false,some 0,lvs (encSpan q.2)⟩],53,gh,ls⟩:St)) (N:=fun gh ls=>(xP 2 (cx:=cx) (fun q=>(⟨[(0,.l (.r 0 2 0 q.length)),(1,.l (.s (.int .i64 a1))),(2,.l (.s (.int .i64 a2))),(3,.l (.s (.func (.func 95) #[] #[]))),(8,.l (.s (.int .i64 y2.1)))],[some ⟨43,2,false,some 0,lvs (encSpan q)⟩],53,gh,ls⟩:St)))) ?_ noX ?_ ?_
   ·refine Weak.mixB 1 [some 0] hn0 (by decide) (by decide) ?_ ?_ ?_
    all_goals first|(simp[Ac,Ae,pickOb];done)|rfl
   ·clear h;intro y6 y8 h
    refine AW.seq ?_
    replace h:=bnE h;obtain⟨y9,g9,h⟩:=h
    refine AW.flow (p:=fun gh ls=>(nP (cx:=cx) (fun q=>(⟨[(0,.l (.r 0 2 0 y6.2.length)),(1,.l (.s (.int .i64 a1))),(2,.l (.s (.int .i64 a2))),(3,.l (.s (.func (.func 95) #[] #[]))),(8,.l (.s (.int .i64 y2.1))),(9,.l (.s (.int .i64 y6.1))),(34,.l (.s (.bool q)))],[some ⟨43,2,false,some 0,lvs (encSpan y6.2)⟩],53,gh,ls⟩:St))) y9) ?_ ?_
    ·replace h:=g9;clear g9
     replace h:=ltE h;obtain⟨v10,e10,h⟩:=h
     cases v10 with
     |true =>
      replace h:=iteT rfl h
      replace h:=bnE h;obtain⟨v11,e11,h⟩:=h
      have f12:=Ai e11
      try simp[← e10,Aa e11] at f12
      replace h:=ltE h;obtain⟨v13,e13,h⟩:=h
      replace h:=bnE h;obtain⟨v14,e14,h⟩:=h
      have f15:=Ai e14
      try simp[← e10,Aa e11,f12,Ad (Aa e11).2 (k:=2) (by decide),Ab (Aa e11).2 (show 2≤2 by decide),lvs1,← e13,Aa e14] at f15
      replace h:=bnE h;obtain⟨v16,e16,h⟩:=h
      replace h:=ltE h;obtain⟨v17,e17,h⟩:=h
      apply AW.drawnR (V:=[_,_,_,_,_,_,_,_,_,_,_,_,_,_]) mixed DX20t1 14 (by kernel_rfl) (by kernel_rfl)
      ·refine⟨?_,?_,?_,?_,?_,?_,?_,?_,?_,?_,?_,?_,?_,?_,trivial⟩
       iterate 14 (· intro tm hr;simp[AllL,rdV] at hr;simp[hr,← e10,Aa e11,f12,Ad (Aa e11).2 (k:=2) (by decide),Ab (Aa e11).2 (show 2≤2 by decide),lvs1,← e13,Aa e14,f15,Ad (Aa e14).2 (k:=2) (by decide),Ab (Aa e14).2 (show 2≤2 by decide),← e17];intros;first|exact KD.mk|exact KD.mkN)
      ·rfl
      ·simp[tmD,putD,← e10,Aa e11,f12,Ad (Aa e11).2 (k:=2) (by decide),Ab (Aa e11).2 (show 2≤2 by decide),lvs1,← e13,Aa e14,f15,Ad (Aa e14).2 (k:=2) (by decide),Ab (Aa e14).2 (show 2≤2 by decide),← e17];rfl
      ·simp[← e10,Aa e11,f12,Ad (Aa e11).2 (k:=2) (by decide),Ab (Aa e11).2 (show 2≤2 by decide),lvs1,← e13,Aa e14,f15,Ad (Aa e14).2 (k:=2) (by decide),Ab (Aa e14).2 (show 2≤2 by decide),← e17]
       intros
       refine Ag AB (AE e16) rfl ⟨.same rfl,.same rfl,trivial⟩ ?_
       try simp[← e10,Aa e11,f12,Ad (Aa e11).2 (k:=2) (by decide),Ab (Aa e11).2 (show 2≤2 by decide),lvs1,← e13,Aa e14,f15,Ad (Aa e14).2 (k:=2) (by decide),Ab (Aa e14).2 (show 2≤2 by decide),← e17]
       intros;rfl
      obtain rfl:=oi h
      refine nP_i ?_
      refine Weak.mixB 1 [some 0] hn0 (by decide) (by decide) ?_ ?_ ?_
      all_goals first|(simp[Ac,Ae,pickOb];done)|rfl
     |false =>
      replace h:=iteF rfl h
      apply AW.drawnR (V:=[_,_,_,_,_,_,_,_,_,_,_,_,_,_]) mixed DX20t1 14 (by kernel_rfl) (by kernel_rfl)
      ·refine⟨?_,?_,?_,?_,?_,?_,?_,?_,?_,?_,?_,?_,?_,?_,trivial⟩
       iterate 14 (· intro tm hr;simp[AllL,rdV] at hr;simp[hr,← e10];intros;first|exact KD.mk|exact KD.mkN)
      ·rfl
      ·simp[tmD,putD,← e10];rfl
      ·simp[← e10]
       intros;rfl
      obtain rfl:=oi h
      refine nP_i ?_
      refine Weak.mixB 1 [some 0] hn0 (by decide) (by decide) ?_ ?_ ?_
      all_goals first|(simp[Ac,Ae,pickOb];done)|rfl
    ·rintro e s hp
     obtain⟨rfl,hw⟩:=hp
     refine⟨_,hw,?_⟩
     try simp only[nm]
     replace h:=ltE h;obtain⟨v18,e18,h⟩:=h
     rw[← e18]
     cases v18 with
     |true =>
      replace h:=iteT rfl h
      refine AW.cond_true (by simp) ?_
      refine AW.skip ?_
      try simp only[nm]
      refine AW.seq ?_
      refine AW.block ?_
      replace h:=ltE h;obtain⟨v19,e19,h⟩:=h
      replace h:=bnE h;obtain⟨v20,e20,h⟩:=h
      have f21:=Ai e20
      try simp[← e19,Aa e20] at f21
      replace h:=bnE h;obtain⟨v22,e22,h⟩:=h
      have f23:=Ai e22
      try simp[← e19,Aa e20,f21,Ad (Aa e20).2 (k:=2) (by decide),Ab (Aa e20).2 (show 2≤2 by decide),lvs1,Aa e22] at f23
      have f24:=Ai e22
      try simp[← e19,Aa e20,f21,Ad (Aa e20).2 (k:=2) (by decide),Ab (Aa e20).2 (show 2≤2 by decide),lvs1,Aa e22,f23,Ad (Aa e22).2 (k:=2) (by decide),Ab (Aa e22).2 (show 2≤2 by decide)] at f24
      replace h:=ltE h;obtain⟨v25,e25,h⟩:=h
      have f26:=Ao (Aa e22).2 e25 (cs:=[.s (.int .i64 v20.frm),.s (.int .i64 v20.to)]) (by simp) rfl
      try simp at f26
      have f27:=f21
      try simp only[Af e25] at f27
      have f28:=f23
      try simp only[Af e25] at f28
      have f29:=f24
      try simp only[Af e25] at f29
      replace h:=bnE h;obtain⟨v30,e30,h⟩:=h
      have f31:=Ai e30
      try simp[← e19,Aa e20,f21,Ad (Aa e20).2 (k:=2) (by decide),Ab (Aa e20).2 (show 2≤2 by decide),lvs1,Aa e22,f23,Ad (Aa e22).2 (k:=2) (by decide),Ab (Aa e22).2 (show 2≤2 by decide),f24,f26,f27,f28,f29,Aa e30] at f31
      replace h:=ltE h;obtain⟨v32,e32,h⟩:=h
      have f33:=Ao (Aa e30).2 e32 (cs:=[.s (.int .i64 v22.frm),.s (.int .i64 v22.to)]) (by simp) rfl
      try simp at f33
      have f34:=f21
      try simp only[Af e32] at f34
      have f35:=f23
      try simp only[Af e32] at f35
      have f36:=f24
      try simp only[Af e32] at f36
      have f37:=f27
      try simp only[Af e32] at f37
      have f38:=f28
      try simp only[Af e32] at f38
      have f39:=f29
      try simp only[Af e32] at f39
      have f40:=f31
      try simp only[Af e32] at f40
      apply AW.drawnF (V:=[_,_,_,_,_,_,_,_,_,_,_,_,_,_,_,_]) (M:=[[some ⟨43,2,false,some 0,lvs (encSpan y6.2)⟩],[some ⟨43,2,false,some 0,lvs (encSpan v25)⟩]]) mixed [⟨[0],[],[(0,none)],false⟩,⟨[0],[],[(9,none)],false⟩,⟨[0,1],[],[(0,none)],false⟩,⟨[0,1],[],[(9,none)],false⟩,⟨[0,1],[3],[(40,some 3)],false⟩,⟨[0],[],[(0,none)],false⟩,⟨[0],[],[(9,none)],false⟩,⟨[0],[6],[(43,some 6)],false⟩,⟨[0],[5,6,7],[(42,some 5),(44,some 7)],false⟩,⟨[0],[5,6,7,8],[(45,some 8)],false⟩,⟨[0],[],[(0,none)],false⟩,⟨[0],[],[(9,none)],false⟩,⟨[0],[10,11],[(47,some 10),(48,some 11)],false⟩,⟨[0],[10,11,12],[(49,some 12)],false⟩,⟨[0],[0,1,5,6,7,8,9,10,11,12,13],[(37,some 0),(38,some 1)],false⟩,⟨[0],[0,1,5,6,7,8,9,10,11,12,13,14],[(46,some 9),(51,some 14)],true⟩,⟨[],[0,1,2,3,4,5,6,7,8,9,10,11,12,13,14,15],[],false⟩,⟨[],[0,1,2,3,4,5,6,7,8,9,10,11,12,13,14,15,16],[],false⟩] 16 1 (by kernel_rfl) (by kernel_rfl)
      ·rfl
      ·refine⟨?_,?_,⟨?_,?_⟩,⟨?_,?_⟩,⟨?_,?_⟩,?_,?_,?_,?_,?_,?_,?_,?_,?_,?_,?_,trivial⟩
       iterate 19 (· intro tm hr;simp[AllL,rdV] at hr;simp[hr,← e19,Aa e20,f21,Ad (Aa e20).2 (k:=2) (by decide),Ab (Aa e20).2 (show 2≤2 by decide),lvs1,Aa e22,f23,Ad (Aa e22).2 (k:=2) (by decide),Ab (Aa e22).2 (show 2≤2 by decide),f24,f26,f27,f28,f29,Aa e30,f31,Af e25,Ab (Aa e30).2 (show 2≤2 by decide),f33,f34,f35,f36,f37,f38,f39,f40];intros;first|exact KD.mk|exact KD.mkN)
      ·rfl
      ·simp[tmD,putD,← e19,Aa e20,f21,Ad (Aa e20).2 (k:=2) (by decide),Ab (Aa e20).2 (show 2≤2 by decide),lvs1,Aa e22,f23,Ad (Aa e22).2 (k:=2) (by decide),Ab (Aa e22).2 (show 2≤2 by decide),f24,f26,f27,f28,f29,Aa e30,f31,Af e25,Ab (Aa e30).2 (show 2≤2 by decide),f33,f34,f35,f36,f37,f38,f39,f40];rfl
      ·simp[← e19,Aa e20,f21,Ad (Aa e20).2 (k:=2) (by decide),Ab (Aa e20).2 (show 2≤2 by decide),lvs1,Aa e22,f23,Ad (Aa e22).2 (k:=2) (by decide),Ab (Aa e22).2 (show 2≤2 by decide),f24,f26,f27,f28,f29,Aa e30,f31,Af e25,Ab (Aa e30).2 (show 2≤2 by decide),f33,f34,f35,f36,f37,f38,f39,f40]
       intros;rfl
      try simp only[nm]
      apply AW.last
      ·simp[← e19]
       intros;rfl
      obtain rfl:=oi h
      refine nP_i ?_
      refine Weak.mixB 1 [some 0] hn0 (by decide) (by decide) ?_ ?_ ?_
      all_goals first|(simp[Ac,Ae,pickOb,Af e25,Af e32];done)|rfl
     |false =>
      replace h:=iteF rfl h
      refine AW.cond_false (by simp) ?_
      refine AW.exit ?_
      try simp only[nm]
      obtain rfl:=oi h
      refine xP_i ?_
      refine Weak.mixB 1 [some 0] hn0 (by decide) (by decide) ?_ ?_ ?_
      all_goals first|(simp[Ac,Ae,pickOb];done)|rfl
   ·rintro e s hp
    obtain⟨rfl,hw⟩:=hp
    refine⟨_,hw,?_⟩
    try simp only[nm]
    replace h:=ltE h;obtain⟨v41,e41,h⟩:=h
    apply AW.last
    ·simp[← e41]
     intros;rfl
    obtain rfl:=oi h
    refine nP_i ?_
    refine Weak.mixB 1 [some 0] hn0 (by decide) (by decide) ?_ ?_ ?_
    all_goals first|(simp[Ac,Ae,pickOb];done)|rfl
  |false =>
   replace h:=iteF rfl h
   refine AW.cond_false (by simp) ?_
   refine AW.exit ?_
   try simp only[nm]
   obtain rfl:=oi h
   refine xP_i ?_
   refine Weak.mixB 1 [some 0] hn0 (by decide) (by decide) ?_ ?_ ?_
   all_goals first|(simp[Ac,Ae,pickOb];done)|rfl
 ·rintro e s hp
  obtain⟨rfl,hw⟩:=hp
  refine⟨_,hw,?_⟩
  try simp only[nm]
  obtain rfl:=oi h
  refine Left.of (av:=_) (by simp[Try.f142,resV,resC,comp];rfl) ?_
  exact LeftV.mix 1 [some 0] hn0 rfl (by decide) rfl (by simp[pickOb,Ac,Ae]) (by simp[Ac,Ae])
theorem BX:Enters Try.prog 142:=enters Try.func142 (by kernel_rfl) rfl
def AM (n:Nat) (a0:List Span) (a1:Int) (a2:Int) (a3:Int):Option (List Span) :=
bn (iter n (fun (y1:Int×List Span) =>
lt (mulI .i64 2 y1.1) fun v4 =>
lt (addI .i64 v4 1) fun v5 =>
lt (geI v5 a2) fun v6 =>
ite' v6 (some (.inr (.inl y1.2))) (bn (bn (lt (addI .i64 v5 1) fun v9 =>
lt (ltI v9 a2) fun v10 =>
ite' v10 (lt (addI .i64 a3 v5) fun v11 =>
bn (nth y1.2 v11) fun v12 =>
lt (addI .i64 v11 1) fun v14 =>
bn (nth y1.2 v14) fun v15 =>
bn (Av n v12 v15) fun v17 =>
lt (ltI v17 0) fun v18 =>
some (v18)) (some (false))) fun (y8:Bool) =>
lt (y8) fun v19 =>
ite' v19 (lt (addI .i64 v5 1) fun v20 =>
some (v20)) (some (v5))) fun (y7:Int) =>
lt (addI .i64 a3 y1.1) fun v21 =>
bn (nth y1.2 v21) fun v22 =>
lt (addI .i64 a3 y7) fun v24 =>
bn (nth y1.2 v24) fun v25 =>
bn (Av n v22 v25) fun v27 =>
lt (ltI v27 0) fun v28 =>
lt (notB v28) fun v29 =>
ite' v29 (some (.inr (.inr y1.2))) (lt (y1.2.set v21.toNat v25) fun v33 =>
bn (nth v33 v24) fun v38 =>
lt (v33.set v24.toNat v22) fun v40 =>
some (.inl (y7,v40))))) (a1,a0)) fun (y2:(List Span) ⊕ (List Span)) =>
sm y2 (fun y49=>some y49) (fun y50=>some y50)
def DX20t2:List DI:=[⟨[0],[],[(11,none)],false⟩,⟨[0],[0],[(19,some 0)],false⟩,⟨[0],[],[(2,none)],false⟩,⟨[0],[0,1,2],[(20,some 1),(21,some 2)],false⟩,⟨[0],[0,1,2,3],[(22,some 3)],false⟩,⟨[0],[0,1,2,3,4],[(4,none),(23,some 4)],false⟩,⟨[0],[0,1,2,3,4],[(0,none),(23,some 4)],false⟩,⟨[0],[0,1,2,3,4],[(3,none),(23,some 4)],false⟩,⟨[0],[0,1,2,3,4],[(11,none),(23,some 4)],false⟩,⟨[0],[0,1,2,3,4,7,8],[(23,some 4),(26,some 7),(27,some 8)],false⟩,⟨[0],[0,1,2,3,4,6,7,8,9],[(23,some 4),(25,some 6),(28,some 9)],false⟩,⟨[0],[0,1,2,3,4,6,7,8,9,10],[(23,some 4),(29,some 10)],false⟩,⟨[0],[0,1,2,3,4],[(0,none),(23,some 4)],false⟩,⟨[0],[0,1,2,3,4],[(3,none),(23,some 4)],false⟩,⟨[0],[0,1,2,3,4],[(11,none),(23,some 4)],false⟩,⟨[0],[0,1,2,3,4,13,14],[(23,some 4),(32,some 13),(33,some 14)],false⟩,⟨[0],[0,1,2,3,4,13,14,15],[(23,some 4),(34,some 15)],false⟩,⟨[0],[0,1,2,3,4,12,13,14,15,16],[(23,some 4),(31,some 12),(35,some 16)],false⟩,⟨[0],[0,1,2,3,4,12,13,14,15,16,17],[(23,some 4),(36,some 17)],false⟩,⟨[],[0,1,2,3,4,5,6,7,8,9,10,11,12,13,14,15,16,17,18],[],false⟩,⟨[],[0,1,2,3,4,5,6,7,8,9,10,11,12,13,14,15,16,17,18,19],[],false⟩,⟨[],[0,1,2,3,4,5,6,7,8,9,10,11,12,13,14,15,16,17,18,19,20],[],false⟩]
theorem Bq {n:Nat} {a0:List Span} {a1:Int} {a2:Int} {a3:Int} {r:List Span} (h:AM n a0 a1 a2 a3=some r):Sound Try.prog 158 [.l (.r 0 2 0 a0.length),.l (.s (.int .i64 a1)),.l (.s (.int .i64 a2)),.l (.s (.int .i64 a3)),.l (.s (.func (.func 95) #[] #[]))] [⟨43,2,false,some 0,lvs (encSpan a0)⟩] (.t []) [some ⟨43,2,false,some 0,lvs (encSpan r)⟩]:=by
 unfold AM at h
 refine Sound.of_aw (fn:=Try.f158) (c:=_) Try.func158 rfl (by simp[Try.f158]) fun cx hG hnb=>?_
 rw[show Try.f158.ntmps=82 from rfl]
 have hn0:cx.nb=1:=hnb
 simp only[Al,initTm,List.map_cons,List.map_nil]
 apply AW.step
 ·simp
  intros;rfl
 refine AW.block ?_
 replace h:=bnE h;obtain⟨y2,g2,h⟩:=h
 refine AW.iterP g2 (mk:=fun gh ls q=>(⟨[(0,.l (.r 0 2 0 q.2.length)),(2,.l (.s (.int .i64 a2))),(3,.l (.s (.int .i64 a3))),(4,.l (.s (.func (.func 95) #[] #[]))),(10,.l (.s (.int .i64 q.1)))],[some ⟨43,2,false,some 0,lvs (encSpan q.2)⟩],82,gh,ls⟩:St)) (N:=fun gh ls=>(sp (xP 0 (cx:=cx) (fun q=>(⟨[],[some ⟨43,2,false,some 0,lvs (encSpan q)⟩],82,gh,ls⟩:St))) (rP (cx:=cx) (P:=Try.prog) Try.f158 (fun q=>.t []) (fun q=>[some ⟨43,2,false,some 0,lvs (encSpan q)⟩])))) ?_ (noS noX noR) ?_ ?_
 ·refine Weak.mixB 1 [some 0] hn0 (by decide) (by decide) ?_ ?_ ?_
  all_goals first|(simp[Ac,Ae,pickOb];done)|rfl
 ·clear h;intro y1 y3 h
  refine AW.block ?_
  replace h:=ltE h;obtain⟨v4,e4,h⟩:=h
  replace h:=ltE h;obtain⟨v5,e5,h⟩:=h
  apply AW.step
  ·simp[← e4,← e5]
   intros;rfl
  refine AW.seq ?_
  replace h:=ltE h;obtain⟨v6,e6,h⟩:=h
  apply AW.step
  ·simp[← e6]
   intros;rfl
  cases v6 with
  |true =>
   replace h:=iteT rfl h
   refine AW.cond_true (by simp) ?_
   refine AW.exit ?_
   try simp only[nm]
   obtain rfl:=oi h
   try simp only[sp_l,sp_r]
   refine xP_i ?_
   refine Weak.mixB 1 [some 0] hn0 (by decide) (by decide) ?_ ?_ ?_
   all_goals first|(simp[Ac,Ae,pickOb];done)|rfl
  |false =>
   replace h:=iteF rfl h
   refine AW.cond_false (by simp) ?_
   refine AW.skip ?_
   try simp only[nm]
   replace h:=bnE h;obtain⟨y7,g7,h⟩:=h
   refine AW.flow (p:=fun gh ls=>(nP (cx:=cx) (fun q=>(⟨[(0,.l (.r 0 2 0 y1.2.length)),(2,.l (.s (.int .i64 a2))),(3,.l (.s (.int .i64 a3))),(4,.l (.s (.func (.func 95) #[] #[]))),(10,.l (.s (.int .i64 y1.1))),(11,.l (.s (.int .i64 q)))],[some ⟨43,2,false,some 0,lvs (encSpan y1.2)⟩],82,gh,ls⟩:St))) y7) ?_ ?_
   ·replace h:=g7;clear g7
    replace h:=bnE h;obtain⟨y8,g8,h⟩:=h
    refine AW.flow (p:=fun gh ls=>(nP (cx:=cx) (fun q=>(⟨[(0,.l (.r 0 2 0 y1.2.length)),(2,.l (.s (.int .i64 a2))),(3,.l (.s (.int .i64 a3))),(4,.l (.s (.func (.func 95) #[] #[]))),(10,.l (.s (.int .i64 y1.1))),(11,.l (.s (.int .i64 v5))),(40,.l (.s (.bool q)))],[some ⟨43,2,false,some 0,lvs (encSpan y1.2)⟩],82,gh,ls⟩:St))) y8) ?_ ?_
    ·replace h:=g8;clear g8
     replace h:=ltE h;obtain⟨v9,e9,h⟩:=h
     replace h:=ltE h;obtain⟨v10,e10,h⟩:=h
     cases v10 with
     |true =>
      replace h:=iteT rfl h
      replace h:=ltE h;obtain⟨v11,e11,h⟩:=h
      replace h:=bnE h;obtain⟨v12,e12,h⟩:=h
      have f13:=Ai e12
      try simp[← e9,← e10,← e11,Aa e12] at f13
      replace h:=ltE h;obtain⟨v14,e14,h⟩:=h
      replace h:=bnE h;obtain⟨v15,e15,h⟩:=h
      have f16:=Ai e15
      try simp[← e9,← e10,← e11,Aa e12,f13,Ad (Aa e12).2 (k:=2) (by decide),Ab (Aa e12).2 (show 2≤2 by decide),lvs1,← e14,Aa e15] at f16
      replace h:=bnE h;obtain⟨v17,e17,h⟩:=h
      replace h:=ltE h;obtain⟨v18,e18,h⟩:=h
      apply AW.drawnR (V:=[_,_,_,_,_,_,_,_,_,_,_,_,_,_,_,_,_,_,_]) mixed DX20t2 19 (by kernel_rfl) (by kernel_rfl)
      ·refine⟨?_,?_,?_,?_,?_,?_,?_,?_,?_,?_,?_,?_,?_,?_,?_,?_,?_,?_,?_,trivial⟩
       iterate 19 (· intro tm hr;simp[AllL,rdV] at hr;simp[hr,← e9,← e10,← e11,Aa e12,f13,Ad (Aa e12).2 (k:=2) (by decide),Ab (Aa e12).2 (show 2≤2 by decide),lvs1,← e14,Aa e15,f16,Ad (Aa e15).2 (k:=2) (by decide),Ab (Aa e15).2 (show 2≤2 by decide),← e18];intros;first|exact KD.mk|exact KD.mkN)
      ·rfl
      ·simp[tmD,putD,← e9,← e10,← e11,Aa e12,f13,Ad (Aa e12).2 (k:=2) (by decide),Ab (Aa e12).2 (show 2≤2 by decide),lvs1,← e14,Aa e15,f16,Ad (Aa e15).2 (k:=2) (by decide),Ab (Aa e15).2 (show 2≤2 by decide),← e18];rfl
      ·simp[← e9,← e10,← e11,Aa e12,f13,Ad (Aa e12).2 (k:=2) (by decide),Ab (Aa e12).2 (show 2≤2 by decide),lvs1,← e14,Aa e15,f16,Ad (Aa e15).2 (k:=2) (by decide),Ab (Aa e15).2 (show 2≤2 by decide),← e18]
       intros
       refine Ag AB (AE e17) rfl ⟨.same rfl,.same rfl,trivial⟩ ?_
       try simp[← e9,← e10,← e11,Aa e12,f13,Ad (Aa e12).2 (k:=2) (by decide),Ab (Aa e12).2 (show 2≤2 by decide),lvs1,← e14,Aa e15,f16,Ad (Aa e15).2 (k:=2) (by decide),Ab (Aa e15).2 (show 2≤2 by decide),← e18]
       intros;rfl
      obtain rfl:=oi h
      refine nP_i ?_
      refine Weak.mixB 1 [some 0] hn0 (by decide) (by decide) ?_ ?_ ?_
      all_goals first|(simp[Ac,Ae,pickOb];done)|rfl
     |false =>
      replace h:=iteF rfl h
      apply AW.drawnR (V:=[_,_,_,_,_,_,_,_,_,_,_,_,_,_,_,_,_,_,_]) mixed DX20t2 19 (by kernel_rfl) (by kernel_rfl)
      ·refine⟨?_,?_,?_,?_,?_,?_,?_,?_,?_,?_,?_,?_,?_,?_,?_,?_,?_,?_,?_,trivial⟩
       iterate 19 (· intro tm hr;simp[AllL,rdV] at hr;simp[hr,← e9,← e10];intros;first|exact KD.mk|exact KD.mkN)
      ·rfl
      ·simp[tmD,putD,← e9,← e10];rfl
      ·simp[← e9,← e10]
       intros;rfl
      obtain rfl:=oi h
      refine nP_i ?_
      refine Weak.mixB 1 [some 0] hn0 (by decide) (by decide) ?_ ?_ ?_
      all_goals first|(simp[Ac,Ae,pickOb];done)|rfl
    ·rintro e s hp
     obtain⟨rfl,hw⟩:=hp
     refine⟨_,hw,?_⟩
     try simp only[nm]
     replace h:=ltE h;obtain⟨v19,e19,h⟩:=h
     rw[← e19]
     cases v19 with
     |true =>
      replace h:=iteT rfl h
      refine AW.cond_true (by simp) ?_
      replace h:=ltE h;obtain⟨v20,e20,h⟩:=h
      apply AW.last
      ·simp[← e20]
       intros;rfl
      obtain rfl:=oi h
      refine nP_i ?_
      refine Weak.mixB 1 [some 0] hn0 (by decide) (by decide) ?_ ?_ ?_
      all_goals first|(simp[Ac,Ae,pickOb];done)|rfl
     |false =>
      replace h:=iteF rfl h
      refine AW.cond_false (by simp) ?_
      refine AW.skip ?_
      try simp only[nm]
      obtain rfl:=oi h
      refine nP_i ?_
      refine Weak.mixB 1 [some 0] hn0 (by decide) (by decide) ?_ ?_ ?_
      all_goals first|(simp[Ac,Ae,pickOb];done)|rfl
   ·rintro e s hp
    obtain⟨rfl,hw⟩:=hp
    refine⟨_,hw,?_⟩
    try simp only[nm]
    refine AW.seq ?_
    replace h:=ltE h;obtain⟨v21,e21,h⟩:=h
    replace h:=bnE h;obtain⟨v22,e22,h⟩:=h
    have f23:=Ai e22
    try simp[← e21,Aa e22] at f23
    replace h:=ltE h;obtain⟨v24,e24,h⟩:=h
    replace h:=bnE h;obtain⟨v25,e25,h⟩:=h
    have f26:=Ai e25
    try simp[← e21,Aa e22,f23,Ad (Aa e22).2 (k:=2) (by decide),Ab (Aa e22).2 (show 2≤2 by decide),lvs1,← e24,Aa e25] at f26
    replace h:=bnE h;obtain⟨v27,e27,h⟩:=h
    replace h:=ltE h;obtain⟨v28,e28,h⟩:=h
    replace h:=ltE h;obtain⟨v29,e29,h⟩:=h
    apply AW.drawnP (V:=[_,_,_,_,_,_,_,_,_,_,_,_,_]) mixed [⟨[0],[],[(4,none)],false⟩,⟨[0],[],[(0,none)],false⟩,⟨[0],[],[(3,none)],false⟩,⟨[0],[],[(10,none)],false⟩,⟨[0],[2,3],[(45,some 2),(46,some 3)],false⟩,⟨[0],[1,2,3,4],[(44,some 1),(47,some 4)],false⟩,⟨[0],[1,2,3,4,5],[(48,some 5)],false⟩,⟨[0],[],[(0,none)],false⟩,⟨[0],[],[(3,none)],false⟩,⟨[0],[],[(11,none)],false⟩,⟨[0],[8,9],[(51,some 8),(52,some 9)],false⟩,⟨[0],[7,8,9,10],[(50,some 7),(53,some 10)],false⟩,⟨[0],[7,8,9,10,11],[(54,some 11)],false⟩,⟨[],[0,1,2,3,4,5,6,7,8,9,10,11,12],[],false⟩,⟨[],[0,1,2,3,4,5,6,7,8,9,10,11,12,13],[],false⟩,⟨[],[0,1,2,3,4,5,6,7,8,9,10,11,12,13,14],[],false⟩] 13 (by kernel_rfl) (by kernel_rfl)
    ·refine⟨?_,?_,?_,?_,?_,?_,?_,?_,?_,?_,?_,?_,?_,trivial⟩
     iterate 13 (· intro tm hr;simp[AllL,rdV] at hr;simp[hr,← e21,Aa e22,f23,Ad (Aa e22).2 (k:=2) (by decide),Ab (Aa e22).2 (show 2≤2 by decide),lvs1,← e24,Aa e25,f26,Ad (Aa e25).2 (k:=2) (by decide),Ab (Aa e25).2 (show 2≤2 by decide),← e28,← e29];intros;first|exact KD.mk|exact KD.mkN)
    ·rfl
    ·simp[tmD,putD,← e21,Aa e22,f23,Ad (Aa e22).2 (k:=2) (by decide),Ab (Aa e22).2 (show 2≤2 by decide),lvs1,← e24,Aa e25,f26,Ad (Aa e25).2 (k:=2) (by decide),Ab (Aa e25).2 (show 2≤2 by decide),← e28,← e29];rfl
    ·simp[← e21,Aa e22,f23,Ad (Aa e22).2 (k:=2) (by decide),Ab (Aa e22).2 (show 2≤2 by decide),lvs1,← e24,Aa e25,f26,Ad (Aa e25).2 (k:=2) (by decide),Ab (Aa e25).2 (show 2≤2 by decide),← e28,← e29]
     intros
     refine Ag AB (AE e27) rfl ⟨.same rfl,.same rfl,trivial⟩ ?_
     try simp[← e21,Aa e22,f23,Ad (Aa e22).2 (k:=2) (by decide),Ab (Aa e22).2 (show 2≤2 by decide),lvs1,← e24,Aa e25,f26,Ad (Aa e25).2 (k:=2) (by decide),Ab (Aa e25).2 (show 2≤2 by decide),← e28,← e29]
     intros;rfl
    cases v29 with
    |true =>
     replace h:=iteT rfl h
     refine AW.cond_true (by simp) ?_
     obtain rfl:=oi h
     refine AW.ret ?_
     try simp only[nm]
     refine rP_i ?_
     refine Left.of (av:=_) (by simp[Try.f158,resV,resC,comp];rfl) ?_
     exact LeftV.mix 1 [some 0] hn0 rfl (by decide) rfl (by simp[pickOb,Ac,Ae]) (by simp[Ac,Ae])
    |false =>
     replace h:=iteF rfl h
     refine AW.cond_false (by simp) ?_
     refine AW.skip ?_
     try simp only[nm]
     have f30:=Ai e25
     try simp[← e21,← e24,Aa e25] at f30
     have f31:=Ai e22
     try simp[← e21,← e24,Aa e25,f30,Ad (Aa e25).2 (k:=2) (by decide),Ab (Aa e25).2 (show 2≤2 by decide),lvs1,Aa e22] at f31
     have f32:=Ai e22
     try simp[← e21,← e24,Aa e25,f30,Ad (Aa e25).2 (k:=2) (by decide),Ab (Aa e25).2 (show 2≤2 by decide),lvs1,Aa e22,f31,Ad (Aa e22).2 (k:=2) (by decide),Ab (Aa e22).2 (show 2≤2 by decide)] at f32
     replace h:=ltE h;obtain⟨v33,e33,h⟩:=h
     have f34:=Ao (Aa e22).2 e33 (cs:=[.s (.int .i64 v25.frm),.s (.int .i64 v25.to)]) (by simp) rfl
     try simp at f34
     have f35:=f30
     try simp only[Af e33] at f35
     have f36:=f31
     try simp only[Af e33] at f36
     have f37:=f32
     try simp only[Af e33] at f37
     replace h:=bnE h;obtain⟨v38,e38,h⟩:=h
     have f39:=Ai e38
     try simp[← e21,← e24,Aa e25,f30,Ad (Aa e25).2 (k:=2) (by decide),Ab (Aa e25).2 (show 2≤2 by decide),lvs1,Aa e22,f31,Ad (Aa e22).2 (k:=2) (by decide),Ab (Aa e22).2 (show 2≤2 by decide),f32,f34,f35,f36,f37,Aa e38] at f39
     replace h:=ltE h;obtain⟨v40,e40,h⟩:=h
     have f41:=Ao (Aa e38).2 e40 (cs:=[.s (.int .i64 v22.frm),.s (.int .i64 v22.to)]) (by simp) rfl
     try simp at f41
     have f42:=f30
     try simp only[Af e40] at f42
     have f43:=f31
     try simp only[Af e40] at f43
     have f44:=f32
     try simp only[Af e40] at f44
     have f45:=f35
     try simp only[Af e40] at f45
     have f46:=f36
     try simp only[Af e40] at f46
     have f47:=f37
     try simp only[Af e40] at f47
     have f48:=f39
     try simp only[Af e40] at f48
     apply AW.drawnE (V:=[_,_,_,_,_,_,_,_,_,_,_,_,_,_,_,_,_,_,_,_,_,_]) (M:=[[some ⟨43,2,false,some 0,lvs (encSpan y1.2)⟩],[some ⟨43,2,false,some 0,lvs (encSpan v33)⟩]]) mixed [⟨[0],[],[(0,none)],false⟩,⟨[0],[],[(3,none)],false⟩,⟨[0],[],[(10,none)],false⟩,⟨[0],[1,2],[(60,some 1),(61,some 2)],false⟩,⟨[0,1],[],[(0,none)],false⟩,⟨[0,1],[],[(3,none)],false⟩,⟨[0,1],[],[(11,none)],false⟩,⟨[0,1],[5,6],[(64,some 5),(65,some 6)],false⟩,⟨[0],[],[(0,none)],false⟩,⟨[0],[],[(3,none)],false⟩,⟨[0],[],[(11,none)],false⟩,⟨[0],[9,10],[(68,some 9),(69,some 10)],false⟩,⟨[0],[8,9,10,11],[(67,some 8),(70,some 11)],false⟩,⟨[0],[8,9,10,11,12],[(71,some 12)],false⟩,⟨[0],[],[(0,none)],false⟩,⟨[0],[],[(3,none)],false⟩,⟨[0],[],[(10,none)],false⟩,⟨[0],[15,16],[(74,some 15),(75,some 16)],false⟩,⟨[0],[14,15,16,17],[(73,some 14),(76,some 17)],false⟩,⟨[0],[14,15,16,17,18],[(77,some 18)],false⟩,⟨[0],[0,1,2,3,8,9,10,11,12,13,14,15,16,17,18,19],[(59,some 0),(62,some 3)],false⟩,⟨[0],[0,1,2,3,8,9,10,11,12,13,14,15,16,17,18,19,20],[(72,some 13),(79,some 20)],true⟩,⟨[],[0,1,2,3,4,5,6,7,8,9,10,11,12,13,14,15,16,17,18,19,20,21],[],false⟩,⟨[],[0,1,2,3,4,5,6,7,8,9,10,11,12,13,14,15,16,17,18,19,20,21,22],[],false⟩] 22 1 (by kernel_rfl) (by kernel_rfl)
     ·rfl
     ·refine⟨?_,?_,?_,?_,⟨?_,?_⟩,⟨?_,?_⟩,⟨?_,?_⟩,⟨?_,?_⟩,?_,?_,?_,?_,?_,?_,?_,?_,?_,?_,?_,?_,?_,?_,trivial⟩
      iterate 26 (· intro tm hr;simp[AllL,rdV] at hr;simp[hr,← e21,← e24,Aa e25,f30,Ad (Aa e25).2 (k:=2) (by decide),Ab (Aa e25).2 (show 2≤2 by decide),lvs1,Aa e22,f31,Ad (Aa e22).2 (k:=2) (by decide),Ab (Aa e22).2 (show 2≤2 by decide),f32,f34,f35,f36,f37,Aa e38,f39,Af e33,Ab (Aa e38).2 (show 2≤2 by decide),f41,f42,f43,f44,f45,f46,f47,f48];intros;first|exact KD.mk|exact KD.mkN)
     ·rfl
     ·simp[tmD,putD,← e21,← e24,Aa e25,f30,Ad (Aa e25).2 (k:=2) (by decide),Ab (Aa e25).2 (show 2≤2 by decide),lvs1,Aa e22,f31,Ad (Aa e22).2 (k:=2) (by decide),Ab (Aa e22).2 (show 2≤2 by decide),f32,f34,f35,f36,f37,Aa e38,f39,Af e33,Ab (Aa e38).2 (show 2≤2 by decide),f41,f42,f43,f44,f45,f46,f47,f48];rfl
     ·simp[← e21,← e24,Aa e25,f30,Ad (Aa e25).2 (k:=2) (by decide),Ab (Aa e25).2 (show 2≤2 by decide),lvs1,Aa e22,f31,Ad (Aa e22).2 (k:=2) (by decide),Ab (Aa e22).2 (show 2≤2 by decide),f32,f34,f35,f36,f37,Aa e38,f39,Af e33,Ab (Aa e38).2 (show 2≤2 by decide),f41,f42,f43,f44,f45,f46,f47,f48]
      intros;rfl
     apply AW.last
     ·simp
      intros;rfl
     obtain rfl:=oi h
     refine nP_i ?_
     refine Weak.mixB 1 [some 0] hn0 (by decide) (by decide) ?_ ?_ ?_
     all_goals first|(simp[Ac,Ae,pickOb,Af e33,Af e40];done)|rfl
 ·rintro e s hp
  rcases y2 with y49|y50
  ·replace h:=smL h
   obtain⟨rfl,hw⟩:=hp
   refine⟨_,hw,?_⟩
   try simp only[nm]
   obtain rfl:=oi h
   refine Left.of (av:=_) (by simp[Try.f158,resV,resC,comp];rfl) ?_
   exact LeftV.mix 1 [some 0] hn0 rfl (by decide) rfl (by simp[pickOb,Ac,Ae]) (by simp[Ac,Ae])
  ·replace h:=smR h
   obtain⟨rfl,hl⟩:=hp
   refine⟨_,Weak.refl _,?_⟩
   obtain rfl:=oi h
   exact hl
theorem Bm:Enters Try.prog 158:=enters Try.func158 (by kernel_rfl) rfl
def A7 (n:Nat) (a0:List Span) (a1:Int) (a2:Int):Option (List Span) :=
lt (subI .i64 a2 a1) fun v1 =>
lt (subI .i64 v1 1) fun v2 =>
bn (quoI .i64 v2 2) fun v3 =>
bn (iter n (fun (y4:Int×List Span) =>
lt (geI y4.1 0) fun v7 =>
ite' v7 (bn (AM n y4.2 y4.1 v1 a1) fun v8 =>
chk (lenB v8 y4.2) <|
lt (subI .i64 y4.1 1) fun v10 =>
some (.inl (v10,v8))) (some (.inr y4.2))) (v3,a0)) fun (y5:List Span) =>
lt (subI .i64 v1 1) fun v11 =>
bn (iter n (fun (y12:Int×List Span) =>
lt (geI y12.1 0) fun v15 =>
ite' v15 (lt (addI .i64 a1 y12.1) fun v16 =>
bn (nth y12.2 v16) fun v17 =>
bn (nth y12.2 a1) fun v19 =>
lt (y12.2.set a1.toNat v17) fun v22 =>
bn (nth v22 v16) fun v27 =>
lt (v22.set v16.toNat v19) fun v29 =>
bn (AM n v29 0 y12.1 a1) fun v38 =>
chk (lenB v38 v29) <|
lt (subI .i64 y12.1 1) fun v40 =>
some (.inl (v40,v38))) (some (.inr y12.2))) (v11,y5)) fun (y13:List Span) =>
some y13
theorem Cv {n:Nat} {a0:List Span} {a1:Int} {a2:Int} {r:List Span} (h:A7 n a0 a1 a2=some r):Sound Try.prog 143 [.l (.r 0 2 0 a0.length),.l (.s (.int .i64 a1)),.l (.s (.int .i64 a2)),.l (.s (.func (.func 95) #[] #[]))] [⟨43,2,false,some 0,lvs (encSpan a0)⟩] (.t []) [some ⟨43,2,false,some 0,lvs (encSpan r)⟩]:=by
 unfold A7 at h
 refine Sound.of_aw (fn:=Try.f143) (c:=_) Try.func143 rfl (by simp[Try.f143]) fun cx hG hnb=>?_
 rw[show Try.f143.ntmps=60 from rfl]
 have hn0:cx.nb=1:=hnb
 simp only[Al,initTm,List.map_cons,List.map_nil]
 apply AW.step
 ·simp
  intros;rfl
 apply AW.step
 ·simp
  intros;rfl
 replace h:=ltE h;obtain⟨v1,e1,h⟩:=h
 apply AW.step
 ·simp[← e1]
  intros;rfl
 refine AW.seq ?_
 replace h:=ltE h;obtain⟨v2,e2,h⟩:=h
 replace h:=bnE h;obtain⟨v3,e3,h⟩:=h
 apply AW.step
 ·simp[← e2,e3]
  intros;rfl
 refine AW.block ?_
 replace h:=bnE h;obtain⟨y5,g5,h⟩:=h
 refine AW.iterP g5 (mk:=fun gh ls q=>(⟨[(0,.l (.r 0 2 0 q.2.length)),(3,.l (.s (.func (.func 95) #[] #[]))),(8,.l (.s (.int .i64 a1))),(9,.l (.s (.int .i64 0))),(10,.l (.s (.int .i64 v1))),(11,.l (.s (.int .i64 q.1)))],[some ⟨43,2,false,some 0,lvs (encSpan q.2)⟩],60,gh,ls⟩:St)) (N:=fun gh ls=>(xP 0 (cx:=cx) (fun q=>(⟨[(0,.l (.r 0 2 0 q.length)),(3,.l (.s (.func (.func 95) #[] #[]))),(8,.l (.s (.int .i64 a1))),(9,.l (.s (.int .i64 0))),(10,.l (.s (.int .i64 v1)))],[some ⟨43,2,false,some 0,lvs (encSpan q)⟩],60,gh,ls⟩:St)))) ?_ noX ?_ ?_
 ·refine Weak.mixB 1 [some 0] hn0 (by decide) (by decide) ?_ ?_ ?_
  all_goals first|(simp[Ac,Ae,pickOb];done)|rfl
 ·clear h;intro y4 y6 h
  refine AW.seq ?_
  replace h:=ltE h;obtain⟨v7,e7,h⟩:=h
  apply AW.step
  ·simp[← e7]
   intros;rfl
  cases v7 with
  |true =>
   replace h:=iteT rfl h
   refine AW.cond_true (by simp) ?_
   refine AW.skip ?_
   try simp only[nm]
   refine AW.seq ?_
   refine AW.block ?_
   replace h:=bnE h;obtain⟨v8,e8,h⟩:=h
   replace h:=chkE h;obtain⟨e9,h⟩:=h
   apply AW.last
   ·simp
    intros
    refine Ax [0] Bm (Bq e8) (by decide) (by simp[pickOb,Ac,Ae]) rfl rfl (by simp) ⟨.l (.own' (by simp[Ac,Ae]) (by simp)),.l (.s _),.l (.s _),.l (.s _),.l (.s _),trivial⟩ ?_
    try simp
    intros;rfl
   try simp only[nm]
   replace h:=ltE h;obtain⟨v10,e10,h⟩:=h
   apply AW.last
   ·simp[← e10]
    intros;rfl
   obtain rfl:=oi h
   refine nP_i ?_
   refine Weak.mixB 1 [some 0] hn0 (by decide) (by decide) ?_ ?_ ?_
   all_goals first|(simp[Ac,Ae,pickOb,An e9];done)|rfl
  |false =>
   replace h:=iteF rfl h
   refine AW.cond_false (by simp) ?_
   refine AW.exit ?_
   try simp only[nm]
   obtain rfl:=oi h
   refine xP_i ?_
   refine Weak.mixB 1 [some 0] hn0 (by decide) (by decide) ?_ ?_ ?_
   all_goals first|(simp[Ac,Ae,pickOb];done)|rfl
 ·rintro e s hp
  obtain⟨rfl,hw⟩:=hp
  refine⟨_,hw,?_⟩
  try simp only[nm]
  replace h:=ltE h;obtain⟨v11,e11,h⟩:=h
  apply AW.step
  ·simp[← e11]
   intros;rfl
  refine AW.block ?_
  replace h:=bnE h;obtain⟨y13,g13,h⟩:=h
  refine AW.iterP g13 (mk:=fun gh ls q=>(⟨[(0,.l (.r 0 2 0 q.2.length)),(3,.l (.s (.func (.func 95) #[] #[]))),(8,.l (.s (.int .i64 a1))),(9,.l (.s (.int .i64 0))),(12,.l (.s (.int .i64 q.1)))],[some ⟨43,2,false,some 0,lvs (encSpan q.2)⟩],60,gh,ls⟩:St)) (N:=fun gh ls=>(xP 2 (cx:=cx) (fun q=>(⟨[],[some ⟨43,2,false,some 0,lvs (encSpan q)⟩],60,gh,ls⟩:St)))) ?_ noX ?_ ?_
  ·refine Weak.mixB 1 [some 0] hn0 (by decide) (by decide) ?_ ?_ ?_
   all_goals first|(simp[Ac,Ae,pickOb];done)|rfl
  ·clear h;intro y12 y14 h
   refine AW.seq ?_
   replace h:=ltE h;obtain⟨v15,e15,h⟩:=h
   apply AW.step
   ·simp[← e15]
    intros;rfl
   cases v15 with
   |true =>
    replace h:=iteT rfl h
    refine AW.cond_true (by simp) ?_
    refine AW.skip ?_
    try simp only[nm]
    refine AW.seq ?_
    refine AW.block ?_
    replace h:=ltE h;obtain⟨v16,e16,h⟩:=h
    replace h:=bnE h;obtain⟨v17,e17,h⟩:=h
    have f18:=Ai e17
    try simp[← e16,Aa e17] at f18
    replace h:=bnE h;obtain⟨v19,e19,h⟩:=h
    have f20:=Ai e19
    try simp[← e16,Aa e17,f18,Ad (Aa e17).2 (k:=2) (by decide),Ab (Aa e17).2 (show 2≤2 by decide),lvs1,Aa e19] at f20
    have f21:=Ai e19
    try simp[← e16,Aa e17,f18,Ad (Aa e17).2 (k:=2) (by decide),Ab (Aa e17).2 (show 2≤2 by decide),lvs1,Aa e19,f20,Ad (Aa e19).2 (k:=2) (by decide),Ab (Aa e19).2 (show 2≤2 by decide)] at f21
    replace h:=ltE h;obtain⟨v22,e22,h⟩:=h
    have f23:=Ao (Aa e19).2 e22 (cs:=[.s (.int .i64 v17.frm),.s (.int .i64 v17.to)]) (by simp) rfl
    try simp at f23
    have f24:=f18
    try simp only[Af e22] at f24
    have f25:=f20
    try simp only[Af e22] at f25
    have f26:=f21
    try simp only[Af e22] at f26
    replace h:=bnE h;obtain⟨v27,e27,h⟩:=h
    have f28:=Ai e27
    try simp[← e16,Aa e17,f18,Ad (Aa e17).2 (k:=2) (by decide),Ab (Aa e17).2 (show 2≤2 by decide),lvs1,Aa e19,f20,Ad (Aa e19).2 (k:=2) (by decide),Ab (Aa e19).2 (show 2≤2 by decide),f21,f23,f24,f25,f26,Aa e27] at f28
    replace h:=ltE h;obtain⟨v29,e29,h⟩:=h
    have f30:=Ao (Aa e27).2 e29 (cs:=[.s (.int .i64 v19.frm),.s (.int .i64 v19.to)]) (by simp) rfl
    try simp at f30
    have f31:=f18
    try simp only[Af e29] at f31
    have f32:=f20
    try simp only[Af e29] at f32
    have f33:=f21
    try simp only[Af e29] at f33
    have f34:=f24
    try simp only[Af e29] at f34
    have f35:=f25
    try simp only[Af e29] at f35
    have f36:=f26
    try simp only[Af e29] at f36
    have f37:=f28
    try simp only[Af e29] at f37
    apply AW.drawnE (V:=[_,_,_,_,_,_,_,_,_,_,_,_,_,_,_,_,_,_]) (M:=[[some ⟨43,2,false,some 0,lvs (encSpan y12.2)⟩],[some ⟨43,2,false,some 0,lvs (encSpan v22)⟩]]) mixed [⟨[0],[],[(0,none)],false⟩,⟨[0],[],[(8,none)],false⟩,⟨[0,1],[],[(0,none)],false⟩,⟨[0,1],[],[(8,none)],false⟩,⟨[0,1],[],[(12,none)],false⟩,⟨[0,1],[3,4],[(39,some 3),(40,some 4)],false⟩,⟨[0],[],[(0,none)],false⟩,⟨[0],[],[(8,none)],false⟩,⟨[0],[],[(12,none)],false⟩,⟨[0],[7,8],[(43,some 7),(44,some 8)],false⟩,⟨[0],[6,7,8,9],[(42,some 6),(45,some 9)],false⟩,⟨[0],[6,7,8,9,10],[(46,some 10)],false⟩,⟨[0],[],[(0,none)],false⟩,⟨[0],[],[(8,none)],false⟩,⟨[0],[12,13],[(48,some 12),(49,some 13)],false⟩,⟨[0],[12,13,14],[(50,some 14)],false⟩,⟨[0],[0,1,6,7,8,9,10,11,12,13,14,15],[(36,some 0),(37,some 1)],false⟩,⟨[0],[0,1,6,7,8,9,10,11,12,13,14,15,16],[(47,some 11),(52,some 16)],true⟩,⟨[],[0,1,2,3,4,5,6,7,8,9,10,11,12,13,14,15,16,17],[],false⟩,⟨[],[0,1,2,3,4,5,6,7,8,9,10,11,12,13,14,15,16,17,18],[],false⟩] 18 1 (by kernel_rfl) (by kernel_rfl)
    ·rfl
    ·refine⟨?_,?_,⟨?_,?_⟩,⟨?_,?_⟩,⟨?_,?_⟩,⟨?_,?_⟩,?_,?_,?_,?_,?_,?_,?_,?_,?_,?_,?_,?_,trivial⟩
     iterate 22 (· intro tm hr;simp[AllL,rdV] at hr;simp[hr,← e16,Aa e17,f18,Ad (Aa e17).2 (k:=2) (by decide),Ab (Aa e17).2 (show 2≤2 by decide),lvs1,Aa e19,f20,Ad (Aa e19).2 (k:=2) (by decide),Ab (Aa e19).2 (show 2≤2 by decide),f21,f23,f24,f25,f26,Aa e27,f28,Af e22,Ab (Aa e27).2 (show 2≤2 by decide),f30,f31,f32,f33,f34,f35,f36,f37];intros;first|exact KD.mk|exact KD.mkN)
    ·rfl
    ·simp[tmD,putD,← e16,Aa e17,f18,Ad (Aa e17).2 (k:=2) (by decide),Ab (Aa e17).2 (show 2≤2 by decide),lvs1,Aa e19,f20,Ad (Aa e19).2 (k:=2) (by decide),Ab (Aa e19).2 (show 2≤2 by decide),f21,f23,f24,f25,f26,Aa e27,f28,Af e22,Ab (Aa e27).2 (show 2≤2 by decide),f30,f31,f32,f33,f34,f35,f36,f37];rfl
    ·simp[← e16,Aa e17,f18,Ad (Aa e17).2 (k:=2) (by decide),Ab (Aa e17).2 (show 2≤2 by decide),lvs1,Aa e19,f20,Ad (Aa e19).2 (k:=2) (by decide),Ab (Aa e19).2 (show 2≤2 by decide),f21,f23,f24,f25,f26,Aa e27,f28,Af e22,Ab (Aa e27).2 (show 2≤2 by decide),f30,f31,f32,f33,f34,f35,f36,f37]
     intros;rfl
    replace h:=bnE h;obtain⟨v38,e38,h⟩:=h
    replace h:=chkE h;obtain⟨e39,h⟩:=h
    apply AW.last
    ·simp[Af e22,Af e29]
     intros
     refine Ax [0] Bm (Bq e38) (by decide) (by simp[pickOb,Ac,Ae]) rfl rfl (by simp) ⟨.l (.own' (by simp[Ac,Ae]) (by simp[Af e22,Af e29])),.l (.s _),.l (.s _),.l (.s _),.l (.s _),trivial⟩ ?_
     try simp[Af e22,Af e29]
     intros;rfl
    try simp only[nm]
    replace h:=ltE h;obtain⟨v40,e40,h⟩:=h
    apply AW.last
    ·simp[← e40]
     intros;rfl
    obtain rfl:=oi h
    refine nP_i ?_
    refine Weak.mixB 1 [some 0] hn0 (by decide) (by decide) ?_ ?_ ?_
    all_goals first|(simp[Ac,Ae,pickOb,An e39,Af e22,Af e29];done)|rfl
   |false =>
    replace h:=iteF rfl h
    refine AW.cond_false (by simp) ?_
    refine AW.exit ?_
    try simp only[nm]
    obtain rfl:=oi h
    refine xP_i ?_
    refine Weak.mixB 1 [some 0] hn0 (by decide) (by decide) ?_ ?_ ?_
    all_goals first|(simp[Ac,Ae,pickOb];done)|rfl
  ·rintro e s hp
   obtain⟨rfl,hw⟩:=hp
   refine⟨_,hw,?_⟩
   try simp only[nm]
   obtain rfl:=oi h
   refine Left.of (av:=_) (by simp[Try.f143,resV,resC,comp];rfl) ?_
   exact LeftV.mix 1 [some 0] hn0 rfl (by decide) rfl (by simp[pickOb,Ac,Ae]) (by simp[Ac,Ae])
theorem Cr:Enters Try.prog 143:=enters Try.func143 (by kernel_rfl) rfl
def AH (n:Nat) (a0:List Span) (a1:Int) (a2:Int) (a3:Int):Option (Int×Int×List Span×Int) :=
bn (nth a0 a2) fun v1 =>
bn (nth a0 a1) fun v3 =>
bn (Av n v1 v3) fun v5 =>
lt (ltI v5 0) fun v6 =>
ite' v6 (lt (addI .i64 a3 1) fun v7 =>
some (a2,a1,a0,v7)) (some (a1,a2,a0,a3))
theorem Bd {n:Nat} {a0:List Span} {a1:Int} {a2:Int} {a3:Int} {r:Int×Int×List Span×Int} (h:AH n a0 a1 a2 a3=some r):Sound Try.prog 163 [.l (.r 0 2 0 a0.length),.l (.s (.int .i64 a1)),.l (.s (.int .i64 a2)),.l (.p 1 0),.l (.s (.func (.func 95) #[] #[]))] [⟨43,2,false,some 0,lvs (encSpan a0)⟩,⟨3,1,false,none,[.s (.int .i64 a3)]⟩] (.t [(false,[.s (.int .i64 r.1)]),(false,[.s (.int .i64 r.2.1)])]) [some ⟨43,2,false,some 0,lvs (encSpan r.2.2.1)⟩,some ⟨3,1,false,none,[.s (.int .i64 r.2.2.2)]⟩]:=by
 unfold AH at h
 refine Sound.of_aw (fn:=Try.f163) (c:=_) Try.func163 rfl (by simp[Try.f163]) fun cx hG hnb=>?_
 rw[show Try.f163.ntmps=32 from rfl]
 have hn0:cx.nb=2:=hnb
 simp only[Al,initTm,List.map_cons,List.map_nil]
 apply AW.step
 ·simp
  intros;rfl
 refine AW.seq ?_
 replace h:=bnE h;obtain⟨v1,e1,h⟩:=h
 have f2:=Ai e1
 try simp[Aa e1] at f2
 replace h:=bnE h;obtain⟨v3,e3,h⟩:=h
 have f4:=Ai e3
 try simp[Aa e1,f2,Ad (Aa e1).2 (k:=2) (by decide),Ab (Aa e1).2 (show 2≤2 by decide),lvs1,Aa e3] at f4
 replace h:=bnE h;obtain⟨v5,e5,h⟩:=h
 replace h:=ltE h;obtain⟨v6,e6,h⟩:=h
 apply AW.drawnP (V:=[_,_,_,_,_,_,_,_,_]) mixed [⟨[0],[],[(4,none)],false⟩,⟨[0],[],[(0,none)],false⟩,⟨[0],[],[(2,none)],false⟩,⟨[0],[1,2],[(13,some 1),(14,some 2)],false⟩,⟨[0],[1,2,3],[(15,some 3)],false⟩,⟨[0],[],[(0,none)],false⟩,⟨[0],[],[(1,none)],false⟩,⟨[0],[5,6],[(17,some 5),(18,some 6)],false⟩,⟨[0],[5,6,7],[(19,some 7)],false⟩,⟨[],[0,1,2,3,4,5,6,7,8],[],false⟩,⟨[],[0,1,2,3,4,5,6,7,8,9],[],false⟩] 9 (by kernel_rfl) (by kernel_rfl)
 ·refine⟨?_,?_,?_,?_,?_,?_,?_,?_,?_,trivial⟩
  iterate 9 (· intro tm hr;simp[AllL,rdV] at hr;simp[hr,Aa e1,f2,Ad (Aa e1).2 (k:=2) (by decide),Ab (Aa e1).2 (show 2≤2 by decide),lvs1,Aa e3,f4,Ad (Aa e3).2 (k:=2) (by decide),Ab (Aa e3).2 (show 2≤2 by decide),← e6];intros;first|exact KD.mk|exact KD.mkN)
 ·rfl
 ·simp[tmD,putD,Aa e1,f2,Ad (Aa e1).2 (k:=2) (by decide),Ab (Aa e1).2 (show 2≤2 by decide),lvs1,Aa e3,f4,Ad (Aa e3).2 (k:=2) (by decide),Ab (Aa e3).2 (show 2≤2 by decide),← e6];rfl
 ·simp[Aa e1,f2,Ad (Aa e1).2 (k:=2) (by decide),Ab (Aa e1).2 (show 2≤2 by decide),lvs1,Aa e3,f4,Ad (Aa e3).2 (k:=2) (by decide),Ab (Aa e3).2 (show 2≤2 by decide),← e6]
  intros
  refine Ag AB (AE e5) rfl ⟨.same rfl,.same rfl,trivial⟩ ?_
  try simp[Aa e1,f2,Ad (Aa e1).2 (k:=2) (by decide),Ab (Aa e1).2 (show 2≤2 by decide),lvs1,Aa e3,f4,Ad (Aa e3).2 (k:=2) (by decide),Ab (Aa e3).2 (show 2≤2 by decide),← e6]
  intros;rfl
 cases v6 with
 |true =>
  replace h:=iteT rfl h
  refine AW.cond_true (by simp) ?_
  replace h:=ltE h;obtain⟨v7,e7,h⟩:=h
  apply AW.step
  ·simp[← e7]
   intros;rfl
  apply AW.step
  ·simp
   intros;rfl
  obtain rfl:=oi h
  refine AW.ret ?_
  refine Left.of (av:=_) (by simp[Try.f163,resV,resC,comp];rfl) ?_
  exact LeftV.mix 2 [some 0,some 1] hn0 rfl (by decide) rfl (by simp[pickOb,Ac,Ae]) (by simp[Ac,Ae])
 |false =>
  replace h:=iteF rfl h
  refine AW.cond_false (by simp) ?_
  refine AW.skip ?_
  try simp only[nm]
  apply AW.step
  ·simp
   intros;rfl
  obtain rfl:=oi h
  refine AW.ret ?_
  refine Left.of (av:=_) (by simp[Try.f163,resV,resC,comp];rfl) ?_
  exact LeftV.mix 2 [some 0,some 1] hn0 rfl (by decide) rfl (by simp[pickOb,Ac,Ae]) (by simp[Ac,Ae])
theorem Bb:Enters Try.prog 163:=enters Try.func163 (by kernel_rfl) rfl
def AQ (n:Nat) (a0:List Span) (a1:Int) (a2:Int) (a3:Int) (a4:Int):Option (Int×List Span×Int) :=
bn (AH n a0 a1 a2 a4) fun v1 =>
chk (lenB v1.2.2.1 a0) <|
bn (AH n v1.2.2.1 v1.2.1 a3 v1.2.2.2) fun v3 =>
chk (lenB v3.2.2.1 v1.2.2.1) <|
bn (AH n v3.2.2.1 v1.1 v3.1 v3.2.2.2) fun v5 =>
chk (lenB v5.2.2.1 v3.2.2.1) <|
some (v5.2.1,v5.2.2.1,v5.2.2.2)
theorem BA {n:Nat} {a0:List Span} {a1:Int} {a2:Int} {a3:Int} {a4:Int} {r:Int×List Span×Int} (h:AQ n a0 a1 a2 a3 a4=some r):Sound Try.prog 160 [.l (.r 0 2 0 a0.length),.l (.s (.int .i64 a1)),.l (.s (.int .i64 a2)),.l (.s (.int .i64 a3)),.l (.p 1 0),.l (.s (.func (.func 95) #[] #[]))] [⟨43,2,false,some 0,lvs (encSpan a0)⟩,⟨3,1,false,none,[.s (.int .i64 a4)]⟩] (.l (.s (.int .i64 r.1))) [some ⟨43,2,false,some 0,lvs (encSpan r.2.1)⟩,some ⟨3,1,false,none,[.s (.int .i64 r.2.2)]⟩]:=by
 unfold AQ at h
 refine Sound.of_aw (fn:=Try.f160) (c:=_) Try.func160 rfl (by simp[Try.f160]) fun cx hG hnb=>?_
 rw[show Try.f160.ntmps=41 from rfl]
 have hn0:cx.nb=2:=hnb
 simp only[Al,initTm,List.map_cons,List.map_nil]
 apply AW.step
 ·simp
  intros;rfl
 replace h:=bnE h;obtain⟨v1,e1,h⟩:=h
 replace h:=chkE h;obtain⟨e2,h⟩:=h
 apply AW.step
 ·simp
  intros
  refine Ax [0,1] Bb (Bd e1) (by decide) (by simp[pickOb,Ac,Ae]) rfl rfl (by simp) ⟨.l (.own' (by simp[Ac,Ae]) (by simp)),.l (.s _),.l (.s _),.l (ptrV (by simp[Ac,Ae])),.l (.s _),trivial⟩ ?_
  try simp
  intros;rfl
 replace h:=bnE h;obtain⟨v3,e3,h⟩:=h
 replace h:=chkE h;obtain⟨e4,h⟩:=h
 apply AW.step
 ·simp[An e2]
  intros
  refine Ax [0,1] Bb (Bd e3) (by decide) (by simp[pickOb,Ac,Ae]) rfl rfl (by simp) ⟨.l (.own' (by simp[Ac,Ae]) (by simp[An e2])),.l (.s _),.l (.s _),.l (ptrV (by simp[Ac,Ae])),.l (.s _),trivial⟩ ?_
  try simp[An e2]
  intros;rfl
 replace h:=bnE h;obtain⟨v5,e5,h⟩:=h
 replace h:=chkE h;obtain⟨e6,h⟩:=h
 apply AW.step
 ·simp[An e2,An e4]
  intros
  refine Ax [0,1] Bb (Bd e5) (by decide) (by simp[pickOb,Ac,Ae]) rfl rfl (by simp) ⟨.l (.own' (by simp[Ac,Ae]) (by simp[An e2,An e4])),.l (.s _),.l (.s _),.l (ptrV (by simp[Ac,Ae])),.l (.s _),trivial⟩ ?_
  try simp[An e2,An e4]
  intros;rfl
 apply AW.step
 ·simp
  intros;rfl
 obtain rfl:=oi h
 refine AW.ret ?_
 refine Left.of (av:=_) (by simp[Try.f160,resV,resC,comp];rfl) ?_
 exact LeftV.mix 2 [some 0,some 1] hn0 rfl (by decide) rfl (by simp[pickOb,Ac,Ae,An e2,An e4,An e6]) (by simp[Ac,Ae,An e2,An e4,An e6])
theorem Bw:Enters Try.prog 160:=enters Try.func160 (by kernel_rfl) rfl
def Az (n:Nat) (a0:List Span) (a1:Int) (a2:Int):Option (Int×List Span×Int) :=
lt (subI .i64 a1 1) fun v1 =>
lt (addI .i64 a1 1) fun v2 =>
bn (AQ n a0 v1 a1 v2 a2) fun v3 =>
chk (lenB v3.2.1 a0) <|
some (v3.1,v3.2.1,v3.2.2)
theorem AX {n:Nat} {a0:List Span} {a1:Int} {a2:Int} {r:Int×List Span×Int} (h:Az n a0 a1 a2=some r):Sound Try.prog 159 [.l (.r 0 2 0 a0.length),.l (.s (.int .i64 a1)),.l (.p 1 0),.l (.s (.func (.func 95) #[] #[]))] [⟨43,2,false,some 0,lvs (encSpan a0)⟩,⟨3,1,false,none,[.s (.int .i64 a2)]⟩] (.l (.s (.int .i64 r.1))) [some ⟨43,2,false,some 0,lvs (encSpan r.2.1)⟩,some ⟨3,1,false,none,[.s (.int .i64 r.2.2)]⟩]:=by
 unfold Az at h
 refine Sound.of_aw (fn:=Try.f159) (c:=_) Try.func159 rfl (by simp[Try.f159]) fun cx hG hnb=>?_
 rw[show Try.f159.ntmps=18 from rfl]
 have hn0:cx.nb=2:=hnb
 simp only[Al,initTm,List.map_cons,List.map_nil]
 apply AW.step
 ·simp
  intros;rfl
 replace h:=ltE h;obtain⟨v1,e1,h⟩:=h
 replace h:=ltE h;obtain⟨v2,e2,h⟩:=h
 replace h:=bnE h;obtain⟨v3,e3,h⟩:=h
 replace h:=chkE h;obtain⟨e4,h⟩:=h
 apply AW.step
 ·simp[← e1,← e2]
  intros
  refine Ax [0,1] Bw (BA e3) (by decide) (by simp[pickOb,Ac,Ae]) rfl rfl (by simp) ⟨.l (.own' (by simp[Ac,Ae]) (by simp)),.l (.s _),.l (.s _),.l (.s _),.l (ptrV (by simp[Ac,Ae])),.l (.s _),trivial⟩ ?_
  try simp[← e1,← e2]
  intros;rfl
 obtain rfl:=oi h
 refine AW.ret ?_
 refine Left.of (av:=_) (by simp[Try.f159,resV,resC,comp];rfl) ?_
 exact LeftV.mix 2 [some 0,some 1] hn0 rfl (by decide) rfl (by simp[pickOb,Ac,Ae,An e4]) (by simp[Ac,Ae,An e4])
theorem AR:Enters Try.prog 159:=enters Try.func159 (by kernel_rfl) rfl
def A2 (n:Nat) (a0:List Span) (a1:Int) (a2:Int):Option (Int×Int×List Span) :=
lt (subI .i64 a2 a1) fun v1 =>
bn (quoI .i64 v1 4) fun v2 =>
lt (mulI .i64 v2 1) fun v3 =>
lt (addI .i64 a1 v3) fun v4 =>
lt (mulI .i64 v2 2) fun v5 =>
lt (addI .i64 a1 v5) fun v6 =>
lt (mulI .i64 v2 3) fun v7 =>
lt (addI .i64 a1 v7) fun v8 =>
bn (lt (geI v1 8) fun v10 =>
ite' v10 (bn (lt (geI v1 50) fun v12 =>
ite' v12 (bn (Az n a0 v4 0) fun v13 =>
chk (lenB v13.2.1 a0) <|
bn (Az n v13.2.1 v6 v13.2.2) fun v15 =>
chk (lenB v15.2.1 v13.2.1) <|
bn (Az n v15.2.1 v8 v15.2.2) fun v17 =>
chk (lenB v17.2.1 v15.2.1) <|
some ((v13.1,v15.1,v17.1,v17.2.1,v17.2.2))) (some ((v4,v6,v8,a0,0)))) fun (y11:Int×Int×Int×List Span×Int) =>
bn (AQ n y11.2.2.2.1 y11.1 y11.2.1 y11.2.2.1 y11.2.2.2.2) fun v19 =>
chk (lenB v19.2.1 y11.2.2.2.1) <|
some ((v19.1,v19.2.1,v19.2.2))) (some ((v6,a0,0)))) fun (y9:Int×List Span×Int) =>
lt (eqI y9.2.2 0) fun v21 =>
ite' v21 (some (y9.1,1,y9.2.1)) (lt (eqI y9.2.2 12) fun v22 =>
ite' v22 (some (y9.1,2,y9.2.1)) (some (y9.1,0,y9.2.1)))
theorem Cg {n:Nat} {a0:List Span} {a1:Int} {a2:Int} {r:Int×Int×List Span} (h:A2 n a0 a1 a2=some r):Sound Try.prog 145 [.l (.r 0 2 0 a0.length),.l (.s (.int .i64 a1)),.l (.s (.int .i64 a2)),.l (.s (.func (.func 95) #[] #[]))] [⟨43,2,false,some 0,lvs (encSpan a0)⟩] (.t [(false,[.s (.int .i64 r.1)]),(false,[.s (.int .i64 r.2.1)])]) [some ⟨43,2,false,some 0,lvs (encSpan r.2.2)⟩]:=by
 unfold A2 at h
 refine Sound.of_aw (fn:=Try.f145) (c:=_) Try.func145 rfl (by simp[Try.f145]) fun cx hG hnb=>?_
 rw[show Try.f145.ntmps=63 from rfl]
 have hn0:cx.nb=1:=hnb
 simp only[Al,initTm,List.map_cons,List.map_nil]
 apply AW.step
 ·simp
  intros;rfl
 replace h:=ltE h;obtain⟨v1,e1,h⟩:=h
 apply AW.step
 ·simp[← e1]
  intros;rfl
 apply AW.step
 ·simp
  intros;rfl
 replace h:=bnE h;obtain⟨v2,e2,h⟩:=h
 replace h:=ltE h;obtain⟨v3,e3,h⟩:=h
 replace h:=ltE h;obtain⟨v4,e4,h⟩:=h
 apply AW.step
 ·simp[e2,← e3,← e4]
  intros;rfl
 replace h:=ltE h;obtain⟨v5,e5,h⟩:=h
 replace h:=ltE h;obtain⟨v6,e6,h⟩:=h
 apply AW.step
 ·simp[e2,← e5,← e6]
  intros;rfl
 replace h:=ltE h;obtain⟨v7,e7,h⟩:=h
 replace h:=ltE h;obtain⟨v8,e8,h⟩:=h
 apply AW.step
 ·simp[e2,← e7,← e8]
  intros;rfl
 replace h:=bnE h;obtain⟨y9,g9,h⟩:=h
 refine AW.flow (p:=fun gh ls=>(nP (cx:=cx) (fun q=>(⟨[(11,.l (.p 1 0)),(13,.l (.s (.int .i64 q.1)))],[some ⟨43,2,false,some 0,lvs (encSpan q.2.1)⟩,some ⟨3,1,false,none,[.s (.int .i64 q.2.2)]⟩],63,gh,ls⟩:St))) y9) ?_ ?_
 ·replace h:=g9;clear g9
  replace h:=ltE h;obtain⟨v10,e10,h⟩:=h
  apply AW.step
  ·simp[← e10]
   intros;rfl
  cases v10 with
  |true =>
   replace h:=iteT rfl h
   refine AW.cond_true (by simp) ?_
   replace h:=bnE h;obtain⟨y11,g11,h⟩:=h
   refine AW.flow (p:=fun gh ls=>(nP (cx:=cx) (fun q=>(⟨[(0,.l (.r 0 2 0 q.2.2.2.1.length)),(3,.l (.s (.func (.func 95) #[] #[]))),(11,.l (.p 1 0)),(12,.l (.s (.int .i64 q.1))),(13,.l (.s (.int .i64 q.2.1))),(14,.l (.s (.int .i64 q.2.2.1)))],[some ⟨43,2,false,some 0,lvs (encSpan q.2.2.2.1)⟩,some ⟨3,1,false,none,[.s (.int .i64 q.2.2.2.2)]⟩],63,gh,ls⟩:St))) y11) ?_ ?_
   ·replace h:=g11;clear g11
    replace h:=ltE h;obtain⟨v12,e12,h⟩:=h
    apply AW.step
    ·simp[← e12]
     intros;rfl
    cases v12 with
    |true =>
     replace h:=iteT rfl h
     refine AW.cond_true (by simp) ?_
     replace h:=bnE h;obtain⟨v13,e13,h⟩:=h
     replace h:=chkE h;obtain⟨e14,h⟩:=h
     apply AW.step
     ·simp
      intros
      refine Ax [0,1] AR (AX e13) (by decide) (by simp[pickOb,Ac,Ae]) rfl rfl (by simp) ⟨.l (.own' (by simp[Ac,Ae]) (by simp)),.l (.s _),.l (ptrV (by simp[Ac,Ae])),.l (.s _),trivial⟩ ?_
      try simp
      intros;rfl
     replace h:=bnE h;obtain⟨v15,e15,h⟩:=h
     replace h:=chkE h;obtain⟨e16,h⟩:=h
     apply AW.step
     ·simp[An e14]
      intros
      refine Ax [0,1] AR (AX e15) (by decide) (by simp[pickOb,Ac,Ae]) rfl rfl (by simp) ⟨.l (.own' (by simp[Ac,Ae]) (by simp[An e14])),.l (.s _),.l (ptrV (by simp[Ac,Ae])),.l (.s _),trivial⟩ ?_
      try simp[An e14]
      intros;rfl
     replace h:=bnE h;obtain⟨v17,e17,h⟩:=h
     replace h:=chkE h;obtain⟨e18,h⟩:=h
     apply AW.last
     ·simp[An e14,An e16]
      intros
      refine Ax [0,1] AR (AX e17) (by decide) (by simp[pickOb,Ac,Ae]) rfl rfl (by simp) ⟨.l (.own' (by simp[Ac,Ae]) (by simp[An e14,An e16])),.l (.s _),.l (ptrV (by simp[Ac,Ae])),.l (.s _),trivial⟩ ?_
      try simp[An e14,An e16]
      intros;rfl
     obtain rfl:=oi h
     refine nP_i ?_
     refine Weak.mixB 1 [some 0,some 1] hn0 (by decide) (by decide) ?_ ?_ ?_
     all_goals first|(simp[Ac,Ae,pickOb,An e14,An e16,An e18];done)|rfl
    |false =>
     replace h:=iteF rfl h
     refine AW.cond_false (by simp) ?_
     refine AW.skip ?_
     try simp only[nm]
     obtain rfl:=oi h
     refine nP_i ?_
     refine Weak.mixB 1 [some 0,some 1] hn0 (by decide) (by decide) ?_ ?_ ?_
     all_goals first|(simp[Ac,Ae,pickOb];done)|rfl
   ·rintro e s hp
    obtain⟨rfl,hw⟩:=hp
    refine⟨_,hw,?_⟩
    try simp only[nm]
    replace h:=bnE h;obtain⟨v19,e19,h⟩:=h
    replace h:=chkE h;obtain⟨e20,h⟩:=h
    apply AW.last
    ·simp
     intros
     refine Ax [0,1] Bw (BA e19) (by decide) (by simp[pickOb,Ac,Ae]) rfl rfl (by simp) ⟨.l (.own' (by simp[Ac,Ae]) (by simp)),.l (.s _),.l (.s _),.l (.s _),.l (ptrV (by simp[Ac,Ae])),.l (.s _),trivial⟩ ?_
     try simp
     intros;rfl
    obtain rfl:=oi h
    refine nP_i ?_
    refine Weak.mixB 1 [some 0,some 1] hn0 (by decide) (by decide) ?_ ?_ ?_
    all_goals first|(simp[Ac,Ae,pickOb,An e20];done)|rfl
  |false =>
   replace h:=iteF rfl h
   refine AW.cond_false (by simp) ?_
   refine AW.skip ?_
   try simp only[nm]
   obtain rfl:=oi h
   refine nP_i ?_
   refine Weak.mixB 1 [some 0,some 1] hn0 (by decide) (by decide) ?_ ?_ ?_
   all_goals first|(simp[Ac,Ae,pickOb];done)|rfl
 ·rintro e s hp
  obtain⟨rfl,hw⟩:=hp
  refine⟨_,hw,?_⟩
  try simp only[nm]
  apply AW.step
  ·simp
   intros;rfl
  refine AW.block ?_
  replace h:=ltE h;obtain⟨v21,e21,h⟩:=h
  apply AW.step
  ·simp[← e21]
   intros;rfl
  cases v21 with
  |true =>
   replace h:=iteT rfl h
   refine AW.cond_true (by simp) ?_
   apply AW.step
   ·simp
    intros;rfl
   obtain rfl:=oi h
   refine AW.ret ?_
   refine Left.of (av:=_) (by simp[Try.f145,resV,resC,comp];rfl) ?_
   exact LeftV.mix 1 [some 0] hn0 rfl (by decide) rfl (by simp[pickOb,Ac,Ae]) (by simp[Ac,Ae])
  |false =>
   replace h:=iteF rfl h
   refine AW.cond_false (by simp) ?_
   replace h:=ltE h;obtain⟨v22,e22,h⟩:=h
   apply AW.step
   ·simp[← e22]
    intros;rfl
   cases v22 with
   |true =>
    replace h:=iteT rfl h
    refine AW.cond_true (by simp) ?_
    apply AW.step
    ·simp
     intros;rfl
    obtain rfl:=oi h
    refine AW.ret ?_
    refine Left.of (av:=_) (by simp[Try.f145,resV,resC,comp];rfl) ?_
    exact LeftV.mix 1 [some 0] hn0 rfl (by decide) rfl (by simp[pickOb,Ac,Ae]) (by simp[Ac,Ae])
   |false =>
    replace h:=iteF rfl h
    refine AW.cond_false (by simp) ?_
    apply AW.step
    ·simp
     intros;rfl
    obtain rfl:=oi h
    refine AW.ret ?_
    refine Left.of (av:=_) (by simp[Try.f145,resV,resC,comp];rfl) ?_
    exact LeftV.mix 1 [some 0] hn0 rfl (by decide) rfl (by simp[pickOb,Ac,Ae]) (by simp[Ac,Ae])
theorem Ca:Enters Try.prog 145:=enters Try.func145 (by kernel_rfl) rfl
def AZ (n:Nat) (a0:List Span) (a1:Int) (a2:Int):Option (List Span) :=
lt (subI .i64 a2 1) fun v1 =>
bn (iter n (fun (y2:Int×Int×List Span) =>
lt (ltI y2.1 y2.2.1) fun v5 =>
ite' v5 (bn (nth y2.2.2 y2.2.1) fun v6 =>
bn (nth y2.2.2 y2.1) fun v8 =>
lt (y2.2.2.set y2.1.toNat v6) fun v11 =>
bn (nth v11 y2.2.1) fun v16 =>
lt (v11.set y2.2.1.toNat v8) fun v18 =>
lt (addI .i64 y2.1 1) fun v27 =>
lt (subI .i64 y2.2.1 1) fun v28 =>
some (.inl (v27,v28,v18))) (some (.inr y2.2.2))) (a1,v1,a0)) fun (y3:List Span) =>
some y3
theorem Cb {n:Nat} {a0:List Span} {a1:Int} {a2:Int} {r:List Span} (h:AZ n a0 a1 a2=some r):Sound Try.prog 146 [.l (.r 0 2 0 a0.length),.l (.s (.int .i64 a1)),.l (.s (.int .i64 a2)),.l (.s (.func (.func 95) #[] #[]))] [⟨43,2,false,some 0,lvs (encSpan a0)⟩] (.t []) [some ⟨43,2,false,some 0,lvs (encSpan r)⟩]:=by
 unfold AZ at h
 refine Sound.of_aw (fn:=Try.f146) (c:=_) Try.func146 rfl (by simp[Try.f146]) fun cx hG hnb=>?_
 rw[show Try.f146.ntmps=34 from rfl]
 have hn0:cx.nb=1:=hnb
 simp only[Al,initTm,List.map_cons,List.map_nil]
 apply AW.step
 ·simp
  intros;rfl
 replace h:=ltE h;obtain⟨v1,e1,h⟩:=h
 apply AW.step
 ·simp[← e1]
  intros;rfl
 refine AW.block ?_
 replace h:=bnE h;obtain⟨y3,g3,h⟩:=h
 refine AW.iterP g3 (mk:=fun gh ls q=>(⟨[(0,.l (.r 0 2 0 q.2.2.length)),(8,.l (.s (.int .i64 q.1))),(9,.l (.s (.int .i64 q.2.1)))],[some ⟨43,2,false,some 0,lvs (encSpan q.2.2)⟩],34,gh,ls⟩:St)) (N:=fun gh ls=>(xP 0 (cx:=cx) (fun q=>(⟨[],[some ⟨43,2,false,some 0,lvs (encSpan q)⟩],34,gh,ls⟩:St)))) ?_ noX ?_ ?_
 ·refine Weak.mixB 1 [some 0] hn0 (by decide) (by decide) ?_ ?_ ?_
  all_goals first|(simp[Ac,Ae,pickOb];done)|rfl
 ·clear h;intro y2 y4 h
  refine AW.seq ?_
  replace h:=ltE h;obtain⟨v5,e5,h⟩:=h
  apply AW.step
  ·simp[← e5]
   intros;rfl
  cases v5 with
  |true =>
   replace h:=iteT rfl h
   refine AW.cond_true (by simp) ?_
   refine AW.skip ?_
   try simp only[nm]
   refine AW.block ?_
   replace h:=bnE h;obtain⟨v6,e6,h⟩:=h
   have f7:=Ai e6
   try simp[Aa e6] at f7
   replace h:=bnE h;obtain⟨v8,e8,h⟩:=h
   have f9:=Ai e8
   try simp[Aa e6,f7,Ad (Aa e6).2 (k:=2) (by decide),Ab (Aa e6).2 (show 2≤2 by decide),lvs1,Aa e8] at f9
   have f10:=Ai e8
   try simp[Aa e6,f7,Ad (Aa e6).2 (k:=2) (by decide),Ab (Aa e6).2 (show 2≤2 by decide),lvs1,Aa e8,f9,Ad (Aa e8).2 (k:=2) (by decide),Ab (Aa e8).2 (show 2≤2 by decide)] at f10
   replace h:=ltE h;obtain⟨v11,e11,h⟩:=h
   have f12:=Ao (Aa e8).2 e11 (cs:=[.s (.int .i64 v6.frm),.s (.int .i64 v6.to)]) (by simp) rfl
   try simp at f12
   have f13:=f7
   try simp only[Af e11] at f13
   have f14:=f9
   try simp only[Af e11] at f14
   have f15:=f10
   try simp only[Af e11] at f15
   replace h:=bnE h;obtain⟨v16,e16,h⟩:=h
   have f17:=Ai e16
   try simp[Aa e6,f7,Ad (Aa e6).2 (k:=2) (by decide),Ab (Aa e6).2 (show 2≤2 by decide),lvs1,Aa e8,f9,Ad (Aa e8).2 (k:=2) (by decide),Ab (Aa e8).2 (show 2≤2 by decide),f10,f12,f13,f14,f15,Aa e16] at f17
   replace h:=ltE h;obtain⟨v18,e18,h⟩:=h
   have f19:=Ao (Aa e16).2 e18 (cs:=[.s (.int .i64 v8.frm),.s (.int .i64 v8.to)]) (by simp) rfl
   try simp at f19
   have f20:=f7
   try simp only[Af e18] at f20
   have f21:=f9
   try simp only[Af e18] at f21
   have f22:=f10
   try simp only[Af e18] at f22
   have f23:=f13
   try simp only[Af e18] at f23
   have f24:=f14
   try simp only[Af e18] at f24
   have f25:=f15
   try simp only[Af e18] at f25
   have f26:=f17
   try simp only[Af e18] at f26
   apply AW.drawnE (V:=[_,_,_,_,_,_,_,_,_,_,_,_,_,_]) (M:=[[some ⟨43,2,false,some 0,lvs (encSpan y2.2.2)⟩],[some ⟨43,2,false,some 0,lvs (encSpan v11)⟩]]) mixed [⟨[0],[],[(0,none)],false⟩,⟨[0],[],[(8,none)],false⟩,⟨[0,1],[],[(0,none)],false⟩,⟨[0,1],[],[(9,none)],false⟩,⟨[0],[],[(0,none)],false⟩,⟨[0],[],[(9,none)],false⟩,⟨[0],[4,5],[(20,some 4),(21,some 5)],false⟩,⟨[0],[4,5,6],[(22,some 6)],false⟩,⟨[0],[],[(0,none)],false⟩,⟨[0],[],[(8,none)],false⟩,⟨[0],[8,9],[(24,some 8),(25,some 9)],false⟩,⟨[0],[8,9,10],[(26,some 10)],false⟩,⟨[0],[0,1,4,5,6,7,8,9,10,11],[(16,some 0),(17,some 1)],false⟩,⟨[0],[0,1,4,5,6,7,8,9,10,11,12],[(23,some 7),(28,some 12)],true⟩,⟨[],[0,1,2,3,4,5,6,7,8,9,10,11,12,13],[],false⟩,⟨[],[0,1,2,3,4,5,6,7,8,9,10,11,12,13,14],[],false⟩] 14 1 (by kernel_rfl) (by kernel_rfl)
   ·rfl
   ·refine⟨?_,?_,⟨?_,?_⟩,⟨?_,?_⟩,?_,?_,?_,?_,?_,?_,?_,?_,?_,?_,trivial⟩
    iterate 16 (· intro tm hr;simp[AllL,rdV] at hr;simp[hr,Aa e6,f7,Ad (Aa e6).2 (k:=2) (by decide),Ab (Aa e6).2 (show 2≤2 by decide),lvs1,Aa e8,f9,Ad (Aa e8).2 (k:=2) (by decide),Ab (Aa e8).2 (show 2≤2 by decide),f10,f12,f13,f14,f15,Aa e16,f17,Af e11,Ab (Aa e16).2 (show 2≤2 by decide),f19,f20,f21,f22,f23,f24,f25,f26];intros;first|exact KD.mk|exact KD.mkN)
   ·rfl
   ·simp[tmD,putD,Aa e6,f7,Ad (Aa e6).2 (k:=2) (by decide),Ab (Aa e6).2 (show 2≤2 by decide),lvs1,Aa e8,f9,Ad (Aa e8).2 (k:=2) (by decide),Ab (Aa e8).2 (show 2≤2 by decide),f10,f12,f13,f14,f15,Aa e16,f17,Af e11,Ab (Aa e16).2 (show 2≤2 by decide),f19,f20,f21,f22,f23,f24,f25,f26];rfl
   ·simp[Aa e6,f7,Ad (Aa e6).2 (k:=2) (by decide),Ab (Aa e6).2 (show 2≤2 by decide),lvs1,Aa e8,f9,Ad (Aa e8).2 (k:=2) (by decide),Ab (Aa e8).2 (show 2≤2 by decide),f10,f12,f13,f14,f15,Aa e16,f17,Af e11,Ab (Aa e16).2 (show 2≤2 by decide),f19,f20,f21,f22,f23,f24,f25,f26]
    intros;rfl
   replace h:=ltE h;obtain⟨v27,e27,h⟩:=h
   apply AW.step
   ·simp[← e27]
    intros;rfl
   replace h:=ltE h;obtain⟨v28,e28,h⟩:=h
   apply AW.last
   ·simp[← e28]
    intros;rfl
   obtain rfl:=oi h
   refine nP_i ?_
   refine Weak.mixB 1 [some 0] hn0 (by decide) (by decide) ?_ ?_ ?_
   all_goals first|(simp[Ac,Ae,pickOb,Af e11,Af e18];done)|rfl
  |false =>
   replace h:=iteF rfl h
   refine AW.cond_false (by simp) ?_
   refine AW.exit ?_
   try simp only[nm]
   obtain rfl:=oi h
   refine xP_i ?_
   refine Weak.mixB 1 [some 0] hn0 (by decide) (by decide) ?_ ?_ ?_
   all_goals first|(simp[Ac,Ae,pickOb];done)|rfl
 ·rintro e s hp
  obtain⟨rfl,hw⟩:=hp
  refine⟨_,hw,?_⟩
  try simp only[nm]
  obtain rfl:=oi h
  refine Left.of (av:=_) (by simp[Try.f146,resV,resC,comp];rfl) ?_
  exact LeftV.mix 1 [some 0] hn0 rfl (by decide) rfl (by simp[pickOb,Ac,Ae]) (by simp[Ac,Ae])
theorem B5:Enters Try.prog 146:=enters Try.func146 (by kernel_rfl) rfl
def AJ (n:Nat) (a0:List Span) (a1:Int) (a2:Int):Option (Bool×List Span) :=
lt (addI .i64 a1 1) fun v1 =>
bn (iter n (fun (y2:Int×Int×List Span) =>
lt (ltI y2.2.1 5) fun v5 =>
ite' v5 (bn (bn (iter n (fun (y7:Int) =>
bn (lt (ltI y7 a2) fun v11 =>
ite' v11 (bn (nth y2.2.2 y7) fun v12 =>
lt (subI .i64 y7 1) fun v14 =>
bn (nth y2.2.2 v14) fun v15 =>
bn (Av n v12 v15) fun v17 =>
lt (ltI v17 0) fun v18 =>
lt (notB v18) fun v19 =>
some (v19)) (some (false))) fun (y10:Bool) =>
lt (y10) fun v20 =>
ite' v20 (lt (addI .i64 y7 1) fun v21 =>
some (.inl v21)) (some (.inr y7))) y2.1) fun (y8:Int) =>
lt (eqI y8 a2) fun v22 =>
ite' v22 (some (.inr (true,y2.2.2))) (lt (subI .i64 a2 a1) fun v23 =>
lt (ltI v23 50) fun v24 =>
ite' v24 (some (.inr (false,y2.2.2))) (lt (subI .i64 y8 1) fun v25 =>
bn (nth y2.2.2 v25) fun v26 =>
bn (nth y2.2.2 y8) fun v28 =>
lt (y2.2.2.set y8.toNat v26) fun v31 =>
bn (nth v31 v25) fun v36 =>
lt (v31.set v25.toNat v28) fun v38 =>
bn (lt (subI .i64 y8 a1) fun v48 =>
lt (geI v48 2) fun v49 =>
ite' v49 (bn (iter n (fun (y50:Int×List Span) =>
lt (geI y50.1 1) fun v53 =>
ite' v53 (bn (nth y50.2 y50.1) fun v54 =>
lt (subI .i64 y50.1 1) fun v56 =>
bn (nth y50.2 v56) fun v57 =>
bn (Av n v54 v57) fun v59 =>
lt (ltI v59 0) fun v60 =>
lt (notB v60) fun v61 =>
ite' v61 (some (.inr y50.2)) (lt (y50.2.set y50.1.toNat v57) fun v65 =>
bn (nth v65 v56) fun v70 =>
lt (v65.set v56.toNat v54) fun v72 =>
some (.inl (v56,v72)))) (some (.inr y50.2))) (v25,v38)) fun (y51:List Span) =>
some (y51)) (some (v38))) fun (y47:List Span) =>
lt (subI .i64 a2 y8) fun v81 =>
lt (geI v81 2) fun v82 =>
ite' v82 (lt (addI .i64 y8 1) fun v83 =>
bn (iter n (fun (y84:Int×List Span) =>
lt (ltI y84.1 a2) fun v87 =>
ite' v87 (bn (nth y84.2 y84.1) fun v88 =>
lt (subI .i64 y84.1 1) fun v90 =>
bn (nth y84.2 v90) fun v91 =>
bn (Av n v88 v91) fun v93 =>
lt (ltI v93 0) fun v94 =>
lt (notB v94) fun v95 =>
ite' v95 (some (.inr y84.2)) (lt (y84.2.set y84.1.toNat v91) fun v99 =>
bn (nth v99 v90) fun v104 =>
lt (v99.set v90.toNat v88) fun v106 =>
lt (addI .i64 y84.1 1) fun v115 =>
some (.inl (v115,v106)))) (some (.inr y84.2))) (v83,y47)) fun (y85:List Span) =>
some (.inl (y8,y85))) (some (.inl (y8,y47)))))) fun (y6:(Int×List Span) ⊕ (Bool×List Span)) =>
sm y6 (fun y116=>lt (addI .i64 y2.2.1 1) fun v118 =>
some (.inl (y116.1,v118,y116.2))) (fun y117=>some (.inr (.inr y117)))) (some (.inr (.inl y2.2.2)))) (v1,0,a0)) fun (y3:(List Span) ⊕ (Bool×List Span)) =>
sm y3 (fun y119=>some (false,y119)) (fun y120=>some y120)
def DX20t3:List DI:=[⟨[0],[],[(9,none)],false⟩,⟨[0],[],[(2,none)],false⟩,⟨[0],[0,1],[(19,some 0),(20,some 1)],false⟩,⟨[0],[0,1,2],[(21,some 2)],false⟩,⟨[0],[0,1,2,3],[(3,none),(22,some 3)],false⟩,⟨[0],[0,1,2,3],[(0,none),(22,some 3)],false⟩,⟨[0],[0,1,2,3],[(9,none),(22,some 3)],false⟩,⟨[0],[0,1,2,3,5,6],[(22,some 3),(24,some 5),(25,some 6)],false⟩,⟨[0],[0,1,2,3,5,6,7],[(22,some 3),(26,some 7)],false⟩,⟨[0],[0,1,2,3],[(0,none),(22,some 3)],false⟩,⟨[0],[0,1,2,3],[(9,none),(22,some 3)],false⟩,⟨[0],[0,1,2,3,10],[(22,some 3),(29,some 10)],false⟩,⟨[0],[0,1,2,3,9,10,11],[(22,some 3),(28,some 9),(30,some 11)],false⟩,⟨[0],[0,1,2,3,9,10,11,12],[(22,some 3),(31,some 12)],false⟩,⟨[],[0,1,2,3,4,5,6,7,8,9,10,11,12,13],[],false⟩,⟨[],[0,1,2,3,4,5,6,7,8,9,10,11,12,13,14],[],false⟩,⟨[],[0,1,2,3,4,5,6,7,8,9,10,11,12,13,14,15],[],false⟩,⟨[],[0,1,2,3,4,5,6,7,8,9,10,11,12,13,14,15,16],[],false⟩]
theorem BH {n:Nat} {a0:List Span} {a1:Int} {a2:Int} {r:Bool×List Span} (h:AJ n a0 a1 a2=some r):Sound Try.prog 147 [.l (.r 0 2 0 a0.length),.l (.s (.int .i64 a1)),.l (.s (.int .i64 a2)),.l (.s (.func (.func 95) #[] #[]))] [⟨43,2,false,some 0,lvs (encSpan a0)⟩] (.l (.s (.bool r.1))) [some ⟨43,2,false,some 0,lvs (encSpan r.2)⟩]:=by
 unfold AJ at h
 refine Sound.of_aw (fn:=Try.f147) (c:=_) Try.func147 rfl (by simp[Try.f147]) fun cx hG hnb=>?_
 rw[show Try.f147.ntmps=141 from rfl]
 have hn0:cx.nb=1:=hnb
 simp only[Al,initTm,List.map_cons,List.map_nil]
 apply AW.step
 ·simp
  intros;rfl
 replace h:=ltE h;obtain⟨v1,e1,h⟩:=h
 apply AW.step
 ·simp[← e1]
  intros;rfl
 refine AW.seq ?_
 apply AW.step
 ·simp
  intros;rfl
 refine AW.block ?_
 replace h:=bnE h;obtain⟨y3,g3,h⟩:=h
 refine AW.iterP g3 (mk:=fun gh ls q=>(⟨[(0,.l (.r 0 2 0 q.2.2.length)),(1,.l (.s (.int .i64 a1))),(2,.l (.s (.int .i64 a2))),(3,.l (.s (.func (.func 95) #[] #[]))),(9,.l (.s (.int .i64 q.1))),(10,.l (.s (.int .i64 q.2.1)))],[some ⟨43,2,false,some 0,lvs (encSpan q.2.2)⟩],141,gh,ls⟩:St)) (N:=fun gh ls=>(sp (xP 0 (cx:=cx) (fun q=>(⟨[],[some ⟨43,2,false,some 0,lvs (encSpan q)⟩],141,gh,ls⟩:St))) (rP (cx:=cx) (P:=Try.prog) Try.f147 (fun q=>.l (.s (.bool q.1))) (fun q=>[some ⟨43,2,false,some 0,lvs (encSpan q.2)⟩])))) ?_ (noS noX noR) ?_ ?_
 ·refine Weak.mixB 1 [some 0] hn0 (by decide) (by decide) ?_ ?_ ?_
  all_goals first|(simp[Ac,Ae,pickOb];done)|rfl
 ·clear h;intro y2 y4 h
  refine AW.seq ?_
  replace h:=ltE h;obtain⟨v5,e5,h⟩:=h
  apply AW.step
  ·simp[← e5]
   intros;rfl
  cases v5 with
  |true =>
   replace h:=iteT rfl h
   refine AW.cond_true (by simp) ?_
   refine AW.skip ?_
   try simp only[nm]
   replace h:=bnE h;obtain⟨y6,g6,h⟩:=h
   refine AW.flow (p:=fun gh ls=>(sp (nP (cx:=cx) (fun q=>(⟨[(0,.l (.r 0 2 0 q.2.length)),(1,.l (.s (.int .i64 a1))),(2,.l (.s (.int .i64 a2))),(3,.l (.s (.func (.func 95) #[] #[]))),(9,.l (.s (.int .i64 q.1))),(10,.l (.s (.int .i64 y2.2.1)))],[some ⟨43,2,false,some 0,lvs (encSpan q.2)⟩],141,gh,ls⟩:St))) (rP (cx:=cx) (P:=Try.prog) Try.f147 (fun q=>.l (.s (.bool q.1))) (fun q=>[some ⟨43,2,false,some 0,lvs (encSpan q.2)⟩]))) y6) ?_ ?_
   ·replace h:=g6;clear g6
    refine AW.block ?_
    refine AW.seq ?_
    refine AW.block ?_
    replace h:=bnE h;obtain⟨y8,g8,h⟩:=h
    refine AW.iterP g8 (mk:=fun gh ls q=>(⟨[(0,.l (.r 0 2 0 y2.2.2.length)),(1,.l (.s (.int .i64 a1))),(2,.l (.s (.int .i64 a2))),(3,.l (.s (.func (.func 95) #[] #[]))),(9,.l (.s (.int .i64 q))),(10,.l (.s (.int .i64 y2.2.1)))],[some ⟨43,2,false,some 0,lvs (encSpan y2.2.2)⟩],141,gh,ls⟩:St)) (N:=fun gh ls=>(xP 2 (cx:=cx) (fun q=>(⟨[(0,.l (.r 0 2 0 y2.2.2.length)),(1,.l (.s (.int .i64 a1))),(2,.l (.s (.int .i64 a2))),(3,.l (.s (.func (.func 95) #[] #[]))),(9,.l (.s (.int .i64 q))),(10,.l (.s (.int .i64 y2.2.1)))],[some ⟨43,2,false,some 0,lvs (encSpan y2.2.2)⟩],141,gh,ls⟩:St)))) ?_ noX ?_ ?_
    ·refine Weak.mixB 1 [some 0] hn0 (by decide) (by decide) ?_ ?_ ?_
     all_goals first|(simp[Ac,Ae,pickOb];done)|rfl
    ·clear h;intro y7 y9 h
     refine AW.seq ?_
     replace h:=bnE h;obtain⟨y10,g10,h⟩:=h
     refine AW.flow (p:=fun gh ls=>(nP (cx:=cx) (fun q=>(⟨[(0,.l (.r 0 2 0 y2.2.2.length)),(1,.l (.s (.int .i64 a1))),(2,.l (.s (.int .i64 a2))),(3,.l (.s (.func (.func 95) #[] #[]))),(9,.l (.s (.int .i64 y7))),(10,.l (.s (.int .i64 y2.2.1))),(36,.l (.s (.bool q)))],[some ⟨43,2,false,some 0,lvs (encSpan y2.2.2)⟩],141,gh,ls⟩:St))) y10) ?_ ?_
     ·replace h:=g10;clear g10
      replace h:=ltE h;obtain⟨v11,e11,h⟩:=h
      cases v11 with
      |true =>
       replace h:=iteT rfl h
       replace h:=bnE h;obtain⟨v12,e12,h⟩:=h
       have f13:=Ai e12
       try simp[← e11,Aa e12] at f13
       replace h:=ltE h;obtain⟨v14,e14,h⟩:=h
       replace h:=bnE h;obtain⟨v15,e15,h⟩:=h
       have f16:=Ai e15
       try simp[← e11,Aa e12,f13,Ad (Aa e12).2 (k:=2) (by decide),Ab (Aa e12).2 (show 2≤2 by decide),lvs1,← e14,Aa e15] at f16
       replace h:=bnE h;obtain⟨v17,e17,h⟩:=h
       replace h:=ltE h;obtain⟨v18,e18,h⟩:=h
       replace h:=ltE h;obtain⟨v19,e19,h⟩:=h
       apply AW.drawnR (V:=[_,_,_,_,_,_,_,_,_,_,_,_,_,_]) mixed DX20t3 14 (by kernel_rfl) (by kernel_rfl)
       ·refine⟨?_,?_,?_,?_,?_,?_,?_,?_,?_,?_,?_,?_,?_,?_,trivial⟩
        iterate 14 (· intro tm hr;simp[AllL,rdV] at hr;simp[hr,← e11,Aa e12,f13,Ad (Aa e12).2 (k:=2) (by decide),Ab (Aa e12).2 (show 2≤2 by decide),lvs1,← e14,Aa e15,f16,Ad (Aa e15).2 (k:=2) (by decide),Ab (Aa e15).2 (show 2≤2 by decide),← e18,← e19];intros;first|exact KD.mk|exact KD.mkN)
       ·rfl
       ·simp[tmD,putD,← e11,Aa e12,f13,Ad (Aa e12).2 (k:=2) (by decide),Ab (Aa e12).2 (show 2≤2 by decide),lvs1,← e14,Aa e15,f16,Ad (Aa e15).2 (k:=2) (by decide),Ab (Aa e15).2 (show 2≤2 by decide),← e18,← e19];rfl
       ·simp[← e11,Aa e12,f13,Ad (Aa e12).2 (k:=2) (by decide),Ab (Aa e12).2 (show 2≤2 by decide),lvs1,← e14,Aa e15,f16,Ad (Aa e15).2 (k:=2) (by decide),Ab (Aa e15).2 (show 2≤2 by decide),← e18,← e19]
        intros
        refine Ag AB (AE e17) rfl ⟨.same rfl,.same rfl,trivial⟩ ?_
        try simp[← e11,Aa e12,f13,Ad (Aa e12).2 (k:=2) (by decide),Ab (Aa e12).2 (show 2≤2 by decide),lvs1,← e14,Aa e15,f16,Ad (Aa e15).2 (k:=2) (by decide),Ab (Aa e15).2 (show 2≤2 by decide),← e18,← e19]
        intros;rfl
       obtain rfl:=oi h
       refine nP_i ?_
       refine Weak.mixB 1 [some 0] hn0 (by decide) (by decide) ?_ ?_ ?_
       all_goals first|(simp[Ac,Ae,pickOb];done)|rfl
      |false =>
       replace h:=iteF rfl h
       apply AW.drawnR (V:=[_,_,_,_,_,_,_,_,_,_,_,_,_,_]) mixed DX20t3 14 (by kernel_rfl) (by kernel_rfl)
       ·refine⟨?_,?_,?_,?_,?_,?_,?_,?_,?_,?_,?_,?_,?_,?_,trivial⟩
        iterate 14 (· intro tm hr;simp[AllL,rdV] at hr;simp[hr,← e11];intros;first|exact KD.mk|exact KD.mkN)
       ·rfl
       ·simp[tmD,putD,← e11];rfl
       ·simp[← e11]
        intros;rfl
       obtain rfl:=oi h
       refine nP_i ?_
       refine Weak.mixB 1 [some 0] hn0 (by decide) (by decide) ?_ ?_ ?_
       all_goals first|(simp[Ac,Ae,pickOb];done)|rfl
     ·rintro e s hp
      obtain⟨rfl,hw⟩:=hp
      refine⟨_,hw,?_⟩
      try simp only[nm]
      replace h:=ltE h;obtain⟨v20,e20,h⟩:=h
      rw[← e20]
      cases v20 with
      |true =>
       replace h:=iteT rfl h
       refine AW.cond_true (by simp) ?_
       refine AW.skip ?_
       try simp only[nm]
       refine AW.block ?_
       replace h:=ltE h;obtain⟨v21,e21,h⟩:=h
       apply AW.last
       ·simp[← e21]
        intros;rfl
       obtain rfl:=oi h
       refine nP_i ?_
       refine Weak.mixB 1 [some 0] hn0 (by decide) (by decide) ?_ ?_ ?_
       all_goals first|(simp[Ac,Ae,pickOb];done)|rfl
      |false =>
       replace h:=iteF rfl h
       refine AW.cond_false (by simp) ?_
       refine AW.exit ?_
       try simp only[nm]
       obtain rfl:=oi h
       refine xP_i ?_
       refine Weak.mixB 1 [some 0] hn0 (by decide) (by decide) ?_ ?_ ?_
       all_goals first|(simp[Ac,Ae,pickOb];done)|rfl
    ·rintro e s hp
     obtain⟨rfl,hw⟩:=hp
     refine⟨_,hw,?_⟩
     try simp only[nm]
     refine AW.seq ?_
     replace h:=ltE h;obtain⟨v22,e22,h⟩:=h
     apply AW.step
     ·simp[← e22]
      intros;rfl
     cases v22 with
     |true =>
      replace h:=iteT rfl h
      refine AW.cond_true (by simp) ?_
      apply AW.step
      ·simp
       intros;rfl
      obtain rfl:=oi h
      refine AW.ret ?_
      try simp only[nm]
      refine rP_i ?_
      refine Left.of (av:=_) (by simp[Try.f147,resV,resC,comp];rfl) ?_
      exact LeftV.mix 1 [some 0] hn0 rfl (by decide) rfl (by simp[pickOb,Ac,Ae]) (by simp[Ac,Ae])
     |false =>
      replace h:=iteF rfl h
      refine AW.cond_false (by simp) ?_
      refine AW.skip ?_
      try simp only[nm]
      refine AW.seq ?_
      replace h:=ltE h;obtain⟨v23,e23,h⟩:=h
      replace h:=ltE h;obtain⟨v24,e24,h⟩:=h
      apply AW.step
      ·simp[← e23,← e24]
       intros;rfl
      cases v24 with
      |true =>
       replace h:=iteT rfl h
       refine AW.cond_true (by simp) ?_
       apply AW.step
       ·simp
        intros;rfl
       obtain rfl:=oi h
       refine AW.ret ?_
       try simp only[nm]
       refine rP_i ?_
       refine Left.of (av:=_) (by simp[Try.f147,resV,resC,comp];rfl) ?_
       exact LeftV.mix 1 [some 0] hn0 rfl (by decide) rfl (by simp[pickOb,Ac,Ae]) (by simp[Ac,Ae])
      |false =>
       replace h:=iteF rfl h
       refine AW.cond_false (by simp) ?_
       refine AW.skip ?_
       try simp only[nm]
       replace h:=ltE h;obtain⟨v25,e25,h⟩:=h
       replace h:=bnE h;obtain⟨v26,e26,h⟩:=h
       have f27:=Ai e26
       try simp[← e25,Aa e26] at f27
       replace h:=bnE h;obtain⟨v28,e28,h⟩:=h
       have f29:=Ai e28
       try simp[← e25,Aa e26,f27,Ad (Aa e26).2 (k:=2) (by decide),Ab (Aa e26).2 (show 2≤2 by decide),lvs1,Aa e28] at f29
       have f30:=Ai e28
       try simp[← e25,Aa e26,f27,Ad (Aa e26).2 (k:=2) (by decide),Ab (Aa e26).2 (show 2≤2 by decide),lvs1,Aa e28,f29,Ad (Aa e28).2 (k:=2) (by decide),Ab (Aa e28).2 (show 2≤2 by decide)] at f30
       replace h:=ltE h;obtain⟨v31,e31,h⟩:=h
       have f32:=Ao (Aa e28).2 e31 (cs:=[.s (.int .i64 v26.frm),.s (.int .i64 v26.to)]) (by simp) rfl
       try simp at f32
       have f33:=f27
       try simp only[Af e31] at f33
       have f34:=f29
       try simp only[Af e31] at f34
       have f35:=f30
       try simp only[Af e31] at f35
       replace h:=bnE h;obtain⟨v36,e36,h⟩:=h
       have f37:=Ai e36
       try simp[← e25,Aa e26,f27,Ad (Aa e26).2 (k:=2) (by decide),Ab (Aa e26).2 (show 2≤2 by decide),lvs1,Aa e28,f29,Ad (Aa e28).2 (k:=2) (by decide),Ab (Aa e28).2 (show 2≤2 by decide),f30,f32,f33,f34,f35,Aa e36] at f37
       replace h:=ltE h;obtain⟨v38,e38,h⟩:=h
       have f39:=Ao (Aa e36).2 e38 (cs:=[.s (.int .i64 v28.frm),.s (.int .i64 v28.to)]) (by simp) rfl
       try simp at f39
       have f40:=f27
       try simp only[Af e38] at f40
       have f41:=f29
       try simp only[Af e38] at f41
       have f42:=f30
       try simp only[Af e38] at f42
       have f43:=f33
       try simp only[Af e38] at f43
       have f44:=f34
       try simp only[Af e38] at f44
       have f45:=f35
       try simp only[Af e38] at f45
       have f46:=f37
       try simp only[Af e38] at f46
       apply AW.drawnE (V:=[_,_,_,_,_,_,_,_,_,_,_,_,_,_,_,_]) (M:=[[some ⟨43,2,false,some 0,lvs (encSpan y2.2.2)⟩],[some ⟨43,2,false,some 0,lvs (encSpan v31)⟩]]) mixed [⟨[0],[],[(0,none)],false⟩,⟨[0],[],[(9,none)],false⟩,⟨[0,1],[],[(0,none)],false⟩,⟨[0,1],[],[(9,none)],false⟩,⟨[0,1],[3],[(49,some 3)],false⟩,⟨[0],[],[(0,none)],false⟩,⟨[0],[],[(9,none)],false⟩,⟨[0],[6],[(52,some 6)],false⟩,⟨[0],[5,6,7],[(51,some 5),(53,some 7)],false⟩,⟨[0],[5,6,7,8],[(54,some 8)],false⟩,⟨[0],[],[(0,none)],false⟩,⟨[0],[],[(9,none)],false⟩,⟨[0],[10,11],[(56,some 10),(57,some 11)],false⟩,⟨[0],[10,11,12],[(58,some 12)],false⟩,⟨[0],[0,1,5,6,7,8,9,10,11,12,13],[(46,some 0),(47,some 1)],false⟩,⟨[0],[0,1,5,6,7,8,9,10,11,12,13,14],[(55,some 9),(60,some 14)],true⟩,⟨[],[0,1,2,3,4,5,6,7,8,9,10,11,12,13,14,15],[],false⟩,⟨[],[0,1,2,3,4,5,6,7,8,9,10,11,12,13,14,15,16],[],false⟩] 16 1 (by kernel_rfl) (by kernel_rfl)
       ·rfl
       ·refine⟨?_,?_,⟨?_,?_⟩,⟨?_,?_⟩,⟨?_,?_⟩,?_,?_,?_,?_,?_,?_,?_,?_,?_,?_,?_,trivial⟩
        iterate 19 (· intro tm hr;simp[AllL,rdV] at hr;simp[hr,← e25,Aa e26,f27,Ad (Aa e26).2 (k:=2) (by decide),Ab (Aa e26).2 (show 2≤2 by decide),lvs1,Aa e28,f29,Ad (Aa e28).2 (k:=2) (by decide),Ab (Aa e28).2 (show 2≤2 by decide),f30,f32,f33,f34,f35,Aa e36,f37,Af e31,Ab (Aa e36).2 (show 2≤2 by decide),f39,f40,f41,f42,f43,f44,f45,f46];intros;first|exact KD.mk|exact KD.mkN)
       ·rfl
       ·simp[tmD,putD,← e25,Aa e26,f27,Ad (Aa e26).2 (k:=2) (by decide),Ab (Aa e26).2 (show 2≤2 by decide),lvs1,Aa e28,f29,Ad (Aa e28).2 (k:=2) (by decide),Ab (Aa e28).2 (show 2≤2 by decide),f30,f32,f33,f34,f35,Aa e36,f37,Af e31,Ab (Aa e36).2 (show 2≤2 by decide),f39,f40,f41,f42,f43,f44,f45,f46];rfl
       ·simp[← e25,Aa e26,f27,Ad (Aa e26).2 (k:=2) (by decide),Ab (Aa e26).2 (show 2≤2 by decide),lvs1,Aa e28,f29,Ad (Aa e28).2 (k:=2) (by decide),Ab (Aa e28).2 (show 2≤2 by decide),f30,f32,f33,f34,f35,Aa e36,f37,Af e31,Ab (Aa e36).2 (show 2≤2 by decide),f39,f40,f41,f42,f43,f44,f45,f46]
        intros;rfl
       replace h:=bnE h;obtain⟨y47,g47,h⟩:=h
       refine AW.flow (p:=fun gh ls=>(nP (cx:=cx) (fun q=>(⟨[(0,.l (.r 0 2 0 q.length)),(1,.l (.s (.int .i64 a1))),(2,.l (.s (.int .i64 a2))),(3,.l (.s (.func (.func 95) #[] #[]))),(9,.l (.s (.int .i64 y8))),(10,.l (.s (.int .i64 y2.2.1)))],[some ⟨43,2,false,some 0,lvs (encSpan q)⟩],141,gh,ls⟩:St))) y47) ?_ ?_
       ·replace h:=g47;clear g47
        replace h:=ltE h;obtain⟨v48,e48,h⟩:=h
        replace h:=ltE h;obtain⟨v49,e49,h⟩:=h
        apply AW.step
        ·simp[← e48,← e49]
         intros;rfl
        cases v49 with
        |true =>
         replace h:=iteT rfl h
         refine AW.cond_true (by simp) ?_
         apply AW.step
         ·simp[← e25]
          intros;rfl
         refine AW.block ?_
         replace h:=bnE h;obtain⟨y51,g51,h⟩:=h
         refine AW.iterP g51 (mk:=fun gh ls q=>(⟨[(0,.l (.r 0 2 0 q.2.length)),(1,.l (.s (.int .i64 a1))),(2,.l (.s (.int .i64 a2))),(3,.l (.s (.func (.func 95) #[] #[]))),(9,.l (.s (.int .i64 y8))),(10,.l (.s (.int .i64 y2.2.1))),(11,.l (.s (.int .i64 q.1)))],[some ⟨43,2,false,some 0,lvs (encSpan q.2)⟩],141,gh,ls⟩:St)) (N:=fun gh ls=>(xP 4 (cx:=cx) (fun q=>(⟨[(0,.l (.r 0 2 0 q.length)),(1,.l (.s (.int .i64 a1))),(2,.l (.s (.int .i64 a2))),(3,.l (.s (.func (.func 95) #[] #[]))),(9,.l (.s (.int .i64 y8))),(10,.l (.s (.int .i64 y2.2.1)))],[some ⟨43,2,false,some 0,lvs (encSpan q)⟩],141,gh,ls⟩:St)))) ?_ noX ?_ ?_
         ·refine Weak.mixB 1 [some 0] hn0 (by decide) (by decide) ?_ ?_ ?_
          all_goals first|(simp[Ac,Ae,pickOb,Af e31,Af e38];done)|rfl
         ·clear h;intro y50 y52 h
          refine AW.seq ?_
          replace h:=ltE h;obtain⟨v53,e53,h⟩:=h
          apply AW.step
          ·simp[← e53]
           intros;rfl
          cases v53 with
          |true =>
           replace h:=iteT rfl h
           refine AW.cond_true (by simp) ?_
           refine AW.skip ?_
           try simp only[nm]
           refine AW.seq ?_
           refine AW.block ?_
           refine AW.seq ?_
           replace h:=bnE h;obtain⟨v54,e54,h⟩:=h
           have f55:=Ai e54
           try simp[Aa e54] at f55
           replace h:=ltE h;obtain⟨v56,e56,h⟩:=h
           replace h:=bnE h;obtain⟨v57,e57,h⟩:=h
           have f58:=Ai e57
           try simp[Aa e54,f55,Ad (Aa e54).2 (k:=2) (by decide),Ab (Aa e54).2 (show 2≤2 by decide),lvs1,← e56,Aa e57] at f58
           replace h:=bnE h;obtain⟨v59,e59,h⟩:=h
           replace h:=ltE h;obtain⟨v60,e60,h⟩:=h
           replace h:=ltE h;obtain⟨v61,e61,h⟩:=h
           apply AW.drawnP (V:=[_,_,_,_,_,_,_,_,_,_]) mixed [⟨[0],[],[(3,none)],false⟩,⟨[0],[],[(0,none)],false⟩,⟨[0],[],[(11,none)],false⟩,⟨[0],[1,2],[(73,some 1),(74,some 2)],false⟩,⟨[0],[1,2,3],[(75,some 3)],false⟩,⟨[0],[],[(0,none)],false⟩,⟨[0],[],[(11,none)],false⟩,⟨[0],[6],[(78,some 6)],false⟩,⟨[0],[5,6,7],[(77,some 5),(79,some 7)],false⟩,⟨[0],[5,6,7,8],[(80,some 8)],false⟩,⟨[],[0,1,2,3,4,5,6,7,8,9],[],false⟩,⟨[],[0,1,2,3,4,5,6,7,8,9,10],[],false⟩,⟨[],[0,1,2,3,4,5,6,7,8,9,10,11],[],false⟩] 10 (by kernel_rfl) (by kernel_rfl)
           ·refine⟨?_,?_,?_,?_,?_,?_,?_,?_,?_,?_,trivial⟩
            iterate 10 (· intro tm hr;simp[AllL,rdV] at hr;simp[hr,Aa e54,f55,Ad (Aa e54).2 (k:=2) (by decide),Ab (Aa e54).2 (show 2≤2 by decide),lvs1,← e56,Aa e57,f58,Ad (Aa e57).2 (k:=2) (by decide),Ab (Aa e57).2 (show 2≤2 by decide),← e60,← e61];intros;first|exact KD.mk|exact KD.mkN)
           ·rfl
           ·simp[tmD,putD,Aa e54,f55,Ad (Aa e54).2 (k:=2) (by decide),Ab (Aa e54).2 (show 2≤2 by decide),lvs1,← e56,Aa e57,f58,Ad (Aa e57).2 (k:=2) (by decide),Ab (Aa e57).2 (show 2≤2 by decide),← e60,← e61];rfl
           ·simp[Aa e54,f55,Ad (Aa e54).2 (k:=2) (by decide),Ab (Aa e54).2 (show 2≤2 by decide),lvs1,← e56,Aa e57,f58,Ad (Aa e57).2 (k:=2) (by decide),Ab (Aa e57).2 (show 2≤2 by decide),← e60,← e61]
            intros
            refine Ag AB (AE e59) rfl ⟨.same rfl,.same rfl,trivial⟩ ?_
            try simp[Aa e54,f55,Ad (Aa e54).2 (k:=2) (by decide),Ab (Aa e54).2 (show 2≤2 by decide),lvs1,← e56,Aa e57,f58,Ad (Aa e57).2 (k:=2) (by decide),Ab (Aa e57).2 (show 2≤2 by decide),← e60,← e61]
            intros;rfl
           cases v61 with
           |true =>
            replace h:=iteT rfl h
            refine AW.cond_true (by simp) ?_
            refine AW.exit ?_
            try simp only[nm]
            obtain rfl:=oi h
            refine xP_i ?_
            refine Weak.mixB 1 [some 0] hn0 (by decide) (by decide) ?_ ?_ ?_
            all_goals first|(simp[Ac,Ae,pickOb];done)|rfl
           |false =>
            replace h:=iteF rfl h
            refine AW.cond_false (by simp) ?_
            refine AW.skip ?_
            try simp only[nm]
            have f62:=Ai e57
            try simp[← e56,Aa e57] at f62
            have f63:=Ai e54
            try simp[← e56,Aa e57,f62,Ad (Aa e57).2 (k:=2) (by decide),Ab (Aa e57).2 (show 2≤2 by decide),lvs1,Aa e54] at f63
            have f64:=Ai e54
            try simp[← e56,Aa e57,f62,Ad (Aa e57).2 (k:=2) (by decide),Ab (Aa e57).2 (show 2≤2 by decide),lvs1,Aa e54,f63,Ad (Aa e54).2 (k:=2) (by decide),Ab (Aa e54).2 (show 2≤2 by decide)] at f64
            replace h:=ltE h;obtain⟨v65,e65,h⟩:=h
            have f66:=Ao (Aa e54).2 e65 (cs:=[.s (.int .i64 v57.frm),.s (.int .i64 v57.to)]) (by simp) rfl
            try simp at f66
            have f67:=f62
            try simp only[Af e65] at f67
            have f68:=f63
            try simp only[Af e65] at f68
            have f69:=f64
            try simp only[Af e65] at f69
            replace h:=bnE h;obtain⟨v70,e70,h⟩:=h
            have f71:=Ai e70
            try simp[← e56,Aa e57,f62,Ad (Aa e57).2 (k:=2) (by decide),Ab (Aa e57).2 (show 2≤2 by decide),lvs1,Aa e54,f63,Ad (Aa e54).2 (k:=2) (by decide),Ab (Aa e54).2 (show 2≤2 by decide),f64,f66,f67,f68,f69,Aa e70] at f71
            replace h:=ltE h;obtain⟨v72,e72,h⟩:=h
            have f73:=Ao (Aa e70).2 e72 (cs:=[.s (.int .i64 v54.frm),.s (.int .i64 v54.to)]) (by simp) rfl
            try simp at f73
            have f74:=f62
            try simp only[Af e72] at f74
            have f75:=f63
            try simp only[Af e72] at f75
            have f76:=f64
            try simp only[Af e72] at f76
            have f77:=f67
            try simp only[Af e72] at f77
            have f78:=f68
            try simp only[Af e72] at f78
            have f79:=f69
            try simp only[Af e72] at f79
            have f80:=f71
            try simp only[Af e72] at f80
            apply AW.drawnF (V:=[_,_,_,_,_,_,_,_,_,_,_,_,_,_,_,_]) (M:=[[some ⟨43,2,false,some 0,lvs (encSpan y50.2)⟩],[some ⟨43,2,false,some 0,lvs (encSpan v65)⟩]]) mixed [⟨[0],[],[(0,none)],false⟩,⟨[0],[],[(11,none)],false⟩,⟨[0,1],[],[(0,none)],false⟩,⟨[0,1],[],[(11,none)],false⟩,⟨[0,1],[3],[(88,some 3)],false⟩,⟨[0],[],[(0,none)],false⟩,⟨[0],[],[(11,none)],false⟩,⟨[0],[6],[(91,some 6)],false⟩,⟨[0],[5,6,7],[(90,some 5),(92,some 7)],false⟩,⟨[0],[5,6,7,8],[(93,some 8)],false⟩,⟨[0],[],[(0,none)],false⟩,⟨[0],[],[(11,none)],false⟩,⟨[0],[10,11],[(95,some 10),(96,some 11)],false⟩,⟨[0],[10,11,12],[(97,some 12)],false⟩,⟨[0],[0,1,5,6,7,8,9,10,11,12,13],[(85,some 0),(86,some 1)],false⟩,⟨[0],[0,1,5,6,7,8,9,10,11,12,13,14],[(94,some 9),(99,some 14)],true⟩,⟨[],[0,1,2,3,4,5,6,7,8,9,10,11,12,13,14,15],[],false⟩,⟨[],[0,1,2,3,4,5,6,7,8,9,10,11,12,13,14,15,16],[],false⟩] 16 1 (by kernel_rfl) (by kernel_rfl)
            ·rfl
            ·refine⟨?_,?_,⟨?_,?_⟩,⟨?_,?_⟩,⟨?_,?_⟩,?_,?_,?_,?_,?_,?_,?_,?_,?_,?_,?_,trivial⟩
             iterate 19 (· intro tm hr;simp[AllL,rdV] at hr;simp[hr,← e56,Aa e57,f62,Ad (Aa e57).2 (k:=2) (by decide),Ab (Aa e57).2 (show 2≤2 by decide),lvs1,Aa e54,f63,Ad (Aa e54).2 (k:=2) (by decide),Ab (Aa e54).2 (show 2≤2 by decide),f64,f66,f67,f68,f69,Aa e70,f71,Af e65,Ab (Aa e70).2 (show 2≤2 by decide),f73,f74,f75,f76,f77,f78,f79,f80];intros;first|exact KD.mk|exact KD.mkN)
            ·rfl
            ·simp[tmD,putD,← e56,Aa e57,f62,Ad (Aa e57).2 (k:=2) (by decide),Ab (Aa e57).2 (show 2≤2 by decide),lvs1,Aa e54,f63,Ad (Aa e54).2 (k:=2) (by decide),Ab (Aa e54).2 (show 2≤2 by decide),f64,f66,f67,f68,f69,Aa e70,f71,Af e65,Ab (Aa e70).2 (show 2≤2 by decide),f73,f74,f75,f76,f77,f78,f79,f80];rfl
            ·simp[← e56,Aa e57,f62,Ad (Aa e57).2 (k:=2) (by decide),Ab (Aa e57).2 (show 2≤2 by decide),lvs1,Aa e54,f63,Ad (Aa e54).2 (k:=2) (by decide),Ab (Aa e54).2 (show 2≤2 by decide),f64,f66,f67,f68,f69,Aa e70,f71,Af e65,Ab (Aa e70).2 (show 2≤2 by decide),f73,f74,f75,f76,f77,f78,f79,f80]
             intros;rfl
            try simp only[nm]
            apply AW.last
            ·simp[← e56]
             intros;rfl
            obtain rfl:=oi h
            refine nP_i ?_
            refine Weak.mixB 1 [some 0] hn0 (by decide) (by decide) ?_ ?_ ?_
            all_goals first|(simp[Ac,Ae,pickOb,Af e65,Af e72];done)|rfl
          |false =>
           replace h:=iteF rfl h
           refine AW.cond_false (by simp) ?_
           refine AW.exit ?_
           try simp only[nm]
           obtain rfl:=oi h
           refine xP_i ?_
           refine Weak.mixB 1 [some 0] hn0 (by decide) (by decide) ?_ ?_ ?_
           all_goals first|(simp[Ac,Ae,pickOb];done)|rfl
         ·rintro e s hp
          obtain⟨rfl,hw⟩:=hp
          refine⟨_,hw,?_⟩
          try simp only[nm]
          obtain rfl:=oi h
          refine nP_i ?_
          refine Weak.mixB 1 [some 0] hn0 (by decide) (by decide) ?_ ?_ ?_
          all_goals first|(simp[Ac,Ae,pickOb];done)|rfl
        |false =>
         replace h:=iteF rfl h
         refine AW.cond_false (by simp) ?_
         refine AW.skip ?_
         try simp only[nm]
         obtain rfl:=oi h
         refine nP_i ?_
         refine Weak.mixB 1 [some 0] hn0 (by decide) (by decide) ?_ ?_ ?_
         all_goals first|(simp[Ac,Ae,pickOb,Af e31,Af e38];done)|rfl
       ·rintro e s hp
        obtain⟨rfl,hw⟩:=hp
        refine⟨_,hw,?_⟩
        try simp only[nm]
        replace h:=ltE h;obtain⟨v81,e81,h⟩:=h
        replace h:=ltE h;obtain⟨v82,e82,h⟩:=h
        apply AW.step
        ·simp[← e81,← e82]
         intros;rfl
        cases v82 with
        |true =>
         replace h:=iteT rfl h
         refine AW.cond_true (by simp) ?_
         replace h:=ltE h;obtain⟨v83,e83,h⟩:=h
         apply AW.step
         ·simp[← e83]
          intros;rfl
         refine AW.block ?_
         replace h:=bnE h;obtain⟨y85,g85,h⟩:=h
         refine AW.iterP g85 (mk:=fun gh ls q=>(⟨[(0,.l (.r 0 2 0 q.2.length)),(1,.l (.s (.int .i64 a1))),(2,.l (.s (.int .i64 a2))),(3,.l (.s (.func (.func 95) #[] #[]))),(9,.l (.s (.int .i64 y8))),(10,.l (.s (.int .i64 y2.2.1))),(12,.l (.s (.int .i64 q.1)))],[some ⟨43,2,false,some 0,lvs (encSpan q.2)⟩],141,gh,ls⟩:St)) (N:=fun gh ls=>(xP 6 (cx:=cx) (fun q=>(⟨[(0,.l (.r 0 2 0 q.length)),(1,.l (.s (.int .i64 a1))),(2,.l (.s (.int .i64 a2))),(3,.l (.s (.func (.func 95) #[] #[]))),(9,.l (.s (.int .i64 y8))),(10,.l (.s (.int .i64 y2.2.1)))],[some ⟨43,2,false,some 0,lvs (encSpan q)⟩],141,gh,ls⟩:St)))) ?_ noX ?_ ?_
         ·refine Weak.mixB 1 [some 0] hn0 (by decide) (by decide) ?_ ?_ ?_
          all_goals first|(simp[Ac,Ae,pickOb];done)|rfl
         ·clear h;intro y84 y86 h
          refine AW.seq ?_
          replace h:=ltE h;obtain⟨v87,e87,h⟩:=h
          apply AW.step
          ·simp[← e87]
           intros;rfl
          cases v87 with
          |true =>
           replace h:=iteT rfl h
           refine AW.cond_true (by simp) ?_
           refine AW.skip ?_
           try simp only[nm]
           refine AW.seq ?_
           refine AW.block ?_
           refine AW.seq ?_
           replace h:=bnE h;obtain⟨v88,e88,h⟩:=h
           have f89:=Ai e88
           try simp[Aa e88] at f89
           replace h:=ltE h;obtain⟨v90,e90,h⟩:=h
           replace h:=bnE h;obtain⟨v91,e91,h⟩:=h
           have f92:=Ai e91
           try simp[Aa e88,f89,Ad (Aa e88).2 (k:=2) (by decide),Ab (Aa e88).2 (show 2≤2 by decide),lvs1,← e90,Aa e91] at f92
           replace h:=bnE h;obtain⟨v93,e93,h⟩:=h
           replace h:=ltE h;obtain⟨v94,e94,h⟩:=h
           replace h:=ltE h;obtain⟨v95,e95,h⟩:=h
           apply AW.drawnP (V:=[_,_,_,_,_,_,_,_,_,_]) mixed [⟨[0],[],[(3,none)],false⟩,⟨[0],[],[(0,none)],false⟩,⟨[0],[],[(12,none)],false⟩,⟨[0],[1,2],[(113,some 1),(114,some 2)],false⟩,⟨[0],[1,2,3],[(115,some 3)],false⟩,⟨[0],[],[(0,none)],false⟩,⟨[0],[],[(12,none)],false⟩,⟨[0],[6],[(118,some 6)],false⟩,⟨[0],[5,6,7],[(117,some 5),(119,some 7)],false⟩,⟨[0],[5,6,7,8],[(120,some 8)],false⟩,⟨[],[0,1,2,3,4,5,6,7,8,9],[],false⟩,⟨[],[0,1,2,3,4,5,6,7,8,9,10],[],false⟩,⟨[],[0,1,2,3,4,5,6,7,8,9,10,11],[],false⟩] 10 (by kernel_rfl) (by kernel_rfl)
           ·refine⟨?_,?_,?_,?_,?_,?_,?_,?_,?_,?_,trivial⟩
            iterate 10 (· intro tm hr;simp[AllL,rdV] at hr;simp[hr,Aa e88,f89,Ad (Aa e88).2 (k:=2) (by decide),Ab (Aa e88).2 (show 2≤2 by decide),lvs1,← e90,Aa e91,f92,Ad (Aa e91).2 (k:=2) (by decide),Ab (Aa e91).2 (show 2≤2 by decide),← e94,← e95];intros;first|exact KD.mk|exact KD.mkN)
           ·rfl
           ·simp[tmD,putD,Aa e88,f89,Ad (Aa e88).2 (k:=2) (by decide),Ab (Aa e88).2 (show 2≤2 by decide),lvs1,← e90,Aa e91,f92,Ad (Aa e91).2 (k:=2) (by decide),Ab (Aa e91).2 (show 2≤2 by decide),← e94,← e95];rfl
           ·simp[Aa e88,f89,Ad (Aa e88).2 (k:=2) (by decide),Ab (Aa e88).2 (show 2≤2 by decide),lvs1,← e90,Aa e91,f92,Ad (Aa e91).2 (k:=2) (by decide),Ab (Aa e91).2 (show 2≤2 by decide),← e94,← e95]
            intros
            refine Ag AB (AE e93) rfl ⟨.same rfl,.same rfl,trivial⟩ ?_
            try simp[Aa e88,f89,Ad (Aa e88).2 (k:=2) (by decide),Ab (Aa e88).2 (show 2≤2 by decide),lvs1,← e90,Aa e91,f92,Ad (Aa e91).2 (k:=2) (by decide),Ab (Aa e91).2 (show 2≤2 by decide),← e94,← e95]
            intros;rfl
           cases v95 with
           |true =>
            replace h:=iteT rfl h
            refine AW.cond_true (by simp) ?_
            refine AW.exit ?_
            try simp only[nm]
            obtain rfl:=oi h
            refine xP_i ?_
            refine Weak.mixB 1 [some 0] hn0 (by decide) (by decide) ?_ ?_ ?_
            all_goals first|(simp[Ac,Ae,pickOb];done)|rfl
           |false =>
            replace h:=iteF rfl h
            refine AW.cond_false (by simp) ?_
            refine AW.skip ?_
            try simp only[nm]
            have f96:=Ai e91
            try simp[← e90,Aa e91] at f96
            have f97:=Ai e88
            try simp[← e90,Aa e91,f96,Ad (Aa e91).2 (k:=2) (by decide),Ab (Aa e91).2 (show 2≤2 by decide),lvs1,Aa e88] at f97
            have f98:=Ai e88
            try simp[← e90,Aa e91,f96,Ad (Aa e91).2 (k:=2) (by decide),Ab (Aa e91).2 (show 2≤2 by decide),lvs1,Aa e88,f97,Ad (Aa e88).2 (k:=2) (by decide),Ab (Aa e88).2 (show 2≤2 by decide)] at f98
            replace h:=ltE h;obtain⟨v99,e99,h⟩:=h
            have f100:=Ao (Aa e88).2 e99 (cs:=[.s (.int .i64 v91.frm),.s (.int .i64 v91.to)]) (by simp) rfl
            try simp at f100
            have f101:=f96
            try simp only[Af e99] at f101
            have f102:=f97
            try simp only[Af e99] at f102
            have f103:=f98
            try simp only[Af e99] at f103
            replace h:=bnE h;obtain⟨v104,e104,h⟩:=h
            have f105:=Ai e104
            try simp[← e90,Aa e91,f96,Ad (Aa e91).2 (k:=2) (by decide),Ab (Aa e91).2 (show 2≤2 by decide),lvs1,Aa e88,f97,Ad (Aa e88).2 (k:=2) (by decide),Ab (Aa e88).2 (show 2≤2 by decide),f98,f100,f101,f102,f103,Aa e104] at f105
            replace h:=ltE h;obtain⟨v106,e106,h⟩:=h
            have f107:=Ao (Aa e104).2 e106 (cs:=[.s (.int .i64 v88.frm),.s (.int .i64 v88.to)]) (by simp) rfl
            try simp at f107
            have f108:=f96
            try simp only[Af e106] at f108
            have f109:=f97
            try simp only[Af e106] at f109
            have f110:=f98
            try simp only[Af e106] at f110
            have f111:=f101
            try simp only[Af e106] at f111
            have f112:=f102
            try simp only[Af e106] at f112
            have f113:=f103
            try simp only[Af e106] at f113
            have f114:=f105
            try simp only[Af e106] at f114
            apply AW.drawnF (V:=[_,_,_,_,_,_,_,_,_,_,_,_,_,_,_,_]) (M:=[[some ⟨43,2,false,some 0,lvs (encSpan y84.2)⟩],[some ⟨43,2,false,some 0,lvs (encSpan v99)⟩]]) mixed [⟨[0],[],[(0,none)],false⟩,⟨[0],[],[(12,none)],false⟩,⟨[0,1],[],[(0,none)],false⟩,⟨[0,1],[],[(12,none)],false⟩,⟨[0,1],[3],[(128,some 3)],false⟩,⟨[0],[],[(0,none)],false⟩,⟨[0],[],[(12,none)],false⟩,⟨[0],[6],[(131,some 6)],false⟩,⟨[0],[5,6,7],[(130,some 5),(132,some 7)],false⟩,⟨[0],[5,6,7,8],[(133,some 8)],false⟩,⟨[0],[],[(0,none)],false⟩,⟨[0],[],[(12,none)],false⟩,⟨[0],[10,11],[(135,some 10),(136,some 11)],false⟩,⟨[0],[10,11,12],[(137,some 12)],false⟩,⟨[0],[0,1,5,6,7,8,9,10,11,12,13],[(125,some 0),(126,some 1)],false⟩,⟨[0],[0,1,5,6,7,8,9,10,11,12,13,14],[(134,some 9),(139,some 14)],true⟩,⟨[],[0,1,2,3,4,5,6,7,8,9,10,11,12,13,14,15],[],false⟩,⟨[],[0,1,2,3,4,5,6,7,8,9,10,11,12,13,14,15,16],[],false⟩] 16 1 (by kernel_rfl) (by kernel_rfl)
            ·rfl
            ·refine⟨?_,?_,⟨?_,?_⟩,⟨?_,?_⟩,⟨?_,?_⟩,?_,?_,?_,?_,?_,?_,?_,?_,?_,?_,?_,trivial⟩
             iterate 19 (· intro tm hr;simp[AllL,rdV] at hr;simp[hr,← e90,Aa e91,f96,Ad (Aa e91).2 (k:=2) (by decide),Ab (Aa e91).2 (show 2≤2 by decide),lvs1,Aa e88,f97,Ad (Aa e88).2 (k:=2) (by decide),Ab (Aa e88).2 (show 2≤2 by decide),f98,f100,f101,f102,f103,Aa e104,f105,Af e99,Ab (Aa e104).2 (show 2≤2 by decide),f107,f108,f109,f110,f111,f112,f113,f114];intros;first|exact KD.mk|exact KD.mkN)
            ·rfl
            ·simp[tmD,putD,← e90,Aa e91,f96,Ad (Aa e91).2 (k:=2) (by decide),Ab (Aa e91).2 (show 2≤2 by decide),lvs1,Aa e88,f97,Ad (Aa e88).2 (k:=2) (by decide),Ab (Aa e88).2 (show 2≤2 by decide),f98,f100,f101,f102,f103,Aa e104,f105,Af e99,Ab (Aa e104).2 (show 2≤2 by decide),f107,f108,f109,f110,f111,f112,f113,f114];rfl
            ·simp[← e90,Aa e91,f96,Ad (Aa e91).2 (k:=2) (by decide),Ab (Aa e91).2 (show 2≤2 by decide),lvs1,Aa e88,f97,Ad (Aa e88).2 (k:=2) (by decide),Ab (Aa e88).2 (show 2≤2 by decide),f98,f100,f101,f102,f103,Aa e104,f105,Af e99,Ab (Aa e104).2 (show 2≤2 by decide),f107,f108,f109,f110,f111,f112,f113,f114]
             intros;rfl
            try simp only[nm]
            replace h:=ltE h;obtain⟨v115,e115,h⟩:=h
            apply AW.last
            ·simp[← e115]
             intros;rfl
            obtain rfl:=oi h
            refine nP_i ?_
            refine Weak.mixB 1 [some 0] hn0 (by decide) (by decide) ?_ ?_ ?_
            all_goals first|(simp[Ac,Ae,pickOb,Af e106,Af e99];done)|rfl
          |false =>
           replace h:=iteF rfl h
           refine AW.cond_false (by simp) ?_
           refine AW.exit ?_
           try simp only[nm]
           obtain rfl:=oi h
           refine xP_i ?_
           refine Weak.mixB 1 [some 0] hn0 (by decide) (by decide) ?_ ?_ ?_
           all_goals first|(simp[Ac,Ae,pickOb];done)|rfl
         ·rintro e s hp
          obtain⟨rfl,hw⟩:=hp
          refine⟨_,hw,?_⟩
          try simp only[nm]
          obtain rfl:=oi h
          try simp only[sp_l,sp_r]
          refine nP_i ?_
          refine Weak.mixB 1 [some 0] hn0 (by decide) (by decide) ?_ ?_ ?_
          all_goals first|(simp[Ac,Ae,pickOb];done)|rfl
        |false =>
         replace h:=iteF rfl h
         refine AW.cond_false (by simp) ?_
         refine AW.skip ?_
         try simp only[nm]
         obtain rfl:=oi h
         try simp only[sp_l,sp_r]
         refine nP_i ?_
         refine Weak.mixB 1 [some 0] hn0 (by decide) (by decide) ?_ ?_ ?_
         all_goals first|(simp[Ac,Ae,pickOb];done)|rfl
   ·rintro e s hp
    rcases y6 with y116|y117
    ·replace h:=smL h
     obtain⟨rfl,hw⟩:=hp
     refine⟨_,hw,?_⟩
     try simp only[nm]
     replace h:=ltE h;obtain⟨v118,e118,h⟩:=h
     apply AW.last
     ·simp[← e118]
      intros;rfl
     obtain rfl:=oi h
     refine nP_i ?_
     refine Weak.mixB 1 [some 0] hn0 (by decide) (by decide) ?_ ?_ ?_
     all_goals first|(simp[Ac,Ae,pickOb];done)|rfl
    ·replace h:=smR h
     obtain⟨rfl,hl⟩:=hp
     refine⟨_,Weak.refl _,?_⟩
     obtain rfl:=oi h
     first|exact rP_i hl|(simp only[sp_l,sp_r];exact rP_i hl)|(simp only[sp_l,sp_r,Post.seq,Post.block,Nat.reduceEqDiff,reduceIte,Nat.zero_ne_one,Nat.one_ne_zero];exact rP_i hl)
  |false =>
   replace h:=iteF rfl h
   refine AW.cond_false (by simp) ?_
   refine AW.exit ?_
   try simp only[nm]
   obtain rfl:=oi h
   try simp only[sp_l,sp_r]
   refine xP_i ?_
   refine Weak.mixB 1 [some 0] hn0 (by decide) (by decide) ?_ ?_ ?_
   all_goals first|(simp[Ac,Ae,pickOb];done)|rfl
 ·rintro e s hp
  rcases y3 with y119|y120
  ·replace h:=smL h
   obtain⟨rfl,hw⟩:=hp
   refine⟨_,hw,?_⟩
   try simp only[nm]
   apply AW.step
   ·simp
    intros;rfl
   obtain rfl:=oi h
   refine AW.ret ?_
   refine Left.of (av:=_) (by simp[Try.f147,resV,resC,comp];rfl) ?_
   exact LeftV.mix 1 [some 0] hn0 rfl (by decide) rfl (by simp[pickOb,Ac,Ae]) (by simp[Ac,Ae])
  ·replace h:=smR h
   obtain⟨rfl,hl⟩:=hp
   refine⟨_,Weak.refl _,?_⟩
   obtain rfl:=oi h
   exact hl
theorem BB:Enters Try.prog 147:=enters Try.func147 (by kernel_rfl) rfl
def AS (n:Nat) (a0:List Span) (a1:Int) (a2:Int) (a3:Int):Option (Int×List Span) :=
bn (nth a0 a3) fun v1 =>
bn (nth a0 a1) fun v3 =>
lt (a0.set a1.toNat v1) fun v6 =>
bn (nth v6 a3) fun v11 =>
lt (v6.set a3.toNat v3) fun v13 =>
lt (addI .i64 a1 1) fun v22 =>
lt (subI .i64 a2 1) fun v23 =>
bn (iter n (fun (y24:Int×Int×List Span) =>
bn (iter n (fun (y27:Int) =>
bn (lt (leI y27 y24.2.1) fun v31 =>
ite' v31 (bn (nth y24.2.2 a1) fun v32 =>
bn (nth y24.2.2 y27) fun v34 =>
bn (Av n v32 v34) fun v36 =>
lt (ltI v36 0) fun v37 =>
lt (notB v37) fun v38 =>
some (v38)) (some (false))) fun (y30:Bool) =>
lt (y30) fun v39 =>
ite' v39 (lt (addI .i64 y27 1) fun v40 =>
some (.inl v40)) (some (.inr y27))) y24.1) fun (y28:Int) =>
bn (iter n (fun (y41:Int) =>
bn (lt (leI y28 y41) fun v45 =>
ite' v45 (bn (nth y24.2.2 a1) fun v46 =>
bn (nth y24.2.2 y41) fun v48 =>
bn (Av n v46 v48) fun v50 =>
lt (ltI v50 0) fun v51 =>
some (v51)) (some (false))) fun (y44:Bool) =>
lt (y44) fun v52 =>
ite' v52 (lt (subI .i64 y41 1) fun v53 =>
some (.inl v53)) (some (.inr y41))) y24.2.1) fun (y42:Int) =>
lt (gtI y28 y42) fun v54 =>
ite' v54 (some (.inr (y28,y24.2.2))) (bn (nth y24.2.2 y42) fun v55 =>
bn (nth y24.2.2 y28) fun v57 =>
lt (y24.2.2.set y28.toNat v55) fun v60 =>
bn (nth v60 y42) fun v65 =>
lt (v60.set y42.toNat v57) fun v67 =>
lt (addI .i64 y28 1) fun v76 =>
lt (subI .i64 y42 1) fun v77 =>
some (.inl (v76,v77,v67)))) (v22,v23,v13)) fun (y25:Int×List Span) =>
some (y25.1,y25.2)
def DX20t4:List DI:=[⟨[0],[],[(11,none)],false⟩,⟨[0],[],[(12,none)],false⟩,⟨[0],[0,1],[(31,some 0),(32,some 1)],false⟩,⟨[0],[0,1,2],[(33,some 2)],false⟩,⟨[0],[0,1,2,3],[(4,none),(34,some 3)],false⟩,⟨[0],[0,1,2,3],[(0,none),(34,some 3)],false⟩,⟨[0],[0,1,2,3],[(1,none),(34,some 3)],false⟩,⟨[0],[0,1,2,3,5,6],[(34,some 3),(36,some 5),(37,some 6)],false⟩,⟨[0],[0,1,2,3,5,6,7],[(34,some 3),(38,some 7)],false⟩,⟨[0],[0,1,2,3],[(0,none),(34,some 3)],false⟩,⟨[0],[0,1,2,3],[(11,none),(34,some 3)],false⟩,⟨[0],[0,1,2,3,9,10],[(34,some 3),(40,some 9),(41,some 10)],false⟩,⟨[0],[0,1,2,3,9,10,11],[(34,some 3),(42,some 11)],false⟩,⟨[],[0,1,2,3,4,5,6,7,8,9,10,11,12],[],false⟩,⟨[],[0,1,2,3,4,5,6,7,8,9,10,11,12,13],[],false⟩,⟨[],[0,1,2,3,4,5,6,7,8,9,10,11,12,13,14],[],false⟩,⟨[],[0,1,2,3,4,5,6,7,8,9,10,11,12,13,14,15],[],false⟩]
def DX20t5:List DI:=[⟨[0],[],[(11,none)],false⟩,⟨[0],[],[(12,none)],false⟩,⟨[0],[0,1],[(50,some 0),(51,some 1)],false⟩,⟨[0],[0,1,2],[(52,some 2)],false⟩,⟨[0],[0,1,2,3],[(4,none),(53,some 3)],false⟩,⟨[0],[0,1,2,3],[(0,none),(53,some 3)],false⟩,⟨[0],[0,1,2,3],[(1,none),(53,some 3)],false⟩,⟨[0],[0,1,2,3,5,6],[(53,some 3),(55,some 5),(56,some 6)],false⟩,⟨[0],[0,1,2,3,5,6,7],[(53,some 3),(57,some 7)],false⟩,⟨[0],[0,1,2,3],[(0,none),(53,some 3)],false⟩,⟨[0],[0,1,2,3],[(12,none),(53,some 3)],false⟩,⟨[0],[0,1,2,3,9,10],[(53,some 3),(59,some 9),(60,some 10)],false⟩,⟨[0],[0,1,2,3,9,10,11],[(53,some 3),(61,some 11)],false⟩,⟨[],[0,1,2,3,4,5,6,7,8,9,10,11,12],[],false⟩,⟨[],[0,1,2,3,4,5,6,7,8,9,10,11,12,13],[],false⟩,⟨[],[0,1,2,3,4,5,6,7,8,9,10,11,12,13,14],[],false⟩]
theorem BY {n:Nat} {a0:List Span} {a1:Int} {a2:Int} {a3:Int} {r:Int×List Span} (h:AS n a0 a1 a2 a3=some r):Sound Try.prog 148 [.l (.r 0 2 0 a0.length),.l (.s (.int .i64 a1)),.l (.s (.int .i64 a2)),.l (.s (.int .i64 a3)),.l (.s (.func (.func 95) #[] #[]))] [⟨43,2,false,some 0,lvs (encSpan a0)⟩] (.l (.s (.int .i64 r.1))) [some ⟨43,2,false,some 0,lvs (encSpan r.2)⟩]:=by
 unfold AS at h
 refine Sound.of_aw (fn:=Try.f148) (c:=_) Try.func148 rfl (by simp[Try.f148]) fun cx hG hnb=>?_
 rw[show Try.f148.ntmps=90 from rfl]
 have hn0:cx.nb=1:=hnb
 simp only[Al,initTm,List.map_cons,List.map_nil]
 apply AW.step
 ·simp
  intros;rfl
 replace h:=bnE h;obtain⟨v1,e1,h⟩:=h
 have f2:=Ai e1
 try simp[Aa e1] at f2
 replace h:=bnE h;obtain⟨v3,e3,h⟩:=h
 have f4:=Ai e3
 try simp[Aa e1,f2,Ad (Aa e1).2 (k:=2) (by decide),Ab (Aa e1).2 (show 2≤2 by decide),lvs1,Aa e3] at f4
 have f5:=Ai e3
 try simp[Aa e1,f2,Ad (Aa e1).2 (k:=2) (by decide),Ab (Aa e1).2 (show 2≤2 by decide),lvs1,Aa e3,f4,Ad (Aa e3).2 (k:=2) (by decide),Ab (Aa e3).2 (show 2≤2 by decide)] at f5
 replace h:=ltE h;obtain⟨v6,e6,h⟩:=h
 have f7:=Ao (Aa e3).2 e6 (cs:=[.s (.int .i64 v1.frm),.s (.int .i64 v1.to)]) (by simp) rfl
 try simp at f7
 have f8:=f2
 try simp only[Af e6] at f8
 have f9:=f4
 try simp only[Af e6] at f9
 have f10:=f5
 try simp only[Af e6] at f10
 replace h:=bnE h;obtain⟨v11,e11,h⟩:=h
 have f12:=Ai e11
 try simp[Aa e1,f2,Ad (Aa e1).2 (k:=2) (by decide),Ab (Aa e1).2 (show 2≤2 by decide),lvs1,Aa e3,f4,Ad (Aa e3).2 (k:=2) (by decide),Ab (Aa e3).2 (show 2≤2 by decide),f5,f7,f8,f9,f10,Aa e11] at f12
 replace h:=ltE h;obtain⟨v13,e13,h⟩:=h
 have f14:=Ao (Aa e11).2 e13 (cs:=[.s (.int .i64 v3.frm),.s (.int .i64 v3.to)]) (by simp) rfl
 try simp at f14
 have f15:=f2
 try simp only[Af e13] at f15
 have f16:=f4
 try simp only[Af e13] at f16
 have f17:=f5
 try simp only[Af e13] at f17
 have f18:=f8
 try simp only[Af e13] at f18
 have f19:=f9
 try simp only[Af e13] at f19
 have f20:=f10
 try simp only[Af e13] at f20
 have f21:=f12
 try simp only[Af e13] at f21
 apply AW.drawnE (V:=[_,_,_,_,_,_,_,_,_,_,_,_,_,_]) (M:=[[some ⟨43,2,false,some 0,lvs (encSpan a0)⟩],[some ⟨43,2,false,some 0,lvs (encSpan v6)⟩]]) mixed [⟨[0],[],[(0,none)],false⟩,⟨[0],[],[(1,none)],false⟩,⟨[0,1],[],[(0,none)],false⟩,⟨[0,1],[],[(3,none)],false⟩,⟨[0],[],[(0,none)],false⟩,⟨[0],[],[(3,none)],false⟩,⟨[0],[4,5],[(17,some 4),(18,some 5)],false⟩,⟨[0],[4,5,6],[(19,some 6)],false⟩,⟨[0],[],[(0,none)],false⟩,⟨[0],[],[(1,none)],false⟩,⟨[0],[8,9],[(21,some 8),(22,some 9)],false⟩,⟨[0],[8,9,10],[(23,some 10)],false⟩,⟨[0],[0,1,4,5,6,7,8,9,10,11],[(13,some 0),(14,some 1)],false⟩,⟨[0],[0,1,4,5,6,7,8,9,10,11,12],[(20,some 7),(25,some 12)],true⟩,⟨[],[0,1,2,3,4,5,6,7,8,9,10,11,12,13],[],false⟩,⟨[],[0,1,2,3,4,5,6,7,8,9,10,11,12,13,14],[],false⟩] 14 1 (by kernel_rfl) (by kernel_rfl)
 ·rfl
 ·refine⟨?_,?_,⟨?_,?_⟩,⟨?_,?_⟩,?_,?_,?_,?_,?_,?_,?_,?_,?_,?_,trivial⟩
  iterate 16 (· intro tm hr;simp[AllL,rdV] at hr;simp[hr,Aa e1,f2,Ad (Aa e1).2 (k:=2) (by decide),Ab (Aa e1).2 (show 2≤2 by decide),lvs1,Aa e3,f4,Ad (Aa e3).2 (k:=2) (by decide),Ab (Aa e3).2 (show 2≤2 by decide),f5,f7,f8,f9,f10,Aa e11,f12,Af e6,Ab (Aa e11).2 (show 2≤2 by decide),f14,f15,f16,f17,f18,f19,f20,f21];intros;first|exact KD.mk|exact KD.mkN)
 ·rfl
 ·simp[tmD,putD,Aa e1,f2,Ad (Aa e1).2 (k:=2) (by decide),Ab (Aa e1).2 (show 2≤2 by decide),lvs1,Aa e3,f4,Ad (Aa e3).2 (k:=2) (by decide),Ab (Aa e3).2 (show 2≤2 by decide),f5,f7,f8,f9,f10,Aa e11,f12,Af e6,Ab (Aa e11).2 (show 2≤2 by decide),f14,f15,f16,f17,f18,f19,f20,f21];rfl
 ·simp[Aa e1,f2,Ad (Aa e1).2 (k:=2) (by decide),Ab (Aa e1).2 (show 2≤2 by decide),lvs1,Aa e3,f4,Ad (Aa e3).2 (k:=2) (by decide),Ab (Aa e3).2 (show 2≤2 by decide),f5,f7,f8,f9,f10,Aa e11,f12,Af e6,Ab (Aa e11).2 (show 2≤2 by decide),f14,f15,f16,f17,f18,f19,f20,f21]
  intros;rfl
 replace h:=ltE h;obtain⟨v22,e22,h⟩:=h
 replace h:=ltE h;obtain⟨v23,e23,h⟩:=h
 apply AW.step
 ·simp[← e22,← e23]
  intros;rfl
 refine AW.seq ?_
 refine AW.block ?_
 replace h:=bnE h;obtain⟨y25,g25,h⟩:=h
 refine AW.iterP g25 (mk:=fun gh ls q=>(⟨[(0,.l (.r 0 2 0 q.2.2.length)),(1,.l (.s (.int .i64 a1))),(4,.l (.s (.func (.func 95) #[] #[]))),(11,.l (.s (.int .i64 q.1))),(12,.l (.s (.int .i64 q.2.1)))],[some ⟨43,2,false,some 0,lvs (encSpan q.2.2)⟩],90,gh,ls⟩:St)) (N:=fun gh ls=>(xP 0 (cx:=cx) (fun q=>(⟨[(11,.l (.s (.int .i64 q.1)))],[some ⟨43,2,false,some 0,lvs (encSpan q.2)⟩],90,gh,ls⟩:St)))) ?_ noX ?_ ?_
 ·refine Weak.mixB 1 [some 0] hn0 (by decide) (by decide) ?_ ?_ ?_
  all_goals first|(simp[Ac,Ae,pickOb,Af e13,Af e6];done)|rfl
 ·clear h;intro y24 y26 h
  refine AW.block ?_
  refine AW.seq ?_
  refine AW.block ?_
  replace h:=bnE h;obtain⟨y28,g28,h⟩:=h
  refine AW.iterP g28 (mk:=fun gh ls q=>(⟨[(0,.l (.r 0 2 0 y24.2.2.length)),(1,.l (.s (.int .i64 a1))),(4,.l (.s (.func (.func 95) #[] #[]))),(11,.l (.s (.int .i64 q))),(12,.l (.s (.int .i64 y24.2.1)))],[some ⟨43,2,false,some 0,lvs (encSpan y24.2.2)⟩],90,gh,ls⟩:St)) (N:=fun gh ls=>(xP 2 (cx:=cx) (fun q=>(⟨[(0,.l (.r 0 2 0 y24.2.2.length)),(1,.l (.s (.int .i64 a1))),(4,.l (.s (.func (.func 95) #[] #[]))),(11,.l (.s (.int .i64 q))),(12,.l (.s (.int .i64 y24.2.1)))],[some ⟨43,2,false,some 0,lvs (encSpan y24.2.2)⟩],90,gh,ls⟩:St)))) ?_ noX ?_ ?_
  ·refine Weak.mixB 1 [some 0] hn0 (by decide) (by decide) ?_ ?_ ?_
   all_goals first|(simp[Ac,Ae,pickOb];done)|rfl
  ·clear h;intro y27 y29 h
   refine AW.seq ?_
   replace h:=bnE h;obtain⟨y30,g30,h⟩:=h
   refine AW.flow (p:=fun gh ls=>(nP (cx:=cx) (fun q=>(⟨[(0,.l (.r 0 2 0 y24.2.2.length)),(1,.l (.s (.int .i64 a1))),(4,.l (.s (.func (.func 95) #[] #[]))),(11,.l (.s (.int .i64 y27))),(12,.l (.s (.int .i64 y24.2.1))),(47,.l (.s (.bool q)))],[some ⟨43,2,false,some 0,lvs (encSpan y24.2.2)⟩],90,gh,ls⟩:St))) y30) ?_ ?_
   ·replace h:=g30;clear g30
    replace h:=ltE h;obtain⟨v31,e31,h⟩:=h
    cases v31 with
    |true =>
     replace h:=iteT rfl h
     replace h:=bnE h;obtain⟨v32,e32,h⟩:=h
     have f33:=Ai e32
     try simp[← e31,Aa e32] at f33
     replace h:=bnE h;obtain⟨v34,e34,h⟩:=h
     have f35:=Ai e34
     try simp[← e31,Aa e32,f33,Ad (Aa e32).2 (k:=2) (by decide),Ab (Aa e32).2 (show 2≤2 by decide),lvs1,Aa e34] at f35
     replace h:=bnE h;obtain⟨v36,e36,h⟩:=h
     replace h:=ltE h;obtain⟨v37,e37,h⟩:=h
     replace h:=ltE h;obtain⟨v38,e38,h⟩:=h
     apply AW.drawnR (V:=[_,_,_,_,_,_,_,_,_,_,_,_,_]) mixed DX20t4 13 (by kernel_rfl) (by kernel_rfl)
     ·refine⟨?_,?_,?_,?_,?_,?_,?_,?_,?_,?_,?_,?_,?_,trivial⟩
      iterate 13 (· intro tm hr;simp[AllL,rdV] at hr;simp[hr,← e31,Aa e32,f33,Ad (Aa e32).2 (k:=2) (by decide),Ab (Aa e32).2 (show 2≤2 by decide),lvs1,Aa e34,f35,Ad (Aa e34).2 (k:=2) (by decide),Ab (Aa e34).2 (show 2≤2 by decide),← e37,← e38];intros;first|exact KD.mk|exact KD.mkN)
     ·rfl
     ·simp[tmD,putD,← e31,Aa e32,f33,Ad (Aa e32).2 (k:=2) (by decide),Ab (Aa e32).2 (show 2≤2 by decide),lvs1,Aa e34,f35,Ad (Aa e34).2 (k:=2) (by decide),Ab (Aa e34).2 (show 2≤2 by decide),← e37,← e38];rfl
     ·simp[← e31,Aa e32,f33,Ad (Aa e32).2 (k:=2) (by decide),Ab (Aa e32).2 (show 2≤2 by decide),lvs1,Aa e34,f35,Ad (Aa e34).2 (k:=2) (by decide),Ab (Aa e34).2 (show 2≤2 by decide),← e37,← e38]
      intros
      refine Ag AB (AE e36) rfl ⟨.same rfl,.same rfl,trivial⟩ ?_
      try simp[← e31,Aa e32,f33,Ad (Aa e32).2 (k:=2) (by decide),Ab (Aa e32).2 (show 2≤2 by decide),lvs1,Aa e34,f35,Ad (Aa e34).2 (k:=2) (by decide),Ab (Aa e34).2 (show 2≤2 by decide),← e37,← e38]
      intros;rfl
     obtain rfl:=oi h
     refine nP_i ?_
     refine Weak.mixB 1 [some 0] hn0 (by decide) (by decide) ?_ ?_ ?_
     all_goals first|(simp[Ac,Ae,pickOb];done)|rfl
    |false =>
     replace h:=iteF rfl h
     apply AW.drawnR (V:=[_,_,_,_,_,_,_,_,_,_,_,_,_]) mixed DX20t4 13 (by kernel_rfl) (by kernel_rfl)
     ·refine⟨?_,?_,?_,?_,?_,?_,?_,?_,?_,?_,?_,?_,?_,trivial⟩
      iterate 13 (· intro tm hr;simp[AllL,rdV] at hr;simp[hr,← e31];intros;first|exact KD.mk|exact KD.mkN)
     ·rfl
     ·simp[tmD,putD,← e31];rfl
     ·simp[← e31]
      intros;rfl
     obtain rfl:=oi h
     refine nP_i ?_
     refine Weak.mixB 1 [some 0] hn0 (by decide) (by decide) ?_ ?_ ?_
     all_goals first|(simp[Ac,Ae,pickOb];done)|rfl
   ·rintro e s hp
    obtain⟨rfl,hw⟩:=hp
    refine⟨_,hw,?_⟩
    try simp only[nm]
    replace h:=ltE h;obtain⟨v39,e39,h⟩:=h
    rw[← e39]
    cases v39 with
    |true =>
     replace h:=iteT rfl h
     refine AW.cond_true (by simp) ?_
     refine AW.skip ?_
     try simp only[nm]
     refine AW.block ?_
     replace h:=ltE h;obtain⟨v40,e40,h⟩:=h
     apply AW.last
     ·simp[← e40]
      intros;rfl
     obtain rfl:=oi h
     refine nP_i ?_
     refine Weak.mixB 1 [some 0] hn0 (by decide) (by decide) ?_ ?_ ?_
     all_goals first|(simp[Ac,Ae,pickOb];done)|rfl
    |false =>
     replace h:=iteF rfl h
     refine AW.cond_false (by simp) ?_
     refine AW.exit ?_
     try simp only[nm]
     obtain rfl:=oi h
     refine xP_i ?_
     refine Weak.mixB 1 [some 0] hn0 (by decide) (by decide) ?_ ?_ ?_
     all_goals first|(simp[Ac,Ae,pickOb];done)|rfl
  ·rintro e s hp
   obtain⟨rfl,hw⟩:=hp
   refine⟨_,hw,?_⟩
   try simp only[nm]
   refine AW.seq ?_
   refine AW.block ?_
   replace h:=bnE h;obtain⟨y42,g42,h⟩:=h
   refine AW.iterP g42 (mk:=fun gh ls q=>(⟨[(0,.l (.r 0 2 0 y24.2.2.length)),(1,.l (.s (.int .i64 a1))),(4,.l (.s (.func (.func 95) #[] #[]))),(11,.l (.s (.int .i64 y28))),(12,.l (.s (.int .i64 q)))],[some ⟨43,2,false,some 0,lvs (encSpan y24.2.2)⟩],90,gh,ls⟩:St)) (N:=fun gh ls=>(xP 4 (cx:=cx) (fun q=>(⟨[(0,.l (.r 0 2 0 y24.2.2.length)),(1,.l (.s (.int .i64 a1))),(4,.l (.s (.func (.func 95) #[] #[]))),(11,.l (.s (.int .i64 y28))),(12,.l (.s (.int .i64 q)))],[some ⟨43,2,false,some 0,lvs (encSpan y24.2.2)⟩],90,gh,ls⟩:St)))) ?_ noX ?_ ?_
   ·refine Weak.mixB 1 [some 0] hn0 (by decide) (by decide) ?_ ?_ ?_
    all_goals first|(simp[Ac,Ae,pickOb];done)|rfl
   ·clear h;intro y41 y43 h
    refine AW.seq ?_
    replace h:=bnE h;obtain⟨y44,g44,h⟩:=h
    refine AW.flow (p:=fun gh ls=>(nP (cx:=cx) (fun q=>(⟨[(0,.l (.r 0 2 0 y24.2.2.length)),(1,.l (.s (.int .i64 a1))),(4,.l (.s (.func (.func 95) #[] #[]))),(11,.l (.s (.int .i64 y28))),(12,.l (.s (.int .i64 y41))),(65,.l (.s (.bool q)))],[some ⟨43,2,false,some 0,lvs (encSpan y24.2.2)⟩],90,gh,ls⟩:St))) y44) ?_ ?_
    ·replace h:=g44;clear g44
     replace h:=ltE h;obtain⟨v45,e45,h⟩:=h
     cases v45 with
     |true =>
      replace h:=iteT rfl h
      replace h:=bnE h;obtain⟨v46,e46,h⟩:=h
      have f47:=Ai e46
      try simp[← e45,Aa e46] at f47
      replace h:=bnE h;obtain⟨v48,e48,h⟩:=h
      have f49:=Ai e48
      try simp[← e45,Aa e46,f47,Ad (Aa e46).2 (k:=2) (by decide),Ab (Aa e46).2 (show 2≤2 by decide),lvs1,Aa e48] at f49
      replace h:=bnE h;obtain⟨v50,e50,h⟩:=h
      replace h:=ltE h;obtain⟨v51,e51,h⟩:=h
      apply AW.drawnR (V:=[_,_,_,_,_,_,_,_,_,_,_,_,_]) mixed DX20t5 13 (by kernel_rfl) (by kernel_rfl)
      ·refine⟨?_,?_,?_,?_,?_,?_,?_,?_,?_,?_,?_,?_,?_,trivial⟩
       iterate 13 (· intro tm hr;simp[AllL,rdV] at hr;simp[hr,← e45,Aa e46,f47,Ad (Aa e46).2 (k:=2) (by decide),Ab (Aa e46).2 (show 2≤2 by decide),lvs1,Aa e48,f49,Ad (Aa e48).2 (k:=2) (by decide),Ab (Aa e48).2 (show 2≤2 by decide),← e51];intros;first|exact KD.mk|exact KD.mkN)
      ·rfl
      ·simp[tmD,putD,← e45,Aa e46,f47,Ad (Aa e46).2 (k:=2) (by decide),Ab (Aa e46).2 (show 2≤2 by decide),lvs1,Aa e48,f49,Ad (Aa e48).2 (k:=2) (by decide),Ab (Aa e48).2 (show 2≤2 by decide),← e51];rfl
      ·simp[← e45,Aa e46,f47,Ad (Aa e46).2 (k:=2) (by decide),Ab (Aa e46).2 (show 2≤2 by decide),lvs1,Aa e48,f49,Ad (Aa e48).2 (k:=2) (by decide),Ab (Aa e48).2 (show 2≤2 by decide),← e51]
       intros
       refine Ag AB (AE e50) rfl ⟨.same rfl,.same rfl,trivial⟩ ?_
       try simp[← e45,Aa e46,f47,Ad (Aa e46).2 (k:=2) (by decide),Ab (Aa e46).2 (show 2≤2 by decide),lvs1,Aa e48,f49,Ad (Aa e48).2 (k:=2) (by decide),Ab (Aa e48).2 (show 2≤2 by decide),← e51]
       intros;rfl
      obtain rfl:=oi h
      refine nP_i ?_
      refine Weak.mixB 1 [some 0] hn0 (by decide) (by decide) ?_ ?_ ?_
      all_goals first|(simp[Ac,Ae,pickOb];done)|rfl
     |false =>
      replace h:=iteF rfl h
      apply AW.drawnR (V:=[_,_,_,_,_,_,_,_,_,_,_,_,_]) mixed DX20t5 13 (by kernel_rfl) (by kernel_rfl)
      ·refine⟨?_,?_,?_,?_,?_,?_,?_,?_,?_,?_,?_,?_,?_,trivial⟩
       iterate 13 (· intro tm hr;simp[AllL,rdV] at hr;simp[hr,← e45];intros;first|exact KD.mk|exact KD.mkN)
      ·rfl
      ·simp[tmD,putD,← e45];rfl
      ·simp[← e45]
       intros;rfl
      obtain rfl:=oi h
      refine nP_i ?_
      refine Weak.mixB 1 [some 0] hn0 (by decide) (by decide) ?_ ?_ ?_
      all_goals first|(simp[Ac,Ae,pickOb];done)|rfl
    ·rintro e s hp
     obtain⟨rfl,hw⟩:=hp
     refine⟨_,hw,?_⟩
     try simp only[nm]
     replace h:=ltE h;obtain⟨v52,e52,h⟩:=h
     rw[← e52]
     cases v52 with
     |true =>
      replace h:=iteT rfl h
      refine AW.cond_true (by simp) ?_
      refine AW.skip ?_
      try simp only[nm]
      refine AW.block ?_
      replace h:=ltE h;obtain⟨v53,e53,h⟩:=h
      apply AW.last
      ·simp[← e53]
       intros;rfl
      obtain rfl:=oi h
      refine nP_i ?_
      refine Weak.mixB 1 [some 0] hn0 (by decide) (by decide) ?_ ?_ ?_
      all_goals first|(simp[Ac,Ae,pickOb];done)|rfl
     |false =>
      replace h:=iteF rfl h
      refine AW.cond_false (by simp) ?_
      refine AW.exit ?_
      try simp only[nm]
      obtain rfl:=oi h
      refine xP_i ?_
      refine Weak.mixB 1 [some 0] hn0 (by decide) (by decide) ?_ ?_ ?_
      all_goals first|(simp[Ac,Ae,pickOb];done)|rfl
   ·rintro e s hp
    obtain⟨rfl,hw⟩:=hp
    refine⟨_,hw,?_⟩
    try simp only[nm]
    refine AW.seq ?_
    replace h:=ltE h;obtain⟨v54,e54,h⟩:=h
    apply AW.step
    ·simp[← e54]
     intros;rfl
    cases v54 with
    |true =>
     replace h:=iteT rfl h
     refine AW.cond_true (by simp) ?_
     refine AW.exit ?_
     try simp only[nm]
     obtain rfl:=oi h
     refine xP_i ?_
     refine Weak.mixB 1 [some 0] hn0 (by decide) (by decide) ?_ ?_ ?_
     all_goals first|(simp[Ac,Ae,pickOb];done)|rfl
    |false =>
     replace h:=iteF rfl h
     refine AW.cond_false (by simp) ?_
     refine AW.skip ?_
     try simp only[nm]
     replace h:=bnE h;obtain⟨v55,e55,h⟩:=h
     have f56:=Ai e55
     try simp[Aa e55] at f56
     replace h:=bnE h;obtain⟨v57,e57,h⟩:=h
     have f58:=Ai e57
     try simp[Aa e55,f56,Ad (Aa e55).2 (k:=2) (by decide),Ab (Aa e55).2 (show 2≤2 by decide),lvs1,Aa e57] at f58
     have f59:=Ai e57
     try simp[Aa e55,f56,Ad (Aa e55).2 (k:=2) (by decide),Ab (Aa e55).2 (show 2≤2 by decide),lvs1,Aa e57,f58,Ad (Aa e57).2 (k:=2) (by decide),Ab (Aa e57).2 (show 2≤2 by decide)] at f59
     replace h:=ltE h;obtain⟨v60,e60,h⟩:=h
     have f61:=Ao (Aa e57).2 e60 (cs:=[.s (.int .i64 v55.frm),.s (.int .i64 v55.to)]) (by simp) rfl
     try simp at f61
     have f62:=f56
     try simp only[Af e60] at f62
     have f63:=f58
     try simp only[Af e60] at f63
     have f64:=f59
     try simp only[Af e60] at f64
     replace h:=bnE h;obtain⟨v65,e65,h⟩:=h
     have f66:=Ai e65
     try simp[Aa e55,f56,Ad (Aa e55).2 (k:=2) (by decide),Ab (Aa e55).2 (show 2≤2 by decide),lvs1,Aa e57,f58,Ad (Aa e57).2 (k:=2) (by decide),Ab (Aa e57).2 (show 2≤2 by decide),f59,f61,f62,f63,f64,Aa e65] at f66
     replace h:=ltE h;obtain⟨v67,e67,h⟩:=h
     have f68:=Ao (Aa e65).2 e67 (cs:=[.s (.int .i64 v57.frm),.s (.int .i64 v57.to)]) (by simp) rfl
     try simp at f68
     have f69:=f56
     try simp only[Af e67] at f69
     have f70:=f58
     try simp only[Af e67] at f70
     have f71:=f59
     try simp only[Af e67] at f71
     have f72:=f62
     try simp only[Af e67] at f72
     have f73:=f63
     try simp only[Af e67] at f73
     have f74:=f64
     try simp only[Af e67] at f74
     have f75:=f66
     try simp only[Af e67] at f75
     apply AW.drawnE (V:=[_,_,_,_,_,_,_,_,_,_,_,_,_,_]) (M:=[[some ⟨43,2,false,some 0,lvs (encSpan y24.2.2)⟩],[some ⟨43,2,false,some 0,lvs (encSpan v60)⟩]]) mixed [⟨[0],[],[(0,none)],false⟩,⟨[0],[],[(11,none)],false⟩,⟨[0,1],[],[(0,none)],false⟩,⟨[0,1],[],[(12,none)],false⟩,⟨[0],[],[(0,none)],false⟩,⟨[0],[],[(12,none)],false⟩,⟨[0],[4,5],[(75,some 4),(76,some 5)],false⟩,⟨[0],[4,5,6],[(77,some 6)],false⟩,⟨[0],[],[(0,none)],false⟩,⟨[0],[],[(11,none)],false⟩,⟨[0],[8,9],[(79,some 8),(80,some 9)],false⟩,⟨[0],[8,9,10],[(81,some 10)],false⟩,⟨[0],[0,1,4,5,6,7,8,9,10,11],[(71,some 0),(72,some 1)],false⟩,⟨[0],[0,1,4,5,6,7,8,9,10,11,12],[(78,some 7),(83,some 12)],true⟩,⟨[],[0,1,2,3,4,5,6,7,8,9,10,11,12,13],[],false⟩,⟨[],[0,1,2,3,4,5,6,7,8,9,10,11,12,13,14],[],false⟩] 14 1 (by kernel_rfl) (by kernel_rfl)
     ·rfl
     ·refine⟨?_,?_,⟨?_,?_⟩,⟨?_,?_⟩,?_,?_,?_,?_,?_,?_,?_,?_,?_,?_,trivial⟩
      iterate 16 (· intro tm hr;simp[AllL,rdV] at hr;simp[hr,Aa e55,f56,Ad (Aa e55).2 (k:=2) (by decide),Ab (Aa e55).2 (show 2≤2 by decide),lvs1,Aa e57,f58,Ad (Aa e57).2 (k:=2) (by decide),Ab (Aa e57).2 (show 2≤2 by decide),f59,f61,f62,f63,f64,Aa e65,f66,Af e60,Ab (Aa e65).2 (show 2≤2 by decide),f68,f69,f70,f71,f72,f73,f74,f75];intros;first|exact KD.mk|exact KD.mkN)
     ·rfl
     ·simp[tmD,putD,Aa e55,f56,Ad (Aa e55).2 (k:=2) (by decide),Ab (Aa e55).2 (show 2≤2 by decide),lvs1,Aa e57,f58,Ad (Aa e57).2 (k:=2) (by decide),Ab (Aa e57).2 (show 2≤2 by decide),f59,f61,f62,f63,f64,Aa e65,f66,Af e60,Ab (Aa e65).2 (show 2≤2 by decide),f68,f69,f70,f71,f72,f73,f74,f75];rfl
     ·simp[Aa e55,f56,Ad (Aa e55).2 (k:=2) (by decide),Ab (Aa e55).2 (show 2≤2 by decide),lvs1,Aa e57,f58,Ad (Aa e57).2 (k:=2) (by decide),Ab (Aa e57).2 (show 2≤2 by decide),f59,f61,f62,f63,f64,Aa e65,f66,Af e60,Ab (Aa e65).2 (show 2≤2 by decide),f68,f69,f70,f71,f72,f73,f74,f75]
      intros;rfl
     replace h:=ltE h;obtain⟨v76,e76,h⟩:=h
     apply AW.step
     ·simp[← e76]
      intros;rfl
     replace h:=ltE h;obtain⟨v77,e77,h⟩:=h
     apply AW.last
     ·simp[← e77]
      intros;rfl
     obtain rfl:=oi h
     refine nP_i ?_
     refine Weak.mixB 1 [some 0] hn0 (by decide) (by decide) ?_ ?_ ?_
     all_goals first|(simp[Ac,Ae,pickOb,Af e60,Af e67];done)|rfl
 ·rintro e s hp
  obtain⟨rfl,hw⟩:=hp
  refine⟨_,hw,?_⟩
  try simp only[nm]
  apply AW.step
  ·simp
   intros;rfl
  obtain rfl:=oi h
  refine AW.ret ?_
  refine Left.of (av:=_) (by simp[Try.f148,resV,resC,comp];rfl) ?_
  exact LeftV.mix 1 [some 0] hn0 rfl (by decide) rfl (by simp[pickOb,Ac,Ae]) (by simp[Ac,Ae])
theorem BV:Enters Try.prog 148:=enters Try.func148 (by kernel_rfl) rfl
def A6 (n:Nat) (a0:List Span) (a1:Int) (a2:Int) (a3:Int):Option (Int×Bool×List Span) :=
bn (nth a0 a3) fun v1 =>
bn (nth a0 a1) fun v3 =>
lt (a0.set a1.toNat v1) fun v6 =>
bn (nth v6 a3) fun v11 =>
lt (v6.set a3.toNat v3) fun v13 =>
lt (addI .i64 a1 1) fun v22 =>
lt (subI .i64 a2 1) fun v23 =>
bn (iter n (fun (y24:Int) =>
bn (lt (leI y24 v23) fun v28 =>
ite' v28 (bn (nth v13 y24) fun v29 =>
bn (nth v13 a1) fun v31 =>
bn (Av n v29 v31) fun v33 =>
lt (ltI v33 0) fun v34 =>
some (v34)) (some (false))) fun (y27:Bool) =>
lt (y27) fun v35 =>
ite' v35 (lt (addI .i64 y24 1) fun v36 =>
some (.inl v36)) (some (.inr y24))) v22) fun (y25:Int) =>
bn (iter n (fun (y37:Int) =>
bn (lt (leI y25 y37) fun v41 =>
ite' v41 (bn (nth v13 y37) fun v42 =>
bn (nth v13 a1) fun v44 =>
bn (Av n v42 v44) fun v46 =>
lt (ltI v46 0) fun v47 =>
lt (notB v47) fun v48 =>
some (v48)) (some (false))) fun (y40:Bool) =>
lt (y40) fun v49 =>
ite' v49 (lt (subI .i64 y37 1) fun v50 =>
some (.inl v50)) (some (.inr y37))) v23) fun (y38:Int) =>
lt (gtI y25 y38) fun v51 =>
ite' v51 (bn (nth v13 a1) fun v52 =>
bn (nth v13 y38) fun v54 =>
lt (v13.set y38.toNat v52) fun v57 =>
bn (nth v57 a1) fun v62 =>
lt (v57.set a1.toNat v54) fun v64 =>
some (y38,true,v64)) (bn (nth v13 y38) fun v73 =>
bn (nth v13 y25) fun v75 =>
lt (v13.set y25.toNat v73) fun v78 =>
bn (nth v78 y38) fun v83 =>
lt (v78.set y38.toNat v75) fun v85 =>
lt (addI .i64 y25 1) fun v94 =>
lt (subI .i64 y38 1) fun v95 =>
bn (iter n (fun (y96:Int×Int×List Span) =>
bn (iter n (fun (y99:Int) =>
bn (lt (leI y99 y96.2.1) fun v103 =>
ite' v103 (bn (nth y96.2.2 y99) fun v104 =>
bn (nth y96.2.2 a1) fun v106 =>
bn (Av n v104 v106) fun v108 =>
lt (ltI v108 0) fun v109 =>
some (v109)) (some (false))) fun (y102:Bool) =>
lt (y102) fun v110 =>
ite' v110 (lt (addI .i64 y99 1) fun v111 =>
some (.inl v111)) (some (.inr y99))) y96.1) fun (y100:Int) =>
bn (iter n (fun (y112:Int) =>
bn (lt (leI y100 y112) fun v116 =>
ite' v116 (bn (nth y96.2.2 y112) fun v117 =>
bn (nth y96.2.2 a1) fun v119 =>
bn (Av n v117 v119) fun v121 =>
lt (ltI v121 0) fun v122 =>
lt (notB v122) fun v123 =>
some (v123)) (some (false))) fun (y115:Bool) =>
lt (y115) fun v124 =>
ite' v124 (lt (subI .i64 y112 1) fun v125 =>
some (.inl v125)) (some (.inr y112))) y96.2.1) fun (y113:Int) =>
lt (gtI y100 y113) fun v126 =>
ite' v126 (some (.inr (y113,y96.2.2))) (bn (nth y96.2.2 y113) fun v127 =>
bn (nth y96.2.2 y100) fun v129 =>
lt (y96.2.2.set y100.toNat v127) fun v132 =>
bn (nth v132 y113) fun v137 =>
lt (v132.set y113.toNat v129) fun v139 =>
lt (addI .i64 y100 1) fun v148 =>
lt (subI .i64 y113 1) fun v149 =>
some (.inl (v148,v149,v139)))) (v94,v95,v85)) fun (y97:Int×List Span) =>
bn (nth y97.2 a1) fun v150 =>
bn (nth y97.2 y97.1) fun v152 =>
lt (y97.2.set y97.1.toNat v150) fun v155 =>
bn (nth v155 a1) fun v160 =>
lt (v155.set a1.toNat v152) fun v162 =>
some (y97.1,false,v162))
def DX20t6:List DI:=[⟨[0],[],[(12,none)],false⟩,⟨[0],[],[(13,none)],false⟩,⟨[0],[0,1],[(32,some 0),(33,some 1)],false⟩,⟨[0],[0,1,2],[(34,some 2)],false⟩,⟨[0],[0,1,2,3],[(4,none),(35,some 3)],false⟩,⟨[0],[0,1,2,3],[(0,none),(35,some 3)],false⟩,⟨[0],[0,1,2,3],[(12,none),(35,some 3)],false⟩,⟨[0],[0,1,2,3,5,6],[(35,some 3),(37,some 5),(38,some 6)],false⟩,⟨[0],[0,1,2,3,5,6,7],[(35,some 3),(39,some 7)],false⟩,⟨[0],[0,1,2,3],[(0,none),(35,some 3)],false⟩,⟨[0],[0,1,2,3],[(1,none),(35,some 3)],false⟩,⟨[0],[0,1,2,3,9,10],[(35,some 3),(41,some 9),(42,some 10)],false⟩,⟨[0],[0,1,2,3,9,10,11],[(35,some 3),(43,some 11)],false⟩,⟨[],[0,1,2,3,4,5,6,7,8,9,10,11,12],[],false⟩,⟨[],[0,1,2,3,4,5,6,7,8,9,10,11,12,13],[],false⟩,⟨[],[0,1,2,3,4,5,6,7,8,9,10,11,12,13,14],[],false⟩]
def DX20t7:List DI:=[⟨[0],[],[(12,none)],false⟩,⟨[0],[],[(13,none)],false⟩,⟨[0],[0,1],[(50,some 0),(51,some 1)],false⟩,⟨[0],[0,1,2],[(52,some 2)],false⟩,⟨[0],[0,1,2,3],[(4,none),(53,some 3)],false⟩,⟨[0],[0,1,2,3],[(0,none),(53,some 3)],false⟩,⟨[0],[0,1,2,3],[(13,none),(53,some 3)],false⟩,⟨[0],[0,1,2,3,5,6],[(53,some 3),(55,some 5),(56,some 6)],false⟩,⟨[0],[0,1,2,3,5,6,7],[(53,some 3),(57,some 7)],false⟩,⟨[0],[0,1,2,3],[(0,none),(53,some 3)],false⟩,⟨[0],[0,1,2,3],[(1,none),(53,some 3)],false⟩,⟨[0],[0,1,2,3,9,10],[(53,some 3),(59,some 9),(60,some 10)],false⟩,⟨[0],[0,1,2,3,9,10,11],[(53,some 3),(61,some 11)],false⟩,⟨[],[0,1,2,3,4,5,6,7,8,9,10,11,12],[],false⟩,⟨[],[0,1,2,3,4,5,6,7,8,9,10,11,12,13],[],false⟩,⟨[],[0,1,2,3,4,5,6,7,8,9,10,11,12,13,14],[],false⟩,⟨[],[0,1,2,3,4,5,6,7,8,9,10,11,12,13,14,15],[],false⟩]
def DX20t8:List DI:=[⟨[0],[],[(12,none)],false⟩,⟨[0],[],[(13,none)],false⟩,⟨[0],[0,1],[(105,some 0),(106,some 1)],false⟩,⟨[0],[0,1,2],[(107,some 2)],false⟩,⟨[0],[0,1,2,3],[(4,none),(108,some 3)],false⟩,⟨[0],[0,1,2,3],[(0,none),(108,some 3)],false⟩,⟨[0],[0,1,2,3],[(12,none),(108,some 3)],false⟩,⟨[0],[0,1,2,3,5,6],[(108,some 3),(110,some 5),(111,some 6)],false⟩,⟨[0],[0,1,2,3,5,6,7],[(108,some 3),(112,some 7)],false⟩,⟨[0],[0,1,2,3],[(0,none),(108,some 3)],false⟩,⟨[0],[0,1,2,3],[(1,none),(108,some 3)],false⟩,⟨[0],[0,1,2,3,9,10],[(108,some 3),(114,some 9),(115,some 10)],false⟩,⟨[0],[0,1,2,3,9,10,11],[(108,some 3),(116,some 11)],false⟩,⟨[],[0,1,2,3,4,5,6,7,8,9,10,11,12],[],false⟩,⟨[],[0,1,2,3,4,5,6,7,8,9,10,11,12,13],[],false⟩,⟨[],[0,1,2,3,4,5,6,7,8,9,10,11,12,13,14],[],false⟩]
def DX20t9:List DI:=[⟨[0],[],[(12,none)],false⟩,⟨[0],[],[(13,none)],false⟩,⟨[0],[0,1],[(123,some 0),(124,some 1)],false⟩,⟨[0],[0,1,2],[(125,some 2)],false⟩,⟨[0],[0,1,2,3],[(4,none),(126,some 3)],false⟩,⟨[0],[0,1,2,3],[(0,none),(126,some 3)],false⟩,⟨[0],[0,1,2,3],[(13,none),(126,some 3)],false⟩,⟨[0],[0,1,2,3,5,6],[(126,some 3),(128,some 5),(129,some 6)],false⟩,⟨[0],[0,1,2,3,5,6,7],[(126,some 3),(130,some 7)],false⟩,⟨[0],[0,1,2,3],[(0,none),(126,some 3)],false⟩,⟨[0],[0,1,2,3],[(1,none),(126,some 3)],false⟩,⟨[0],[0,1,2,3,9,10],[(126,some 3),(132,some 9),(133,some 10)],false⟩,⟨[0],[0,1,2,3,9,10,11],[(126,some 3),(134,some 11)],false⟩,⟨[],[0,1,2,3,4,5,6,7,8,9,10,11,12],[],false⟩,⟨[],[0,1,2,3,4,5,6,7,8,9,10,11,12,13],[],false⟩,⟨[],[0,1,2,3,4,5,6,7,8,9,10,11,12,13,14],[],false⟩,⟨[],[0,1,2,3,4,5,6,7,8,9,10,11,12,13,14,15],[],false⟩]
theorem Cs {n:Nat} {a0:List Span} {a1:Int} {a2:Int} {a3:Int} {r:Int×Bool×List Span} (h:A6 n a0 a1 a2 a3=some r):Sound Try.prog 149 [.l (.r 0 2 0 a0.length),.l (.s (.int .i64 a1)),.l (.s (.int .i64 a2)),.l (.s (.int .i64 a3)),.l (.s (.func (.func 95) #[] #[]))] [⟨43,2,false,some 0,lvs (encSpan a0)⟩] (.t [(false,[.s (.int .i64 r.1)]),(false,[.s (.bool r.2.1)])]) [some ⟨43,2,false,some 0,lvs (encSpan r.2.2)⟩]:=by
 unfold A6 at h
 refine Sound.of_aw (fn:=Try.f149) (c:=_) Try.func149 rfl (by simp[Try.f149]) fun cx hG hnb=>?_
 rw[show Try.f149.ntmps=178 from rfl]
 have hn0:cx.nb=1:=hnb
 simp only[Al,initTm,List.map_cons,List.map_nil]
 apply AW.step
 ·simp
  intros;rfl
 replace h:=bnE h;obtain⟨v1,e1,h⟩:=h
 have f2:=Ai e1
 try simp[Aa e1] at f2
 replace h:=bnE h;obtain⟨v3,e3,h⟩:=h
 have f4:=Ai e3
 try simp[Aa e1,f2,Ad (Aa e1).2 (k:=2) (by decide),Ab (Aa e1).2 (show 2≤2 by decide),lvs1,Aa e3] at f4
 have f5:=Ai e3
 try simp[Aa e1,f2,Ad (Aa e1).2 (k:=2) (by decide),Ab (Aa e1).2 (show 2≤2 by decide),lvs1,Aa e3,f4,Ad (Aa e3).2 (k:=2) (by decide),Ab (Aa e3).2 (show 2≤2 by decide)] at f5
 replace h:=ltE h;obtain⟨v6,e6,h⟩:=h
 have f7:=Ao (Aa e3).2 e6 (cs:=[.s (.int .i64 v1.frm),.s (.int .i64 v1.to)]) (by simp) rfl
 try simp at f7
 have f8:=f2
 try simp only[Af e6] at f8
 have f9:=f4
 try simp only[Af e6] at f9
 have f10:=f5
 try simp only[Af e6] at f10
 replace h:=bnE h;obtain⟨v11,e11,h⟩:=h
 have f12:=Ai e11
 try simp[Aa e1,f2,Ad (Aa e1).2 (k:=2) (by decide),Ab (Aa e1).2 (show 2≤2 by decide),lvs1,Aa e3,f4,Ad (Aa e3).2 (k:=2) (by decide),Ab (Aa e3).2 (show 2≤2 by decide),f5,f7,f8,f9,f10,Aa e11] at f12
 replace h:=ltE h;obtain⟨v13,e13,h⟩:=h
 have f14:=Ao (Aa e11).2 e13 (cs:=[.s (.int .i64 v3.frm),.s (.int .i64 v3.to)]) (by simp) rfl
 try simp at f14
 have f15:=f2
 try simp only[Af e13] at f15
 have f16:=f4
 try simp only[Af e13] at f16
 have f17:=f5
 try simp only[Af e13] at f17
 have f18:=f8
 try simp only[Af e13] at f18
 have f19:=f9
 try simp only[Af e13] at f19
 have f20:=f10
 try simp only[Af e13] at f20
 have f21:=f12
 try simp only[Af e13] at f21
 apply AW.drawnE (V:=[_,_,_,_,_,_,_,_,_,_,_,_,_,_]) (M:=[[some ⟨43,2,false,some 0,lvs (encSpan a0)⟩],[some ⟨43,2,false,some 0,lvs (encSpan v6)⟩]]) mixed [⟨[0],[],[(0,none)],false⟩,⟨[0],[],[(1,none)],false⟩,⟨[0,1],[],[(0,none)],false⟩,⟨[0,1],[],[(3,none)],false⟩,⟨[0],[],[(0,none)],false⟩,⟨[0],[],[(3,none)],false⟩,⟨[0],[4,5],[(18,some 4),(19,some 5)],false⟩,⟨[0],[4,5,6],[(20,some 6)],false⟩,⟨[0],[],[(0,none)],false⟩,⟨[0],[],[(1,none)],false⟩,⟨[0],[8,9],[(22,some 8),(23,some 9)],false⟩,⟨[0],[8,9,10],[(24,some 10)],false⟩,⟨[0],[0,1,4,5,6,7,8,9,10,11],[(14,some 0),(15,some 1)],false⟩,⟨[0],[0,1,4,5,6,7,8,9,10,11,12],[(21,some 7),(26,some 12)],true⟩,⟨[],[0,1,2,3,4,5,6,7,8,9,10,11,12,13],[],false⟩,⟨[],[0,1,2,3,4,5,6,7,8,9,10,11,12,13,14],[],false⟩] 14 1 (by kernel_rfl) (by kernel_rfl)
 ·rfl
 ·refine⟨?_,?_,⟨?_,?_⟩,⟨?_,?_⟩,?_,?_,?_,?_,?_,?_,?_,?_,?_,?_,trivial⟩
  iterate 16 (· intro tm hr;simp[AllL,rdV] at hr;simp[hr,Aa e1,f2,Ad (Aa e1).2 (k:=2) (by decide),Ab (Aa e1).2 (show 2≤2 by decide),lvs1,Aa e3,f4,Ad (Aa e3).2 (k:=2) (by decide),Ab (Aa e3).2 (show 2≤2 by decide),f5,f7,f8,f9,f10,Aa e11,f12,Af e6,Ab (Aa e11).2 (show 2≤2 by decide),f14,f15,f16,f17,f18,f19,f20,f21];intros;first|exact KD.mk|exact KD.mkN)
 ·rfl
 ·simp[tmD,putD,Aa e1,f2,Ad (Aa e1).2 (k:=2) (by decide),Ab (Aa e1).2 (show 2≤2 by decide),lvs1,Aa e3,f4,Ad (Aa e3).2 (k:=2) (by decide),Ab (Aa e3).2 (show 2≤2 by decide),f5,f7,f8,f9,f10,Aa e11,f12,Af e6,Ab (Aa e11).2 (show 2≤2 by decide),f14,f15,f16,f17,f18,f19,f20,f21];rfl
 ·simp[Aa e1,f2,Ad (Aa e1).2 (k:=2) (by decide),Ab (Aa e1).2 (show 2≤2 by decide),lvs1,Aa e3,f4,Ad (Aa e3).2 (k:=2) (by decide),Ab (Aa e3).2 (show 2≤2 by decide),f5,f7,f8,f9,f10,Aa e11,f12,Af e6,Ab (Aa e11).2 (show 2≤2 by decide),f14,f15,f16,f17,f18,f19,f20,f21]
  intros;rfl
 replace h:=ltE h;obtain⟨v22,e22,h⟩:=h
 replace h:=ltE h;obtain⟨v23,e23,h⟩:=h
 apply AW.step
 ·simp[← e22,← e23]
  intros;rfl
 refine AW.seq ?_
 refine AW.block ?_
 replace h:=bnE h;obtain⟨y25,g25,h⟩:=h
 refine AW.iterP g25 (mk:=fun gh ls q=>(⟨[(0,.l (.r 0 2 0 v13.length)),(1,.l (.s (.int .i64 a1))),(4,.l (.s (.func (.func 95) #[] #[]))),(12,.l (.s (.int .i64 q))),(13,.l (.s (.int .i64 v23)))],[some ⟨43,2,false,some 0,lvs (encSpan v13)⟩],178,gh,ls⟩:St)) (N:=fun gh ls=>(xP 0 (cx:=cx) (fun q=>(⟨[(0,.l (.r 0 2 0 v13.length)),(1,.l (.s (.int .i64 a1))),(4,.l (.s (.func (.func 95) #[] #[]))),(12,.l (.s (.int .i64 q))),(13,.l (.s (.int .i64 v23)))],[some ⟨43,2,false,some 0,lvs (encSpan v13)⟩],178,gh,ls⟩:St)))) ?_ noX ?_ ?_
 ·refine Weak.mixB 1 [some 0] hn0 (by decide) (by decide) ?_ ?_ ?_
  all_goals first|(simp[Ac,Ae,pickOb,Af e13,Af e6];done)|rfl
 ·clear h;intro y24 y26 h
  refine AW.seq ?_
  replace h:=bnE h;obtain⟨y27,g27,h⟩:=h
  refine AW.flow (p:=fun gh ls=>(nP (cx:=cx) (fun q=>(⟨[(0,.l (.r 0 2 0 v13.length)),(1,.l (.s (.int .i64 a1))),(4,.l (.s (.func (.func 95) #[] #[]))),(12,.l (.s (.int .i64 y24))),(13,.l (.s (.int .i64 v23))),(47,.l (.s (.bool q)))],[some ⟨43,2,false,some 0,lvs (encSpan v13)⟩],178,gh,ls⟩:St))) y27) ?_ ?_
  ·replace h:=g27;clear g27
   replace h:=ltE h;obtain⟨v28,e28,h⟩:=h
   cases v28 with
   |true =>
    replace h:=iteT rfl h
    replace h:=bnE h;obtain⟨v29,e29,h⟩:=h
    have f30:=Ai e29
    try simp[← e28,Aa e29] at f30
    replace h:=bnE h;obtain⟨v31,e31,h⟩:=h
    have f32:=Ai e31
    try simp[← e28,Aa e29,f30,Ad (Aa e29).2 (k:=2) (by decide),Ab (Aa e29).2 (show 2≤2 by decide),lvs1,Aa e31] at f32
    replace h:=bnE h;obtain⟨v33,e33,h⟩:=h
    replace h:=ltE h;obtain⟨v34,e34,h⟩:=h
    apply AW.drawnR (V:=[_,_,_,_,_,_,_,_,_,_,_,_,_]) mixed DX20t6 13 (by kernel_rfl) (by kernel_rfl)
    ·refine⟨?_,?_,?_,?_,?_,?_,?_,?_,?_,?_,?_,?_,?_,trivial⟩
     iterate 13 (· intro tm hr;simp[AllL,rdV] at hr;simp[hr,← e28,Aa e29,f30,Ad (Aa e29).2 (k:=2) (by decide),Ab (Aa e29).2 (show 2≤2 by decide),lvs1,Aa e31,f32,Ad (Aa e31).2 (k:=2) (by decide),Ab (Aa e31).2 (show 2≤2 by decide),← e34];intros;first|exact KD.mk|exact KD.mkN)
    ·rfl
    ·simp[tmD,putD,← e28,Aa e29,f30,Ad (Aa e29).2 (k:=2) (by decide),Ab (Aa e29).2 (show 2≤2 by decide),lvs1,Aa e31,f32,Ad (Aa e31).2 (k:=2) (by decide),Ab (Aa e31).2 (show 2≤2 by decide),← e34];rfl
    ·simp[← e28,Aa e29,f30,Ad (Aa e29).2 (k:=2) (by decide),Ab (Aa e29).2 (show 2≤2 by decide),lvs1,Aa e31,f32,Ad (Aa e31).2 (k:=2) (by decide),Ab (Aa e31).2 (show 2≤2 by decide),← e34]
     intros
     refine Ag AB (AE e33) rfl ⟨.same rfl,.same rfl,trivial⟩ ?_
     try simp[← e28,Aa e29,f30,Ad (Aa e29).2 (k:=2) (by decide),Ab (Aa e29).2 (show 2≤2 by decide),lvs1,Aa e31,f32,Ad (Aa e31).2 (k:=2) (by decide),Ab (Aa e31).2 (show 2≤2 by decide),← e34]
     intros;rfl
    obtain rfl:=oi h
    refine nP_i ?_
    refine Weak.mixB 1 [some 0] hn0 (by decide) (by decide) ?_ ?_ ?_
    all_goals first|(simp[Ac,Ae,pickOb];done)|rfl
   |false =>
    replace h:=iteF rfl h
    apply AW.drawnR (V:=[_,_,_,_,_,_,_,_,_,_,_,_,_]) mixed DX20t6 13 (by kernel_rfl) (by kernel_rfl)
    ·refine⟨?_,?_,?_,?_,?_,?_,?_,?_,?_,?_,?_,?_,?_,trivial⟩
     iterate 13 (· intro tm hr;simp[AllL,rdV] at hr;simp[hr,← e28];intros;first|exact KD.mk|exact KD.mkN)
    ·rfl
    ·simp[tmD,putD,← e28];rfl
    ·simp[← e28]
     intros;rfl
    obtain rfl:=oi h
    refine nP_i ?_
    refine Weak.mixB 1 [some 0] hn0 (by decide) (by decide) ?_ ?_ ?_
    all_goals first|(simp[Ac,Ae,pickOb];done)|rfl
  ·rintro e s hp
   obtain⟨rfl,hw⟩:=hp
   refine⟨_,hw,?_⟩
   try simp only[nm]
   replace h:=ltE h;obtain⟨v35,e35,h⟩:=h
   rw[← e35]
   cases v35 with
   |true =>
    replace h:=iteT rfl h
    refine AW.cond_true (by simp) ?_
    refine AW.skip ?_
    try simp only[nm]
    refine AW.block ?_
    replace h:=ltE h;obtain⟨v36,e36,h⟩:=h
    apply AW.last
    ·simp[← e36]
     intros;rfl
    obtain rfl:=oi h
    refine nP_i ?_
    refine Weak.mixB 1 [some 0] hn0 (by decide) (by decide) ?_ ?_ ?_
    all_goals first|(simp[Ac,Ae,pickOb];done)|rfl
   |false =>
    replace h:=iteF rfl h
    refine AW.cond_false (by simp) ?_
    refine AW.exit ?_
    try simp only[nm]
    obtain rfl:=oi h
    refine xP_i ?_
    refine Weak.mixB 1 [some 0] hn0 (by decide) (by decide) ?_ ?_ ?_
    all_goals first|(simp[Ac,Ae,pickOb];done)|rfl
 ·rintro e s hp
  obtain⟨rfl,hw⟩:=hp
  refine⟨_,hw,?_⟩
  try simp only[nm]
  refine AW.seq ?_
  refine AW.block ?_
  replace h:=bnE h;obtain⟨y38,g38,h⟩:=h
  refine AW.iterP g38 (mk:=fun gh ls q=>(⟨[(0,.l (.r 0 2 0 v13.length)),(1,.l (.s (.int .i64 a1))),(4,.l (.s (.func (.func 95) #[] #[]))),(12,.l (.s (.int .i64 y25))),(13,.l (.s (.int .i64 q)))],[some ⟨43,2,false,some 0,lvs (encSpan v13)⟩],178,gh,ls⟩:St)) (N:=fun gh ls=>(xP 2 (cx:=cx) (fun q=>(⟨[(0,.l (.r 0 2 0 v13.length)),(1,.l (.s (.int .i64 a1))),(4,.l (.s (.func (.func 95) #[] #[]))),(12,.l (.s (.int .i64 y25))),(13,.l (.s (.int .i64 q)))],[some ⟨43,2,false,some 0,lvs (encSpan v13)⟩],178,gh,ls⟩:St)))) ?_ noX ?_ ?_
  ·refine Weak.mixB 1 [some 0] hn0 (by decide) (by decide) ?_ ?_ ?_
   all_goals first|(simp[Ac,Ae,pickOb];done)|rfl
  ·clear h;intro y37 y39 h
   refine AW.seq ?_
   replace h:=bnE h;obtain⟨y40,g40,h⟩:=h
   refine AW.flow (p:=fun gh ls=>(nP (cx:=cx) (fun q=>(⟨[(0,.l (.r 0 2 0 v13.length)),(1,.l (.s (.int .i64 a1))),(4,.l (.s (.func (.func 95) #[] #[]))),(12,.l (.s (.int .i64 y25))),(13,.l (.s (.int .i64 y37))),(66,.l (.s (.bool q)))],[some ⟨43,2,false,some 0,lvs (encSpan v13)⟩],178,gh,ls⟩:St))) y40) ?_ ?_
   ·replace h:=g40;clear g40
    replace h:=ltE h;obtain⟨v41,e41,h⟩:=h
    cases v41 with
    |true =>
     replace h:=iteT rfl h
     replace h:=bnE h;obtain⟨v42,e42,h⟩:=h
     have f43:=Ai e42
     try simp[← e41,Aa e42] at f43
     replace h:=bnE h;obtain⟨v44,e44,h⟩:=h
     have f45:=Ai e44
     try simp[← e41,Aa e42,f43,Ad (Aa e42).2 (k:=2) (by decide),Ab (Aa e42).2 (show 2≤2 by decide),lvs1,Aa e44] at f45
     replace h:=bnE h;obtain⟨v46,e46,h⟩:=h
     replace h:=ltE h;obtain⟨v47,e47,h⟩:=h
     replace h:=ltE h;obtain⟨v48,e48,h⟩:=h
     apply AW.drawnR (V:=[_,_,_,_,_,_,_,_,_,_,_,_,_]) mixed DX20t7 13 (by kernel_rfl) (by kernel_rfl)
     ·refine⟨?_,?_,?_,?_,?_,?_,?_,?_,?_,?_,?_,?_,?_,trivial⟩
      iterate 13 (· intro tm hr;simp[AllL,rdV] at hr;simp[hr,← e41,Aa e42,f43,Ad (Aa e42).2 (k:=2) (by decide),Ab (Aa e42).2 (show 2≤2 by decide),lvs1,Aa e44,f45,Ad (Aa e44).2 (k:=2) (by decide),Ab (Aa e44).2 (show 2≤2 by decide),← e47,← e48];intros;first|exact KD.mk|exact KD.mkN)
     ·rfl
     ·simp[tmD,putD,← e41,Aa e42,f43,Ad (Aa e42).2 (k:=2) (by decide),Ab (Aa e42).2 (show 2≤2 by decide),lvs1,Aa e44,f45,Ad (Aa e44).2 (k:=2) (by decide),Ab (Aa e44).2 (show 2≤2 by decide),← e47,← e48];rfl
     ·simp[← e41,Aa e42,f43,Ad (Aa e42).2 (k:=2) (by decide),Ab (Aa e42).2 (show 2≤2 by decide),lvs1,Aa e44,f45,Ad (Aa e44).2 (k:=2) (by decide),Ab (Aa e44).2 (show 2≤2 by decide),← e47,← e48]
      intros
      refine Ag AB (AE e46) rfl ⟨.same rfl,.same rfl,trivial⟩ ?_
      try simp[← e41,Aa e42,f43,Ad (Aa e42).2 (k:=2) (by decide),Ab (Aa e42).2 (show 2≤2 by decide),lvs1,Aa e44,f45,Ad (Aa e44).2 (k:=2) (by decide),Ab (Aa e44).2 (show 2≤2 by decide),← e47,← e48]
      intros;rfl
     obtain rfl:=oi h
     refine nP_i ?_
     refine Weak.mixB 1 [some 0] hn0 (by decide) (by decide) ?_ ?_ ?_
     all_goals first|(simp[Ac,Ae,pickOb];done)|rfl
    |false =>
     replace h:=iteF rfl h
     apply AW.drawnR (V:=[_,_,_,_,_,_,_,_,_,_,_,_,_]) mixed DX20t7 13 (by kernel_rfl) (by kernel_rfl)
     ·refine⟨?_,?_,?_,?_,?_,?_,?_,?_,?_,?_,?_,?_,?_,trivial⟩
      iterate 13 (· intro tm hr;simp[AllL,rdV] at hr;simp[hr,← e41];intros;first|exact KD.mk|exact KD.mkN)
     ·rfl
     ·simp[tmD,putD,← e41];rfl
     ·simp[← e41]
      intros;rfl
     obtain rfl:=oi h
     refine nP_i ?_
     refine Weak.mixB 1 [some 0] hn0 (by decide) (by decide) ?_ ?_ ?_
     all_goals first|(simp[Ac,Ae,pickOb];done)|rfl
   ·rintro e s hp
    obtain⟨rfl,hw⟩:=hp
    refine⟨_,hw,?_⟩
    try simp only[nm]
    replace h:=ltE h;obtain⟨v49,e49,h⟩:=h
    rw[← e49]
    cases v49 with
    |true =>
     replace h:=iteT rfl h
     refine AW.cond_true (by simp) ?_
     refine AW.skip ?_
     try simp only[nm]
     refine AW.block ?_
     replace h:=ltE h;obtain⟨v50,e50,h⟩:=h
     apply AW.last
     ·simp[← e50]
      intros;rfl
     obtain rfl:=oi h
     refine nP_i ?_
     refine Weak.mixB 1 [some 0] hn0 (by decide) (by decide) ?_ ?_ ?_
     all_goals first|(simp[Ac,Ae,pickOb];done)|rfl
    |false =>
     replace h:=iteF rfl h
     refine AW.cond_false (by simp) ?_
     refine AW.exit ?_
     try simp only[nm]
     obtain rfl:=oi h
     refine xP_i ?_
     refine Weak.mixB 1 [some 0] hn0 (by decide) (by decide) ?_ ?_ ?_
     all_goals first|(simp[Ac,Ae,pickOb];done)|rfl
  ·rintro e s hp
   obtain⟨rfl,hw⟩:=hp
   refine⟨_,hw,?_⟩
   try simp only[nm]
   refine AW.seq ?_
   replace h:=ltE h;obtain⟨v51,e51,h⟩:=h
   apply AW.step
   ·simp[← e51]
    intros;rfl
   cases v51 with
   |true =>
    replace h:=iteT rfl h
    refine AW.cond_true (by simp) ?_
    replace h:=bnE h;obtain⟨v52,e52,h⟩:=h
    have f53:=Ai e52
    try simp[Aa e52] at f53
    replace h:=bnE h;obtain⟨v54,e54,h⟩:=h
    have f55:=Ai e54
    try simp[Aa e52,f53,Ad (Aa e52).2 (k:=2) (by decide),Ab (Aa e52).2 (show 2≤2 by decide),lvs1,Aa e54] at f55
    have f56:=Ai e54
    try simp[Aa e52,f53,Ad (Aa e52).2 (k:=2) (by decide),Ab (Aa e52).2 (show 2≤2 by decide),lvs1,Aa e54,f55,Ad (Aa e54).2 (k:=2) (by decide),Ab (Aa e54).2 (show 2≤2 by decide)] at f56
    replace h:=ltE h;obtain⟨v57,e57,h⟩:=h
    have f58:=Ao (Aa e54).2 e57 (cs:=[.s (.int .i64 v52.frm),.s (.int .i64 v52.to)]) (by simp) rfl
    try simp at f58
    have f59:=f53
    try simp only[Af e57] at f59
    have f60:=f55
    try simp only[Af e57] at f60
    have f61:=f56
    try simp only[Af e57] at f61
    replace h:=bnE h;obtain⟨v62,e62,h⟩:=h
    have f63:=Ai e62
    try simp[Aa e52,f53,Ad (Aa e52).2 (k:=2) (by decide),Ab (Aa e52).2 (show 2≤2 by decide),lvs1,Aa e54,f55,Ad (Aa e54).2 (k:=2) (by decide),Ab (Aa e54).2 (show 2≤2 by decide),f56,f58,f59,f60,f61,Aa e62] at f63
    replace h:=ltE h;obtain⟨v64,e64,h⟩:=h
    have f65:=Ao (Aa e62).2 e64 (cs:=[.s (.int .i64 v54.frm),.s (.int .i64 v54.to)]) (by simp) rfl
    try simp at f65
    have f66:=f53
    try simp only[Af e64] at f66
    have f67:=f55
    try simp only[Af e64] at f67
    have f68:=f56
    try simp only[Af e64] at f68
    have f69:=f59
    try simp only[Af e64] at f69
    have f70:=f60
    try simp only[Af e64] at f70
    have f71:=f61
    try simp only[Af e64] at f71
    have f72:=f63
    try simp only[Af e64] at f72
    apply AW.drawnE (V:=[_,_,_,_,_,_,_,_,_,_,_,_,_,_]) (M:=[[some ⟨43,2,false,some 0,lvs (encSpan v13)⟩],[some ⟨43,2,false,some 0,lvs (encSpan v57)⟩]]) mixed [⟨[0],[],[(0,none)],false⟩,⟨[0],[],[(13,none)],false⟩,⟨[0,1],[],[(0,none)],false⟩,⟨[0,1],[],[(1,none)],false⟩,⟨[0],[],[(0,none)],false⟩,⟨[0],[],[(1,none)],false⟩,⟨[0],[4,5],[(76,some 4),(77,some 5)],false⟩,⟨[0],[4,5,6],[(78,some 6)],false⟩,⟨[0],[],[(0,none)],false⟩,⟨[0],[],[(13,none)],false⟩,⟨[0],[8,9],[(80,some 8),(81,some 9)],false⟩,⟨[0],[8,9,10],[(82,some 10)],false⟩,⟨[0],[0,1,4,5,6,7,8,9,10,11],[(72,some 0),(73,some 1)],false⟩,⟨[0],[0,1,4,5,6,7,8,9,10,11,12],[(79,some 7),(84,some 12)],true⟩,⟨[],[0,1,2,3,4,5,6,7,8,9,10,11,12,13],[],false⟩,⟨[],[0,1,2,3,4,5,6,7,8,9,10,11,12,13,14],[],false⟩] 14 1 (by kernel_rfl) (by kernel_rfl)
    ·rfl
    ·refine⟨?_,?_,⟨?_,?_⟩,⟨?_,?_⟩,?_,?_,?_,?_,?_,?_,?_,?_,?_,?_,trivial⟩
     iterate 16 (· intro tm hr;simp[AllL,rdV] at hr;simp[hr,Aa e52,f53,Ad (Aa e52).2 (k:=2) (by decide),Ab (Aa e52).2 (show 2≤2 by decide),lvs1,Aa e54,f55,Ad (Aa e54).2 (k:=2) (by decide),Ab (Aa e54).2 (show 2≤2 by decide),f56,f58,f59,f60,f61,Aa e62,f63,Af e57,Ab (Aa e62).2 (show 2≤2 by decide),f65,f66,f67,f68,f69,f70,f71,f72];intros;first|exact KD.mk|exact KD.mkN)
    ·rfl
    ·simp[tmD,putD,Aa e52,f53,Ad (Aa e52).2 (k:=2) (by decide),Ab (Aa e52).2 (show 2≤2 by decide),lvs1,Aa e54,f55,Ad (Aa e54).2 (k:=2) (by decide),Ab (Aa e54).2 (show 2≤2 by decide),f56,f58,f59,f60,f61,Aa e62,f63,Af e57,Ab (Aa e62).2 (show 2≤2 by decide),f65,f66,f67,f68,f69,f70,f71,f72];rfl
    ·simp[Aa e52,f53,Ad (Aa e52).2 (k:=2) (by decide),Ab (Aa e52).2 (show 2≤2 by decide),lvs1,Aa e54,f55,Ad (Aa e54).2 (k:=2) (by decide),Ab (Aa e54).2 (show 2≤2 by decide),f56,f58,f59,f60,f61,Aa e62,f63,Af e57,Ab (Aa e62).2 (show 2≤2 by decide),f65,f66,f67,f68,f69,f70,f71,f72]
     intros;rfl
    apply AW.step
    ·simp
     intros;rfl
    obtain rfl:=oi h
    refine AW.ret ?_
    refine Left.of (av:=_) (by simp[Try.f149,resV,resC,comp];rfl) ?_
    exact LeftV.mix 1 [some 0] hn0 rfl (by decide) rfl (by simp[pickOb,Ac,Ae,Af e57,Af e64]) (by simp[Ac,Ae,Af e57,Af e64])
   |false =>
    replace h:=iteF rfl h
    refine AW.cond_false (by simp) ?_
    refine AW.skip ?_
    try simp only[nm]
    replace h:=bnE h;obtain⟨v73,e73,h⟩:=h
    have f74:=Ai e73
    try simp[Aa e73] at f74
    replace h:=bnE h;obtain⟨v75,e75,h⟩:=h
    have f76:=Ai e75
    try simp[Aa e73,f74,Ad (Aa e73).2 (k:=2) (by decide),Ab (Aa e73).2 (show 2≤2 by decide),lvs1,Aa e75] at f76
    have f77:=Ai e75
    try simp[Aa e73,f74,Ad (Aa e73).2 (k:=2) (by decide),Ab (Aa e73).2 (show 2≤2 by decide),lvs1,Aa e75,f76,Ad (Aa e75).2 (k:=2) (by decide),Ab (Aa e75).2 (show 2≤2 by decide)] at f77
    replace h:=ltE h;obtain⟨v78,e78,h⟩:=h
    have f79:=Ao (Aa e75).2 e78 (cs:=[.s (.int .i64 v73.frm),.s (.int .i64 v73.to)]) (by simp) rfl
    try simp at f79
    have f80:=f74
    try simp only[Af e78] at f80
    have f81:=f76
    try simp only[Af e78] at f81
    have f82:=f77
    try simp only[Af e78] at f82
    replace h:=bnE h;obtain⟨v83,e83,h⟩:=h
    have f84:=Ai e83
    try simp[Aa e73,f74,Ad (Aa e73).2 (k:=2) (by decide),Ab (Aa e73).2 (show 2≤2 by decide),lvs1,Aa e75,f76,Ad (Aa e75).2 (k:=2) (by decide),Ab (Aa e75).2 (show 2≤2 by decide),f77,f79,f80,f81,f82,Aa e83] at f84
    replace h:=ltE h;obtain⟨v85,e85,h⟩:=h
    have f86:=Ao (Aa e83).2 e85 (cs:=[.s (.int .i64 v75.frm),.s (.int .i64 v75.to)]) (by simp) rfl
    try simp at f86
    have f87:=f74
    try simp only[Af e85] at f87
    have f88:=f76
    try simp only[Af e85] at f88
    have f89:=f77
    try simp only[Af e85] at f89
    have f90:=f80
    try simp only[Af e85] at f90
    have f91:=f81
    try simp only[Af e85] at f91
    have f92:=f82
    try simp only[Af e85] at f92
    have f93:=f84
    try simp only[Af e85] at f93
    apply AW.drawnE (V:=[_,_,_,_,_,_,_,_,_,_,_,_,_,_]) (M:=[[some ⟨43,2,false,some 0,lvs (encSpan v13)⟩],[some ⟨43,2,false,some 0,lvs (encSpan v78)⟩]]) mixed [⟨[0],[],[(0,none)],false⟩,⟨[0],[],[(12,none)],false⟩,⟨[0,1],[],[(0,none)],false⟩,⟨[0,1],[],[(13,none)],false⟩,⟨[0],[],[(0,none)],false⟩,⟨[0],[],[(13,none)],false⟩,⟨[0],[4,5],[(91,some 4),(92,some 5)],false⟩,⟨[0],[4,5,6],[(93,some 6)],false⟩,⟨[0],[],[(0,none)],false⟩,⟨[0],[],[(12,none)],false⟩,⟨[0],[8,9],[(95,some 8),(96,some 9)],false⟩,⟨[0],[8,9,10],[(97,some 10)],false⟩,⟨[0],[0,1,4,5,6,7,8,9,10,11],[(87,some 0),(88,some 1)],false⟩,⟨[0],[0,1,4,5,6,7,8,9,10,11,12],[(94,some 7),(99,some 12)],true⟩,⟨[],[0,1,2,3,4,5,6,7,8,9,10,11,12,13],[],false⟩,⟨[],[0,1,2,3,4,5,6,7,8,9,10,11,12,13,14],[],false⟩] 14 1 (by kernel_rfl) (by kernel_rfl)
    ·rfl
    ·refine⟨?_,?_,⟨?_,?_⟩,⟨?_,?_⟩,?_,?_,?_,?_,?_,?_,?_,?_,?_,?_,trivial⟩
     iterate 16 (· intro tm hr;simp[AllL,rdV] at hr;simp[hr,Aa e73,f74,Ad (Aa e73).2 (k:=2) (by decide),Ab (Aa e73).2 (show 2≤2 by decide),lvs1,Aa e75,f76,Ad (Aa e75).2 (k:=2) (by decide),Ab (Aa e75).2 (show 2≤2 by decide),f77,f79,f80,f81,f82,Aa e83,f84,Af e78,Ab (Aa e83).2 (show 2≤2 by decide),f86,f87,f88,f89,f90,f91,f92,f93];intros;first|exact KD.mk|exact KD.mkN)
    ·rfl
    ·simp[tmD,putD,Aa e73,f74,Ad (Aa e73).2 (k:=2) (by decide),Ab (Aa e73).2 (show 2≤2 by decide),lvs1,Aa e75,f76,Ad (Aa e75).2 (k:=2) (by decide),Ab (Aa e75).2 (show 2≤2 by decide),f77,f79,f80,f81,f82,Aa e83,f84,Af e78,Ab (Aa e83).2 (show 2≤2 by decide),f86,f87,f88,f89,f90,f91,f92,f93];rfl
    ·simp[Aa e73,f74,Ad (Aa e73).2 (k:=2) (by decide),Ab (Aa e73).2 (show 2≤2 by decide),lvs1,Aa e75,f76,Ad (Aa e75).2 (k:=2) (by decide),Ab (Aa e75).2 (show 2≤2 by decide),f77,f79,f80,f81,f82,Aa e83,f84,Af e78,Ab (Aa e83).2 (show 2≤2 by decide),f86,f87,f88,f89,f90,f91,f92,f93]
     intros;rfl
    replace h:=ltE h;obtain⟨v94,e94,h⟩:=h
    apply AW.step
    ·simp[← e94]
     intros;rfl
    replace h:=ltE h;obtain⟨v95,e95,h⟩:=h
    apply AW.step
    ·simp[← e95]
     intros;rfl
    refine AW.seq ?_
    refine AW.block ?_
    replace h:=bnE h;obtain⟨y97,g97,h⟩:=h
    refine AW.iterP g97 (mk:=fun gh ls q=>(⟨[(0,.l (.r 0 2 0 q.2.2.length)),(1,.l (.s (.int .i64 a1))),(4,.l (.s (.func (.func 95) #[] #[]))),(12,.l (.s (.int .i64 q.1))),(13,.l (.s (.int .i64 q.2.1)))],[some ⟨43,2,false,some 0,lvs (encSpan q.2.2)⟩],178,gh,ls⟩:St)) (N:=fun gh ls=>(xP 4 (cx:=cx) (fun q=>(⟨[(0,.l (.r 0 2 0 q.2.length)),(1,.l (.s (.int .i64 a1))),(13,.l (.s (.int .i64 q.1)))],[some ⟨43,2,false,some 0,lvs (encSpan q.2)⟩],178,gh,ls⟩:St)))) ?_ noX ?_ ?_
    ·refine Weak.mixB 1 [some 0] hn0 (by decide) (by decide) ?_ ?_ ?_
     all_goals first|(simp[Ac,Ae,pickOb,Af e78,Af e85];done)|rfl
    ·clear h;intro y96 y98 h
     refine AW.block ?_
     refine AW.seq ?_
     refine AW.block ?_
     replace h:=bnE h;obtain⟨y100,g100,h⟩:=h
     refine AW.iterP g100 (mk:=fun gh ls q=>(⟨[(0,.l (.r 0 2 0 y96.2.2.length)),(1,.l (.s (.int .i64 a1))),(4,.l (.s (.func (.func 95) #[] #[]))),(12,.l (.s (.int .i64 q))),(13,.l (.s (.int .i64 y96.2.1)))],[some ⟨43,2,false,some 0,lvs (encSpan y96.2.2)⟩],178,gh,ls⟩:St)) (N:=fun gh ls=>(xP 6 (cx:=cx) (fun q=>(⟨[(0,.l (.r 0 2 0 y96.2.2.length)),(1,.l (.s (.int .i64 a1))),(4,.l (.s (.func (.func 95) #[] #[]))),(12,.l (.s (.int .i64 q))),(13,.l (.s (.int .i64 y96.2.1)))],[some ⟨43,2,false,some 0,lvs (encSpan y96.2.2)⟩],178,gh,ls⟩:St)))) ?_ noX ?_ ?_
     ·refine Weak.mixB 1 [some 0] hn0 (by decide) (by decide) ?_ ?_ ?_
      all_goals first|(simp[Ac,Ae,pickOb];done)|rfl
     ·clear h;intro y99 y101 h
      refine AW.seq ?_
      replace h:=bnE h;obtain⟨y102,g102,h⟩:=h
      refine AW.flow (p:=fun gh ls=>(nP (cx:=cx) (fun q=>(⟨[(0,.l (.r 0 2 0 y96.2.2.length)),(1,.l (.s (.int .i64 a1))),(4,.l (.s (.func (.func 95) #[] #[]))),(12,.l (.s (.int .i64 y99))),(13,.l (.s (.int .i64 y96.2.1))),(120,.l (.s (.bool q)))],[some ⟨43,2,false,some 0,lvs (encSpan y96.2.2)⟩],178,gh,ls⟩:St))) y102) ?_ ?_
      ·replace h:=g102;clear g102
       replace h:=ltE h;obtain⟨v103,e103,h⟩:=h
       cases v103 with
       |true =>
        replace h:=iteT rfl h
        replace h:=bnE h;obtain⟨v104,e104,h⟩:=h
        have f105:=Ai e104
        try simp[← e103,Aa e104] at f105
        replace h:=bnE h;obtain⟨v106,e106,h⟩:=h
        have f107:=Ai e106
        try simp[← e103,Aa e104,f105,Ad (Aa e104).2 (k:=2) (by decide),Ab (Aa e104).2 (show 2≤2 by decide),lvs1,Aa e106] at f107
        replace h:=bnE h;obtain⟨v108,e108,h⟩:=h
        replace h:=ltE h;obtain⟨v109,e109,h⟩:=h
        apply AW.drawnR (V:=[_,_,_,_,_,_,_,_,_,_,_,_,_]) mixed DX20t8 13 (by kernel_rfl) (by kernel_rfl)
        ·refine⟨?_,?_,?_,?_,?_,?_,?_,?_,?_,?_,?_,?_,?_,trivial⟩
         iterate 13 (· intro tm hr;simp[AllL,rdV] at hr;simp[hr,← e103,Aa e104,f105,Ad (Aa e104).2 (k:=2) (by decide),Ab (Aa e104).2 (show 2≤2 by decide),lvs1,Aa e106,f107,Ad (Aa e106).2 (k:=2) (by decide),Ab (Aa e106).2 (show 2≤2 by decide),← e109];intros;first|exact KD.mk|exact KD.mkN)
        ·rfl
        ·simp[tmD,putD,← e103,Aa e104,f105,Ad (Aa e104).2 (k:=2) (by decide),Ab (Aa e104).2 (show 2≤2 by decide),lvs1,Aa e106,f107,Ad (Aa e106).2 (k:=2) (by decide),Ab (Aa e106).2 (show 2≤2 by decide),← e109];rfl
        ·simp[← e103,Aa e104,f105,Ad (Aa e104).2 (k:=2) (by decide),Ab (Aa e104).2 (show 2≤2 by decide),lvs1,Aa e106,f107,Ad (Aa e106).2 (k:=2) (by decide),Ab (Aa e106).2 (show 2≤2 by decide),← e109]
         intros
         refine Ag AB (AE e108) rfl ⟨.same rfl,.same rfl,trivial⟩ ?_
         try simp[← e103,Aa e104,f105,Ad (Aa e104).2 (k:=2) (by decide),Ab (Aa e104).2 (show 2≤2 by decide),lvs1,Aa e106,f107,Ad (Aa e106).2 (k:=2) (by decide),Ab (Aa e106).2 (show 2≤2 by decide),← e109]
         intros;rfl
        obtain rfl:=oi h
        refine nP_i ?_
        refine Weak.mixB 1 [some 0] hn0 (by decide) (by decide) ?_ ?_ ?_
        all_goals first|(simp[Ac,Ae,pickOb];done)|rfl
       |false =>
        replace h:=iteF rfl h
        apply AW.drawnR (V:=[_,_,_,_,_,_,_,_,_,_,_,_,_]) mixed DX20t8 13 (by kernel_rfl) (by kernel_rfl)
        ·refine⟨?_,?_,?_,?_,?_,?_,?_,?_,?_,?_,?_,?_,?_,trivial⟩
         iterate 13 (· intro tm hr;simp[AllL,rdV] at hr;simp[hr,← e103];intros;first|exact KD.mk|exact KD.mkN)
        ·rfl
        ·simp[tmD,putD,← e103];rfl
        ·simp[← e103]
         intros;rfl
        obtain rfl:=oi h
        refine nP_i ?_
        refine Weak.mixB 1 [some 0] hn0 (by decide) (by decide) ?_ ?_ ?_
        all_goals first|(simp[Ac,Ae,pickOb];done)|rfl
      ·rintro e s hp
       obtain⟨rfl,hw⟩:=hp
       refine⟨_,hw,?_⟩
       try simp only[nm]
       replace h:=ltE h;obtain⟨v110,e110,h⟩:=h
       rw[← e110]
       cases v110 with
       |true =>
        replace h:=iteT rfl h
        refine AW.cond_true (by simp) ?_
        refine AW.skip ?_
        try simp only[nm]
        refine AW.block ?_
        replace h:=ltE h;obtain⟨v111,e111,h⟩:=h
        apply AW.last
        ·simp[← e111]
         intros;rfl
        obtain rfl:=oi h
        refine nP_i ?_
        refine Weak.mixB 1 [some 0] hn0 (by decide) (by decide) ?_ ?_ ?_
        all_goals first|(simp[Ac,Ae,pickOb];done)|rfl
       |false =>
        replace h:=iteF rfl h
        refine AW.cond_false (by simp) ?_
        refine AW.exit ?_
        try simp only[nm]
        obtain rfl:=oi h
        refine xP_i ?_
        refine Weak.mixB 1 [some 0] hn0 (by decide) (by decide) ?_ ?_ ?_
        all_goals first|(simp[Ac,Ae,pickOb];done)|rfl
     ·rintro e s hp
      obtain⟨rfl,hw⟩:=hp
      refine⟨_,hw,?_⟩
      try simp only[nm]
      refine AW.seq ?_
      refine AW.block ?_
      replace h:=bnE h;obtain⟨y113,g113,h⟩:=h
      refine AW.iterP g113 (mk:=fun gh ls q=>(⟨[(0,.l (.r 0 2 0 y96.2.2.length)),(1,.l (.s (.int .i64 a1))),(4,.l (.s (.func (.func 95) #[] #[]))),(12,.l (.s (.int .i64 y100))),(13,.l (.s (.int .i64 q)))],[some ⟨43,2,false,some 0,lvs (encSpan y96.2.2)⟩],178,gh,ls⟩:St)) (N:=fun gh ls=>(xP 8 (cx:=cx) (fun q=>(⟨[(0,.l (.r 0 2 0 y96.2.2.length)),(1,.l (.s (.int .i64 a1))),(4,.l (.s (.func (.func 95) #[] #[]))),(12,.l (.s (.int .i64 y100))),(13,.l (.s (.int .i64 q)))],[some ⟨43,2,false,some 0,lvs (encSpan y96.2.2)⟩],178,gh,ls⟩:St)))) ?_ noX ?_ ?_
      ·refine Weak.mixB 1 [some 0] hn0 (by decide) (by decide) ?_ ?_ ?_
       all_goals first|(simp[Ac,Ae,pickOb];done)|rfl
      ·clear h;intro y112 y114 h
       refine AW.seq ?_
       replace h:=bnE h;obtain⟨y115,g115,h⟩:=h
       refine AW.flow (p:=fun gh ls=>(nP (cx:=cx) (fun q=>(⟨[(0,.l (.r 0 2 0 y96.2.2.length)),(1,.l (.s (.int .i64 a1))),(4,.l (.s (.func (.func 95) #[] #[]))),(12,.l (.s (.int .i64 y100))),(13,.l (.s (.int .i64 y112))),(139,.l (.s (.bool q)))],[some ⟨43,2,false,some 0,lvs (encSpan y96.2.2)⟩],178,gh,ls⟩:St))) y115) ?_ ?_
       ·replace h:=g115;clear g115
        replace h:=ltE h;obtain⟨v116,e116,h⟩:=h
        cases v116 with
        |true =>
         replace h:=iteT rfl h
         replace h:=bnE h;obtain⟨v117,e117,h⟩:=h
         have f118:=Ai e117
         try simp[← e116,Aa e117] at f118
         replace h:=bnE h;obtain⟨v119,e119,h⟩:=h
         have f120:=Ai e119
         try simp[← e116,Aa e117,f118,Ad (Aa e117).2 (k:=2) (by decide),Ab (Aa e117).2 (show 2≤2 by decide),lvs1,Aa e119] at f120
         replace h:=bnE h;obtain⟨v121,e121,h⟩:=h
         replace h:=ltE h;obtain⟨v122,e122,h⟩:=h
         replace h:=ltE h;obtain⟨v123,e123,h⟩:=h
         apply AW.drawnR (V:=[_,_,_,_,_,_,_,_,_,_,_,_,_]) mixed DX20t9 13 (by kernel_rfl) (by kernel_rfl)
         ·refine⟨?_,?_,?_,?_,?_,?_,?_,?_,?_,?_,?_,?_,?_,trivial⟩
          iterate 13 (· intro tm hr;simp[AllL,rdV] at hr;simp[hr,← e116,Aa e117,f118,Ad (Aa e117).2 (k:=2) (by decide),Ab (Aa e117).2 (show 2≤2 by decide),lvs1,Aa e119,f120,Ad (Aa e119).2 (k:=2) (by decide),Ab (Aa e119).2 (show 2≤2 by decide),← e122,← e123];intros;first|exact KD.mk|exact KD.mkN)
         ·rfl
         ·simp[tmD,putD,← e116,Aa e117,f118,Ad (Aa e117).2 (k:=2) (by decide),Ab (Aa e117).2 (show 2≤2 by decide),lvs1,Aa e119,f120,Ad (Aa e119).2 (k:=2) (by decide),Ab (Aa e119).2 (show 2≤2 by decide),← e122,← e123];rfl
         ·simp[← e116,Aa e117,f118,Ad (Aa e117).2 (k:=2) (by decide),Ab (Aa e117).2 (show 2≤2 by decide),lvs1,Aa e119,f120,Ad (Aa e119).2 (k:=2) (by decide),Ab (Aa e119).2 (show 2≤2 by decide),← e122,← e123]
          intros
          refine Ag AB (AE e121) rfl ⟨.same rfl,.same rfl,trivial⟩ ?_
          try simp[← e116,Aa e117,f118,Ad (Aa e117).2 (k:=2) (by decide),Ab (Aa e117).2 (show 2≤2 by decide),lvs1,Aa e119,f120,Ad (Aa e119).2 (k:=2) (by decide),Ab (Aa e119).2 (show 2≤2 by decide),← e122,← e123]
          intros;rfl
         obtain rfl:=oi h
         refine nP_i ?_
         refine Weak.mixB 1 [some 0] hn0 (by decide) (by decide) ?_ ?_ ?_
         all_goals first|(simp[Ac,Ae,pickOb];done)|rfl
        |false =>
         replace h:=iteF rfl h
         apply AW.drawnR (V:=[_,_,_,_,_,_,_,_,_,_,_,_,_]) mixed DX20t9 13 (by kernel_rfl) (by kernel_rfl)
         ·refine⟨?_,?_,?_,?_,?_,?_,?_,?_,?_,?_,?_,?_,?_,trivial⟩
          iterate 13 (· intro tm hr;simp[AllL,rdV] at hr;simp[hr,← e116];intros;first|exact KD.mk|exact KD.mkN)
         ·rfl
         ·simp[tmD,putD,← e116];rfl
         ·simp[← e116]
          intros;rfl
         obtain rfl:=oi h
         refine nP_i ?_
         refine Weak.mixB 1 [some 0] hn0 (by decide) (by decide) ?_ ?_ ?_
         all_goals first|(simp[Ac,Ae,pickOb];done)|rfl
       ·rintro e s hp
        obtain⟨rfl,hw⟩:=hp
        refine⟨_,hw,?_⟩
        try simp only[nm]
        replace h:=ltE h;obtain⟨v124,e124,h⟩:=h
        rw[← e124]
        cases v124 with
        |true =>
         replace h:=iteT rfl h
         refine AW.cond_true (by simp) ?_
         refine AW.skip ?_
         try simp only[nm]
         refine AW.block ?_
         replace h:=ltE h;obtain⟨v125,e125,h⟩:=h
         apply AW.last
         ·simp[← e125]
          intros;rfl
         obtain rfl:=oi h
         refine nP_i ?_
         refine Weak.mixB 1 [some 0] hn0 (by decide) (by decide) ?_ ?_ ?_
         all_goals first|(simp[Ac,Ae,pickOb];done)|rfl
        |false =>
         replace h:=iteF rfl h
         refine AW.cond_false (by simp) ?_
         refine AW.exit ?_
         try simp only[nm]
         obtain rfl:=oi h
         refine xP_i ?_
         refine Weak.mixB 1 [some 0] hn0 (by decide) (by decide) ?_ ?_ ?_
         all_goals first|(simp[Ac,Ae,pickOb];done)|rfl
      ·rintro e s hp
       obtain⟨rfl,hw⟩:=hp
       refine⟨_,hw,?_⟩
       try simp only[nm]
       refine AW.seq ?_
       replace h:=ltE h;obtain⟨v126,e126,h⟩:=h
       apply AW.step
       ·simp[← e126]
        intros;rfl
       cases v126 with
       |true =>
        replace h:=iteT rfl h
        refine AW.cond_true (by simp) ?_
        refine AW.exit ?_
        try simp only[nm]
        obtain rfl:=oi h
        refine xP_i ?_
        refine Weak.mixB 1 [some 0] hn0 (by decide) (by decide) ?_ ?_ ?_
        all_goals first|(simp[Ac,Ae,pickOb];done)|rfl
       |false =>
        replace h:=iteF rfl h
        refine AW.cond_false (by simp) ?_
        refine AW.skip ?_
        try simp only[nm]
        replace h:=bnE h;obtain⟨v127,e127,h⟩:=h
        have f128:=Ai e127
        try simp[Aa e127] at f128
        replace h:=bnE h;obtain⟨v129,e129,h⟩:=h
        have f130:=Ai e129
        try simp[Aa e127,f128,Ad (Aa e127).2 (k:=2) (by decide),Ab (Aa e127).2 (show 2≤2 by decide),lvs1,Aa e129] at f130
        have f131:=Ai e129
        try simp[Aa e127,f128,Ad (Aa e127).2 (k:=2) (by decide),Ab (Aa e127).2 (show 2≤2 by decide),lvs1,Aa e129,f130,Ad (Aa e129).2 (k:=2) (by decide),Ab (Aa e129).2 (show 2≤2 by decide)] at f131
        replace h:=ltE h;obtain⟨v132,e132,h⟩:=h
        have f133:=Ao (Aa e129).2 e132 (cs:=[.s (.int .i64 v127.frm),.s (.int .i64 v127.to)]) (by simp) rfl
        try simp at f133
        have f134:=f128
        try simp only[Af e132] at f134
        have f135:=f130
        try simp only[Af e132] at f135
        have f136:=f131
        try simp only[Af e132] at f136
        replace h:=bnE h;obtain⟨v137,e137,h⟩:=h
        have f138:=Ai e137
        try simp[Aa e127,f128,Ad (Aa e127).2 (k:=2) (by decide),Ab (Aa e127).2 (show 2≤2 by decide),lvs1,Aa e129,f130,Ad (Aa e129).2 (k:=2) (by decide),Ab (Aa e129).2 (show 2≤2 by decide),f131,f133,f134,f135,f136,Aa e137] at f138
        replace h:=ltE h;obtain⟨v139,e139,h⟩:=h
        have f140:=Ao (Aa e137).2 e139 (cs:=[.s (.int .i64 v129.frm),.s (.int .i64 v129.to)]) (by simp) rfl
        try simp at f140
        have f141:=f128
        try simp only[Af e139] at f141
        have f142:=f130
        try simp only[Af e139] at f142
        have f143:=f131
        try simp only[Af e139] at f143
        have f144:=f134
        try simp only[Af e139] at f144
        have f145:=f135
        try simp only[Af e139] at f145
        have f146:=f136
        try simp only[Af e139] at f146
        have f147:=f138
        try simp only[Af e139] at f147
        apply AW.drawnE (V:=[_,_,_,_,_,_,_,_,_,_,_,_,_,_]) (M:=[[some ⟨43,2,false,some 0,lvs (encSpan y96.2.2)⟩],[some ⟨43,2,false,some 0,lvs (encSpan v132)⟩]]) mixed [⟨[0],[],[(0,none)],false⟩,⟨[0],[],[(12,none)],false⟩,⟨[0,1],[],[(0,none)],false⟩,⟨[0,1],[],[(13,none)],false⟩,⟨[0],[],[(0,none)],false⟩,⟨[0],[],[(13,none)],false⟩,⟨[0],[4,5],[(149,some 4),(150,some 5)],false⟩,⟨[0],[4,5,6],[(151,some 6)],false⟩,⟨[0],[],[(0,none)],false⟩,⟨[0],[],[(12,none)],false⟩,⟨[0],[8,9],[(153,some 8),(154,some 9)],false⟩,⟨[0],[8,9,10],[(155,some 10)],false⟩,⟨[0],[0,1,4,5,6,7,8,9,10,11],[(145,some 0),(146,some 1)],false⟩,⟨[0],[0,1,4,5,6,7,8,9,10,11,12],[(152,some 7),(157,some 12)],true⟩,⟨[],[0,1,2,3,4,5,6,7,8,9,10,11,12,13],[],false⟩,⟨[],[0,1,2,3,4,5,6,7,8,9,10,11,12,13,14],[],false⟩] 14 1 (by kernel_rfl) (by kernel_rfl)
        ·rfl
        ·refine⟨?_,?_,⟨?_,?_⟩,⟨?_,?_⟩,?_,?_,?_,?_,?_,?_,?_,?_,?_,?_,trivial⟩
         iterate 16 (· intro tm hr;simp[AllL,rdV] at hr;simp[hr,Aa e127,f128,Ad (Aa e127).2 (k:=2) (by decide),Ab (Aa e127).2 (show 2≤2 by decide),lvs1,Aa e129,f130,Ad (Aa e129).2 (k:=2) (by decide),Ab (Aa e129).2 (show 2≤2 by decide),f131,f133,f134,f135,f136,Aa e137,f138,Af e132,Ab (Aa e137).2 (show 2≤2 by decide),f140,f141,f142,f143,f144,f145,f146,f147];intros;first|exact KD.mk|exact KD.mkN)
        ·rfl
        ·simp[tmD,putD,Aa e127,f128,Ad (Aa e127).2 (k:=2) (by decide),Ab (Aa e127).2 (show 2≤2 by decide),lvs1,Aa e129,f130,Ad (Aa e129).2 (k:=2) (by decide),Ab (Aa e129).2 (show 2≤2 by decide),f131,f133,f134,f135,f136,Aa e137,f138,Af e132,Ab (Aa e137).2 (show 2≤2 by decide),f140,f141,f142,f143,f144,f145,f146,f147];rfl
        ·simp[Aa e127,f128,Ad (Aa e127).2 (k:=2) (by decide),Ab (Aa e127).2 (show 2≤2 by decide),lvs1,Aa e129,f130,Ad (Aa e129).2 (k:=2) (by decide),Ab (Aa e129).2 (show 2≤2 by decide),f131,f133,f134,f135,f136,Aa e137,f138,Af e132,Ab (Aa e137).2 (show 2≤2 by decide),f140,f141,f142,f143,f144,f145,f146,f147]
         intros;rfl
        replace h:=ltE h;obtain⟨v148,e148,h⟩:=h
        apply AW.step
        ·simp[← e148]
         intros;rfl
        replace h:=ltE h;obtain⟨v149,e149,h⟩:=h
        apply AW.last
        ·simp[← e149]
         intros;rfl
        obtain rfl:=oi h
        refine nP_i ?_
        refine Weak.mixB 1 [some 0] hn0 (by decide) (by decide) ?_ ?_ ?_
        all_goals first|(simp[Ac,Ae,pickOb,Af e132,Af e139];done)|rfl
    ·rintro e s hp
     obtain⟨rfl,hw⟩:=hp
     refine⟨_,hw,?_⟩
     try simp only[nm]
     replace h:=bnE h;obtain⟨v150,e150,h⟩:=h
     have f151:=Ai e150
     try simp[Aa e150] at f151
     replace h:=bnE h;obtain⟨v152,e152,h⟩:=h
     have f153:=Ai e152
     try simp[Aa e150,f151,Ad (Aa e150).2 (k:=2) (by decide),Ab (Aa e150).2 (show 2≤2 by decide),lvs1,Aa e152] at f153
     have f154:=Ai e152
     try simp[Aa e150,f151,Ad (Aa e150).2 (k:=2) (by decide),Ab (Aa e150).2 (show 2≤2 by decide),lvs1,Aa e152,f153,Ad (Aa e152).2 (k:=2) (by decide),Ab (Aa e152).2 (show 2≤2 by decide)] at f154
     replace h:=ltE h;obtain⟨v155,e155,h⟩:=h
     have f156:=Ao (Aa e152).2 e155 (cs:=[.s (.int .i64 v150.frm),.s (.int .i64 v150.to)]) (by simp) rfl
     try simp at f156
     have f157:=f151
     try simp only[Af e155] at f157
     have f158:=f153
     try simp only[Af e155] at f158
     have f159:=f154
     try simp only[Af e155] at f159
     replace h:=bnE h;obtain⟨v160,e160,h⟩:=h
     have f161:=Ai e160
     try simp[Aa e150,f151,Ad (Aa e150).2 (k:=2) (by decide),Ab (Aa e150).2 (show 2≤2 by decide),lvs1,Aa e152,f153,Ad (Aa e152).2 (k:=2) (by decide),Ab (Aa e152).2 (show 2≤2 by decide),f154,f156,f157,f158,f159,Aa e160] at f161
     replace h:=ltE h;obtain⟨v162,e162,h⟩:=h
     have f163:=Ao (Aa e160).2 e162 (cs:=[.s (.int .i64 v152.frm),.s (.int .i64 v152.to)]) (by simp) rfl
     try simp at f163
     have f164:=f151
     try simp only[Af e162] at f164
     have f165:=f153
     try simp only[Af e162] at f165
     have f166:=f154
     try simp only[Af e162] at f166
     have f167:=f157
     try simp only[Af e162] at f167
     have f168:=f158
     try simp only[Af e162] at f168
     have f169:=f159
     try simp only[Af e162] at f169
     have f170:=f161
     try simp only[Af e162] at f170
     apply AW.drawnE (V:=[_,_,_,_,_,_,_,_,_,_,_,_,_,_]) (M:=[[some ⟨43,2,false,some 0,lvs (encSpan y97.2)⟩],[some ⟨43,2,false,some 0,lvs (encSpan v155)⟩]]) mixed [⟨[0],[],[(0,none)],false⟩,⟨[0],[],[(13,none)],false⟩,⟨[0,1],[],[(0,none)],false⟩,⟨[0,1],[],[(1,none)],false⟩,⟨[0],[],[(0,none)],false⟩,⟨[0],[],[(1,none)],false⟩,⟨[0],[4,5],[(167,some 4),(168,some 5)],false⟩,⟨[0],[4,5,6],[(169,some 6)],false⟩,⟨[0],[],[(0,none)],false⟩,⟨[0],[],[(13,none)],false⟩,⟨[0],[8,9],[(171,some 8),(172,some 9)],false⟩,⟨[0],[8,9,10],[(173,some 10)],false⟩,⟨[0],[0,1,4,5,6,7,8,9,10,11],[(163,some 0),(164,some 1)],false⟩,⟨[0],[0,1,4,5,6,7,8,9,10,11,12],[(170,some 7),(175,some 12)],true⟩,⟨[],[0,1,2,3,4,5,6,7,8,9,10,11,12,13],[],false⟩,⟨[],[0,1,2,3,4,5,6,7,8,9,10,11,12,13,14],[],false⟩] 14 1 (by kernel_rfl) (by kernel_rfl)
     ·rfl
     ·refine⟨?_,?_,⟨?_,?_⟩,⟨?_,?_⟩,?_,?_,?_,?_,?_,?_,?_,?_,?_,?_,trivial⟩
      iterate 16 (· intro tm hr;simp[AllL,rdV] at hr;simp[hr,Aa e150,f151,Ad (Aa e150).2 (k:=2) (by decide),Ab (Aa e150).2 (show 2≤2 by decide),lvs1,Aa e152,f153,Ad (Aa e152).2 (k:=2) (by decide),Ab (Aa e152).2 (show 2≤2 by decide),f154,f156,f157,f158,f159,Aa e160,f161,Af e155,Ab (Aa e160).2 (show 2≤2 by decide),f163,f164,f165,f166,f167,f168,f169,f170];intros;first|exact KD.mk|exact KD.mkN)
     ·rfl
     ·simp[tmD,putD,Aa e150,f151,Ad (Aa e150).2 (k:=2) (by decide),Ab (Aa e150).2 (show 2≤2 by decide),lvs1,Aa e152,f153,Ad (Aa e152).2 (k:=2) (by decide),Ab (Aa e152).2 (show 2≤2 by decide),f154,f156,f157,f158,f159,Aa e160,f161,Af e155,Ab (Aa e160).2 (show 2≤2 by decide),f163,f164,f165,f166,f167,f168,f169,f170];rfl
     ·simp[Aa e150,f151,Ad (Aa e150).2 (k:=2) (by decide),Ab (Aa e150).2 (show 2≤2 by decide),lvs1,Aa e152,f153,Ad (Aa e152).2 (k:=2) (by decide),Ab (Aa e152).2 (show 2≤2 by decide),f154,f156,f157,f158,f159,Aa e160,f161,Af e155,Ab (Aa e160).2 (show 2≤2 by decide),f163,f164,f165,f166,f167,f168,f169,f170]
      intros;rfl
     apply AW.step
     ·simp
      intros;rfl
     obtain rfl:=oi h
     refine AW.ret ?_
     refine Left.of (av:=_) (by simp[Try.f149,resV,resC,comp];rfl) ?_
     exact LeftV.mix 1 [some 0] hn0 rfl (by decide) rfl (by simp[pickOb,Ac,Ae,Af e155,Af e162]) (by simp[Ac,Ae,Af e155,Af e162])
theorem Co:Enters Try.prog 149:=enters Try.func149 (by kernel_rfl) rfl
def Bx (n:Nat) (a0:Int):Option Int :=
lt (cvI .u64 a0) fun v1 =>
bn (Da n v1) fun v2 =>
bn (shlI .u64 1 v2) fun v3 =>
some v3
theorem D1 {n:Nat} {a0:Int} {r:Int} (h:Bx n a0=some r):Sound Try.prog 124 [.l (.s (.int .i64 a0))] [] (.l (.s (.int .u64 r))) []:=by
 unfold Bx at h
 refine Sound.of_aw (fn:=Try.f124) (c:=_) Try.func124 rfl (by simp[Try.f124]) fun cx hG hnb=>?_
 rw[show Try.f124.ntmps=7 from rfl]
 have hn0:cx.nb=0:=hnb
 simp only[Al,initTm,List.map_cons,List.map_nil]
 apply AW.step
 ·simp
  intros;rfl
 replace h:=ltE h;obtain⟨v1,e1,h⟩:=h
 replace h:=bnE h;obtain⟨v2,e2,h⟩:=h
 replace h:=bnE h;obtain⟨v3,e3,h⟩:=h
 apply AW.step
 ·simp[← e1,e3]
  intros
  refine Ag Fp (FY e2) rfl ⟨.same rfl,trivial⟩ ?_
  try simp[← e1,e3]
  intros;rfl
 obtain rfl:=oi h
 refine AW.ret ?_
 refine Left.plain hnb (by simp[Try.f124,resV,resC,comp];rfl) rfl rfl ?_
 simp
theorem DT:Enters Try.prog 124:=enters Try.func124 (by kernel_rfl) rfl
def BC (n:Nat) (a0:Int):Option (Int×Int) :=
bn (shlI .u64 a0 13) fun v1 =>
lt (xorI .u64 a0 v1) fun v2 =>
bn (shrI .u64 v2 7) fun v3 =>
lt (xorI .u64 v2 v3) fun v4 =>
bn (shlI .u64 v4 17) fun v5 =>
lt (xorI .u64 v4 v5) fun v6 =>
some (v6,v6)
theorem Ed {n:Nat} {a0:Int} {r:Int×Int} (h:BC n a0=some r):Sound Try.prog 125 [.l (.p 0 0)] [⟨194,1,false,none,[.s (.int .u64 a0)]⟩] (.l (.s (.int .u64 r.1))) [some ⟨194,1,false,none,[.s (.int .u64 r.2)]⟩]:=by
 unfold BC at h
 refine Sound.of_aw (fn:=Try.f125) (c:=_) Try.func125 rfl (by simp[Try.f125]) fun cx hG hnb=>?_
 rw[show Try.f125.ntmps=33 from rfl]
 have hn0:cx.nb=1:=hnb
 simp only[Al,initTm,List.map_cons,List.map_nil]
 apply AW.step
 ·simp
  intros;rfl
 replace h:=bnE h;obtain⟨v1,e1,h⟩:=h
 replace h:=ltE h;obtain⟨v2,e2,h⟩:=h
 apply AW.drawnP (V:=[_,_,_,_,_,_,_]) mixed [⟨[0],[],[(0,none)],false⟩,⟨[0],[0],[(3,some 0)],false⟩,⟨[0],[0,1],[(4,some 1)],false⟩,⟨[0],[],[(0,none)],false⟩,⟨[0],[3],[(6,some 3)],false⟩,⟨[0],[3,4],[(7,some 4)],false⟩,⟨[0],[3,4,5],[(8,some 5)],false⟩,⟨[],[0,1,2,3,4,5,6],[],false⟩,⟨[],[0,1,2,3,4,5,6,7],[],false⟩,⟨[],[0,1,2,3,4,5,6,7,8],[],false⟩] 7 (by kernel_rfl) (by kernel_rfl)
 ·refine⟨?_,?_,?_,?_,?_,?_,?_,trivial⟩
  iterate 7 (· intro tm hr;simp[AllL,rdV] at hr;simp[hr,e1,← e2];intros;first|exact KD.mk|exact KD.mkN)
 ·rfl
 ·simp[tmD,putD,e1,← e2];rfl
 ·simp[e1,← e2]
  intros;rfl
 replace h:=bnE h;obtain⟨v3,e3,h⟩:=h
 replace h:=ltE h;obtain⟨v4,e4,h⟩:=h
 apply AW.drawnP (V:=[_,_,_,_,_,_,_]) mixed [⟨[0],[],[(0,none)],false⟩,⟨[0],[0],[(12,some 0)],false⟩,⟨[0],[0,1],[(13,some 1)],false⟩,⟨[0],[],[(0,none)],false⟩,⟨[0],[3],[(15,some 3)],false⟩,⟨[0],[3,4],[(16,some 4)],false⟩,⟨[0],[3,4,5],[(17,some 5)],false⟩,⟨[],[0,1,2,3,4,5,6],[],false⟩,⟨[],[0,1,2,3,4,5,6,7],[],false⟩,⟨[],[0,1,2,3,4,5,6,7,8],[],false⟩] 7 (by kernel_rfl) (by kernel_rfl)
 ·refine⟨?_,?_,?_,?_,?_,?_,?_,trivial⟩
  iterate 7 (· intro tm hr;simp[AllL,rdV] at hr;simp[hr,e3,← e4];intros;first|exact KD.mk|exact KD.mkN)
 ·rfl
 ·simp[tmD,putD,e3,← e4];rfl
 ·simp[e3,← e4]
  intros;rfl
 replace h:=bnE h;obtain⟨v5,e5,h⟩:=h
 replace h:=ltE h;obtain⟨v6,e6,h⟩:=h
 apply AW.drawnP (V:=[_,_,_,_,_,_,_]) mixed [⟨[0],[],[(0,none)],false⟩,⟨[0],[0],[(21,some 0)],false⟩,⟨[0],[0,1],[(22,some 1)],false⟩,⟨[0],[],[(0,none)],false⟩,⟨[0],[3],[(24,some 3)],false⟩,⟨[0],[3,4],[(25,some 4)],false⟩,⟨[0],[3,4,5],[(26,some 5)],false⟩,⟨[],[0,1,2,3,4,5,6],[],false⟩,⟨[],[0,1,2,3,4,5,6,7],[],false⟩,⟨[],[0,1,2,3,4,5,6,7,8],[],false⟩] 7 (by kernel_rfl) (by kernel_rfl)
 ·refine⟨?_,?_,?_,?_,?_,?_,?_,trivial⟩
  iterate 7 (· intro tm hr;simp[AllL,rdV] at hr;simp[hr,e5,← e6];intros;first|exact KD.mk|exact KD.mkN)
 ·rfl
 ·simp[tmD,putD,e5,← e6];rfl
 ·simp[e5,← e6]
  intros;rfl
 apply AW.step
 ·simp
  intros;rfl
 obtain rfl:=oi h
 refine AW.ret ?_
 refine Left.of (av:=_) (by simp[Try.f125,resV,resC,comp];rfl) ?_
 exact LeftV.mix 1 [some 0] hn0 rfl (by decide) rfl (by simp[pickOb,Ac,Ae]) (by simp[Ac,Ae])
theorem D2:Enters Try.prog 125:=enters Try.func125 (by kernel_rfl) rfl
def AY (n:Nat) (a0:List Span) (a1:Int) (a2:Int):Option (List Span) :=
lt (subI .i64 a2 a1) fun v1 =>
lt (geI v1 8) fun v2 =>
ite' v2 (lt (cvI .u64 v1) fun v3 =>
bn (Bx n v1) fun v4 =>
bn (quoI .i64 v1 4) fun v5 =>
lt (mulI .i64 v5 2) fun v6 =>
lt (addI .i64 a1 v6) fun v7 =>
lt (subI .i64 v7 1) fun v8 =>
bn (iter n (fun (y9:Int×List Span×Int) =>
bn (quoI .i64 v1 4) fun v12 =>
lt (mulI .i64 v12 2) fun v13 =>
lt (addI .i64 a1 v13) fun v14 =>
lt (addI .i64 v14 1) fun v15 =>
lt (leI y9.1 v15) fun v16 =>
ite' v16 (bn (BC n y9.2.2) fun v17 =>
lt (subI .u64 v4 1) fun v18 =>
lt (andI .u64 v17.1 v18) fun v19 =>
lt (cvI .i64 v19) fun v20 =>
bn (lt (geI v20 v1) fun v22 =>
ite' v22 (lt (subI .i64 v20 v1) fun v23 =>
some (v23)) (some (v20))) fun (y21:Int) =>
lt (addI .i64 a1 y21) fun v24 =>
bn (nth y9.2.1 v24) fun v25 =>
bn (nth y9.2.1 y9.1) fun v27 =>
lt (y9.2.1.set y9.1.toNat v25) fun v30 =>
bn (nth v30 v24) fun v35 =>
lt (v30.set v24.toNat v27) fun v37 =>
lt (addI .i64 y9.1 1) fun v46 =>
some (.inl (v46,v37,v17.2))) (some (.inr y9.2.1))) (v8,a0,v3)) fun (y10:List Span) =>
some y10) (some a0)
theorem B6 {n:Nat} {a0:List Span} {a1:Int} {a2:Int} {r:List Span} (h:AY n a0 a1 a2=some r):Sound Try.prog 144 [.l (.r 0 2 0 a0.length),.l (.s (.int .i64 a1)),.l (.s (.int .i64 a2)),.l (.s (.func (.func 95) #[] #[]))] [⟨43,2,false,some 0,lvs (encSpan a0)⟩] (.t []) [some ⟨43,2,false,some 0,lvs (encSpan r)⟩]:=by
 unfold AY at h
 refine Sound.of_aw (fn:=Try.f144) (c:=_) Try.func144 rfl (by simp[Try.f144]) fun cx hG hnb=>?_
 rw[show Try.f144.ntmps=67 from rfl]
 have hn0:cx.nb=1:=hnb
 simp only[Al,initTm,List.map_cons,List.map_nil]
 replace h:=ltE h;obtain⟨v1,e1,h⟩:=h
 apply AW.step
 ·simp[← e1]
  intros;rfl
 replace h:=ltE h;obtain⟨v2,e2,h⟩:=h
 apply AW.step
 ·simp[← e2]
  intros;rfl
 cases v2 with
 |true =>
  replace h:=iteT rfl h
  refine AW.cond_true (by simp) ?_
  replace h:=ltE h;obtain⟨v3,e3,h⟩:=h
  apply AW.step
  ·simp[← e3]
   intros;rfl
  replace h:=bnE h;obtain⟨v4,e4,h⟩:=h
  apply AW.step
  ·simp
   intros
   refine Ag DT (D1 e4) rfl ⟨.same rfl,trivial⟩ ?_
   try simp
   intros;rfl
  replace h:=bnE h;obtain⟨v5,e5,h⟩:=h
  replace h:=ltE h;obtain⟨v6,e6,h⟩:=h
  replace h:=ltE h;obtain⟨v7,e7,h⟩:=h
  replace h:=ltE h;obtain⟨v8,e8,h⟩:=h
  apply AW.step
  ·simp[e5,← e6,← e7,← e8]
   intros;rfl
  refine AW.block ?_
  replace h:=bnE h;obtain⟨y10,g10,h⟩:=h
  refine AW.iterP g10 (mk:=fun gh ls q=>(⟨[(0,.l (.r 0 2 0 q.2.1.length)),(1,.l (.s (.int .i64 a1))),(8,.l (.s (.int .i64 v1))),(9,.l (.p 1 0)),(10,.l (.s (.int .u64 v4))),(11,.l (.s (.int .i64 q.1)))],[some ⟨43,2,false,some 0,lvs (encSpan q.2.1)⟩,some ⟨194,1,false,none,[.s (.int .u64 q.2.2)]⟩],67,gh,ls⟩:St)) (N:=fun gh ls=>(xP 0 (cx:=cx) (fun q=>(⟨[],[some ⟨43,2,false,some 0,lvs (encSpan q)⟩],67,gh,ls⟩:St)))) ?_ noX ?_ ?_
  ·refine Weak.mixB 1 [some 0,some 1] hn0 (by decide) (by decide) ?_ ?_ ?_
   all_goals first|(simp[Ac,Ae,pickOb];done)|rfl
  ·clear h;intro y9 y11 h
   refine AW.seq ?_
   replace h:=bnE h;obtain⟨v12,e12,h⟩:=h
   replace h:=ltE h;obtain⟨v13,e13,h⟩:=h
   replace h:=ltE h;obtain⟨v14,e14,h⟩:=h
   replace h:=ltE h;obtain⟨v15,e15,h⟩:=h
   replace h:=ltE h;obtain⟨v16,e16,h⟩:=h
   apply AW.step
   ·simp[e12,← e13,← e14,← e15,← e16]
    intros;rfl
   cases v16 with
   |true =>
    replace h:=iteT rfl h
    refine AW.cond_true (by simp) ?_
    refine AW.skip ?_
    try simp only[nm]
    refine AW.seq ?_
    refine AW.block ?_
    replace h:=bnE h;obtain⟨v17,e17,h⟩:=h
    replace h:=ltE h;obtain⟨v18,e18,h⟩:=h
    replace h:=ltE h;obtain⟨v19,e19,h⟩:=h
    replace h:=ltE h;obtain⟨v20,e20,h⟩:=h
    apply AW.step
    ·simp[← e18,← e19,← e20]
     intros
     refine Ax [1] D2 (Ed e17) (by decide) (by simp[pickOb,Ac,Ae]) rfl rfl (by simp) ⟨.l (ptrV (by simp[Ac,Ae])),trivial⟩ ?_
     try simp[← e18,← e19,← e20]
     intros;rfl
    replace h:=bnE h;obtain⟨y21,g21,h⟩:=h
    refine AW.flow (p:=fun gh ls=>(nP (cx:=cx) (fun q=>(⟨[(0,.l (.r 0 2 0 y9.2.1.length)),(1,.l (.s (.int .i64 a1))),(8,.l (.s (.int .i64 v1))),(9,.l (.p 1 0)),(10,.l (.s (.int .u64 v4))),(11,.l (.s (.int .i64 y9.1))),(12,.l (.s (.int .i64 q)))],[some ⟨43,2,false,some 0,lvs (encSpan y9.2.1)⟩,some ⟨194,1,false,none,[.s (.int .u64 v17.2)]⟩],67,gh,ls⟩:St))) y21) ?_ ?_
    ·replace h:=g21;clear g21
     replace h:=ltE h;obtain⟨v22,e22,h⟩:=h
     apply AW.step
     ·simp[← e22]
      intros;rfl
     cases v22 with
     |true =>
      replace h:=iteT rfl h
      refine AW.cond_true (by simp) ?_
      replace h:=ltE h;obtain⟨v23,e23,h⟩:=h
      apply AW.last
      ·simp[← e23]
       intros;rfl
      obtain rfl:=oi h
      refine nP_i ?_
      refine Weak.mixB 1 [some 0,some 1] hn0 (by decide) (by decide) ?_ ?_ ?_
      all_goals first|(simp[Ac,Ae,pickOb];done)|rfl
     |false =>
      replace h:=iteF rfl h
      refine AW.cond_false (by simp) ?_
      refine AW.skip ?_
      try simp only[nm]
      obtain rfl:=oi h
      refine nP_i ?_
      refine Weak.mixB 1 [some 0,some 1] hn0 (by decide) (by decide) ?_ ?_ ?_
      all_goals first|(simp[Ac,Ae,pickOb];done)|rfl
    ·rintro e s hp
     obtain⟨rfl,hw⟩:=hp
     refine⟨_,hw,?_⟩
     try simp only[nm]
     replace h:=ltE h;obtain⟨v24,e24,h⟩:=h
     replace h:=bnE h;obtain⟨v25,e25,h⟩:=h
     have f26:=Ai e25
     try simp[← e24,Aa e25] at f26
     replace h:=bnE h;obtain⟨v27,e27,h⟩:=h
     have f28:=Ai e27
     try simp[← e24,Aa e25,f26,Ad (Aa e25).2 (k:=2) (by decide),Ab (Aa e25).2 (show 2≤2 by decide),lvs1,Aa e27] at f28
     have f29:=Ai e27
     try simp[← e24,Aa e25,f26,Ad (Aa e25).2 (k:=2) (by decide),Ab (Aa e25).2 (show 2≤2 by decide),lvs1,Aa e27,f28,Ad (Aa e27).2 (k:=2) (by decide),Ab (Aa e27).2 (show 2≤2 by decide)] at f29
     replace h:=ltE h;obtain⟨v30,e30,h⟩:=h
     have f31:=Ao (Aa e27).2 e30 (cs:=[.s (.int .i64 v25.frm),.s (.int .i64 v25.to)]) (by simp) rfl
     try simp at f31
     have f32:=f26
     try simp only[Af e30] at f32
     have f33:=f28
     try simp only[Af e30] at f33
     have f34:=f29
     try simp only[Af e30] at f34
     replace h:=bnE h;obtain⟨v35,e35,h⟩:=h
     have f36:=Ai e35
     try simp[← e24,Aa e25,f26,Ad (Aa e25).2 (k:=2) (by decide),Ab (Aa e25).2 (show 2≤2 by decide),lvs1,Aa e27,f28,Ad (Aa e27).2 (k:=2) (by decide),Ab (Aa e27).2 (show 2≤2 by decide),f29,f31,f32,f33,f34,Aa e35] at f36
     replace h:=ltE h;obtain⟨v37,e37,h⟩:=h
     have f38:=Ao (Aa e35).2 e37 (cs:=[.s (.int .i64 v27.frm),.s (.int .i64 v27.to)]) (by simp) rfl
     try simp at f38
     have f39:=f26
     try simp only[Af e37] at f39
     have f40:=f28
     try simp only[Af e37] at f40
     have f41:=f29
     try simp only[Af e37] at f41
     have f42:=f32
     try simp only[Af e37] at f42
     have f43:=f33
     try simp only[Af e37] at f43
     have f44:=f34
     try simp only[Af e37] at f44
     have f45:=f36
     try simp only[Af e37] at f45
     apply AW.drawnF (V:=[_,_,_,_,_,_,_,_,_,_,_,_,_,_,_,_,_,_]) (M:=[[some ⟨43,2,false,some 0,lvs (encSpan y9.2.1)⟩,some ⟨194,1,false,none,[.s (.int .u64 v17.2)]⟩],[some ⟨43,2,false,some 0,lvs (encSpan v30)⟩,some ⟨194,1,false,none,[.s (.int .u64 v17.2)]⟩]]) mixed [⟨[0],[],[(0,none)],false⟩,⟨[0],[],[(11,none)],false⟩,⟨[0,1],[],[(0,none)],false⟩,⟨[0,1],[],[(1,none)],false⟩,⟨[0,1],[],[(12,none)],false⟩,⟨[0,1],[3,4],[(52,some 3),(53,some 4)],false⟩,⟨[0],[],[(0,none)],false⟩,⟨[0],[],[(1,none)],false⟩,⟨[0],[],[(12,none)],false⟩,⟨[0],[7,8],[(56,some 7),(57,some 8)],false⟩,⟨[0],[6,7,8,9],[(55,some 6),(58,some 9)],false⟩,⟨[0],[6,7,8,9,10],[(59,some 10)],false⟩,⟨[0],[],[(0,none)],false⟩,⟨[0],[],[(11,none)],false⟩,⟨[0],[12,13],[(61,some 12),(62,some 13)],false⟩,⟨[0],[12,13,14],[(63,some 14)],false⟩,⟨[0],[0,1,6,7,8,9,10,11,12,13,14,15],[(49,some 0),(50,some 1)],false⟩,⟨[0],[0,1,6,7,8,9,10,11,12,13,14,15,16],[(60,some 11),(65,some 16)],true⟩,⟨[],[0,1,2,3,4,5,6,7,8,9,10,11,12,13,14,15,16,17],[],false⟩,⟨[],[0,1,2,3,4,5,6,7,8,9,10,11,12,13,14,15,16,17,18],[],false⟩] 18 1 (by kernel_rfl) (by kernel_rfl)
     ·rfl
     ·refine⟨?_,?_,⟨?_,?_⟩,⟨?_,?_⟩,⟨?_,?_⟩,⟨?_,?_⟩,?_,?_,?_,?_,?_,?_,?_,?_,?_,?_,?_,?_,trivial⟩
      iterate 22 (· intro tm hr;simp[AllL,rdV] at hr;simp[hr,← e24,Aa e25,f26,Ad (Aa e25).2 (k:=2) (by decide),Ab (Aa e25).2 (show 2≤2 by decide),lvs1,Aa e27,f28,Ad (Aa e27).2 (k:=2) (by decide),Ab (Aa e27).2 (show 2≤2 by decide),f29,f31,f32,f33,f34,Aa e35,f36,Af e30,Ab (Aa e35).2 (show 2≤2 by decide),f38,f39,f40,f41,f42,f43,f44,f45];intros;first|exact KD.mk|exact KD.mkN)
     ·rfl
     ·simp[tmD,putD,← e24,Aa e25,f26,Ad (Aa e25).2 (k:=2) (by decide),Ab (Aa e25).2 (show 2≤2 by decide),lvs1,Aa e27,f28,Ad (Aa e27).2 (k:=2) (by decide),Ab (Aa e27).2 (show 2≤2 by decide),f29,f31,f32,f33,f34,Aa e35,f36,Af e30,Ab (Aa e35).2 (show 2≤2 by decide),f38,f39,f40,f41,f42,f43,f44,f45];rfl
     ·simp[← e24,Aa e25,f26,Ad (Aa e25).2 (k:=2) (by decide),Ab (Aa e25).2 (show 2≤2 by decide),lvs1,Aa e27,f28,Ad (Aa e27).2 (k:=2) (by decide),Ab (Aa e27).2 (show 2≤2 by decide),f29,f31,f32,f33,f34,Aa e35,f36,Af e30,Ab (Aa e35).2 (show 2≤2 by decide),f38,f39,f40,f41,f42,f43,f44,f45]
      intros;rfl
     try simp only[nm]
     replace h:=ltE h;obtain⟨v46,e46,h⟩:=h
     apply AW.last
     ·simp[← e46]
      intros;rfl
     obtain rfl:=oi h
     refine nP_i ?_
     refine Weak.mixB 1 [some 0,some 1] hn0 (by decide) (by decide) ?_ ?_ ?_
     all_goals first|(simp[Ac,Ae,pickOb,Af e30,Af e37];done)|rfl
   |false =>
    replace h:=iteF rfl h
    refine AW.cond_false (by simp) ?_
    refine AW.exit ?_
    try simp only[nm]
    obtain rfl:=oi h
    refine xP_i ?_
    refine Weak.mixB 1 [some 0] hn0 (by decide) (by decide) ?_ ?_ ?_
    all_goals first|(simp[Ac,Ae,pickOb];done)|rfl
  ·rintro e s hp
   obtain⟨rfl,hw⟩:=hp
   refine⟨_,hw,?_⟩
   try simp only[nm]
   obtain rfl:=oi h
   refine Left.of (av:=_) (by simp[Try.f144,resV,resC,comp];rfl) ?_
   exact LeftV.mix 1 [some 0] hn0 rfl (by decide) rfl (by simp[pickOb,Ac,Ae]) (by simp[Ac,Ae])
 |false =>
  replace h:=iteF rfl h
  refine AW.cond_false (by simp) ?_
  refine AW.skip ?_
  try simp only[nm]
  obtain rfl:=oi h
  refine Left.of (av:=_) (by simp[Try.f144,resV,resC,comp];rfl) ?_
  exact LeftV.mix 1 [some 0] hn0 rfl (by decide) rfl (by simp[pickOb,Ac,Ae]) (by simp[Ac,Ae])
theorem BZ:Enters Try.prog 144:=enters Try.func144 (by kernel_rfl) rfl
def AA (n:Nat):Nat→List Span→Int→Int→Int→Option (List Span)
|0,_,_,_,_=>none
|m+1,a0,a1,a2,a3 =>
bn (iter n (fun (y1:Int×Int×Int×Bool×Bool×List Span) =>
lt (subI .i64 y1.2.1 y1.1) fun v4 =>
lt (leI v4 12) fun v5 =>
ite' v5 (bn (AU n y1.2.2.2.2.2 y1.1 y1.2.1) fun v6 =>
chk (lenB v6 y1.2.2.2.2.2) <|
some (.inr v6)) (lt (eqI y1.2.2.1 0) fun v8 =>
ite' v8 (bn (A7 n y1.2.2.2.2.2 y1.1 y1.2.1) fun v9 =>
chk (lenB v9 y1.2.2.2.2.2) <|
some (.inr v9)) (bn (lt (notB y1.2.2.2.1) fun v12 =>
ite' v12 (bn (AY n y1.2.2.2.2.2 y1.1 y1.2.1) fun v13 =>
chk (lenB v13 y1.2.2.2.2.2) <|
lt (subI .i64 y1.2.2.1 1) fun v15 =>
some ((v15,v13))) (some ((y1.2.2.1,y1.2.2.2.2.2)))) fun (y11:Int×List Span) =>
bn (A2 n y11.2 y1.1 y1.2.1) fun v16 =>
chk (lenB v16.2.2 y11.2) <|
bn (lt (eqI v16.2.1 2) fun v19 =>
ite' v19 (bn (AZ n v16.2.2 y1.1 y1.2.1) fun v20 =>
chk (lenB v20 v16.2.2) <|
lt (subI .i64 y1.2.1 1) fun v22 =>
lt (subI .i64 v16.1 y1.1) fun v23 =>
lt (subI .i64 v22 v23) fun v24 =>
some ((v24,1,v20))) (some ((v16.1,v16.2.1,v16.2.2)))) fun (y18:Int×Int×List Span) =>
bn (bn (lt (y1.2.2.2.1) fun v27 =>
ite' v27 (lt (y1.2.2.2.2.1) fun v28 =>
ite' v28 (lt (eqI y18.2.1 1) fun v29 =>
some ((true,true,v29))) (some ((true,false,false)))) (some ((false,y1.2.2.2.2.1,false)))) fun (y26:Bool×Bool×Bool) =>
lt (y26.2.2) fun v30 =>
ite' v30 (bn (AJ n y18.2.2 y1.1 y1.2.1) fun v31 =>
chk (lenB v31.2 y18.2.2) <|
lt (v31.1) fun v33 =>
ite' v33 (some (.inr v31.2)) (some (.inl (y26.1,y26.2.1,v31.2)))) (some (.inl (y26.1,y26.2.1,y18.2.2)))) fun (y25:(Bool×Bool×List Span) ⊕ (List Span)) =>
sm y25 (fun y34=>bn (lt (gtI y1.1 0) fun v37 =>
ite' v37 (lt (subI .i64 y1.1 1) fun v38 =>
bn (nth y34.2.2 v38) fun v39 =>
bn (nth y34.2.2 y18.1) fun v41 =>
bn (Av n v39 v41) fun v43 =>
lt (ltI v43 0) fun v44 =>
lt (notB v44) fun v45 =>
some (v45)) (some (false))) fun (y36:Bool) =>
lt (y36) fun v46 =>
ite' v46 (bn (AS n y34.2.2 y1.1 y1.2.1 y18.1) fun v47 =>
chk (lenB v47.2 y34.2.2) <|
some (.inl (v47.1,y1.2.1,y11.1,y34.1,y34.2.1,v47.2))) (bn (A6 n y34.2.2 y1.1 y1.2.1 y18.1) fun v49 =>
chk (lenB v49.2.2 y34.2.2) <|
lt (subI .i64 v49.1 y1.1) fun v51 =>
lt (subI .i64 y1.2.1 v49.1) fun v52 =>
bn (quoI .i64 v4 8) fun v53 =>
lt (ltI v51 v52) fun v54 =>
ite' v54 (lt (geI v51 v53) fun v55 =>
bn (AA n m v49.2.2 y1.1 v49.1 y11.1) fun v56 =>
chk (lenB v56 v49.2.2) <|
lt (addI .i64 v49.1 1) fun v58 =>
some (.inl (v58,y1.2.1,y11.1,v55,v49.2.1,v56))) (lt (geI v52 v53) fun v59 =>
lt (addI .i64 v49.1 1) fun v60 =>
bn (AA n m v49.2.2 v60 y1.2.1 y11.1) fun v61 =>
chk (lenB v61 v49.2.2) <|
some (.inl (y1.1,v49.1,y11.1,v59,v49.2.1,v61))))) (fun y35=>some (.inr y35))))) (a1,a2,a3,true,true,a0)) fun (y2:List Span) =>
some y2
def Br (n:Nat) (a0:List Span) (a1:Int) (a2:Int) (a3:Int):Option (List Span):=AA n n a0 a1 a2 a3
theorem A9:Enters Try.prog 122:=enters Try.func122 (by kernel_rfl) rfl
def DX20t10:List DI:=[⟨[0],[],[(1,none)],false⟩,⟨[0],[0],[(81,some 0)],false⟩,⟨[0],[0,1],[(82,some 1)],false⟩,⟨[0],[0,1,2],[(4,none),(83,some 2)],false⟩,⟨[0],[0,1,2],[(0,none),(83,some 2)],false⟩,⟨[0],[0,1,2],[(1,none),(83,some 2)],false⟩,⟨[0],[0,1,2,5],[(83,some 2),(86,some 5)],false⟩,⟨[0],[0,1,2,4,5,6],[(83,some 2),(85,some 4),(87,some 6)],false⟩,⟨[0],[0,1,2,4,5,6,7],[(83,some 2),(88,some 7)],false⟩,⟨[0],[0,1,2],[(0,none),(83,some 2)],false⟩,⟨[0],[0,1,2],[(13,none),(83,some 2)],false⟩,⟨[0],[0,1,2,9,10],[(83,some 2),(90,some 9),(91,some 10)],false⟩,⟨[0],[0,1,2,9,10,11],[(83,some 2),(92,some 11)],false⟩,⟨[],[0,1,2,3,4,5,6,7,8,9,10,11,12],[],false⟩,⟨[],[0,1,2,3,4,5,6,7,8,9,10,11,12,13],[],false⟩,⟨[],[0,1,2,3,4,5,6,7,8,9,10,11,12,13,14],[],false⟩,⟨[],[0,1,2,3,4,5,6,7,8,9,10,11,12,13,14,15],[],false⟩]
theorem Cw {n:Nat} (m:Nat):∀ {a0:List Span} {a1:Int} {a2:Int} {a3:Int} {r:List Span},AA n m a0 a1 a2 a3=some r→Sound Try.prog 122 [.l (.r 0 2 0 a0.length),.l (.s (.int .i64 a1)),.l (.s (.int .i64 a2)),.l (.s (.int .i64 a3)),.l (.s (.func (.func 95) #[] #[]))] [⟨43,2,false,some 0,lvs (encSpan a0)⟩] (.t []) [some ⟨43,2,false,some 0,lvs (encSpan r)⟩]:=by
 induction m with
 |zero=>intro a0 a1 a2 a3 r h;rw[AA] at h;cases h
 |succ m ih =>
  intro a0 a1 a2 a3 r h
  rw[AA] at h
  refine Sound.of_aw (fn:=Try.f122) (c:=_) Try.func122 rfl (by simp[Try.f122]) fun cx hG hnb=>?_
  rw[show Try.f122.ntmps=148 from rfl]
  have hn0:cx.nb=1:=hnb
  simp only[Al,initTm,List.map_cons,List.map_nil]
  apply AW.step
  ·simp
   intros;rfl
  apply AW.step
  ·simp
   intros;rfl
  refine AW.block ?_
  replace h:=bnE h;obtain⟨y2,g2,h⟩:=h
  refine AW.iterP g2 (mk:=fun gh ls q=>(⟨[(0,.l (.r 0 2 0 q.2.2.2.2.2.length)),(1,.l (.s (.int .i64 q.1))),(2,.l (.s (.int .i64 q.2.1))),(3,.l (.s (.int .i64 q.2.2.1))),(4,.l (.s (.func (.func 95) #[] #[]))),(10,.l (.s (.bool q.2.2.2.1))),(11,.l (.s (.bool q.2.2.2.2.1)))],[some ⟨43,2,false,some 0,lvs (encSpan q.2.2.2.2.2)⟩],148,gh,ls⟩:St)) (N:=fun gh ls=>(rP (cx:=cx) (P:=Try.prog) Try.f122 (fun q=>.t []) (fun q=>[some ⟨43,2,false,some 0,lvs (encSpan q)⟩]))) ?_ noR ?_ ?_
  ·refine Weak.mixB 1 [some 0] hn0 (by decide) (by decide) ?_ ?_ ?_
   all_goals first|(simp[Ac,Ae,pickOb];done)|rfl
  ·clear h;intro y1 y3 h
   refine AW.block ?_
   replace h:=ltE h;obtain⟨v4,e4,h⟩:=h
   apply AW.step
   ·simp[← e4]
    intros;rfl
   refine AW.seq ?_
   replace h:=ltE h;obtain⟨v5,e5,h⟩:=h
   apply AW.step
   ·simp[← e5]
    intros;rfl
   cases v5 with
   |true =>
    replace h:=iteT rfl h
    refine AW.cond_true (by simp) ?_
    replace h:=bnE h;obtain⟨v6,e6,h⟩:=h
    replace h:=chkE h;obtain⟨e7,h⟩:=h
    apply AW.step
    ·simp
     intros
     refine Ax [0] BX (B4 e6) (by decide) (by simp[pickOb,Ac,Ae]) rfl rfl (by simp) ⟨.l (.own' (by simp[Ac,Ae]) (by simp)),.l (.s _),.l (.s _),.l (.s _),trivial⟩ ?_
     try simp
     intros;rfl
    obtain rfl:=oi h
    refine AW.ret ?_
    try simp only[nm]
    refine rP_i ?_
    refine Left.of (av:=_) (by simp[Try.f122,resV,resC,comp];rfl) ?_
    exact LeftV.mix 1 [some 0] hn0 rfl (by decide) rfl (by simp[pickOb,Ac,Ae,An e7]) (by simp[Ac,Ae,An e7])
   |false =>
    replace h:=iteF rfl h
    refine AW.cond_false (by simp) ?_
    refine AW.skip ?_
    try simp only[nm]
    refine AW.seq ?_
    replace h:=ltE h;obtain⟨v8,e8,h⟩:=h
    apply AW.step
    ·simp[← e8]
     intros;rfl
    cases v8 with
    |true =>
     replace h:=iteT rfl h
     refine AW.cond_true (by simp) ?_
     replace h:=bnE h;obtain⟨v9,e9,h⟩:=h
     replace h:=chkE h;obtain⟨e10,h⟩:=h
     apply AW.step
     ·simp
      intros
      refine Ax [0] Cr (Cv e9) (by decide) (by simp[pickOb,Ac,Ae]) rfl rfl (by simp) ⟨.l (.own' (by simp[Ac,Ae]) (by simp)),.l (.s _),.l (.s _),.l (.s _),trivial⟩ ?_
      try simp
      intros;rfl
     obtain rfl:=oi h
     refine AW.ret ?_
     try simp only[nm]
     refine rP_i ?_
     refine Left.of (av:=_) (by simp[Try.f122,resV,resC,comp];rfl) ?_
     exact LeftV.mix 1 [some 0] hn0 rfl (by decide) rfl (by simp[pickOb,Ac,Ae,An e10]) (by simp[Ac,Ae,An e10])
    |false =>
     replace h:=iteF rfl h
     refine AW.cond_false (by simp) ?_
     refine AW.skip ?_
     try simp only[nm]
     replace h:=bnE h;obtain⟨y11,g11,h⟩:=h
     refine AW.flow (p:=fun gh ls=>(nP (cx:=cx) (fun q=>(⟨[(0,.l (.r 0 2 0 q.2.length)),(1,.l (.s (.int .i64 y1.1))),(2,.l (.s (.int .i64 y1.2.1))),(3,.l (.s (.int .i64 q.1))),(4,.l (.s (.func (.func 95) #[] #[]))),(10,.l (.s (.bool y1.2.2.2.1))),(11,.l (.s (.bool y1.2.2.2.2.1))),(12,.l (.s (.int .i64 v4)))],[some ⟨43,2,false,some 0,lvs (encSpan q.2)⟩],148,gh,ls⟩:St))) y11) ?_ ?_
     ·replace h:=g11;clear g11
      replace h:=ltE h;obtain⟨v12,e12,h⟩:=h
      apply AW.step
      ·simp[← e12]
       intros;rfl
      cases v12 with
      |true =>
       replace h:=iteT rfl h
       refine AW.cond_true (by simp) ?_
       replace h:=bnE h;obtain⟨v13,e13,h⟩:=h
       replace h:=chkE h;obtain⟨e14,h⟩:=h
       apply AW.step
       ·simp
        intros
        refine Ax [0] BZ (B6 e13) (by decide) (by simp[pickOb,Ac,Ae]) rfl rfl (by simp) ⟨.l (.own' (by simp[Ac,Ae]) (by simp)),.l (.s _),.l (.s _),.l (.s _),trivial⟩ ?_
        try simp
        intros;rfl
       replace h:=ltE h;obtain⟨v15,e15,h⟩:=h
       apply AW.last
       ·simp[← e15]
        intros;rfl
       obtain rfl:=oi h
       refine nP_i ?_
       refine Weak.mixB 1 [some 0] hn0 (by decide) (by decide) ?_ ?_ ?_
       all_goals first|(simp[Ac,Ae,pickOb,An e14];done)|rfl
      |false =>
       replace h:=iteF rfl h
       refine AW.cond_false (by simp) ?_
       refine AW.skip ?_
       try simp only[nm]
       obtain rfl:=oi h
       refine nP_i ?_
       refine Weak.mixB 1 [some 0] hn0 (by decide) (by decide) ?_ ?_ ?_
       all_goals first|(simp[Ac,Ae,pickOb];done)|rfl
     ·rintro e s hp
      obtain⟨rfl,hw⟩:=hp
      refine⟨_,hw,?_⟩
      try simp only[nm]
      replace h:=bnE h;obtain⟨v16,e16,h⟩:=h
      replace h:=chkE h;obtain⟨e17,h⟩:=h
      apply AW.step
      ·simp
       intros
       refine Ax [0] Ca (Cg e16) (by decide) (by simp[pickOb,Ac,Ae]) rfl rfl (by simp) ⟨.l (.own' (by simp[Ac,Ae]) (by simp)),.l (.s _),.l (.s _),.l (.s _),trivial⟩ ?_
       try simp
       intros;rfl
      replace h:=bnE h;obtain⟨y18,g18,h⟩:=h
      refine AW.flow (p:=fun gh ls=>(nP (cx:=cx) (fun q=>(⟨[(0,.l (.r 0 2 0 q.2.2.length)),(1,.l (.s (.int .i64 y1.1))),(2,.l (.s (.int .i64 y1.2.1))),(3,.l (.s (.int .i64 y11.1))),(4,.l (.s (.func (.func 95) #[] #[]))),(10,.l (.s (.bool y1.2.2.2.1))),(11,.l (.s (.bool y1.2.2.2.2.1))),(12,.l (.s (.int .i64 v4))),(13,.l (.s (.int .i64 q.1))),(14,.l (.s (.int .i64 q.2.1)))],[some ⟨43,2,false,some 0,lvs (encSpan q.2.2)⟩],148,gh,ls⟩:St))) y18) ?_ ?_
      ·replace h:=g18;clear g18
       replace h:=ltE h;obtain⟨v19,e19,h⟩:=h
       apply AW.step
       ·simp[← e19]
        intros;rfl
       cases v19 with
       |true =>
        replace h:=iteT rfl h
        refine AW.cond_true (by simp) ?_
        replace h:=bnE h;obtain⟨v20,e20,h⟩:=h
        replace h:=chkE h;obtain⟨e21,h⟩:=h
        apply AW.step
        ·simp[An e17]
         intros
         refine Ax [0] B5 (Cb e20) (by decide) (by simp[pickOb,Ac,Ae]) rfl rfl (by simp) ⟨.l (.own' (by simp[Ac,Ae]) (by simp[An e17])),.l (.s _),.l (.s _),.l (.s _),trivial⟩ ?_
         try simp[An e17]
         intros;rfl
        replace h:=ltE h;obtain⟨v22,e22,h⟩:=h
        replace h:=ltE h;obtain⟨v23,e23,h⟩:=h
        replace h:=ltE h;obtain⟨v24,e24,h⟩:=h
        apply AW.step
        ·simp[← e22,← e23,← e24]
         intros;rfl
        apply AW.last
        ·simp
         intros;rfl
        obtain rfl:=oi h
        refine nP_i ?_
        refine Weak.mixB 1 [some 0] hn0 (by decide) (by decide) ?_ ?_ ?_
        all_goals first|(simp[Ac,Ae,pickOb,An e17,An e21];done)|rfl
       |false =>
        replace h:=iteF rfl h
        refine AW.cond_false (by simp) ?_
        refine AW.skip ?_
        try simp only[nm]
        obtain rfl:=oi h
        refine nP_i ?_
        refine Weak.mixB 1 [some 0] hn0 (by decide) (by decide) ?_ ?_ ?_
        all_goals first|(simp[Ac,Ae,pickOb,An e17];done)|rfl
      ·rintro e s hp
       obtain⟨rfl,hw⟩:=hp
       refine⟨_,hw,?_⟩
       try simp only[nm]
       replace h:=bnE h;obtain⟨y25,g25,h⟩:=h
       refine AW.flow (p:=fun gh ls=>(sp (nP (cx:=cx) (fun q=>(⟨[(0,.l (.r 0 2 0 q.2.2.length)),(1,.l (.s (.int .i64 y1.1))),(2,.l (.s (.int .i64 y1.2.1))),(3,.l (.s (.int .i64 y11.1))),(4,.l (.s (.func (.func 95) #[] #[]))),(10,.l (.s (.bool q.1))),(11,.l (.s (.bool q.2.1))),(12,.l (.s (.int .i64 v4))),(13,.l (.s (.int .i64 y18.1)))],[some ⟨43,2,false,some 0,lvs (encSpan q.2.2)⟩],148,gh,ls⟩:St))) (rP (cx:=cx) (P:=Try.prog) Try.f122 (fun q=>.t []) (fun q=>[some ⟨43,2,false,some 0,lvs (encSpan q)⟩]))) y25) ?_ ?_
       ·replace h:=g25;clear g25
        replace h:=bnE h;obtain⟨y26,g26,h⟩:=h
        refine AW.flow (p:=fun gh ls=>(nP (cx:=cx) (fun q=>(⟨[(0,.l (.r 0 2 0 y18.2.2.length)),(1,.l (.s (.int .i64 y1.1))),(2,.l (.s (.int .i64 y1.2.1))),(3,.l (.s (.int .i64 y11.1))),(4,.l (.s (.func (.func 95) #[] #[]))),(10,.l (.s (.bool q.1))),(11,.l (.s (.bool q.2.1))),(12,.l (.s (.int .i64 v4))),(13,.l (.s (.int .i64 y18.1))),(75,.l (.s (.bool q.2.2)))],[some ⟨43,2,false,some 0,lvs (encSpan y18.2.2)⟩],148,gh,ls⟩:St))) y26) ?_ ?_
        ·replace h:=g26;clear g26
         replace h:=ltE h;obtain⟨v27,e27,h⟩:=h
         cases v27 with
         |true =>
          replace h:=iteT rfl h
          replace h:=ltE h;obtain⟨v28,e28,h⟩:=h
          cases v28 with
          |true =>
           replace h:=iteT rfl h
           replace h:=ltE h;obtain⟨v29,e29,h⟩:=h
           apply AW.last
           ·simp[← e27,← e28,← e29]
            intros;rfl
           obtain rfl:=oi h
           refine nP_i ?_
           refine Weak.mixB 1 [some 0] hn0 (by decide) (by decide) ?_ ?_ ?_
           all_goals first|(simp[Ac,Ae,pickOb];done)|rfl
          |false =>
           replace h:=iteF rfl h
           apply AW.last
           ·simp[← e27,← e28]
            intros;rfl
           obtain rfl:=oi h
           refine nP_i ?_
           refine Weak.mixB 1 [some 0] hn0 (by decide) (by decide) ?_ ?_ ?_
           all_goals first|(simp[Ac,Ae,pickOb];done)|rfl
         |false =>
          replace h:=iteF rfl h
          apply AW.last
          ·simp[← e27]
           intros;rfl
          obtain rfl:=oi h
          refine nP_i ?_
          refine Weak.mixB 1 [some 0] hn0 (by decide) (by decide) ?_ ?_ ?_
          all_goals first|(simp[Ac,Ae,pickOb];done)|rfl
        ·rintro e s hp
         obtain⟨rfl,hw⟩:=hp
         refine⟨_,hw,?_⟩
         try simp only[nm]
         replace h:=ltE h;obtain⟨v30,e30,h⟩:=h
         rw[← e30]
         cases v30 with
         |true =>
          replace h:=iteT rfl h
          refine AW.cond_true (by simp) ?_
          replace h:=bnE h;obtain⟨v31,e31,h⟩:=h
          replace h:=chkE h;obtain⟨e32,h⟩:=h
          apply AW.step
          ·simp
           intros
           refine Ax [0] BB (BH e31) (by decide) (by simp[pickOb,Ac,Ae]) rfl rfl (by simp) ⟨.l (.own' (by simp[Ac,Ae]) (by simp)),.l (.s _),.l (.s _),.l (.s _),trivial⟩ ?_
           try simp
           intros;rfl
          replace h:=ltE h;obtain⟨v33,e33,h⟩:=h
          rw[← e33]
          cases v33 with
          |true =>
           replace h:=iteT rfl h
           refine AW.cond_true (by simp) ?_
           obtain rfl:=oi h
           refine AW.ret ?_
           try simp only[nm]
           refine rP_i ?_
           refine Left.of (av:=_) (by simp[Try.f122,resV,resC,comp];rfl) ?_
           exact LeftV.mix 1 [some 0] hn0 rfl (by decide) rfl (by simp[pickOb,Ac,Ae,An e32]) (by simp[Ac,Ae,An e32])
          |false =>
           replace h:=iteF rfl h
           refine AW.cond_false (by simp) ?_
           refine AW.skip ?_
           try simp only[nm]
           obtain rfl:=oi h
           try simp only[sp_l,sp_r]
           refine nP_i ?_
           refine Weak.mixB 1 [some 0] hn0 (by decide) (by decide) ?_ ?_ ?_
           all_goals first|(simp[Ac,Ae,pickOb,An e32];done)|rfl
         |false =>
          replace h:=iteF rfl h
          refine AW.cond_false (by simp) ?_
          refine AW.skip ?_
          try simp only[nm]
          obtain rfl:=oi h
          try simp only[sp_l,sp_r]
          refine nP_i ?_
          refine Weak.mixB 1 [some 0] hn0 (by decide) (by decide) ?_ ?_ ?_
          all_goals first|(simp[Ac,Ae,pickOb];done)|rfl
       ·rintro e s hp
        rcases y25 with y34|y35
        ·replace h:=smL h
         obtain⟨rfl,hw⟩:=hp
         refine⟨_,hw,?_⟩
         try simp only[nm]
         refine AW.seq ?_
         replace h:=bnE h;obtain⟨y36,g36,h⟩:=h
         refine AW.flow (p:=fun gh ls=>(nP (cx:=cx) (fun q=>(⟨[(0,.l (.r 0 2 0 y34.2.2.length)),(1,.l (.s (.int .i64 y1.1))),(2,.l (.s (.int .i64 y1.2.1))),(3,.l (.s (.int .i64 y11.1))),(4,.l (.s (.func (.func 95) #[] #[]))),(10,.l (.s (.bool y34.1))),(11,.l (.s (.bool y34.2.1))),(12,.l (.s (.int .i64 v4))),(13,.l (.s (.int .i64 y18.1))),(97,.l (.s (.bool q)))],[some ⟨43,2,false,some 0,lvs (encSpan y34.2.2)⟩],148,gh,ls⟩:St))) y36) ?_ ?_
         ·replace h:=g36;clear g36
          replace h:=ltE h;obtain⟨v37,e37,h⟩:=h
          cases v37 with
          |true =>
           replace h:=iteT rfl h
           replace h:=ltE h;obtain⟨v38,e38,h⟩:=h
           replace h:=bnE h;obtain⟨v39,e39,h⟩:=h
           have f40:=Ai e39
           try simp[← e37,← e38,Aa e39] at f40
           replace h:=bnE h;obtain⟨v41,e41,h⟩:=h
           have f42:=Ai e41
           try simp[← e37,← e38,Aa e39,f40,Ad (Aa e39).2 (k:=2) (by decide),Ab (Aa e39).2 (show 2≤2 by decide),lvs1,Aa e41] at f42
           replace h:=bnE h;obtain⟨v43,e43,h⟩:=h
           replace h:=ltE h;obtain⟨v44,e44,h⟩:=h
           replace h:=ltE h;obtain⟨v45,e45,h⟩:=h
           apply AW.drawnR (V:=[_,_,_,_,_,_,_,_,_,_,_,_,_]) mixed DX20t10 13 (by kernel_rfl) (by kernel_rfl)
           ·refine⟨?_,?_,?_,?_,?_,?_,?_,?_,?_,?_,?_,?_,?_,trivial⟩
            iterate 13 (· intro tm hr;simp[AllL,rdV] at hr;simp[hr,← e37,← e38,Aa e39,f40,Ad (Aa e39).2 (k:=2) (by decide),Ab (Aa e39).2 (show 2≤2 by decide),lvs1,Aa e41,f42,Ad (Aa e41).2 (k:=2) (by decide),Ab (Aa e41).2 (show 2≤2 by decide),← e44,← e45];intros;first|exact KD.mk|exact KD.mkN)
           ·rfl
           ·simp[tmD,putD,← e37,← e38,Aa e39,f40,Ad (Aa e39).2 (k:=2) (by decide),Ab (Aa e39).2 (show 2≤2 by decide),lvs1,Aa e41,f42,Ad (Aa e41).2 (k:=2) (by decide),Ab (Aa e41).2 (show 2≤2 by decide),← e44,← e45];rfl
           ·simp[← e37,← e38,Aa e39,f40,Ad (Aa e39).2 (k:=2) (by decide),Ab (Aa e39).2 (show 2≤2 by decide),lvs1,Aa e41,f42,Ad (Aa e41).2 (k:=2) (by decide),Ab (Aa e41).2 (show 2≤2 by decide),← e44,← e45]
            intros
            refine Ag AB (AE e43) rfl ⟨.same rfl,.same rfl,trivial⟩ ?_
            try simp[← e37,← e38,Aa e39,f40,Ad (Aa e39).2 (k:=2) (by decide),Ab (Aa e39).2 (show 2≤2 by decide),lvs1,Aa e41,f42,Ad (Aa e41).2 (k:=2) (by decide),Ab (Aa e41).2 (show 2≤2 by decide),← e44,← e45]
            intros;rfl
           obtain rfl:=oi h
           refine nP_i ?_
           refine Weak.mixB 1 [some 0] hn0 (by decide) (by decide) ?_ ?_ ?_
           all_goals first|(simp[Ac,Ae,pickOb];done)|rfl
          |false =>
           replace h:=iteF rfl h
           apply AW.drawnR (V:=[_,_,_,_,_,_,_,_,_,_,_,_,_]) mixed DX20t10 13 (by kernel_rfl) (by kernel_rfl)
           ·refine⟨?_,?_,?_,?_,?_,?_,?_,?_,?_,?_,?_,?_,?_,trivial⟩
            iterate 13 (· intro tm hr;simp[AllL,rdV] at hr;simp[hr,← e37];intros;first|exact KD.mk|exact KD.mkN)
           ·rfl
           ·simp[tmD,putD,← e37];rfl
           ·simp[← e37]
            intros;rfl
           obtain rfl:=oi h
           refine nP_i ?_
           refine Weak.mixB 1 [some 0] hn0 (by decide) (by decide) ?_ ?_ ?_
           all_goals first|(simp[Ac,Ae,pickOb];done)|rfl
         ·rintro e s hp
          obtain⟨rfl,hw⟩:=hp
          refine⟨_,hw,?_⟩
          try simp only[nm]
          replace h:=ltE h;obtain⟨v46,e46,h⟩:=h
          rw[← e46]
          cases v46 with
          |true =>
           replace h:=iteT rfl h
           refine AW.cond_true (by simp) ?_
           replace h:=bnE h;obtain⟨v47,e47,h⟩:=h
           replace h:=chkE h;obtain⟨e48,h⟩:=h
           apply AW.step
           ·simp
            intros
            refine Ax [0] BV (BY e47) (by decide) (by simp[pickOb,Ac,Ae]) rfl rfl (by simp) ⟨.l (.own' (by simp[Ac,Ae]) (by simp)),.l (.s _),.l (.s _),.l (.s _),.l (.s _),trivial⟩ ?_
            try simp
            intros;rfl
           apply AW.step
           ·simp
            intros;rfl
           refine AW.exit ?_
           try simp only[nm]
           obtain rfl:=oi h
           refine nP_i ?_
           refine Weak.mixB 1 [some 0] hn0 (by decide) (by decide) ?_ ?_ ?_
           all_goals first|(simp[Ac,Ae,pickOb,An e48];done)|rfl
          |false =>
           replace h:=iteF rfl h
           refine AW.cond_false (by simp) ?_
           refine AW.skip ?_
           try simp only[nm]
           replace h:=bnE h;obtain⟨v49,e49,h⟩:=h
           replace h:=chkE h;obtain⟨e50,h⟩:=h
           apply AW.step
           ·simp
            intros
            refine Ax [0] Co (Cs e49) (by decide) (by simp[pickOb,Ac,Ae]) rfl rfl (by simp) ⟨.l (.own' (by simp[Ac,Ae]) (by simp)),.l (.s _),.l (.s _),.l (.s _),.l (.s _),trivial⟩ ?_
            try simp
            intros;rfl
           apply AW.step
           ·simp
            intros;rfl
           replace h:=ltE h;obtain⟨v51,e51,h⟩:=h
           replace h:=ltE h;obtain⟨v52,e52,h⟩:=h
           apply AW.step
           ·simp[← e51,← e52]
            intros;rfl
           replace h:=bnE h;obtain⟨v53,e53,h⟩:=h
           apply AW.step
           ·simp[e53]
            intros;rfl
           replace h:=ltE h;obtain⟨v54,e54,h⟩:=h
           apply AW.step
           ·simp[← e54]
            intros;rfl
           cases v54 with
           |true =>
            replace h:=iteT rfl h
            refine AW.cond_true (by simp) ?_
            replace h:=ltE h;obtain⟨v55,e55,h⟩:=h
            apply AW.step
            ·simp[← e55]
             intros;rfl
            replace h:=bnE h;obtain⟨v56,e56,h⟩:=h
            replace h:=chkE h;obtain⟨e57,h⟩:=h
            apply AW.step
            ·simp[An e50]
             intros
             refine Ax [0] A9 (ih e56) (by decide) (by simp[pickOb,Ac,Ae]) rfl rfl (by simp) ⟨.l (.own' (by simp[Ac,Ae]) (by simp[An e50])),.l (.s _),.l (.s _),.l (.s _),.l (.s _),trivial⟩ ?_
             try simp[An e50]
             intros;rfl
            replace h:=ltE h;obtain⟨v58,e58,h⟩:=h
            apply AW.last
            ·simp[← e58]
             intros;rfl
            obtain rfl:=oi h
            refine nP_i ?_
            refine Weak.mixB 1 [some 0] hn0 (by decide) (by decide) ?_ ?_ ?_
            all_goals first|(simp[Ac,Ae,pickOb,An e50,An e57];done)|rfl
           |false =>
            replace h:=iteF rfl h
            refine AW.cond_false (by simp) ?_
            replace h:=ltE h;obtain⟨v59,e59,h⟩:=h
            apply AW.step
            ·simp[← e59]
             intros;rfl
            replace h:=ltE h;obtain⟨v60,e60,h⟩:=h
            replace h:=bnE h;obtain⟨v61,e61,h⟩:=h
            replace h:=chkE h;obtain⟨e62,h⟩:=h
            apply AW.step
            ·simp[← e60,An e50]
             intros
             refine Ax [0] A9 (ih e61) (by decide) (by simp[pickOb,Ac,Ae]) rfl rfl (by simp) ⟨.l (.own' (by simp[Ac,Ae]) (by simp[An e50])),.l (.s _),.l (.s _),.l (.s _),.l (.s _),trivial⟩ ?_
             try simp[← e60,An e50]
             intros;rfl
            apply AW.last
            ·simp
             intros;rfl
            obtain rfl:=oi h
            refine nP_i ?_
            refine Weak.mixB 1 [some 0] hn0 (by decide) (by decide) ?_ ?_ ?_
            all_goals first|(simp[Ac,Ae,pickOb,An e50,An e62];done)|rfl
        ·replace h:=smR h
         obtain⟨rfl,hl⟩:=hp
         refine⟨_,Weak.refl _,?_⟩
         obtain rfl:=oi h
         first|exact rP_i hl|(simp only[sp_l,sp_r];exact rP_i hl)|(simp only[sp_l,sp_r,Post.seq,Post.block,Nat.reduceEqDiff,reduceIte,Nat.zero_ne_one,Nat.one_ne_zero];exact rP_i hl)
  ·rintro e s hp
   obtain⟨rfl,hl⟩:=hp
   refine⟨_,Weak.refl _,?_⟩
   obtain rfl:=oi h
   exact hl
theorem CH {n:Nat} {a0:List Span} {a1:Int} {a2:Int} {a3:Int} {r:List Span} (h:Br n a0 a1 a2 a3=some r):Sound Try.prog 122 [.l (.r 0 2 0 a0.length),.l (.s (.int .i64 a1)),.l (.s (.int .i64 a2)),.l (.s (.int .i64 a3)),.l (.s (.func (.func 95) #[] #[]))] [⟨43,2,false,some 0,lvs (encSpan a0)⟩] (.t []) [some ⟨43,2,false,some 0,lvs (encSpan r)⟩]:=Cw n h
def Bk (n:Nat) (a0:List Span):Option (List Span) :=
lt (lenI a0) fun v1 =>
lt (cvI .u64 v1) fun v2 =>
bn (Da n v2) fun v3 =>
bn (Br n a0 0 v1 v3) fun v4 =>
chk (lenB v4 a0) <|
some v4
theorem Dl {n:Nat} {a0:List Span} {r:List Span} (h:Bk n a0=some r):Sound Try.prog 94 [.l (.r 0 2 0 a0.length),.l (.s (.func (.func 95) #[] #[]))] [⟨43,2,false,some 0,lvs (encSpan a0)⟩] (.t []) [some ⟨43,2,false,some 0,lvs (encSpan r)⟩]:=by
 unfold Bk at h
 refine Sound.of_aw (fn:=Try.f94) (c:=_) Try.func94 rfl (by simp[Try.f94]) fun cx hG hnb=>?_
 rw[show Try.f94.ntmps=14 from rfl]
 have hn0:cx.nb=1:=hnb
 simp only[Al,initTm,List.map_cons,List.map_nil]
 replace h:=ltE h;obtain⟨v1,e1,h⟩:=h
 apply AW.step
 ·simp[Aj e1]
  intros;rfl
 replace h:=ltE h;obtain⟨v2,e2,h⟩:=h
 replace h:=bnE h;obtain⟨v3,e3,h⟩:=h
 replace h:=bnE h;obtain⟨v4,e4,h⟩:=h
 replace h:=chkE h;obtain⟨e5,h⟩:=h
 apply AW.last
 ·simp[← e2]
  intros
  refine Ag Fp (FY e3) rfl ⟨.same rfl,trivial⟩ ?_
  try simp[← e2]
  intros
  refine Ax [0] A9 (CH e4) (by decide) (by simp[pickOb,Ac,Ae]) rfl rfl (by simp) ⟨.l (.own' (by simp[Ac,Ae]) (by simp)),.l (.s _),.l (.s _),.l (.s _),.l (.s _),trivial⟩ ?_
  try simp[← e2]
  intros;rfl
 obtain rfl:=oi h
 refine Left.of (av:=_) (by simp[Try.f94,resV,resC,comp];rfl) ?_
 exact LeftV.mix 1 [some 0] hn0 rfl (by decide) rfl (by simp[pickOb,Ac,Ae,An e5]) (by simp[Ac,Ae,An e5])
theorem Df:Enters Try.prog 94:=enters Try.func94 (by kernel_rfl) rfl
end Go.Proofs.Ythjenkmbbnjcnaa
