/- Part 3 of the proof. -/
import Derived.Test.YtlbdhlbbkibgpaaGreatPg2
set_option linter.unusedVariables false
set_option linter.unusedSimpArgs false
set_option linter.constructorNameAsVariable false
set_option maxRecDepth 8000
set_option maxHeartbeats 8000000
namespace Go.Proofs.YtlbdhlbbkibgpaaGreat
open Go Go.RowKit
theorem OA {l m:List Int} {a b:Int} (h:seglh l a b=some m):0≤a∧0≤b∧a.toNat≤b.toNat∧b.toNat≤l.length∧List.take (b.toNat - a.toNat) (List.drop a.toNat (encU l))=encU m∧a≤b∧b≤(l.length:Int)∧max a 0≤b:=RW h
@[simp] theorem encI_tk (l:List Int):(encI l).take l.length=encI l:=List.take_of_length_le (by simp)
theorem PB {l m:List Int} {a:Int} (h:segl l a=some m):0≤a∧a.toNat≤l.length∧List.take (l.length - a.toNat) (List.drop a.toNat (encI l))=encI m∧a≤(l.length:Int):=Hj h
theorem PC {l m:List Int} {b:Int} (h:segh l b=some m):0≤b∧b.toNat≤l.length∧List.take b.toNat (encI l)=encI m∧b≤(l.length:Int):=JV h
theorem AN {xs:List Claim} {i j:Nat} {x:Claim} (hx:xs[i]?=some x) (hj:j<4):(lvs (Aq xs))[i*4+j]?=(lvs [[.v (.int .i64 x.frm),.v (.int .i64 x.to),.v (.int .i64 x.node),.v (.int .i64 x.epoch)]])[j]?:=JU (r:=fun x:Claim=>[.v (.int .i64 x.frm),.v (.int .i64 x.to),.v (.int .i64 x.node),.v (.int .i64 x.epoch)]) (fun _=>rfl) hx hj
theorem EQ {xs:List Claim} {i k:Nat} {x:Claim} (hx:xs[i]?=some x) (hk:k≤4):((lvs (Aq xs)).drop (i*4)).take k=((lvs [[.v (.int .i64 x.frm),.v (.int .i64 x.to),.v (.int .i64 x.node),.v (.int .i64 x.epoch)]]).drop 0).take k:=Mi (r:=fun x:Claim=>[.v (.int .i64 x.frm),.v (.int .i64 x.to),.v (.int .i64 x.node),.v (.int .i64 x.epoch)]) (fun _=>rfl) hx hk
theorem Ij {xs ys:List Claim} {i j:Nat} {x x':Claim} {cs:List LV} (hx:xs[i]?=some x) (hy:ys=xs.set i x') (hj:j+cs.length≤4) (he:setAt (lvs [[.v (.int .i64 x.frm),.v (.int .i64 x.to),.v (.int .i64 x.node),.v (.int .i64 x.epoch)]]) j cs=lvs [[.v (.int .i64 x'.frm),.v (.int .i64 x'.to),.v (.int .i64 x'.node),.v (.int .i64 x'.epoch)]]):setAt (lvs (Aq xs)) (i*4+j) cs=lvs (Aq ys):=HC (r:=fun x:Claim=>[.v (.int .i64 x.frm),.v (.int .i64 x.to),.v (.int .i64 x.node),.v (.int .i64 x.epoch)]) (fun _=>rfl) hx hy hj he
theorem D6 {xs:List Claim} {i:Nat} {x:Claim} (hx:xs[i]?=some x) {m:Nat} (hm:m≤4):i*4+m≤(lvs (Aq xs)).length:=GR (r:=fun x:Claim=>[.v (.int .i64 x.frm),.v (.int .i64 x.to),.v (.int .i64 x.node),.v (.int .i64 x.epoch)]) (fun _=>rfl) hx hm
theorem HT {xs:List Claim} {i j:Nat} {x:Claim} (hx:xs[i]?=some x) {m:Nat} (hm:j+m≤4):i*4+j+m≤(lvs (Aq xs)).length:=by rw[Nat.add_assoc];exact D6 hx hm
@[simp] theorem Tw (l:List Claim):(Aq l).take l.length=Aq l:=List.take_of_length_le (by simp)
theorem Lu {l m:List Claim} {a:Int} (h:segl l a=some m):0≤a∧a.toNat≤l.length∧List.take (l.length - a.toNat) (List.drop a.toNat (Aq l))=Aq m∧a≤(l.length:Int):=Hj h
theorem Lv (al:Bool) (l:List Claim):lvsA al (Aq l)=lvs (Aq l):=by simp[lvsA,lvs,Aq,List.flatMap_map]
@[simp] theorem encS_tk (l:List ByteArray):(encS l).take l.length=encS l:=List.take_of_length_le (by simp)
theorem PD {l m:List ByteArray} {a:Int} (h:segl l a=some m):0≤a∧a.toNat≤l.length∧List.take (l.length - a.toNat) (List.drop a.toNat (encS l))=encS m∧a≤(l.length:Int):=Hj h
theorem PE {l m:List ByteArray} {b:Int} (h:segh l b=some m):0≤b∧b.toNat≤l.length∧List.take b.toNat (encS l)=encS m∧b≤(l.length:Int):=JV h
@[simp] theorem Tx (l:List Field):(Av l).take l.length=Av l:=List.take_of_length_le (by simp)
def PF (l:List (List Field)):List (List T):=l.map fun x=>[.sl 2 (Av x)]
@[simp] theorem SD:PF []=[]:=rfl
def encLS (l:List (List ByteArray)):List (List T):=l.map fun x=>[.sl 1 (encS x)]
@[simp] theorem encLS_nil:encLS []=[]:=rfl
theorem Cb {xs:List Pair} {i j k:Nat} {x:Pair} (hx:xs[i]?=some x) (hjk:j+k≤6):((lvs (Ao xs)).drop (i*6+j)).take k=((lvs [[.v (.string x.key),.v (.int .i64 x.item.kind),.v (.string x.item.s),.sl 2 (Av x.item.f),.sl 1 (encS x.item.l),.v (.int .i64 x.item.exp)]]).drop j).take k:=RG (r:=fun x:Pair=>[.v (.string x.key),.v (.int .i64 x.item.kind),.v (.string x.item.s),.sl 2 (Av x.item.f),.sl 1 (encS x.item.l),.v (.int .i64 x.item.exp)]) (fun _=>rfl) hx hjk
theorem G2 {xs ys:List Pair} {i j:Nat} {x x':Pair} {cs:List LV} (hx:xs[i]?=some x) (hy:ys=xs.set i x') (hj:j+cs.length≤6) (he:setAt (lvs [[.v (.string x.key),.v (.int .i64 x.item.kind),.v (.string x.item.s),.sl 2 (Av x.item.f),.sl 1 (encS x.item.l),.v (.int .i64 x.item.exp)]]) j cs=lvs [[.v (.string x'.key),.v (.int .i64 x'.item.kind),.v (.string x'.item.s),.sl 2 (Av x'.item.f),.sl 1 (encS x'.item.l),.v (.int .i64 x'.item.exp)]]):setAt (lvs (Ao xs)) (i*6+j) cs=lvs (Ao ys):=HC (r:=fun x:Pair=>[.v (.string x.key),.v (.int .i64 x.item.kind),.v (.string x.item.s),.sl 2 (Av x.item.f),.sl 1 (encS x.item.l),.v (.int .i64 x.item.exp)]) (fun _=>rfl) hx hy hj he
theorem Nd {xs:List Pair} {i:Nat} {x:Pair} (hx:xs[i]?=some x) {m:Nat} (hm:m≤6):i*6+m≤(lvs (Ao xs)).length:=GR (r:=fun x:Pair=>[.v (.string x.key),.v (.int .i64 x.item.kind),.v (.string x.item.s),.sl 2 (Av x.item.f),.sl 1 (encS x.item.l),.v (.int .i64 x.item.exp)]) (fun _=>rfl) hx hm
theorem Bp {xs:List Pair} {i j:Nat} {x:Pair} (hx:xs[i]?=some x) {m:Nat} (hm:j+m≤6):i*6+j+m≤(lvs (Ao xs)).length:=by rw[Nat.add_assoc];exact Nd hx hm
@[simp] theorem TP (l:List Pair):(Ao l).take l.length=Ao l:=List.take_of_length_le (by simp)
structure Move where
 slot:Int
 to:Int
 num:Int
 key:ByteArray
deriving DecidableEq,Inhabited
attribute [ext] Move
def Am (l:List Move):List (List T):=l.map fun x=>[.v (.int .i64 x.slot),.v (.int .i64 x.to),.v (.int .i64 x.num),.v (.string x.key)]
theorem Gx (x:Move):lvs (Am [x])=[.s (.int .i64 x.slot),.s (.int .i64 x.to),.s (.int .i64 x.num),.s (.string x.key)]:=rfl
@[simp] theorem Kr (l:List Move):(Am l).length=l.length:=by simp[Am]
@[simp high] theorem Ty (l:List Move) (i:Nat):(Am l)[i]?=(l[i]?).map fun x=>[.v (.int .i64 x.slot),.v (.int .i64 x.to),.v (.int .i64 x.num),.v (.string x.key)]:=by simp[Am]
@[simp] theorem Tz:Am []=[]:=rfl
theorem A8 (l m:List Move):Am (l++m)=Am l++Am m:=by simp[Am]
theorem AB (l:List Move):∀ e∈Am l,e.length=4:=by
 intro e h;obtain⟨x,_,rfl⟩:=List.mem_map.1 h;rfl
@[simp] theorem RY (l:List Move):(Am l=[])=(l=[]):=by simp[Am]
theorem AU {xs:List Move} {i j:Nat} {x:Move} (hx:xs[i]?=some x) (hj:j<4):(lvs (Am xs))[i*4+j]?=(lvs [[.v (.int .i64 x.slot),.v (.int .i64 x.to),.v (.int .i64 x.num),.v (.string x.key)]])[j]?:=JU (r:=fun x:Move=>[.v (.int .i64 x.slot),.v (.int .i64 x.to),.v (.int .i64 x.num),.v (.string x.key)]) (fun _=>rfl) hx hj
theorem I2 {xs ys:List Move} {i j:Nat} {x x':Move} {cs:List LV} (hx:xs[i]?=some x) (hy:ys=xs.set i x') (hj:j+cs.length≤4) (he:setAt (lvs [[.v (.int .i64 x.slot),.v (.int .i64 x.to),.v (.int .i64 x.num),.v (.string x.key)]]) j cs=lvs [[.v (.int .i64 x'.slot),.v (.int .i64 x'.to),.v (.int .i64 x'.num),.v (.string x'.key)]]):setAt (lvs (Am xs)) (i*4+j) cs=lvs (Am ys):=HC (r:=fun x:Move=>[.v (.int .i64 x.slot),.v (.int .i64 x.to),.v (.int .i64 x.num),.v (.string x.key)]) (fun _=>rfl) hx hy hj he
theorem Ml {xs ys:List Move} {i:Nat} {x x':Move} {cs:List LV} (hx:xs[i]?=some x) (hy:ys=xs.set i x') (hj:cs.length≤4) (he:setAt (lvs [[.v (.int .i64 x.slot),.v (.int .i64 x.to),.v (.int .i64 x.num),.v (.string x.key)]]) 0 cs=lvs [[.v (.int .i64 x'.slot),.v (.int .i64 x'.to),.v (.int .i64 x'.num),.v (.string x'.key)]]):setAt (lvs (Am xs)) (i*4) cs=lvs (Am ys):=Mj (r:=fun x:Move=>[.v (.int .i64 x.slot),.v (.int .i64 x.to),.v (.int .i64 x.num),.v (.string x.key)]) (fun _=>rfl) hx hy hj he
theorem I3 {xs:List Move} {i:Nat} {x:Move} (hx:xs[i]?=some x) {m:Nat} (hm:m≤4):i*4+m≤(lvs (Am xs)).length:=GR (r:=fun x:Move=>[.v (.int .i64 x.slot),.v (.int .i64 x.to),.v (.int .i64 x.num),.v (.string x.key)]) (fun _=>rfl) hx hm
theorem CG {xs:List Move} {i j:Nat} {x:Move} (hx:xs[i]?=some x) {m:Nat} (hm:j+m≤4):i*4+j+m≤(lvs (Am xs)).length:=by rw[Nat.add_assoc];exact I3 hx hm
@[simp] theorem TQ (l:List Move):(Am l).take l.length=Am l:=List.take_of_length_le (by simp)
theorem Mm {l m:List Move} {a:Int} (h:segl l a=some m):0≤a∧a.toNat≤l.length∧List.take (l.length - a.toNat) (List.drop a.toNat (Am l))=Am m∧a≤(l.length:Int):=Hj h
theorem Mn {l m:List Move} {b:Int} (h:segh l b=some m):0≤b∧b.toNat≤l.length∧List.take b.toNat (Am l)=Am m∧b≤(l.length:Int):=JV h
theorem Mo (al:Bool) (l:List Move):lvsA al (Am l)=lvs (Am l):=by simp[lvsA,lvs,Am,List.flatMap_map]
structure Seen where
 node:Int
 slot:Int
 num:Int
deriving DecidableEq,Inhabited
attribute [ext] Seen
def Ap (l:List Seen):List (List T):=l.map fun x=>[.v (.int .i64 x.node),.v (.int .i64 x.slot),.v (.int .i64 x.num)]
theorem Gy (x:Seen):lvs (Ap [x])=[.s (.int .i64 x.node),.s (.int .i64 x.slot),.s (.int .i64 x.num)]:=rfl
@[simp] theorem Ks (l:List Seen):(Ap l).length=l.length:=by simp[Ap]
@[simp high] theorem TA (l:List Seen) (i:Nat):(Ap l)[i]?=(l[i]?).map fun x=>[.v (.int .i64 x.node),.v (.int .i64 x.slot),.v (.int .i64 x.num)]:=by simp[Ap]
@[simp] theorem TB:Ap []=[]:=rfl
theorem Cy (l m:List Seen):Ap (l++m)=Ap l++Ap m:=by simp[Ap]
theorem AI (l:List Seen):∀ e∈Ap l,e.length=3:=by
 intro e h;obtain⟨x,_,rfl⟩:=List.mem_map.1 h;rfl
@[simp] theorem RZ (l:List Seen):(Ap l=[])=(l=[]):=by simp[Ap]
theorem Gz {xs:List Seen} {i j:Nat} {x:Seen} (hx:xs[i]?=some x) (hj:j<3):(lvs (Ap xs))[i*3+j]?=(lvs [[.v (.int .i64 x.node),.v (.int .i64 x.slot),.v (.int .i64 x.num)]])[j]?:=JU (r:=fun x:Seen=>[.v (.int .i64 x.node),.v (.int .i64 x.slot),.v (.int .i64 x.num)]) (fun _=>rfl) hx hj
theorem Nf {xs ys:List Seen} {i j:Nat} {x x':Seen} {cs:List LV} (hx:xs[i]?=some x) (hy:ys=xs.set i x') (hj:j+cs.length≤3) (he:setAt (lvs [[.v (.int .i64 x.node),.v (.int .i64 x.slot),.v (.int .i64 x.num)]]) j cs=lvs [[.v (.int .i64 x'.node),.v (.int .i64 x'.slot),.v (.int .i64 x'.num)]]):setAt (lvs (Ap xs)) (i*3+j) cs=lvs (Ap ys):=HC (r:=fun x:Seen=>[.v (.int .i64 x.node),.v (.int .i64 x.slot),.v (.int .i64 x.num)]) (fun _=>rfl) hx hy hj he
theorem Ng {xs:List Seen} {i:Nat} {x:Seen} (hx:xs[i]?=some x) {m:Nat} (hm:m≤3):i*3+m≤(lvs (Ap xs)).length:=GR (r:=fun x:Seen=>[.v (.int .i64 x.node),.v (.int .i64 x.slot),.v (.int .i64 x.num)]) (fun _=>rfl) hx hm
theorem Mp {xs:List Seen} {i j:Nat} {x:Seen} (hx:xs[i]?=some x) {m:Nat} (hm:j+m≤3):i*3+j+m≤(lvs (Ap xs)).length:=by rw[Nat.add_assoc];exact Ng hx hm
@[simp] theorem TR (l:List Seen):(Ap l).take l.length=Ap l:=List.take_of_length_le (by simp)
theorem Mq {l m:List Seen} {a:Int} (h:segl l a=some m):0≤a∧a.toNat≤l.length∧List.take (l.length - a.toNat) (List.drop a.toNat (Ap l))=Ap m∧a≤(l.length:Int):=Hj h
theorem Mr {l m:List Seen} {b:Int} (h:segh l b=some m):0≤b∧b.toNat≤l.length∧List.take b.toNat (Ap l)=Ap m∧b≤(l.length:Int):=JV h
theorem Ms (al:Bool) (l:List Seen):lvsA al (Ap l)=lvs (Ap l):=by simp[lvsA,lvs,Ap,List.flatMap_map]
theorem BD {xs:List Effect} {i j k:Nat} {x:Effect} (hx:xs[i]?=some x) (hjk:j+k≤7):((lvs (An xs)).drop (i*7+j)).take k=((lvs [[.v (.string x.key),.v (.bool x.gone),.v (.int .i64 x.item.kind),.v (.string x.item.s),.sl 2 (Av x.item.f),.sl 1 (encS x.item.l),.v (.int .i64 x.item.exp)]]).drop j).take k:=RG (r:=fun x:Effect=>[.v (.string x.key),.v (.bool x.gone),.v (.int .i64 x.item.kind),.v (.string x.item.s),.sl 2 (Av x.item.f),.sl 1 (encS x.item.l),.v (.int .i64 x.item.exp)]) (fun _=>rfl) hx hjk
theorem HU {xs ys:List Effect} {i j:Nat} {x x':Effect} {cs:List LV} (hx:xs[i]?=some x) (hy:ys=xs.set i x') (hj:j+cs.length≤7) (he:setAt (lvs [[.v (.string x.key),.v (.bool x.gone),.v (.int .i64 x.item.kind),.v (.string x.item.s),.sl 2 (Av x.item.f),.sl 1 (encS x.item.l),.v (.int .i64 x.item.exp)]]) j cs=lvs [[.v (.string x'.key),.v (.bool x'.gone),.v (.int .i64 x'.item.kind),.v (.string x'.item.s),.sl 2 (Av x'.item.f),.sl 1 (encS x'.item.l),.v (.int .i64 x'.item.exp)]]):setAt (lvs (An xs)) (i*7+j) cs=lvs (An ys):=HC (r:=fun x:Effect=>[.v (.string x.key),.v (.bool x.gone),.v (.int .i64 x.item.kind),.v (.string x.item.s),.sl 2 (Av x.item.f),.sl 1 (encS x.item.l),.v (.int .i64 x.item.exp)]) (fun _=>rfl) hx hy hj he
theorem Lw {xs:List Effect} {i:Nat} {x:Effect} (hx:xs[i]?=some x) {m:Nat} (hm:m≤7):i*7+m≤(lvs (An xs)).length:=GR (r:=fun x:Effect=>[.v (.string x.key),.v (.bool x.gone),.v (.int .i64 x.item.kind),.v (.string x.item.s),.sl 2 (Av x.item.f),.sl 1 (encS x.item.l),.v (.int .i64 x.item.exp)]) (fun _=>rfl) hx hm
theorem Br {xs:List Effect} {i j:Nat} {x:Effect} (hx:xs[i]?=some x) {m:Nat} (hm:j+m≤7):i*7+j+m≤(lvs (An xs)).length:=by rw[Nat.add_assoc];exact Lw hx hm
@[simp] theorem S0 (l:List Effect):(An l).take l.length=An l:=List.take_of_length_le (by simp)
theorem Hk {l m:List Effect} {a:Int} (h:segl l a=some m):0≤a∧a.toNat≤l.length∧List.take (l.length - a.toNat) (List.drop a.toNat (An l))=An m∧a≤(l.length:Int):=Hj h
def OB (l:List (List Effect)):List (List T):=l.map fun x=>[.sl 7 (An x)]
@[simp] theorem R0:OB []=[]:=rfl
def AM (l:List (List Int)):List (List T):=l.map fun x=>[.sl 1 (encI x)]
@[simp] theorem S1 (l:List (List Int)):(AM l).length=l.length:=by simp[AM]
@[simp high] theorem encLI_get (l:List (List Int)) (i:Nat):(AM l)[i]?=(l[i]?).map fun x=>[.sl 1 (encI x)]:=by simp[AM]
@[simp] theorem encLI_nil:AM []=[]:=rfl
theorem QK (l:List (List Int)):∀ e∈AM l,e.length=1:=by
 intro e h;obtain⟨x,_,rfl⟩:=List.mem_map.1 h;rfl
@[simp] theorem S2 (l:List (List Int)):(AM l=[])=(l=[]):=by simp[AM]
theorem Nh {xs:List (List Int)} {i:Nat} {x:List Int} (hx:xs[i]?=some x):(lvs (AM xs))[i]?=(lvs [[.sl 1 (encI x)]])[0]?:=by have:=RV (r:=fun x:List Int=>[.sl 1 (encI x)]) (n:=1) (fun _=>rfl) (by decide) hx;rw[Nat.mul_one] at this;exact this
theorem OC {xs ys:List (List Int)} {i:Nat} {x x':List Int} {cs:List LV} (hx:xs[i]?=some x) (hy:ys=xs.set i x') (hj:cs.length≤1) (he:setAt (lvs [[.sl 1 (encI x)]]) 0 cs=lvs [[.sl 1 (encI x')]]):setAt (lvs (AM xs)) (i) cs=lvs (AM ys):=by have:=Mj (r:=fun x:List Int=>[.sl 1 (encI x)]) (n:=1) (fun _=>rfl) hx hy hj he;rw[Nat.mul_one] at this;exact this
theorem FY {xs:List (List Int)} {i:Nat} {x:List Int} (hx:xs[i]?=some x) {m:Nat} (hm:m≤1):i+m≤(lvs (AM xs)).length:=by have:=GR (r:=fun x:List Int=>[.sl 1 (encI x)]) (n:=1) (fun _=>rfl) hx hm;rw[Nat.mul_one] at this;exact this
@[simp] theorem encLI_tk (l:List (List Int)):(AM l).take l.length=AM l:=List.take_of_length_le (by simp)
def S3 (l:List (List (List Int))):List (List T):=l.map fun x=>[.sl 1 (AM x)]
@[simp] theorem TS:S3 []=[]:=rfl
structure Watch where
 heard:List Int
 says:List (List Int)
deriving DecidableEq,Inhabited
attribute [ext] Watch
def QL (l:List Watch):List (List T):=l.map fun x=>[.sl 1 (encI x.heard),.sl 1 (AM x.says)]
@[simp] theorem S4:QL []=[]:=rfl
def PG (l:List (List Claim)):List (List T):=l.map fun x=>[.sl 4 (Aq x)]
@[simp] theorem SE:PG []=[]:=rfl
def QM (l:List (List Pair)):List (List T):=l.map fun x=>[.sl 6 (Ao x)]
@[simp] theorem S5:QM []=[]:=rfl
def QN (l:List (List Move)):List (List T):=l.map fun x=>[.sl 4 (Am x)]
@[simp] theorem S6:QN []=[]:=rfl
def QO (l:List (List Seen)):List (List T):=l.map fun x=>[.sl 3 (Ap x)]
@[simp] theorem S7:QO []=[]:=rfl
structure Node where
 count:Int
 id:Int
 master:Int
 epoch:Int
 voted:Int
 claims:List Claim
 db:List Pair
 moves:List Move
 last:Int
 seen:List Seen
 feed:Feed
 watch:Watch
 asked:Int
 votes:List Int
 wait:Int
deriving DecidableEq,Inhabited
attribute [ext] Node
def R1 (l:List Node):List (List T):=l.map fun x=>[.v (.int .i64 x.count),.v (.int .i64 x.id),.v (.int .i64 x.master),.v (.int .i64 x.epoch),.v (.int .i64 x.voted),.sl 4 (Aq x.claims),.sl 6 (Ao x.db),.sl 4 (Am x.moves),.v (.int .i64 x.last),.sl 3 (Ap x.seen),.v (.int .i64 x.feed.rid.node),.v (.int .i64 x.feed.rid.epoch),.v (.int .i64 x.feed.off),.sl 7 (An x.feed.back),.v (.int .i64 x.feed.prev.node),.v (.int .i64 x.feed.prev.epoch),.v (.int .i64 x.feed.upto),.sl 1 (encI x.watch.heard),.sl 1 (AM x.watch.says),.v (.int .i64 x.asked),.sl 1 (encI x.votes),.v (.int .i64 x.wait)]
@[simp] theorem TC:R1 []=[]:=rfl
theorem Ni {xs:List Msg} {i k:Nat} {x:Msg} (hx:xs[i]?=some x) (hk:k≤15):((lvs (AA xs)).drop (i*15)).take k=((lvs [[.v (.int .i64 x.kind),.v (.int .i64 x.frm),.v (.int .i64 x.to),.v (.int .i64 x.epoch),.sl 4 (Aq x.claims),.sl 1 (encI x.nodes),.v (.int .i64 x.node),.v (.int .i64 x.slot),.v (.int .i64 x.num),.v (.int .i64 x.rid.node),.v (.int .i64 x.rid.epoch),.v (.int .i64 x.prev.node),.v (.int .i64 x.prev.epoch),.v (.int .i64 x.off),.sl 7 (An x.effects)]]).drop 0).take k:=Mi (r:=fun x:Msg=>[.v (.int .i64 x.kind),.v (.int .i64 x.frm),.v (.int .i64 x.to),.v (.int .i64 x.epoch),.sl 4 (Aq x.claims),.sl 1 (encI x.nodes),.v (.int .i64 x.node),.v (.int .i64 x.slot),.v (.int .i64 x.num),.v (.int .i64 x.rid.node),.v (.int .i64 x.rid.epoch),.v (.int .i64 x.prev.node),.v (.int .i64 x.prev.epoch),.v (.int .i64 x.off),.sl 7 (An x.effects)]) (fun _=>rfl) hx hk
theorem OD {xs:List Msg} {i:Nat} {x:Msg} (hx:xs[i]?=some x) {m:Nat} (hm:m≤15):i*15+m≤(lvs (AA xs)).length:=GR (r:=fun x:Msg=>[.v (.int .i64 x.kind),.v (.int .i64 x.frm),.v (.int .i64 x.to),.v (.int .i64 x.epoch),.sl 4 (Aq x.claims),.sl 1 (encI x.nodes),.v (.int .i64 x.node),.v (.int .i64 x.slot),.v (.int .i64 x.num),.v (.int .i64 x.rid.node),.v (.int .i64 x.rid.epoch),.v (.int .i64 x.prev.node),.v (.int .i64 x.prev.epoch),.v (.int .i64 x.off),.sl 7 (An x.effects)]) (fun _=>rfl) hx hm
@[simp] theorem encMsg_tk (l:List Msg):(AA l).take l.length=AA l:=List.take_of_length_le (by simp)
structure R5Got where
 i:Item
 ok:Bool
deriving DecidableEq,Inhabited
attribute [ext] R5Got
def QP (l:List R5Got):List (List T):=l.map fun x=>[.v (.int .i64 x.i.kind),.v (.string x.i.s),.sl 2 (Av x.i.f),.sl 1 (encS x.i.l),.v (.int .i64 x.i.exp),.v (.bool x.ok)]
@[simp] theorem S8:QP []=[]:=rfl
def R2 (l:List (List Msg)):List (List T):=l.map fun x=>[.sl 15 (AA x)]
@[simp] theorem TD:R2 []=[]:=rfl
structure R13Moved where
 n:Node
 l:List Msg
 e:Int
deriving DecidableEq,Inhabited
attribute [ext] R13Moved
def Nj (l:List R13Moved):List (List T):=l.map fun x=>[.v (.int .i64 x.n.count),.v (.int .i64 x.n.id),.v (.int .i64 x.n.master),.v (.int .i64 x.n.epoch),.v (.int .i64 x.n.voted),.sl 4 (Aq x.n.claims),.sl 6 (Ao x.n.db),.sl 4 (Am x.n.moves),.v (.int .i64 x.n.last),.sl 3 (Ap x.n.seen),.v (.int .i64 x.n.feed.rid.node),.v (.int .i64 x.n.feed.rid.epoch),.v (.int .i64 x.n.feed.off),.sl 7 (An x.n.feed.back),.v (.int .i64 x.n.feed.prev.node),.v (.int .i64 x.n.feed.prev.epoch),.v (.int .i64 x.n.feed.upto),.sl 1 (encI x.n.watch.heard),.sl 1 (AM x.n.watch.says),.v (.int .i64 x.n.asked),.sl 1 (encI x.n.votes),.v (.int .i64 x.n.wait),.sl 15 (AA x.l),.v (.int .i64 x.e)]
@[simp] theorem RH:Nj []=[]:=rfl
structure Span where
 frm:Int
 to:Int
deriving DecidableEq,Inhabited
attribute [ext] Span
def Ay (l:List Span):List (List T):=l.map fun x=>[.v (.int .i64 x.frm),.v (.int .i64 x.to)]
theorem Di (x:Span):lvs (Ay [x])=[.s (.int .i64 x.frm),.s (.int .i64 x.to)]:=rfl
@[simp] theorem R3 (l:List Span):(Ay l).length=l.length:=by simp[Ay]
@[simp high] theorem TE (l:List Span) (i:Nat):(Ay l)[i]?=(l[i]?).map fun x=>[.v (.int .i64 x.frm),.v (.int .i64 x.to)]:=by simp[Ay]
@[simp] theorem TF:Ay []=[]:=rfl
theorem A9 (l m:List Span):Ay (l++m)=Ay l++Ay m:=by simp[Ay]
theorem CY (l:List Span):∀ e∈Ay l,e.length=2:=by
 intro e h;obtain⟨x,_,rfl⟩:=List.mem_map.1 h;rfl
theorem BA {xs:List Span} {i j:Nat} {x:Span} (hx:xs[i]?=some x) (hj:j<2):(lvs (Ay xs))[i*2+j]?=(lvs [[.v (.int .i64 x.frm),.v (.int .i64 x.to)]])[j]?:=JU (r:=fun x:Span=>[.v (.int .i64 x.frm),.v (.int .i64 x.to)]) (fun _=>rfl) hx hj
theorem AX {xs:List Span} {i k:Nat} {x:Span} (hx:xs[i]?=some x) (hk:k≤2):((lvs (Ay xs)).drop (i*2)).take k=((lvs [[.v (.int .i64 x.frm),.v (.int .i64 x.to)]]).drop 0).take k:=Mi (r:=fun x:Span=>[.v (.int .i64 x.frm),.v (.int .i64 x.to)]) (fun _=>rfl) hx hk
theorem I4 {xs ys:List Span} {i j:Nat} {x x':Span} {cs:List LV} (hx:xs[i]?=some x) (hy:ys=xs.set i x') (hj:j+cs.length≤2) (he:setAt (lvs [[.v (.int .i64 x.frm),.v (.int .i64 x.to)]]) j cs=lvs [[.v (.int .i64 x'.frm),.v (.int .i64 x'.to)]]):setAt (lvs (Ay xs)) (i*2+j) cs=lvs (Ay ys):=HC (r:=fun x:Span=>[.v (.int .i64 x.frm),.v (.int .i64 x.to)]) (fun _=>rfl) hx hy hj he
theorem Ik {xs ys:List Span} {i:Nat} {x x':Span} {cs:List LV} (hx:xs[i]?=some x) (hy:ys=xs.set i x') (hj:cs.length≤2) (he:setAt (lvs [[.v (.int .i64 x.frm),.v (.int .i64 x.to)]]) 0 cs=lvs [[.v (.int .i64 x'.frm),.v (.int .i64 x'.to)]]):setAt (lvs (Ay xs)) (i*2) cs=lvs (Ay ys):=Mj (r:=fun x:Span=>[.v (.int .i64 x.frm),.v (.int .i64 x.to)]) (fun _=>rfl) hx hy hj he
theorem AP {xs:List Span} {i:Nat} {x:Span} (hx:xs[i]?=some x) {m:Nat} (hm:m≤2):i*2+m≤(lvs (Ay xs)).length:=GR (r:=fun x:Span=>[.v (.int .i64 x.frm),.v (.int .i64 x.to)]) (fun _=>rfl) hx hm
theorem Fp {xs:List Span} {i j:Nat} {x:Span} (hx:xs[i]?=some x) {m:Nat} (hm:j+m≤2):i*2+j+m≤(lvs (Ay xs)).length:=by rw[Nat.add_assoc];exact AP hx hm
@[simp] theorem TT (l:List Span):(Ay l).take l.length=Ay l:=List.take_of_length_le (by simp)
structure ClaimsPiece where
 a:Claim
 b:Claim
deriving DecidableEq,Inhabited
attribute [ext] ClaimsPiece
def Kt (l:List ClaimsPiece):List (List T):=l.map fun x=>[.v (.int .i64 x.a.frm),.v (.int .i64 x.a.to),.v (.int .i64 x.a.node),.v (.int .i64 x.a.epoch),.v (.int .i64 x.b.frm),.v (.int .i64 x.b.to),.v (.int .i64 x.b.node),.v (.int .i64 x.b.epoch)]
@[simp] theorem PH:Kt []=[]:=rfl
theorem SO {P:Program} {f:Nat} {fn:Func} {c:Code} {args:List AV} {obs:List Ob} {res:AV} {obs':List (Option Ob)} (n:Nat) (hf:P.funcs[f]?=some fn) (h:∀ cx:Cx,cx.G=[]→cx.nb=obs.length→AW P none cx c (retPost P cx fn res obs') ⟨initTm 0 args,obs.map some,n,[],none⟩) (hb:fn.body=some c:=by rfl) (hn:fn.ntmps=n:=by rfl) (hpar:args.length≤n:=by simp):Sound P f args obs res obs':=by
 subst hn;exact zL hf hb hpar fun cx h1 h2=>by
  have:=h cx h1 h2;rw[SG];exact this
theorem it:(∀ i,initTm i []=[])∧(∀ i x xs,initTm i (x::xs)=(i,x)::initTm (i+1) xs)∧(∀ (f:Ob→Option Ob),List.map f []=[])∧(∀ (f:Ob→Option Ob) a l,List.map f (a::l)=f a::List.map f l):=⟨fun _=>rfl,fun _ _ _=>rfl,fun _=>rfl,fun _ _ _=>rfl⟩
theorem LP {P:Program} {cx:Cx} {fn:Func} {s:St} {res:AV} (hn:cx.nb=0) (h:resV P s fn.results.toList=some res:=by rfl) (hp:res.plain=true:=by rfl) (hls:s.ls=none:=by rfl):Left P cx fn res [] s:=Left.plain hn h hp hls rfl
theorem WM {cx:Cx} {tm tm':Tm} {ob ob':List (Option Ob)} {nt:Nat} {gh gh':List Tm} {ls:Option Code} (ids:List Nat) (hn:cx.nb=0) (hnd:((ids.map some).filterMap fun x=>x).Nodup:=by decide) (htm:∀ e ∈ tm',(lk tm e.1).ren (inv (ids.map some))=e.2:=by first|(simp[Ae,Af,pickOb];done)|rfl) (hob:pickOb (ids.map some) ob=ob':=by first|(simp[Ae,Af,pickOb];done)|rfl) (hgh:gh.map (Tm.ren (inv (ids.map some)))=gh':=by rfl):Weak cx ⟨tm,ob,nt,gh,ls⟩ ⟨tm',ob',nt,gh',ls⟩:=zG (ids.map some) hn hnd htm hob hgh
@[simp] abbrev cA0 (x:Node):List LV:=[.s (.int .i64 x.count),.s (.int .i64 x.id),.s (.int .i64 x.master),.s (.int .i64 x.epoch),.s (.int .i64 x.voted),.d false 4 (Aq x.claims),.d false 6 (Ao x.db),.d false 4 (Am x.moves),.s (.int .i64 x.last),.d false 3 (Ap x.seen),.s (.int .i64 x.feed.rid.node),.s (.int .i64 x.feed.rid.epoch),.s (.int .i64 x.feed.off),.d false 7 (An x.feed.back),.s (.int .i64 x.feed.prev.node),.s (.int .i64 x.feed.prev.epoch),.s (.int .i64 x.feed.upto),.d false 1 (encI x.watch.heard),.d false 1 (AM x.watch.says),.s (.int .i64 x.asked),.d false 1 (encI x.votes),.s (.int .i64 x.wait)]
@[simp] abbrev cB0:List LV:=[.s (.int .i64 0),.s (.int .i64 0),.s (.int .i64 0),.s (.int .i64 0),.s (.int .i64 0),.s (.slice none 0 0),.s (.slice none 0 0),.s (.slice none 0 0),.s (.int .i64 0),.s (.slice none 0 0),.s (.int .i64 0),.s (.int .i64 0),.s (.int .i64 0),.s (.slice none 0 0),.s (.int .i64 0),.s (.int .i64 0),.s (.int .i64 0),.s (.slice none 0 0),.s (.slice none 0 0),.s (.int .i64 0),.s (.slice none 0 0),.s (.int .i64 0)]
@[simp] abbrev cC0 (x:Msg):List LV:=[.s (.int .i64 x.kind),.s (.int .i64 x.frm),.s (.int .i64 x.to),.s (.int .i64 x.epoch),.d false 4 (Aq x.claims),.d false 1 (encI x.nodes),.s (.int .i64 x.node),.s (.int .i64 x.slot),.s (.int .i64 x.num),.s (.int .i64 x.rid.node),.s (.int .i64 x.rid.epoch),.s (.int .i64 x.prev.node),.s (.int .i64 x.prev.epoch),.s (.int .i64 x.off),.d false 7 (An x.effects)]
@[simp] abbrev cD0:List LV:=[.s (.int .i64 0),.s (.int .i64 0),.s (.int .i64 0),.s (.int .i64 0),.s (.int .i64 0),.s (.slice none 0 0),.s (.slice none 0 0),.s (.slice none 0 0),.s (.int .i64 0),.s (.slice none 0 0),.s (.int .i64 0),.s (.int .i64 0),.s (.int .i64 0),.s (.slice none 0 0),.s (.int .i64 0),.s (.int .i64 0),.s (.int .i64 0),.s (.slice none 0 0),.s (.slice none 0 0),.s (.int .i64 0),.s (.slice none 0 0),.s (.int .i64 0),.s (.slice none 0 0),.s (.int .i64 0)]
@[simp] abbrev cE0 (x:Item):List LV:=[.s (.int .i64 x.kind),.s (.string x.s),.d false 2 (Av x.f),.d false 1 (encS x.l),.s (.int .i64 x.exp)]
@[simp] abbrev cF0 (x:Node) (a5:LV):List LV:=[.s (.int .i64 x.count),.s (.int .i64 x.id),.s (.int .i64 x.master),.s (.int .i64 x.epoch),.s (.int .i64 x.voted),a5,.d false 6 (Ao x.db),.d false 4 (Am x.moves),.s (.int .i64 x.last),.d false 3 (Ap x.seen),.s (.int .i64 x.feed.rid.node),.s (.int .i64 x.feed.rid.epoch),.s (.int .i64 x.feed.off),.d false 7 (An x.feed.back),.s (.int .i64 x.feed.prev.node),.s (.int .i64 x.feed.prev.epoch),.s (.int .i64 x.feed.upto),.d false 1 (encI x.watch.heard),.d false 1 (AM x.watch.says),.s (.int .i64 x.asked),.d false 1 (encI x.votes),.s (.int .i64 x.wait)]
@[simp] abbrev cG0 (x:R13Moved):List LV:=[.s (.int .i64 x.n.count),.s (.int .i64 x.n.id),.s (.int .i64 x.n.master),.s (.int .i64 x.n.epoch),.s (.int .i64 x.n.voted),.d false 4 (Aq x.n.claims),.d false 6 (Ao x.n.db),.d false 4 (Am x.n.moves),.s (.int .i64 x.n.last),.d false 3 (Ap x.n.seen),.s (.int .i64 x.n.feed.rid.node),.s (.int .i64 x.n.feed.rid.epoch),.s (.int .i64 x.n.feed.off),.d false 7 (An x.n.feed.back),.s (.int .i64 x.n.feed.prev.node),.s (.int .i64 x.n.feed.prev.epoch),.s (.int .i64 x.n.feed.upto),.d false 1 (encI x.n.watch.heard),.d false 1 (AM x.n.watch.says),.s (.int .i64 x.n.asked),.d false 1 (encI x.n.votes),.s (.int .i64 x.n.wait),.d false 15 (AA x.l),.s (.int .i64 x.e)]
@[simp] abbrev cH0 (x:Node) (a7:LV):List LV:=[.s (.int .i64 x.count),.s (.int .i64 x.id),.s (.int .i64 x.master),.s (.int .i64 x.epoch),.s (.int .i64 x.voted),.d false 4 (Aq x.claims),.d false 6 (Ao x.db),a7,.s (.int .i64 x.last),.d false 3 (Ap x.seen),.s (.int .i64 x.feed.rid.node),.s (.int .i64 x.feed.rid.epoch),.s (.int .i64 x.feed.off),.d false 7 (An x.feed.back),.s (.int .i64 x.feed.prev.node),.s (.int .i64 x.feed.prev.epoch),.s (.int .i64 x.feed.upto),.d false 1 (encI x.watch.heard),.d false 1 (AM x.watch.says),.s (.int .i64 x.asked),.d false 1 (encI x.votes),.s (.int .i64 x.wait)]
@[simp] abbrev cI0 (x:Node) (a7 a9:LV):List LV:=[.s (.int .i64 x.count),.s (.int .i64 x.id),.s (.int .i64 x.master),.s (.int .i64 x.epoch),.s (.int .i64 x.voted),.d false 4 (Aq x.claims),.d false 6 (Ao x.db),a7,.s (.int .i64 x.last),a9,.s (.int .i64 x.feed.rid.node),.s (.int .i64 x.feed.rid.epoch),.s (.int .i64 x.feed.off),.d false 7 (An x.feed.back),.s (.int .i64 x.feed.prev.node),.s (.int .i64 x.feed.prev.epoch),.s (.int .i64 x.feed.upto),.d false 1 (encI x.watch.heard),.d false 1 (AM x.watch.says),.s (.int .i64 x.asked),.d false 1 (encI x.votes),.s (.int .i64 x.wait)]
@[simp] abbrev cJ0 (x:Node) (a5 a6 a7 a9 a13 a20:LV):List LV:=[.s (.int .i64 x.count),.s (.int .i64 x.id),.s (.int .i64 x.master),.s (.int .i64 x.epoch),.s (.int .i64 x.voted),a5,a6,a7,.s (.int .i64 x.last),a9,.s (.int .i64 x.feed.rid.node),.s (.int .i64 x.feed.rid.epoch),.s (.int .i64 x.feed.off),a13,.s (.int .i64 x.feed.prev.node),.s (.int .i64 x.feed.prev.epoch),.s (.int .i64 x.feed.upto),.d false 1 (encI x.watch.heard),.d false 1 (AM x.watch.says),.s (.int .i64 x.asked),a20,.s (.int .i64 x.wait)]
@[simp] abbrev cK0 (x:Node) (a3 a5 a7 a8:LV):List LV:=[.s (.int .i64 x.count),.s (.int .i64 x.id),.s (.int .i64 x.master),a3,.s (.int .i64 x.voted),a5,.d false 6 (Ao x.db),a7,a8,.d false 3 (Ap x.seen),.s (.int .i64 x.feed.rid.node),.s (.int .i64 x.feed.rid.epoch),.s (.int .i64 x.feed.off),.d false 7 (An x.feed.back),.s (.int .i64 x.feed.prev.node),.s (.int .i64 x.feed.prev.epoch),.s (.int .i64 x.feed.upto),.d false 1 (encI x.watch.heard),.d false 1 (AM x.watch.says),.s (.int .i64 x.asked),.d false 1 (encI x.votes),.s (.int .i64 x.wait)]
@[simp] abbrev cL0 (x:Effect):List LV:=[.s (.string x.key),.s (.bool x.gone),.s (.int .i64 x.item.kind),.s (.string x.item.s),.d false 2 (Av x.item.f),.d false 1 (encS x.item.l),.s (.int .i64 x.item.exp)]
@[simp] abbrev cM0 (x:Node) (a9:LV):List LV:=[.s (.int .i64 x.count),.s (.int .i64 x.id),.s (.int .i64 x.master),.s (.int .i64 x.epoch),.s (.int .i64 x.voted),.d false 4 (Aq x.claims),.d false 6 (Ao x.db),.d false 4 (Am x.moves),.s (.int .i64 x.last),a9,.s (.int .i64 x.feed.rid.node),.s (.int .i64 x.feed.rid.epoch),.s (.int .i64 x.feed.off),.d false 7 (An x.feed.back),.s (.int .i64 x.feed.prev.node),.s (.int .i64 x.feed.prev.epoch),.s (.int .i64 x.feed.upto),.d false 1 (encI x.watch.heard),.d false 1 (AM x.watch.says),.s (.int .i64 x.asked),.d false 1 (encI x.votes),.s (.int .i64 x.wait)]
@[simp] abbrev cN0 (x:Node) (a5 a7 a9 a20:LV):List LV:=[.s (.int .i64 x.count),.s (.int .i64 x.id),.s (.int .i64 x.master),.s (.int .i64 x.epoch),.s (.int .i64 x.voted),a5,.d false 6 (Ao x.db),a7,.s (.int .i64 x.last),a9,.s (.int .i64 x.feed.rid.node),.s (.int .i64 x.feed.rid.epoch),.s (.int .i64 x.feed.off),.d false 7 (An x.feed.back),.s (.int .i64 x.feed.prev.node),.s (.int .i64 x.feed.prev.epoch),.s (.int .i64 x.feed.upto),.d false 1 (encI x.watch.heard),.d false 1 (AM x.watch.says),.s (.int .i64 x.asked),a20,.s (.int .i64 x.wait)]
@[simp] abbrev cO0 (x:Node) (a8:LV):List LV:=[.s (.int .i64 x.count),.s (.int .i64 x.id),.s (.int .i64 x.master),.s (.int .i64 x.epoch),.s (.int .i64 x.voted),.d false 4 (Aq x.claims),.d false 6 (Ao x.db),.d false 4 (Am x.moves),a8,.d false 3 (Ap x.seen),.s (.int .i64 x.feed.rid.node),.s (.int .i64 x.feed.rid.epoch),.s (.int .i64 x.feed.off),.d false 7 (An x.feed.back),.s (.int .i64 x.feed.prev.node),.s (.int .i64 x.feed.prev.epoch),.s (.int .i64 x.feed.upto),.d false 1 (encI x.watch.heard),.d false 1 (AM x.watch.says),.s (.int .i64 x.asked),.d false 1 (encI x.votes),.s (.int .i64 x.wait)]
@[simp] abbrev cP0:List LV:=[.s (.int .i64 0),.s (.string ⟨#[]⟩),.s (.slice none 0 0),.s (.slice none 0 0),.s (.int .i64 0)]
@[simp] abbrev cQ0:List LV:=[.s (.int .i64 0),.s (.string ⟨#[]⟩),.s (.slice none 0 0),.s (.slice none 0 0),.s (.int .i64 0),.s (.bool false)]
@[simp] abbrev cR0 (x:R5Got):List LV:=[.s (.int .i64 x.i.kind),.s (.string x.i.s),.d false 2 (Av x.i.f),.d false 1 (encS x.i.l),.s (.int .i64 x.i.exp),.s (.bool x.ok)]
@[simp] abbrev cS0:List LV:=[.s (.int .i64 0),.s (.int .i64 0),.s (.int .i64 0),.s (.int .i64 0)]
@[simp] abbrev iA (x:Int):LV:=.s (.int .i64 x)
@[simp] abbrev tA (x:ByteArray):LV:=.s (.string x)
@[simp] abbrev bA (x:Bool):LV:=.s (.bool x)
@[simp] abbrev dA (x:List Pair):LV:=.d false 6 (Ao x)
@[simp] abbrev dB (x:List Claim):LV:=.d false 4 (Aq x)
@[simp] abbrev dC (x:List Int):LV:=.d false 1 (encI x)
@[simp] abbrev dD (x:List Effect):LV:=.d false 7 (An x)
@[simp] abbrev dE (x:List Field):LV:=.d false 2 (Av x)
@[simp] abbrev dF (x:List Int):LV:=.d false 1 (encU x)
@[simp] abbrev dG (x:List Span):LV:=.d false 2 (Ay x)
@[simp] abbrev dH (x:List ByteArray):LV:=.d false 1 (encS x)
@[simp] abbrev dI (x:List Move):LV:=.d false 4 (Am x)
@[simp] abbrev dJ (x:List Span):LV:=.d true 2 (Ay x)
theorem iT {β:Type} {x y:Option β} {r:β} (h:ite' true x y=some r):x=some r:=h
theorem iF {β:Type} {x y:Option β} {r:β} (h:ite' false x y=some r):y=some r:=h
theorem CT {P:Program} {R:Option Nat} {cx:Cx} {Q:Post} {st:St} {c:Operand} {x y:Code} (h:AW P R cx x Q st) (hc:st.ev c=.l (.s (.bool true)):=by simp):AW P R cx (.cond c x y) Q st:=AW.cond_true hc h
theorem CF {P:Program} {R:Option Nat} {cx:Cx} {Q:Post} {st:St} {c:Operand} {x y:Code} (h:AW P R cx y Q st) (hc:st.ev c=.l (.s (.bool false)):=by simp):AW P R cx (.cond c x y) Q st:=AW.cond_false hc h
theorem ST {P:Program} {R:Option Nat} {cx:Cx} {Q:Post} {st:St} {id:Nat} {ops:Array Oper} {c:Code} {st':St} (k:AW P R cx c Q st') (h:xops P ops ops.toList st (fun s=>s=st'):=by simp;intros;rfl):AW P R cx (.seq (.region id ops false) c) Q st:=AW.step h k
theorem SL {P:Program} {R:Option Nat} {cx:Cx} {Q:Post} {st:St} {id:Nat} {ops:Array Oper} {st':St} (k:Q .normal st') (h:xops P ops ops.toList st (fun s=>s=st'):=by simp;intros;rfl):AW P R cx (.region id ops false) Q st:=AW.last h k
theorem FZ {P:Program} {R:Option Nat} {cx:Cx} {Q:Post} {c:Code} {tm tm':Tm} {ob ob':List (Option Ob)} {nt m b:Nat} {gh gh':List Tm} {ls:Option Code} (o ty sz:Nat) {es:List (List T)} (hes:∀ e∈es,e.length=sz) (hr:room m b=true) (k:AW P R cx c Q ⟨tm',ob',nt,gh',ls⟩) (hz:ob[o]?=some (some ⟨ty,sz,true,none,lvs es⟩):=by simp) (h0:0<sz:=by omega) (hm:es.length=m:=by simp) (h1:Tm.frz o sz es tm=tm':=by simp[Tm.frz,AV.frz,LV.frz];rfl) (h2:(ob.set o none).map (Option.map (Ob.frz o sz es))=ob':=by simp[Ob.frz,LV.frz];rfl) (h3:gh.map (Tm.frz o sz es)=gh':=by rfl):AW P R cx c Q ⟨tm,ob,nt,gh,ls⟩:=AW.frzRow o hz h0 hes (hm ▸ (Aw hr).2) h1 h2 h3 k
theorem KA {p:Prop} (h:p:=by first|exact KD.mk|exact KD.mkN):p:=h
theorem obbl {α0 α1 α2 β:Type} {a0:Option α0} {a1:α0→Option α1} {a2:α0→α1→α2} {k:α0→α1→α2→Option β} {r:β} (h:bn a0 (fun x0=>bn (a1 x0) (fun x1=>lt (a2 x0 x1) (fun x2=>(k x0 x1 x2))))=some r):∃ x0,a0=some x0∧∃ x1,(a1 x0)=some x1∧∃ x2,x2=(a2 x0 x1)∧(k x0 x1 x2)=some r:=by
 obtain⟨x0,e0,h⟩:=bnE h;obtain⟨x1,e1,h⟩:=bnE h;obtain⟨x2,e2,h⟩:=ltE h;exact⟨x0,e0,x1,e1,x2,e2,h⟩
theorem obl {α0 α1 β:Type} {a0:Option α0} {a1:α0→α1} {k:α0→α1→Option β} {r:β} (h:bn a0 (fun x0=>lt (a1 x0) (fun x1=>(k x0 x1)))=some r):∃ x0,a0=some x0∧∃ x1,x1=(a1 x0)∧(k x0 x1)=some r:=by
 obtain⟨x0,e0,h⟩:=bnE h;obtain⟨x1,e1,h⟩:=ltE h;exact⟨x0,e0,x1,e1,h⟩
theorem ocl {α1 β:Type} {a0:Bool} {a1:α1} {k:α1→Option β} {r:β} (h:chk a0 (lt a1 (fun x1=>(k x1)))=some r):a0=true∧∃ x1,x1=a1∧(k x1)=some r:=by
 obtain⟨e0,h⟩:=chkE h;obtain⟨x1,e1,h⟩:=ltE h;exact⟨e0,x1,e1,h⟩
theorem olb {α0 α1 β:Type} {a0:α0} {a1:α0→Option α1} {k:α0→α1→Option β} {r:β} (h:lt a0 (fun x0=>bn (a1 x0) (fun x1=>(k x0 x1)))=some r):∃ x0,x0=a0∧∃ x1,(a1 x0)=some x1∧(k x0 x1)=some r:=by
 obtain⟨x0,e0,h⟩:=ltE h;obtain⟨x1,e1,h⟩:=bnE h;exact⟨x0,e0,x1,e1,h⟩
theorem oll {α0 α1 β:Type} {a0:α0} {a1:α0→α1} {k:α0→α1→Option β} {r:β} (h:lt a0 (fun x0=>lt (a1 x0) (fun x1=>(k x0 x1)))=some r):∃ x0,x0=a0∧∃ x1,x1=(a1 x0)∧(k x0 x1)=some r:=by
 obtain⟨x0,e0,h⟩:=ltE h;obtain⟨x1,e1,h⟩:=ltE h;exact⟨x0,e0,x1,e1,h⟩
theorem olll {α0 α1 α2 β:Type} {a0:α0} {a1:α0→α1} {a2:α0→α1→α2} {k:α0→α1→α2→Option β} {r:β} (h:lt a0 (fun x0=>lt (a1 x0) (fun x1=>lt (a2 x0 x1) (fun x2=>(k x0 x1 x2))))=some r):∃ x0,x0=a0∧∃ x1,x1=(a1 x0)∧∃ x2,x2=(a2 x0 x1)∧(k x0 x1 x2)=some r:=by
 obtain⟨x0,e0,h⟩:=ltE h;obtain⟨x1,e1,h⟩:=ltE h;obtain⟨x2,e2,h⟩:=ltE h;exact⟨x0,e0,x1,e1,x2,e2,h⟩
end Go.Proofs.YtlbdhlbbkibgpaaGreat
namespace Go.Proofs.YtlbdhlbbkibgpaaGreat
open Go Go.RowKit
def small {α:Type} (c:Nat) (l:List α):Bool:=decide (l.length*c≤140737488355328∧l.length≤140737488355328)
theorem B0 {α:Type} {c:Nat} {l:List α} (h:small c l=true):l.length*c≤140737488355328∧l.length≤140737488355328:=by simpa [small] using h
set_option maxRecDepth 8000 in
theorem R4 (l:List (List Int)) (hl:l.length*24≤140737488355328∧l.length≤140737488355328):Sound Tryz.prog 71 [.l (.d false 1 ((AM l)))] [] (.l (.r 0 1 0 l.length)) [some ⟨33,1,true,none,lvs (AM l)⟩]:=by
 refine zL (fn:=Tryz.f71) (c:=_) Tryz.func71 rfl (by simp[Tryz.f71]) fun cx hG hnb=>?_;rw[show Tryz.f71.ntmps=8 from rfl];have hn0:cx.nb=0:=hnb;refine AW.step (by simp;rfl) ?_;refine AW.seq ?_;refine zN (fun s=>∃ b:Bool,(AM l≠[]→b=false)∧s=⟨[(4,.l (.s (.bool b))),(3,.l (.d false 1 (AM l))),(2,.l (.s (.slice none 0 0))),(0,.l (.d false 1 (AM l)))],[],8,[],none⟩) ?_ ?_
 ·simp
 rintro s ⟨b,hb,rfl⟩;refine AW.cond rfl (fun h=>?_) (fun h=>AW.skip ?_)
 ·have he:l=[]:=by
   cases l with
   |nil=>rfl
   |cons x l=>simp at hb;rw[hb] at h;simp at h
  subst he;refine AW.step (by simp;rfl) ?_;refine AW.ret (Left.of (av:=.l (.s (.slice none 0 0))) (by simp[Tryz.f71,resV,resC]) ?_);refine LeftV.weak (Weak.nilRow 0 33 1 rfl) ?_;refine zK hnb [some 0] (fun i j o hi hj=>?_) rfl ?_ ?_
  ·cases i <;> cases j <;> simp_all
  ·simp[pickOb,St.add,Ob.ren,lvs]
  ·rfl
 ·simp only[Post.seq];apply AW.step
  ·simp[Value.oneCell'];refine Ax ?_;try simp
   refine Ct (q:=(l.length,lvs (AM l))) (z:=⟨33,1,true,none,[]⟩) Kp Ko (by simp) (by simp[← JN]) (by simp) (by simp) (by simp) (by simp;omega) ?_;simp[St.grow,obsBut,Bj];rfl
  refine AW.ret (Left.of (av:=.l (.r 0 1 0 l.length)) (by simp[Tryz.f71,resV,resC]) ?_);refine zK hnb [some 0] (fun i j o hi hj=>?_) rfl ?_ rfl
  ·cases i <;> cases j <;> simp_all
  ·simp[pickOb,Ob.ren,Bj]
theorem QR:Enters Tryz.prog 71:=enters Tryz.func71 (by kernel_rfl) rfl
set_option maxRecDepth 8000 in
theorem OE (l:List Claim) (hl:l.length*32≤140737488355328∧l.length≤140737488355328):Sound Tryz.prog 64 [.l (.d true 4 ((Aq l)))] [] (.l (.r 0 4 0 l.length)) [some ⟨81,4,true,none,lvs (Aq l)⟩]:=by
 refine zL (fn:=Tryz.f64) (c:=_) Tryz.func64 rfl (by simp[Tryz.f64]) fun cx hG hnb=>?_;rw[show Tryz.f64.ntmps=8 from rfl];have hn0:cx.nb=0:=hnb;refine AW.step (by simp;rfl) ?_;refine AW.seq ?_;refine zN (fun s=>∃ b:Bool,(Aq l≠[]→b=false)∧s=⟨[(4,.l (.s (.bool b))),(3,.l (.d true 4 (Aq l))),(2,.l (.s (.slice none 0 0))),(0,.l (.d true 4 (Aq l)))],[],8,[],none⟩) ?_ ?_
 ·simp
 rintro s ⟨b,hb,rfl⟩;refine AW.cond rfl (fun h=>?_) (fun h=>AW.skip ?_)
 ·have he:l=[]:=by
   cases l with
   |nil=>rfl
   |cons x l=>simp at hb;rw[hb] at h;simp at h
  subst he;refine AW.step (by simp;rfl) ?_;refine AW.ret (Left.of (av:=.l (.s (.slice none 0 0))) (by simp[Tryz.f64,resV,resC]) ?_);refine LeftV.weak (Weak.nilRow 0 81 4 rfl) ?_;refine zK hnb [some 0] (fun i j o hi hj=>?_) rfl ?_ ?_
  ·cases i <;> cases j <;> simp_all
  ·simp[pickOb,St.add,Ob.ren,lvs]
  ·rfl
 ·simp only[Post.seq];apply AW.step
  ·simp[Value.oneCell'];refine Ax ?_;try simp
   refine Ct (q:=(l.length,lvs (Aq l))) (z:=⟨81,4,true,none,[]⟩) Hf He (by simp) (by simp[Lv]) (by simp) (by simp) (by simp) (by simp;omega) ?_;simp[St.grow,obsBut,Bj];rfl
  refine AW.ret (Left.of (av:=.l (.r 0 4 0 l.length)) (by simp[Tryz.f64,resV,resC]) ?_);refine zK hnb [some 0] (fun i j o hi hj=>?_) rfl ?_ rfl
  ·cases i <;> cases j <;> simp_all
  ·simp[pickOb,Ob.ren,Bj]
theorem Nk:Enters Tryz.prog 64:=enters Tryz.func64 (by kernel_rfl) rfl
set_option maxRecDepth 8000 in
theorem I5 (l:List Effect) (hl:l.length*104≤140737488355328∧l.length≤140737488355328):Sound Tryz.prog 69 [.l (.d false 7 ((An l)))] [] (.l (.r 0 7 0 l.length)) [some ⟨59,7,true,none,lvs (An l)⟩]:=by
 refine zL (fn:=Tryz.f69) (c:=_) Tryz.func69 rfl (by simp[Tryz.f69]) fun cx hG hnb=>?_;rw[show Tryz.f69.ntmps=8 from rfl];have hn0:cx.nb=0:=hnb;refine AW.step (by simp;rfl) ?_;refine AW.seq ?_;refine zN (fun s=>∃ b:Bool,(An l≠[]→b=false)∧s=⟨[(4,.l (.s (.bool b))),(3,.l (.d false 7 (An l))),(2,.l (.s (.slice none 0 0))),(0,.l (.d false 7 (An l)))],[],8,[],none⟩) ?_ ?_
 ·simp
 rintro s ⟨b,hb,rfl⟩;refine AW.cond rfl (fun h=>?_) (fun h=>AW.skip ?_)
 ·have he:l=[]:=by
   cases l with
   |nil=>rfl
   |cons x l=>simp at hb;rw[hb] at h;simp at h
  subst he;refine AW.step (by simp;rfl) ?_;refine AW.ret (Left.of (av:=.l (.s (.slice none 0 0))) (by simp[Tryz.f69,resV,resC]) ?_);refine LeftV.weak (Weak.nilRow 0 59 7 rfl) ?_;refine zK hnb [some 0] (fun i j o hi hj=>?_) rfl ?_ ?_
  ·cases i <;> cases j <;> simp_all
  ·simp[pickOb,St.add,Ob.ren,lvs]
  ·rfl
 ·simp only[Post.seq];apply AW.step
  ·simp[Value.oneCell'];refine Ax ?_;try simp
   refine Ct (q:=(l.length,lvs (An l))) (z:=⟨59,7,true,none,[]⟩) Hg Hc (by simp) (by simp[← JN]) (by simp) (by simp) (by simp) (by simp;omega) ?_;simp[St.grow,obsBut,Bj];rfl
  refine AW.ret (Left.of (av:=.l (.r 0 7 0 l.length)) (by simp[Tryz.f69,resV,resC]) ?_);refine zK hnb [some 0] (fun i j o hi hj=>?_) rfl ?_ rfl
  ·cases i <;> cases j <;> simp_all
  ·simp[pickOb,Ob.ren,Bj]
theorem Il:Enters Tryz.prog 69:=enters Tryz.func69 (by kernel_rfl) rfl
set_option maxRecDepth 8000 in
theorem JW (l:List Field) (hl:l.length*32≤140737488355328∧l.length≤140737488355328):Sound Tryz.prog 98 [.l (.d true 2 ((Av l)))] [] (.l (.r 0 2 0 l.length)) [some ⟨157,2,true,none,lvs (Av l)⟩]:=by
 refine zL (fn:=Tryz.f98) (c:=_) Tryz.func98 rfl (by simp[Tryz.f98]) fun cx hG hnb=>?_;rw[show Tryz.f98.ntmps=8 from rfl];have hn0:cx.nb=0:=hnb;refine AW.step (by simp;rfl) ?_;refine AW.seq ?_;refine zN (fun s=>∃ b:Bool,(Av l≠[]→b=false)∧s=⟨[(4,.l (.s (.bool b))),(3,.l (.d true 2 (Av l))),(2,.l (.s (.slice none 0 0))),(0,.l (.d true 2 (Av l)))],[],8,[],none⟩) ?_ ?_
 ·simp
 rintro s ⟨b,hb,rfl⟩;refine AW.cond rfl (fun h=>?_) (fun h=>AW.skip ?_)
 ·have he:l=[]:=by
   cases l with
   |nil=>rfl
   |cons x l=>simp at hb;rw[hb] at h;simp at h
  subst he;refine AW.step (by simp;rfl) ?_;refine AW.ret (Left.of (av:=.l (.s (.slice none 0 0))) (by simp[Tryz.f98,resV,resC]) ?_);refine LeftV.weak (Weak.nilRow 0 157 2 rfl) ?_;refine zK hnb [some 0] (fun i j o hi hj=>?_) rfl ?_ ?_
  ·cases i <;> cases j <;> simp_all
  ·simp[pickOb,St.add,Ob.ren,lvs]
  ·rfl
 ·simp only[Post.seq];apply AW.step
  ·simp[Value.oneCell'];refine Ax ?_;try simp
   refine Ct (q:=(l.length,lvs (Av l))) (z:=⟨157,2,true,none,[]⟩) IN HB (by simp) (by simp[Lr]) (by simp) (by simp) (by simp) (by simp;omega) ?_;simp[St.grow,obsBut,Bj];rfl
  refine AW.ret (Left.of (av:=.l (.r 0 2 0 l.length)) (by simp[Tryz.f98,resV,resC]) ?_);refine zK hnb [some 0] (fun i j o hi hj=>?_) rfl ?_ rfl
  ·cases i <;> cases j <;> simp_all
  ·simp[pickOb,Ob.ren,Bj]
theorem I6:Enters Tryz.prog 98:=enters Tryz.func98 (by kernel_rfl) rfl
set_option maxRecDepth 8000 in
theorem PI (l:List Move) (hl:l.length*40≤140737488355328∧l.length≤140737488355328):Sound Tryz.prog 65 [.l (.d true 4 ((Am l)))] [] (.l (.r 0 4 0 l.length)) [some ⟨92,4,true,none,lvs (Am l)⟩]:=by
 refine zL (fn:=Tryz.f65) (c:=_) Tryz.func65 rfl (by simp[Tryz.f65]) fun cx hG hnb=>?_;rw[show Tryz.f65.ntmps=8 from rfl];have hn0:cx.nb=0:=hnb;refine AW.step (by simp;rfl) ?_;refine AW.seq ?_;refine zN (fun s=>∃ b:Bool,(Am l≠[]→b=false)∧s=⟨[(4,.l (.s (.bool b))),(3,.l (.d true 4 (Am l))),(2,.l (.s (.slice none 0 0))),(0,.l (.d true 4 (Am l)))],[],8,[],none⟩) ?_ ?_
 ·simp
 rintro s ⟨b,hb,rfl⟩;refine AW.cond rfl (fun h=>?_) (fun h=>AW.skip ?_)
 ·have he:l=[]:=by
   cases l with
   |nil=>rfl
   |cons x l=>simp at hb;rw[hb] at h;simp at h
  subst he;refine AW.step (by simp;rfl) ?_;refine AW.ret (Left.of (av:=.l (.s (.slice none 0 0))) (by simp[Tryz.f65,resV,resC]) ?_);refine LeftV.weak (Weak.nilRow 0 92 4 rfl) ?_;refine zK hnb [some 0] (fun i j o hi hj=>?_) rfl ?_ ?_
  ·cases i <;> cases j <;> simp_all
  ·simp[pickOb,St.add,Ob.ren,lvs]
  ·rfl
 ·simp only[Post.seq];apply AW.step
  ·simp[Value.oneCell'];refine Ax ?_;try simp
   refine Ct (q:=(l.length,lvs (Am l))) (z:=⟨92,4,true,none,[]⟩) Cm Cw (by simp) (by simp[Mo]) (by simp) (by simp) (by simp) (by simp;omega) ?_;simp[St.grow,obsBut,Bj];rfl
  refine AW.ret (Left.of (av:=.l (.r 0 4 0 l.length)) (by simp[Tryz.f65,resV,resC]) ?_);refine zK hnb [some 0] (fun i j o hi hj=>?_) rfl ?_ rfl
  ·cases i <;> cases j <;> simp_all
  ·simp[pickOb,Ob.ren,Bj]
theorem OF:Enters Tryz.prog 65:=enters Tryz.func65 (by kernel_rfl) rfl
set_option maxRecDepth 8000 in
theorem K9 (l:List Pair) (hl:l.length*96≤140737488355328∧l.length≤140737488355328):Sound Tryz.prog 68 [.l (.d false 6 ((Ao l)))] [] (.l (.r 0 6 0 l.length)) [some ⟨114,6,true,none,lvs (Ao l)⟩]:=by
 refine zL (fn:=Tryz.f68) (c:=_) Tryz.func68 rfl (by simp[Tryz.f68]) fun cx hG hnb=>?_;rw[show Tryz.f68.ntmps=8 from rfl];have hn0:cx.nb=0:=hnb;refine AW.step (by simp;rfl) ?_;refine AW.seq ?_;refine zN (fun s=>∃ b:Bool,(Ao l≠[]→b=false)∧s=⟨[(4,.l (.s (.bool b))),(3,.l (.d false 6 (Ao l))),(2,.l (.s (.slice none 0 0))),(0,.l (.d false 6 (Ao l)))],[],8,[],none⟩) ?_ ?_
 ·simp
 rintro s ⟨b,hb,rfl⟩;refine AW.cond rfl (fun h=>?_) (fun h=>AW.skip ?_)
 ·have he:l=[]:=by
   cases l with
   |nil=>rfl
   |cons x l=>simp at hb;rw[hb] at h;simp at h
  subst he;refine AW.step (by simp;rfl) ?_;refine AW.ret (Left.of (av:=.l (.s (.slice none 0 0))) (by simp[Tryz.f68,resV,resC]) ?_);refine LeftV.weak (Weak.nilRow 0 114 6 rfl) ?_;refine zK hnb [some 0] (fun i j o hi hj=>?_) rfl ?_ ?_
  ·cases i <;> cases j <;> simp_all
  ·simp[pickOb,St.add,Ob.ren,lvs]
  ·rfl
 ·simp only[Post.seq];apply AW.step
  ·simp[Value.oneCell'];refine Ax ?_;try simp
   refine Ct (q:=(l.length,lvs (Ao l))) (z:=⟨114,6,true,none,[]⟩) Cl BY (by simp) (by simp[← JN]) (by simp) (by simp) (by simp) (by simp;omega) ?_;simp[St.grow,obsBut,Bj];rfl
  refine AW.ret (Left.of (av:=.l (.r 0 6 0 l.length)) (by simp[Tryz.f68,resV,resC]) ?_);refine zK hnb [some 0] (fun i j o hi hj=>?_) rfl ?_ rfl
  ·cases i <;> cases j <;> simp_all
  ·simp[pickOb,Ob.ren,Bj]
theorem JX:Enters Tryz.prog 68:=enters Tryz.func68 (by kernel_rfl) rfl
set_option maxRecDepth 8000 in
theorem PJ (l:List Seen) (hl:l.length*24≤140737488355328∧l.length≤140737488355328):Sound Tryz.prog 66 [.l (.d true 3 ((Ap l)))] [] (.l (.r 0 3 0 l.length)) [some ⟨100,3,true,none,lvs (Ap l)⟩]:=by
 refine zL (fn:=Tryz.f66) (c:=_) Tryz.func66 rfl (by simp[Tryz.f66]) fun cx hG hnb=>?_;rw[show Tryz.f66.ntmps=8 from rfl];have hn0:cx.nb=0:=hnb;refine AW.step (by simp;rfl) ?_;refine AW.seq ?_;refine zN (fun s=>∃ b:Bool,(Ap l≠[]→b=false)∧s=⟨[(4,.l (.s (.bool b))),(3,.l (.d true 3 (Ap l))),(2,.l (.s (.slice none 0 0))),(0,.l (.d true 3 (Ap l)))],[],8,[],none⟩) ?_ ?_
 ·simp
 rintro s ⟨b,hb,rfl⟩;refine AW.cond rfl (fun h=>?_) (fun h=>AW.skip ?_)
 ·have he:l=[]:=by
   cases l with
   |nil=>rfl
   |cons x l=>simp at hb;rw[hb] at h;simp at h
  subst he;refine AW.step (by simp;rfl) ?_;refine AW.ret (Left.of (av:=.l (.s (.slice none 0 0))) (by simp[Tryz.f66,resV,resC]) ?_);refine LeftV.weak (Weak.nilRow 0 100 3 rfl) ?_;refine zK hnb [some 0] (fun i j o hi hj=>?_) rfl ?_ ?_
  ·cases i <;> cases j <;> simp_all
  ·simp[pickOb,St.add,Ob.ren,lvs]
  ·rfl
 ·simp only[Post.seq];apply AW.step
  ·simp[Value.oneCell'];refine Ax ?_;try simp
   refine Ct (q:=(l.length,lvs (Ap l))) (z:=⟨100,3,true,none,[]⟩) CP CE (by simp) (by simp[Ms]) (by simp) (by simp) (by simp) (by simp;omega) ?_;simp[St.grow,obsBut,Bj];rfl
  refine AW.ret (Left.of (av:=.l (.r 0 3 0 l.length)) (by simp[Tryz.f66,resV,resC]) ?_);refine zK hnb [some 0] (fun i j o hi hj=>?_) rfl ?_ rfl
  ·cases i <;> cases j <;> simp_all
  ·simp[pickOb,Ob.ren,Bj]
theorem OG:Enters Tryz.prog 66:=enters Tryz.func66 (by kernel_rfl) rfl
set_option maxRecDepth 8000 in
theorem Mt (l:List Int) (hl:l.length*8≤140737488355328∧l.length≤140737488355328):Sound Tryz.prog 67 [.l (.d true 1 ((encI l)))] [] (.l (.r 0 1 0 l.length)) [some ⟨3,1,true,none,lvs (encI l)⟩]:=by
 refine zL (fn:=Tryz.f67) (c:=_) Tryz.func67 rfl (by simp[Tryz.f67]) fun cx hG hnb=>?_;rw[show Tryz.f67.ntmps=8 from rfl];have hn0:cx.nb=0:=hnb;refine AW.step (by simp;rfl) ?_;refine AW.seq ?_;refine zN (fun s=>∃ b:Bool,(encI l≠[]→b=false)∧s=⟨[(4,.l (.s (.bool b))),(3,.l (.d true 1 (encI l))),(2,.l (.s (.slice none 0 0))),(0,.l (.d true 1 (encI l)))],[],8,[],none⟩) ?_ ?_
 ·simp
 rintro s ⟨b,hb,rfl⟩;refine AW.cond rfl (fun h=>?_) (fun h=>AW.skip ?_)
 ·have he:l=[]:=by
   cases l with
   |nil=>rfl
   |cons x l=>simp at hb;rw[hb] at h;simp at h
  subst he;refine AW.step (by simp;rfl) ?_;refine AW.ret (Left.of (av:=.l (.s (.slice none 0 0))) (by simp[Tryz.f67,resV,resC]) ?_);refine LeftV.weak (Weak.nilRow 0 3 1 rfl) ?_;refine zK hnb [some 0] (fun i j o hi hj=>?_) rfl ?_ ?_
  ·cases i <;> cases j <;> simp_all
  ·simp[pickOb,St.add,Ob.ren,lvs]
  ·rfl
 ·simp only[Post.seq];apply AW.step
  ·simp[Value.oneCell'];refine Ax ?_;try simp
   refine Ct (q:=(l.length,lvs (encI l))) (z:=⟨3,1,true,none,[]⟩) Hh Ig (by simp) (by simp[Pv]) (by simp) (by simp) (by simp) (by simp;omega) ?_;simp[St.grow,obsBut,Bj];rfl
  refine AW.ret (Left.of (av:=.l (.r 0 1 0 l.length)) (by simp[Tryz.f67,resV,resC]) ?_);refine zK hnb [some 0] (fun i j o hi hj=>?_) rfl ?_ rfl
  ·cases i <;> cases j <;> simp_all
  ·simp[pickOb,Ob.ren,Bj]
theorem Ku:Enters Tryz.prog 67:=enters Tryz.func67 (by kernel_rfl) rfl
theorem S9 (l:List Int) (hl:l.length*8≤140737488355328∧l.length≤140737488355328):Sound Tryz.prog 67 [.l (.d true 1 (encI l))] [] (.l (.d false 1 (encI l))) [] :=
 (Mt l hl).frz (by simp) (by omega) (El l) (by omega)
set_option maxRecDepth 8000 in
theorem PK (l:List ByteArray) (hl:l.length*16≤140737488355328∧l.length≤140737488355328):Sound Tryz.prog 99 [.l (.d true 1 ((encS l)))] [] (.l (.r 0 1 0 l.length)) [some ⟨9,1,true,none,lvs (encS l)⟩]:=by
 refine zL (fn:=Tryz.f99) (c:=_) Tryz.func99 rfl (by simp[Tryz.f99]) fun cx hG hnb=>?_;rw[show Tryz.f99.ntmps=8 from rfl];have hn0:cx.nb=0:=hnb;refine AW.step (by simp;rfl) ?_;refine AW.seq ?_;refine zN (fun s=>∃ b:Bool,(encS l≠[]→b=false)∧s=⟨[(4,.l (.s (.bool b))),(3,.l (.d true 1 (encS l))),(2,.l (.s (.slice none 0 0))),(0,.l (.d true 1 (encS l)))],[],8,[],none⟩) ?_ ?_
 ·simp
 rintro s ⟨b,hb,rfl⟩;refine AW.cond rfl (fun h=>?_) (fun h=>AW.skip ?_)
 ·have he:l=[]:=by
   cases l with
   |nil=>rfl
   |cons x l=>simp at hb;rw[hb] at h;simp at h
  subst he;refine AW.step (by simp;rfl) ?_;refine AW.ret (Left.of (av:=.l (.s (.slice none 0 0))) (by simp[Tryz.f99,resV,resC]) ?_);refine LeftV.weak (Weak.nilRow 0 9 1 rfl) ?_;refine zK hnb [some 0] (fun i j o hi hj=>?_) rfl ?_ ?_
  ·cases i <;> cases j <;> simp_all
  ·simp[pickOb,St.add,Ob.ren,lvs]
  ·rfl
 ·simp only[Post.seq];apply AW.step
  ·simp[Value.oneCell'];refine Ax ?_;try simp
   refine Ct (q:=(l.length,lvs (encS l))) (z:=⟨9,1,true,none,[]⟩) E7 FV (by simp) (by simp[GQ]) (by simp) (by simp) (by simp) (by simp;omega) ?_;simp[St.grow,obsBut,Bj];rfl
  refine AW.ret (Left.of (av:=.l (.r 0 1 0 l.length)) (by simp[Tryz.f99,resV,resC]) ?_);refine zK hnb [some 0] (fun i j o hi hj=>?_) rfl ?_ rfl
  ·cases i <;> cases j <;> simp_all
  ·simp[pickOb,Ob.ren,Bj]
theorem N7:Enters Tryz.prog 99:=enters Tryz.func99 (by kernel_rfl) rfl
def insL {α:Type} (l:List α) (i:Nat) (x:α):List α:=l.take i++x::l.drop i
theorem FN {α:Type} (l:List α) (i:Nat) (x:α) (h:i≤l.length):(insL l i x).length=l.length+1:=by
 simp[insL];omega
def delL {α:Type} (l:List α) (i:Nat):List α:=l.take i++l.drop (i+1)
theorem Nl {α:Type} (l:List α) (i:Nat) (h:i<l.length):(delL l i).length=l.length - 1:=by
 simp[delL];omega
def insB {α:Type} (l:List α) (i:Int):Bool:=decide (0≤i∧i≤l.length∧l.length≤1000000000)
def delB {α:Type} (l:List α) (i j:Int):Bool:=decide (0≤i∧i<l.length∧j=i+1∧l.length≤1000000000)
theorem BF {α:Type} {l m:List α} {i:Int} {x:α} (h:insB l i=true) (e:m=insL l i.toNat x):l.length+1=m.length:=by
 simp[insB] at h;rw[e,FN l i.toNat x (by omega)]
theorem Mu {α:Type} {l m:List α} {i j:Int} (h:delB l i j=true) (e:m=delL l i.toNat):l.length - 1=m.length:=by
 simp[delB] at h;rw[e,Nl l i.toNat (by omega)]
set_option maxRecDepth 8000 in
set_option maxHeartbeats 8000000 in
theorem PL (l:List Pair) (i:Nat) (hi:i<l.length) (hl:l.length≤1000000000):Sound Tryz.prog 109 [.l (.r 0 6 0 l.length),.l (.s (.int .i64 i)),.l (.s (.int .i64 (((i+1:Nat):Int))))] [⟨114,6,true,none,lvs (Ao l)⟩] (.l (.r 0 6 0 (l.length - 1))) [some ⟨114,6,true,none,lvs (Ao (delL l i))⟩]:=by
 refine zL (fn:=Tryz.f109) (c:=_) Tryz.func109 rfl (by simp[Tryz.f109]) fun cx hG hnb=>?_;rw[show Tryz.f109.ntmps=33 from rfl];have hn0:cx.nb=1:=hnb;have hlv:(lvs (Ao l)).length=l.length*6:=by rw[AF (AH l)];simp
 have hn1:i+(l.length - (i+1))=l.length - 1:=by omega
 obtain⟨es5,he5⟩:∃ es5,es5=(Ao l).take i++((Ao l).drop (i+1)).take (l.length - (i+1))++(Ao l).drop (i+(((Ao l).drop (i+1)).take (l.length - (i+1))).length):=⟨_,rfl⟩;have hF:(((Ao l).drop (i+1)).take (l.length - (i+1)))=(Ao l).drop (i+1):=List.take_of_length_le (by simp);have hs5:∀ e∈es5,e.length=6:=by
  intro e he;rw[he5,hF] at he;simp only[List.mem_append] at he;rcases he with (h|h)|h
  ·exact AH l e (List.mem_of_mem_take h)
  ·exact AH l e (List.mem_of_mem_drop h)
  ·exact AH l e (List.mem_of_mem_drop h)
 have hn5:es5.length=l.length:=by
  rw[he5,hF];simp;omega
 have hv5:(lvs es5).length=l.length*6:=by rw[AF hs5,hn5]
 have hend:es5.take (l.length - 1)=Ao (delL l i):=by
  rw[he5,hF,List.take_left' (by simp;omega)];simp[Ao,delL]
 have hset:setAt (lvs (Ao l)) (i*6) (lvs (((Ao l).drop (i+1)).take (l.length - (i+1))))=lvs es5:=by
  rw[he5];exact D4 (AH l) (fun e he=>AH l e (List.mem_of_mem_drop (List.mem_of_mem_take he))) (by rw[hF];simp;omega)
 refine AW.step (by simp[hlv];rfl) ?_;refine AW.step (by simp[hlv];(repeat refine⟨by omega,?_⟩);rfl) ?_;refine AW.seq ?_;refine AW.step (by simp[hlv];rfl) ?_;refine AW.cond rfl (fun h2=>?_) (fun h2=>?_)
 ·simp at h2;omega
 ·try simp at h2
  refine AW.skip ?_;simp only[Post.seq,Post.block,if_true];refine AW.step (by simp[hlv];rfl) ?_;apply zH (V:=[_,_,_,_,_,_]) mixed [⟨[0],[],[(0,none)],false⟩,⟨[0],[],[(1,none)],false⟩,⟨[0],[0,1],[(20,some 0),(21,some 1)],false⟩,⟨[0],[],[(0,none)],false⟩,⟨[0],[],[(2,none)],false⟩,⟨[0],[3,4],[(23,some 3),(24,some 4)],false⟩,⟨[],[0,1,2,3,4,5],[],false⟩,⟨[],[0,1,2,3,4,5,6],[],false⟩] 6 (by kernel_rfl) (by kernel_rfl)
  ·refine⟨?_,?_,?_,?_,?_,?_,trivial⟩
   ·intro tm hr;simp[AllL,rdV] at hr;simp[hr,hlv,hn1];repeat refine⟨by omega,?_⟩
    exact KD.mk
   ·intro tm hr;simp[AllL,rdV] at hr;simp[hr,hlv,hn1];repeat refine⟨by omega,?_⟩
    exact KD.mk
   ·intro tm hr;simp[AllL,rdV] at hr;simp[hr,hlv,hn1];repeat refine⟨by omega,?_⟩
    exact KD.mk
   ·intro tm hr;simp[AllL,rdV] at hr;simp[hr,hlv,hn1];repeat refine⟨by omega,?_⟩
    exact KD.mk
   ·intro tm hr;simp[AllL,rdV] at hr;simp[hr,hlv,hn1];repeat refine⟨by omega,?_⟩
    exact KD.mk
   ·intro tm hr;simp[AllL,rdV] at hr;simp[hr,hlv,hn1];repeat refine⟨by omega,?_⟩
    exact KD.mk
  ·rfl
  ·simp[tmD,putD,hlv,hn1];rfl
  ·simp[hlv,hn1];repeat refine⟨by omega,?_⟩
   refine NY (z:=⟨114,6,true,none,lvs (Ao l)⟩) (q:=(l.length - (i+1),lvs (((Ao l).drop (i+1)).take (l.length - (i+1))))) Cl BY ⟨rfl,by decide,by decide⟩ (NZ (cap:=none) rfl (AH l) (by omega) (by simp)) rfl ⟨rfl,rfl,rfl,rfl⟩ (by simp[hlv];omega) ?_;simp[hset];try simp[hlv,hn1]
   rfl
  refine AW.step (by simp[hlv,hv5,hset];(repeat refine⟨by omega,?_⟩);rfl) ?_;refine AW.step (by simp[hlv];rfl) ?_;refine AW.ret ?_;refine Left.of (av:=_) (by simp[Tryz.f109,resV,resC,comp,hlv];rfl) ?_;refine LeftV.shrink 0 ((l.length - 1)*6) rfl rfl rfl rfl ?_;refine zO [some 0] (by simp;omega) SN rfl rfl ?_ (by simp);simp[pickOb,JR,FU hs5,hend]
theorem OH:Enters Tryz.prog 109:=enters Tryz.func109 (by kernel_rfl) rfl
theorem R5 (l:List Pair) (i j:Int) (h:delB l i j=true):Sound Tryz.prog 109 [.l (.r 0 6 0 l.length),.l (.s (.int .i64 i)),.l (.s (.int .i64 j))] [⟨114,6,true,none,lvs (Ao l)⟩] (.l (.r 0 6 0 (l.length - 1)))
  [some ⟨114,6,true,none,lvs (Ao (delL l i.toNat))⟩]:=by
 simp[delB] at h;have:=PL l i.toNat (by omega) (by omega);rwa [show ((i.toNat:Nat):Int)=i by omega,show ((i.toNat+1:Nat):Int)=j by omega] at this
set_option maxRecDepth 8000 in
set_option maxHeartbeats 8000000 in
theorem PM (l:List Move) (i:Nat) (x:Move) (hi:i≤l.length) (hl:l.length≤1000000000):Sound Tryz.prog 36 [.l (.r 0 4 0 l.length),.l (.s (.int .i64 i)),.l (.r 1 4 0 1)] [⟨92,4,true,none,lvs (Am l)⟩,⟨92,4,true,none,lvs (Am [x])⟩] (.l (.r 0 4 0 (l.length+1))) [some ⟨92,4,true,none,lvs (Am (insL l i x))⟩,some ⟨92,4,true,none,lvs (Am [x])⟩]:=by
 refine zL (fn:=Tryz.f36) (c:=_) Tryz.func36 rfl (by simp[Tryz.f36]) fun cx hG hnb=>?_;rw[show Tryz.f36.ntmps=95 from rfl];have hn0:cx.nb=2:=hnb;have hlv:(lvs (Am l)).length=l.length*4:=by rw[AF (AB l)];simp
 have hw1:=D3 (show l.length+1≤9223372036854775807 by omega);have hlx:(lvs (Am [x])).length=4:=by rw[AF (AB _)];simp
 refine AW.step (by simp[hi,hw1];rfl) ?_;refine AW.step (by simp[hi,hw1,hlv];rfl) ?_;refine AW.step (by simp[hi,hw1];rfl) ?_;refine AW.seq ?_;refine AW.step (by simp[hi,hw1];rfl) ?_;refine AW.cond rfl (fun h3=>?_) (fun h3=>?_)
 ·simp at h3
 ·try simp at h3
  refine AW.skip ?_;simp only[Post.seq,Post.block,if_true];refine AW.step (by simp[hi,hw1];rfl) ?_;refine AW.seq ?_;refine AW.step (by simp[hi,hw1];rfl) ?_;refine AW.cond rfl (fun h6=>?_) (fun h6=>?_)
  ·simp at h6;have hins:insL l i x=l++[x]:=by simp[insL,show i=l.length by omega]
   apply AW.step
   ·simp[hi,hw1];refine FT (acc:=Am l) (ys:=Am [x]) (cap:=none) (k:=1) Cm Cw (by simp) (Kn (e:=92) (cap:=none) (by simp) (AB _) (by simp)) (AB _) (by simp) (by simp) (by omega) ?_;simp[St.grow,obsBut,← A8,← hins];try simp[hi,hw1]
    rfl
   refine AW.ret ?_;refine Left.of (av:=_) (by simp[Tryz.f36,resV,resC,comp,hi,hw1];rfl) ?_;exact zO [some 0,some 1] (by simp;omega) (DP (by omega)) rfl rfl (by simp[pickOb,hi,hw1]) (by simp[hi,hw1])
  ·simp at h6;have hil:i<l.length:=by omega
   have hin:(i:Int)+(l.length+1 - i:Nat)=l.length+1:=by omega
   have hin2:i+(l.length+1 - i)=l.length+1:=by omega
   have hw2:=D3 (show i+1≤9223372036854775807 by omega);refine AW.skip ?_;simp only[Post.seq,Post.block,if_true];refine AW.seq ?_;apply AW.stepK;simp[hi,hw1];refine Jo Cm rfl rfl fun c hc1 _ hc3=>?_;simp[hw1];unfold KK;refine AW.cond rfl (fun h8=>?_) (fun h8=>?_)
   ·simp at h8;have hcl:c=l.length:=by omega
    obtain⟨es2,he2⟩:∃ es2,es2=(Am l).take i++List.replicate (l.length+1 - i) [.v (.int .i64 0),.v (.int .i64 0),.v (.int .i64 0),.v (.string ⟨#[]⟩)]:=⟨_,rfl⟩;have hs2:∀ e∈es2,e.length=4:=by
     intro e he;rw[he2] at he;rcases List.mem_append.1 he with h|h
     ·exact AB l e (List.mem_of_mem_take h)
     ·rw[(List.mem_replicate.1 h).2];rfl
    have hn2:es2.length=l.length+1:=by rw[he2];simp;omega
    have hv2:(lvs es2).length=(l.length+1)*4:=by rw[AF hs2,hn2]
    obtain⟨es3,he3⟩:∃ es3,es3=es2.take i++Am [x]++es2.drop (i+1):=⟨_,rfl⟩;have hs3:∀ e∈es3,e.length=4:=by
     intro e he;rw[he3] at he;simp only[List.mem_append] at he;rcases he with (h|h)|h
     ·exact hs2 e (List.mem_of_mem_take h)
     ·exact AB _ e h
     ·exact hs2 e (List.mem_of_mem_drop h)
    have hn3:es3.length=l.length+1:=by rw[he3];simp[hn2];omega
    have hv3:(lvs es3).length=(l.length+1)*4:=by rw[AF hs3,hn3]
    have hend:es3.take (i+1)++((Am l).drop i).take (l.length - i)=Am (insL l i x):=by
     rw[List.take_of_length_le (l:=(Am l).drop i) (by simp)];rw[he3,List.take_append_of_le_length (by simp[hn2];omega),List.take_of_length_le (by simp;omega),he2,List.take_append_of_le_length (by simp;omega)];simp[Am,insL,List.take_take]
    apply AW.step
    ·simp[hi,hw1,hlv];repeat refine⟨by omega,?_⟩
     refine If (zr:=[.v (.int .i64 0),.v (.int .i64 0),.v (.int .i64 0),.v (.string ⟨#[]⟩)]) (es:=Am l) Cm Cw rfl ⟨rfl,rfl,by omega⟩ rfl rfl (AB _) (by simp;omega) (l.length+1 - i) (by rw[Ha (by omega) (by omega)];omega) (by omega) (by omega) (by omega) (by omega) ?_;simp[hin2];try simp[hi,hw1,hlv]
     rfl
    apply AW.step
    ·simp[hi,hw1,hv2,← he2];repeat refine⟨by omega,?_⟩
     refine BU Cm Cw rfl (by simp[hv2]) (by omega) 1 (by omega) (by omega) (Fn (cap:=none) rfl (AB [x]) (by simp)) (D4 (fs:=Am [x]) hs2 (AB _) (by simp[hn2];omega)) ?_;simp[← he3];try simp[hi,hw1,hv2,← he2]
     rfl
    apply zH (V:=[_,_,_,_,_,_,_,_]) mixed [⟨[0],[],[(9,none)],false⟩,⟨[0],[],[(1,none)],false⟩,⟨[0],[],[(7,none)],false⟩,⟨[0],[1,2],[(47,some 1),(48,some 2)],false⟩,⟨[0],[0,1,2,3],[(46,some 0),(49,some 3)],false⟩,⟨[0],[],[(0,none)],false⟩,⟨[0],[],[(1,none)],false⟩,⟨[0],[5,6],[(51,some 5),(52,some 6)],false⟩,⟨[],[0,1,2,3,4,5,6,7],[],false⟩] 8 (by kernel_rfl) (by kernel_rfl)
    ·refine⟨?_,?_,?_,?_,?_,?_,?_,?_,trivial⟩
     ·intro tm hr;simp[AllL,rdV] at hr;simp[hr,hi,hw1,hv3,hw2,hlv];repeat refine⟨by omega,?_⟩
      exact KD.mk
     ·intro tm hr;simp[AllL,rdV] at hr;simp[hr,hi,hw1,hv3,hw2,hlv];repeat refine⟨by omega,?_⟩
      exact KD.mk
     ·intro tm hr;simp[AllL,rdV] at hr;simp[hr,hi,hw1,hv3,hw2,hlv];repeat refine⟨by omega,?_⟩
      exact KD.mk
     ·intro tm hr;simp[AllL,rdV] at hr;simp[hr,hi,hw1,hv3,hw2,hlv];repeat refine⟨by omega,?_⟩
      exact KD.mk
     ·intro tm hr;simp[AllL,rdV] at hr;simp[hr,hi,hw1,hv3,hw2,hlv];repeat refine⟨by omega,?_⟩
      exact KD.mk
     ·intro tm hr;simp[AllL,rdV] at hr;simp[hr,hi,hw1,hv3,hw2,hlv];repeat refine⟨by omega,?_⟩
      exact KD.mk
     ·intro tm hr;simp[AllL,rdV] at hr;simp[hr,hi,hw1,hv3,hw2,hlv];repeat refine⟨by omega,?_⟩
      exact KD.mk
     ·intro tm hr;simp[AllL,rdV] at hr;simp[hr,hi,hw1,hv3,hw2,hlv];repeat refine⟨by omega,?_⟩
      exact KD.mk
    ·rfl
    ·simp[tmD,putD,hi,hw1,hv3,hw2,hlv];rfl
    ·simp[hi,hw1,hv3,hw2,hlv];repeat refine⟨by omega,?_⟩
     refine BU Cm Cw rfl (by simp[hv3]) (by omega) (l.length - i) (by omega) (by omega) (Fn (cap:=some c) rfl (AB l) (by simp;omega)) (HA (fs:=((Am l).drop i).take (l.length - i)) hs3 (fun e he=>AB l e (List.mem_of_mem_drop (List.mem_of_mem_take he))) (by omega) (by simp[hn3];omega)) ?_;try simp[hend]
     try simp[hi,hw1,hv3,hw2,hlv]
     rfl
    refine AW.step (by simp[hi,hw1];rfl) ?_;refine AW.ret ?_;refine Left.of (av:=_) (by simp[Tryz.f36,resV,resC,comp,hi,hw1];rfl) ?_;exact zO [some 2,some 1] (by simp;omega) (DP (by omega)) rfl rfl (by simp[pickOb,hi,hw1]) (by simp[hi,hw1])
   ·have hc':l.length+1≤c:=by
     simp at h8;omega
    refine AW.room 0 4 rfl rfl rfl (by simp[hlv];omega) rfl rfl ?_;have hlv3:(lvs (Am l)++[LV.u,LV.u,LV.u,LV.u]).length=(l.length+1)*4:=by simp[hlv];omega
    refine AW.skip ?_;simp only[Post.seq,Post.block,if_true];refine AW.step (by simp[hi,hw1,hlv3,hlv];(repeat refine⟨by omega,?_⟩);rfl) ?_;refine AW.seq ?_;apply AW.step
    ·simp[hi,hw1,hlv3,hw2];repeat refine⟨by omega,?_⟩
     refine FF (t:=26) (tb:=4) Tryz.func74 (by kernel_rfl) (by kernel_rfl) (by kernel_rfl) (by kernel_rfl) Cm Cw rfl rfl (by omega) (by simp) ?_;try simp[hi,hw1,hlv3,hw2]
     rfl
    refine AW.cond rfl (fun h14=>?_) (fun h14=>?_)
    ·try simp at h14
     apply zH (V:=[_,_,_,_,_,_,_,_]) mixed [⟨[0],[],[(0,none)],false⟩,⟨[0],[],[(1,none)],false⟩,⟨[0],[],[(7,none)],false⟩,⟨[0],[1,2],[(70,some 1),(71,some 2)],false⟩,⟨[0],[0,1,2,3],[(69,some 0),(72,some 3)],false⟩,⟨[0],[],[(0,none)],false⟩,⟨[0],[],[(1,none)],false⟩,⟨[0],[5,6],[(74,some 5),(75,some 6)],false⟩,⟨[],[0,1,2,3,4,5,6,7],[],false⟩] 8 (by kernel_rfl) (by kernel_rfl)
     ·refine⟨?_,?_,?_,?_,?_,?_,?_,?_,trivial⟩
      ·intro tm hr;simp[AllL,rdV] at hr;simp[hr,hi,hw1,hlv3,hw2];repeat refine⟨by omega,?_⟩
       exact KD.mk
      ·intro tm hr;simp[AllL,rdV] at hr;simp[hr,hi,hw1,hlv3,hw2];repeat refine⟨by omega,?_⟩
       exact KD.mk
      ·intro tm hr;simp[AllL,rdV] at hr;simp[hr,hi,hw1,hlv3,hw2];repeat refine⟨by omega,?_⟩
       exact KD.mk
      ·intro tm hr;simp[AllL,rdV] at hr;simp[hr,hi,hw1,hlv3,hw2];repeat refine⟨by omega,?_⟩
       exact KD.mk
      ·intro tm hr;simp[AllL,rdV] at hr;simp[hr,hi,hw1,hlv3,hw2];repeat refine⟨by omega,?_⟩
       exact KD.mk
      ·intro tm hr;simp[AllL,rdV] at hr;simp[hr,hi,hw1,hlv3,hw2];repeat refine⟨by omega,?_⟩
       exact KD.mk
      ·intro tm hr;simp[AllL,rdV] at hr;simp[hr,hi,hw1,hlv3,hw2];repeat refine⟨by omega,?_⟩
       exact KD.mk
      ·intro tm hr;simp[AllL,rdV] at hr;simp[hr,hi,hw1,hlv3,hw2];repeat refine⟨by omega,?_⟩
       exact KD.mk
     ·rfl
     ·simp[tmD,putD,hi,hw1,hlv3,hw2];rfl
     ·simp[hi,hw1,hlv3,hw2];repeat refine⟨by omega,?_⟩
      refine BU Cm Cw rfl (by simp[hlv3]) (by omega) (l.length - i) (by omega) (by omega) (IK (cap:=some c) (us:=[.u,.u,.u,.u]) rfl (AB l) (by simp;omega)) (GO (fs:=((Am l).drop i).take (l.length - i)) (AB l) (fun e he=>AB l e (List.mem_of_mem_drop (List.mem_of_mem_take he))) (by simp;omega) (by simp;omega)) ?_;try simp[hi,hw1,hlv3,hw2]
      rfl
     obtain⟨es4,he4⟩:∃ es4,es4=(Am l).take (i+1)++((Am l).drop i).take (l.length - i):=⟨_,rfl⟩;have hs4:∀ e∈es4,e.length=4:=by
      intro e he;rw[he4] at he;rcases List.mem_append.1 he with h|h
      ·exact AB l e (List.mem_of_mem_take h)
      ·exact AB l e (List.mem_of_mem_drop (List.mem_of_mem_take h))
     have hn4:es4.length=l.length+1:=by rw[he4];simp;omega
     have hend:es4.take i++Am [x]++es4.drop (i+1)=Am (insL l i x):=by
      have hA:((Am l).take (i+1)).length=i+1:=by simp;omega
      rw[he4,List.drop_left' hA,List.take_append_of_le_length (by omega),List.take_take,Nat.min_eq_left (by omega),List.take_of_length_le (l:=(Am l).drop i) (by simp)];simp[Am,insL]
     have hv4:(lvs es4).length=(l.length+1)*4:=by rw[AF hs4,hn4]
     simp only[← he4];apply AW.step
     ·simp[hi,hw1,hv4];repeat refine⟨by omega,?_⟩
      refine BU Cm Cw rfl (by simp[hv4]) (by omega) 1 (by omega) (by omega) (Fn (cap:=none) rfl (AB [x]) (by simp)) (D4 (fs:=Am [x]) hs4 (AB _) (by rw[hn4,Kr];simp;omega)) ?_;simp[hend];try simp[hi,hw1,hv4]
      rfl
     refine AW.step (by simp[hi,hw1];rfl) ?_;refine AW.ret ?_;refine Left.of (av:=_) (by simp[Tryz.f36,resV,resC,comp,hi,hw1];rfl) ?_;refine LeftV.shrink 0 ((l.length+1)*4) rfl rfl rfl rfl ?_;have hlf:(lvs (Am (insL l i x))).take ((l.length+1)*4)=lvs (Am (insL l i x)):=List.take_of_length_le (by rw[AF (AB _)];simp[FN l i x hi]);exact zO [some 0,some 1] (by simp;omega) (DP (by omega)) rfl rfl (by simp[pickOb,hlf]) (by simp)
    ·simp at h14
theorem OI:Enters Tryz.prog 36:=enters Tryz.func36 (by kernel_rfl) rfl
theorem R6 (l:List Move) (i:Int) (x:Move) (h:insB l i=true):Sound Tryz.prog 36 [.l (.r 0 4 0 l.length),.l (.s (.int .i64 i)),.l (.r 1 4 0 1)] [⟨92,4,true,none,lvs (Am l)⟩,⟨92,4,true,none,lvs (Am [x])⟩] (.l (.r 0 4 0 (l.length+1)))
  [some ⟨92,4,true,none,lvs (Am (insL l i.toNat x))⟩,some ⟨92,4,true,none,lvs (Am [x])⟩]:=by
 simp[insB] at h;have:=PM l i.toNat x (by omega) (by omega);rwa [show ((i.toNat:Nat):Int)=i by omega] at this
set_option maxRecDepth 8000 in
set_option maxHeartbeats 8000000 in
theorem PN (l:List Pair) (i:Nat) (x:Pair) (hi:i≤l.length) (hl:l.length≤1000000000):Sound Tryz.prog 110 [.l (.r 0 6 0 l.length),.l (.s (.int .i64 i)),.l (.r 1 6 0 1)] [⟨114,6,true,none,lvs (Ao l)⟩,⟨114,6,true,none,lvs (Ao [x])⟩] (.l (.r 0 6 0 (l.length+1))) [some ⟨114,6,true,none,lvs (Ao (insL l i x))⟩,some ⟨114,6,true,none,lvs (Ao [x])⟩]:=by
 refine zL (fn:=Tryz.f110) (c:=_) Tryz.func110 rfl (by simp[Tryz.f110]) fun cx hG hnb=>?_;rw[show Tryz.f110.ntmps=95 from rfl];have hn0:cx.nb=2:=hnb;have hlv:(lvs (Ao l)).length=l.length*6:=by rw[AF (AH l)];simp
 have hw1:=D3 (show l.length+1≤9223372036854775807 by omega);have hlx:(lvs (Ao [x])).length=6:=by rw[AF (AH _)];simp
 refine AW.step (by simp[hi,hw1];rfl) ?_;refine AW.step (by simp[hi,hw1,hlv];rfl) ?_;refine AW.step (by simp[hi,hw1];rfl) ?_;refine AW.seq ?_;refine AW.step (by simp[hi,hw1];rfl) ?_;refine AW.cond rfl (fun h3=>?_) (fun h3=>?_)
 ·simp at h3
 ·try simp at h3
  refine AW.skip ?_;simp only[Post.seq,Post.block,if_true];refine AW.step (by simp[hi,hw1];rfl) ?_;refine AW.seq ?_;refine AW.step (by simp[hi,hw1];rfl) ?_;refine AW.cond rfl (fun h6=>?_) (fun h6=>?_)
  ·simp at h6;have hins:insL l i x=l++[x]:=by simp[insL,show i=l.length by omega]
   apply AW.step
   ·simp[hi,hw1];refine FT (acc:=Ao l) (ys:=Ao [x]) (cap:=none) (k:=1) Cl BY (by simp) (Kn (e:=114) (cap:=none) (by simp) (AH _) (by simp)) (AH _) (by simp) (by simp) (by omega) ?_;simp[St.grow,obsBut,← Bk,← hins];try simp[hi,hw1]
    rfl
   refine AW.ret ?_;refine Left.of (av:=_) (by simp[Tryz.f110,resV,resC,comp,hi,hw1];rfl) ?_;exact zO [some 0,some 1] (by simp;omega) (DP (by omega)) rfl rfl (by simp[pickOb,hi,hw1]) (by simp[hi,hw1])
  ·simp at h6;have hil:i<l.length:=by omega
   have hin:(i:Int)+(l.length+1 - i:Nat)=l.length+1:=by omega
   have hin2:i+(l.length+1 - i)=l.length+1:=by omega
   have hw2:=D3 (show i+1≤9223372036854775807 by omega);refine AW.skip ?_;simp only[Post.seq,Post.block,if_true];refine AW.seq ?_;apply AW.stepK;simp[hi,hw1];refine Jo Cl rfl rfl fun c hc1 _ hc3=>?_;simp[hw1];unfold KK;refine AW.cond rfl (fun h8=>?_) (fun h8=>?_)
   ·simp at h8;have hcl:c=l.length:=by omega
    obtain⟨es2,he2⟩:∃ es2,es2=(Ao l).take i++List.replicate (l.length+1 - i) [.v (.string ⟨#[]⟩),.v (.int .i64 0),.v (.string ⟨#[]⟩),.v (.slice none 0 0),.v (.slice none 0 0),.v (.int .i64 0)]:=⟨_,rfl⟩;have hs2:∀ e∈es2,e.length=6:=by
     intro e he;rw[he2] at he;rcases List.mem_append.1 he with h|h
     ·exact AH l e (List.mem_of_mem_take h)
     ·rw[(List.mem_replicate.1 h).2];rfl
    have hn2:es2.length=l.length+1:=by rw[he2];simp;omega
    have hv2:(lvs es2).length=(l.length+1)*6:=by rw[AF hs2,hn2]
    obtain⟨es3,he3⟩:∃ es3,es3=es2.take i++Ao [x]++es2.drop (i+1):=⟨_,rfl⟩;have hs3:∀ e∈es3,e.length=6:=by
     intro e he;rw[he3] at he;simp only[List.mem_append] at he;rcases he with (h|h)|h
     ·exact hs2 e (List.mem_of_mem_take h)
     ·exact AH _ e h
     ·exact hs2 e (List.mem_of_mem_drop h)
    have hn3:es3.length=l.length+1:=by rw[he3];simp[hn2];omega
    have hv3:(lvs es3).length=(l.length+1)*6:=by rw[AF hs3,hn3]
    have hend:es3.take (i+1)++((Ao l).drop i).take (l.length - i)=Ao (insL l i x):=by
     rw[List.take_of_length_le (l:=(Ao l).drop i) (by simp)];rw[he3,List.take_append_of_le_length (by simp[hn2];omega),List.take_of_length_le (by simp;omega),he2,List.take_append_of_le_length (by simp;omega)];simp[Ao,insL,List.take_take]
    apply AW.step
    ·simp[hi,hw1,hlv];repeat refine⟨by omega,?_⟩
     refine If (zr:=[.v (.string ⟨#[]⟩),.v (.int .i64 0),.v (.string ⟨#[]⟩),.v (.slice none 0 0),.v (.slice none 0 0),.v (.int .i64 0)]) (es:=Ao l) Cl BY rfl ⟨rfl,rfl,by omega⟩ rfl rfl (AH _) (by simp;omega) (l.length+1 - i) (by rw[Ha (by omega) (by omega)];omega) (by omega) (by omega) (by omega) (by omega) ?_;simp[hin2];try simp[hi,hw1,hlv]
     rfl
    apply AW.step
    ·simp[hi,hw1,hv2,← he2];repeat refine⟨by omega,?_⟩
     refine BU Cl BY rfl (by simp[hv2]) (by omega) 1 (by omega) (by omega) (Fn (cap:=none) rfl (AH [x]) (by simp)) (D4 (fs:=Ao [x]) hs2 (AH _) (by simp[hn2];omega)) ?_;simp[← he3];try simp[hi,hw1,hv2,← he2]
     rfl
    apply zH (V:=[_,_,_,_,_,_,_,_]) mixed [⟨[0],[],[(9,none)],false⟩,⟨[0],[],[(1,none)],false⟩,⟨[0],[],[(7,none)],false⟩,⟨[0],[1,2],[(47,some 1),(48,some 2)],false⟩,⟨[0],[0,1,2,3],[(46,some 0),(49,some 3)],false⟩,⟨[0],[],[(0,none)],false⟩,⟨[0],[],[(1,none)],false⟩,⟨[0],[5,6],[(51,some 5),(52,some 6)],false⟩,⟨[],[0,1,2,3,4,5,6,7],[],false⟩] 8 (by kernel_rfl) (by kernel_rfl)
    ·refine⟨?_,?_,?_,?_,?_,?_,?_,?_,trivial⟩
     ·intro tm hr;simp[AllL,rdV] at hr;simp[hr,hi,hw1,hv3,hw2,hlv];repeat refine⟨by omega,?_⟩
      exact KD.mk
     ·intro tm hr;simp[AllL,rdV] at hr;simp[hr,hi,hw1,hv3,hw2,hlv];repeat refine⟨by omega,?_⟩
      exact KD.mk
     ·intro tm hr;simp[AllL,rdV] at hr;simp[hr,hi,hw1,hv3,hw2,hlv];repeat refine⟨by omega,?_⟩
      exact KD.mk
     ·intro tm hr;simp[AllL,rdV] at hr;simp[hr,hi,hw1,hv3,hw2,hlv];repeat refine⟨by omega,?_⟩
      exact KD.mk
     ·intro tm hr;simp[AllL,rdV] at hr;simp[hr,hi,hw1,hv3,hw2,hlv];repeat refine⟨by omega,?_⟩
      exact KD.mk
     ·intro tm hr;simp[AllL,rdV] at hr;simp[hr,hi,hw1,hv3,hw2,hlv];repeat refine⟨by omega,?_⟩
      exact KD.mk
     ·intro tm hr;simp[AllL,rdV] at hr;simp[hr,hi,hw1,hv3,hw2,hlv];repeat refine⟨by omega,?_⟩
      exact KD.mk
     ·intro tm hr;simp[AllL,rdV] at hr;simp[hr,hi,hw1,hv3,hw2,hlv];repeat refine⟨by omega,?_⟩
      exact KD.mk
    ·rfl
    ·simp[tmD,putD,hi,hw1,hv3,hw2,hlv];rfl
    ·simp[hi,hw1,hv3,hw2,hlv];repeat refine⟨by omega,?_⟩
     refine BU Cl BY rfl (by simp[hv3]) (by omega) (l.length - i) (by omega) (by omega) (Fn (cap:=some c) rfl (AH l) (by simp;omega)) (HA (fs:=((Ao l).drop i).take (l.length - i)) hs3 (fun e he=>AH l e (List.mem_of_mem_drop (List.mem_of_mem_take he))) (by omega) (by simp[hn3];omega)) ?_;try simp[hend]
     try simp[hi,hw1,hv3,hw2,hlv]
     rfl
    refine AW.step (by simp[hi,hw1];rfl) ?_;refine AW.ret ?_;refine Left.of (av:=_) (by simp[Tryz.f110,resV,resC,comp,hi,hw1];rfl) ?_;exact zO [some 2,some 1] (by simp;omega) (DP (by omega)) rfl rfl (by simp[pickOb,hi,hw1]) (by simp[hi,hw1])
   ·have hc':l.length+1≤c:=by
     simp at h8;omega
    refine AW.room 0 6 rfl rfl rfl (by simp[hlv];omega) rfl rfl ?_;have hlv3:(lvs (Ao l)++[LV.u,LV.u,LV.u,LV.u,LV.u,LV.u]).length=(l.length+1)*6:=by simp[hlv];omega
    refine AW.skip ?_;simp only[Post.seq,Post.block,if_true];refine AW.step (by simp[hi,hw1,hlv3,hlv];(repeat refine⟨by omega,?_⟩);rfl) ?_;refine AW.seq ?_;apply AW.step
    ·simp[hi,hw1,hlv3,hw2];repeat refine⟨by omega,?_⟩
     refine FF (t:=25) (tb:=4) Tryz.func129 (by kernel_rfl) (by kernel_rfl) (by kernel_rfl) (by kernel_rfl) Cl BY rfl rfl (by omega) (by simp) ?_;try simp[hi,hw1,hlv3,hw2]
     rfl
    refine AW.cond rfl (fun h14=>?_) (fun h14=>?_)
    ·try simp at h14
     apply zH (V:=[_,_,_,_,_,_,_,_]) mixed [⟨[0],[],[(0,none)],false⟩,⟨[0],[],[(1,none)],false⟩,⟨[0],[],[(7,none)],false⟩,⟨[0],[1,2],[(70,some 1),(71,some 2)],false⟩,⟨[0],[0,1,2,3],[(69,some 0),(72,some 3)],false⟩,⟨[0],[],[(0,none)],false⟩,⟨[0],[],[(1,none)],false⟩,⟨[0],[5,6],[(74,some 5),(75,some 6)],false⟩,⟨[],[0,1,2,3,4,5,6,7],[],false⟩] 8 (by kernel_rfl) (by kernel_rfl)
     ·refine⟨?_,?_,?_,?_,?_,?_,?_,?_,trivial⟩
      ·intro tm hr;simp[AllL,rdV] at hr;simp[hr,hi,hw1,hlv3,hw2];repeat refine⟨by omega,?_⟩
       exact KD.mk
      ·intro tm hr;simp[AllL,rdV] at hr;simp[hr,hi,hw1,hlv3,hw2];repeat refine⟨by omega,?_⟩
       exact KD.mk
      ·intro tm hr;simp[AllL,rdV] at hr;simp[hr,hi,hw1,hlv3,hw2];repeat refine⟨by omega,?_⟩
       exact KD.mk
      ·intro tm hr;simp[AllL,rdV] at hr;simp[hr,hi,hw1,hlv3,hw2];repeat refine⟨by omega,?_⟩
       exact KD.mk
      ·intro tm hr;simp[AllL,rdV] at hr;simp[hr,hi,hw1,hlv3,hw2];repeat refine⟨by omega,?_⟩
       exact KD.mk
      ·intro tm hr;simp[AllL,rdV] at hr;simp[hr,hi,hw1,hlv3,hw2];repeat refine⟨by omega,?_⟩
       exact KD.mk
      ·intro tm hr;simp[AllL,rdV] at hr;simp[hr,hi,hw1,hlv3,hw2];repeat refine⟨by omega,?_⟩
       exact KD.mk
      ·intro tm hr;simp[AllL,rdV] at hr;simp[hr,hi,hw1,hlv3,hw2];repeat refine⟨by omega,?_⟩
       exact KD.mk
     ·rfl
     ·simp[tmD,putD,hi,hw1,hlv3,hw2];rfl
     ·simp[hi,hw1,hlv3,hw2];repeat refine⟨by omega,?_⟩
      refine BU Cl BY rfl (by simp[hlv3]) (by omega) (l.length - i) (by omega) (by omega) (IK (cap:=some c) (us:=[.u,.u,.u,.u,.u,.u]) rfl (AH l) (by simp;omega)) (GO (fs:=((Ao l).drop i).take (l.length - i)) (AH l) (fun e he=>AH l e (List.mem_of_mem_drop (List.mem_of_mem_take he))) (by simp;omega) (by simp;omega)) ?_;try simp[hi,hw1,hlv3,hw2]
      rfl
     obtain⟨es4,he4⟩:∃ es4,es4=(Ao l).take (i+1)++((Ao l).drop i).take (l.length - i):=⟨_,rfl⟩;have hs4:∀ e∈es4,e.length=6:=by
      intro e he;rw[he4] at he;rcases List.mem_append.1 he with h|h
      ·exact AH l e (List.mem_of_mem_take h)
      ·exact AH l e (List.mem_of_mem_drop (List.mem_of_mem_take h))
     have hn4:es4.length=l.length+1:=by rw[he4];simp;omega
     have hend:es4.take i++Ao [x]++es4.drop (i+1)=Ao (insL l i x):=by
      have hA:((Ao l).take (i+1)).length=i+1:=by simp;omega
      rw[he4,List.drop_left' hA,List.take_append_of_le_length (by omega),List.take_take,Nat.min_eq_left (by omega),List.take_of_length_le (l:=(Ao l).drop i) (by simp)];simp[Ao,insL]
     have hv4:(lvs es4).length=(l.length+1)*6:=by rw[AF hs4,hn4]
     simp only[← he4];apply AW.step
     ·simp[hi,hw1,hv4];repeat refine⟨by omega,?_⟩
      refine BU Cl BY rfl (by simp[hv4]) (by omega) 1 (by omega) (by omega) (Fn (cap:=none) rfl (AH [x]) (by simp)) (D4 (fs:=Ao [x]) hs4 (AH _) (by rw[hn4,Kq];simp;omega)) ?_;simp[hend];try simp[hi,hw1,hv4]
      rfl
     refine AW.step (by simp[hi,hw1];rfl) ?_;refine AW.ret ?_;refine Left.of (av:=_) (by simp[Tryz.f110,resV,resC,comp,hi,hw1];rfl) ?_;refine LeftV.shrink 0 ((l.length+1)*6) rfl rfl rfl rfl ?_;have hlf:(lvs (Ao (insL l i x))).take ((l.length+1)*6)=lvs (Ao (insL l i x)):=List.take_of_length_le (by rw[AF (AH _)];simp[FN l i x hi]);exact zO [some 0,some 1] (by simp;omega) (DP (by omega)) rfl rfl (by simp[pickOb,hlf]) (by simp)
    ·simp at h14
theorem OJ:Enters Tryz.prog 110:=enters Tryz.func110 (by kernel_rfl) rfl
theorem R7 (l:List Pair) (i:Int) (x:Pair) (h:insB l i=true):Sound Tryz.prog 110 [.l (.r 0 6 0 l.length),.l (.s (.int .i64 i)),.l (.r 1 6 0 1)] [⟨114,6,true,none,lvs (Ao l)⟩,⟨114,6,true,none,lvs (Ao [x])⟩] (.l (.r 0 6 0 (l.length+1)))
  [some ⟨114,6,true,none,lvs (Ao (insL l i.toNat x))⟩,some ⟨114,6,true,none,lvs (Ao [x])⟩]:=by
 simp[insB] at h;have:=PN l i.toNat x (by omega) (by omega);rwa [show ((i.toNat:Nat):Int)=i by omega] at this
set_option maxRecDepth 8000 in
set_option maxHeartbeats 8000000 in
theorem PO (l:List Seen) (i:Nat) (x:Seen) (hi:i≤l.length) (hl:l.length≤1000000000):Sound Tryz.prog 53 [.l (.r 0 3 0 l.length),.l (.s (.int .i64 i)),.l (.r 1 3 0 1)] [⟨100,3,true,none,lvs (Ap l)⟩,⟨100,3,true,none,lvs (Ap [x])⟩] (.l (.r 0 3 0 (l.length+1))) [some ⟨100,3,true,none,lvs (Ap (insL l i x))⟩,some ⟨100,3,true,none,lvs (Ap [x])⟩]:=by
 refine zL (fn:=Tryz.f53) (c:=_) Tryz.func53 rfl (by simp[Tryz.f53]) fun cx hG hnb=>?_;rw[show Tryz.f53.ntmps=95 from rfl];have hn0:cx.nb=2:=hnb;have hlv:(lvs (Ap l)).length=l.length*3:=by rw[AF (AI l)];simp
 have hw1:=D3 (show l.length+1≤9223372036854775807 by omega);have hlx:(lvs (Ap [x])).length=3:=by rw[AF (AI _)];simp
 refine AW.step (by simp[hi,hw1];rfl) ?_;refine AW.step (by simp[hi,hw1,hlv];rfl) ?_;refine AW.step (by simp[hi,hw1];rfl) ?_;refine AW.seq ?_;refine AW.step (by simp[hi,hw1];rfl) ?_;refine AW.cond rfl (fun h3=>?_) (fun h3=>?_)
 ·simp at h3
 ·try simp at h3
  refine AW.skip ?_;simp only[Post.seq,Post.block,if_true];refine AW.step (by simp[hi,hw1];rfl) ?_;refine AW.seq ?_;refine AW.step (by simp[hi,hw1];rfl) ?_;refine AW.cond rfl (fun h6=>?_) (fun h6=>?_)
  ·simp at h6;have hins:insL l i x=l++[x]:=by simp[insL,show i=l.length by omega]
   apply AW.step
   ·simp[hi,hw1];refine FT (acc:=Ap l) (ys:=Ap [x]) (cap:=none) (k:=1) CP CE (by simp) (Kn (e:=100) (cap:=none) (by simp) (AI _) (by simp)) (AI _) (by simp) (by simp) (by omega) ?_;simp[St.grow,obsBut,← Cy,← hins];try simp[hi,hw1]
    rfl
   refine AW.ret ?_;refine Left.of (av:=_) (by simp[Tryz.f53,resV,resC,comp,hi,hw1];rfl) ?_;exact zO [some 0,some 1] (by simp;omega) (DP (by omega)) rfl rfl (by simp[pickOb,hi,hw1]) (by simp[hi,hw1])
  ·simp at h6;have hil:i<l.length:=by omega
   have hin:(i:Int)+(l.length+1 - i:Nat)=l.length+1:=by omega
   have hin2:i+(l.length+1 - i)=l.length+1:=by omega
   have hw2:=D3 (show i+1≤9223372036854775807 by omega);refine AW.skip ?_;simp only[Post.seq,Post.block,if_true];refine AW.seq ?_;apply AW.stepK;simp[hi,hw1];refine Jo CP rfl rfl fun c hc1 _ hc3=>?_;simp[hw1];unfold KK;refine AW.cond rfl (fun h8=>?_) (fun h8=>?_)
   ·simp at h8;have hcl:c=l.length:=by omega
    obtain⟨es2,he2⟩:∃ es2,es2=(Ap l).take i++List.replicate (l.length+1 - i) [.v (.int .i64 0),.v (.int .i64 0),.v (.int .i64 0)]:=⟨_,rfl⟩;have hs2:∀ e∈es2,e.length=3:=by
     intro e he;rw[he2] at he;rcases List.mem_append.1 he with h|h
     ·exact AI l e (List.mem_of_mem_take h)
     ·rw[(List.mem_replicate.1 h).2];rfl
    have hn2:es2.length=l.length+1:=by rw[he2];simp;omega
    have hv2:(lvs es2).length=(l.length+1)*3:=by rw[AF hs2,hn2]
    obtain⟨es3,he3⟩:∃ es3,es3=es2.take i++Ap [x]++es2.drop (i+1):=⟨_,rfl⟩;have hs3:∀ e∈es3,e.length=3:=by
     intro e he;rw[he3] at he;simp only[List.mem_append] at he;rcases he with (h|h)|h
     ·exact hs2 e (List.mem_of_mem_take h)
     ·exact AI _ e h
     ·exact hs2 e (List.mem_of_mem_drop h)
    have hn3:es3.length=l.length+1:=by rw[he3];simp[hn2];omega
    have hv3:(lvs es3).length=(l.length+1)*3:=by rw[AF hs3,hn3]
    have hend:es3.take (i+1)++((Ap l).drop i).take (l.length - i)=Ap (insL l i x):=by
     rw[List.take_of_length_le (l:=(Ap l).drop i) (by simp)];rw[he3,List.take_append_of_le_length (by simp[hn2];omega),List.take_of_length_le (by simp;omega),he2,List.take_append_of_le_length (by simp;omega)];simp[Ap,insL,List.take_take]
    apply AW.step
    ·simp[hi,hw1,hlv];repeat refine⟨by omega,?_⟩
     refine If (zr:=[.v (.int .i64 0),.v (.int .i64 0),.v (.int .i64 0)]) (es:=Ap l) CP CE rfl ⟨rfl,rfl,by omega⟩ rfl rfl (AI _) (by simp;omega) (l.length+1 - i) (by rw[Ha (by omega) (by omega)];omega) (by omega) (by omega) (by omega) (by omega) ?_;simp[hin2];try simp[hi,hw1,hlv]
     rfl
    apply AW.step
    ·simp[hi,hw1,hv2,← he2];repeat refine⟨by omega,?_⟩
     refine BU CP CE rfl (by simp[hv2]) (by omega) 1 (by omega) (by omega) (Fn (cap:=none) rfl (AI [x]) (by simp)) (D4 (fs:=Ap [x]) hs2 (AI _) (by simp[hn2];omega)) ?_;simp[← he3];try simp[hi,hw1,hv2,← he2]
     rfl
    apply zH (V:=[_,_,_,_,_,_,_,_]) mixed [⟨[0],[],[(9,none)],false⟩,⟨[0],[],[(1,none)],false⟩,⟨[0],[],[(7,none)],false⟩,⟨[0],[1,2],[(47,some 1),(48,some 2)],false⟩,⟨[0],[0,1,2,3],[(46,some 0),(49,some 3)],false⟩,⟨[0],[],[(0,none)],false⟩,⟨[0],[],[(1,none)],false⟩,⟨[0],[5,6],[(51,some 5),(52,some 6)],false⟩,⟨[],[0,1,2,3,4,5,6,7],[],false⟩] 8 (by kernel_rfl) (by kernel_rfl)
    ·refine⟨?_,?_,?_,?_,?_,?_,?_,?_,trivial⟩
     ·intro tm hr;simp[AllL,rdV] at hr;simp[hr,hi,hw1,hv3,hw2,hlv];repeat refine⟨by omega,?_⟩
      exact KD.mk
     ·intro tm hr;simp[AllL,rdV] at hr;simp[hr,hi,hw1,hv3,hw2,hlv];repeat refine⟨by omega,?_⟩
      exact KD.mk
     ·intro tm hr;simp[AllL,rdV] at hr;simp[hr,hi,hw1,hv3,hw2,hlv];repeat refine⟨by omega,?_⟩
      exact KD.mk
     ·intro tm hr;simp[AllL,rdV] at hr;simp[hr,hi,hw1,hv3,hw2,hlv];repeat refine⟨by omega,?_⟩
      exact KD.mk
     ·intro tm hr;simp[AllL,rdV] at hr;simp[hr,hi,hw1,hv3,hw2,hlv];repeat refine⟨by omega,?_⟩
      exact KD.mk
     ·intro tm hr;simp[AllL,rdV] at hr;simp[hr,hi,hw1,hv3,hw2,hlv];repeat refine⟨by omega,?_⟩
      exact KD.mk
     ·intro tm hr;simp[AllL,rdV] at hr;simp[hr,hi,hw1,hv3,hw2,hlv];repeat refine⟨by omega,?_⟩
      exact KD.mk
     ·intro tm hr;simp[AllL,rdV] at hr;simp[hr,hi,hw1,hv3,hw2,hlv];repeat refine⟨by omega,?_⟩
      exact KD.mk
    ·rfl
    ·simp[tmD,putD,hi,hw1,hv3,hw2,hlv];rfl
    ·simp[hi,hw1,hv3,hw2,hlv];repeat refine⟨by omega,?_⟩
     refine BU CP CE rfl (by simp[hv3]) (by omega) (l.length - i) (by omega) (by omega) (Fn (cap:=some c) rfl (AI l) (by simp;omega)) (HA (fs:=((Ap l).drop i).take (l.length - i)) hs3 (fun e he=>AI l e (List.mem_of_mem_drop (List.mem_of_mem_take he))) (by omega) (by simp[hn3];omega)) ?_;try simp[hend]
     try simp[hi,hw1,hv3,hw2,hlv]
     rfl
    refine AW.step (by simp[hi,hw1];rfl) ?_;refine AW.ret ?_;refine Left.of (av:=_) (by simp[Tryz.f53,resV,resC,comp,hi,hw1];rfl) ?_;exact zO [some 2,some 1] (by simp;omega) (DP (by omega)) rfl rfl (by simp[pickOb,hi,hw1]) (by simp[hi,hw1])
   ·have hc':l.length+1≤c:=by
     simp at h8;omega
    refine AW.room 0 3 rfl rfl rfl (by simp[hlv];omega) rfl rfl ?_;have hlv3:(lvs (Ap l)++[LV.u,LV.u,LV.u]).length=(l.length+1)*3:=by simp[hlv];omega
    refine AW.skip ?_;simp only[Post.seq,Post.block,if_true];refine AW.step (by simp[hi,hw1,hlv3,hlv];(repeat refine⟨by omega,?_⟩);rfl) ?_;refine AW.seq ?_;apply AW.step
    ·simp[hi,hw1,hlv3,hw2];repeat refine⟨by omega,?_⟩
     refine FF (t:=27) (tb:=4) Tryz.func89 (by kernel_rfl) (by kernel_rfl) (by kernel_rfl) (by kernel_rfl) CP CE rfl rfl (by omega) (by simp) ?_;try simp[hi,hw1,hlv3,hw2]
     rfl
    refine AW.cond rfl (fun h14=>?_) (fun h14=>?_)
    ·try simp at h14
     apply zH (V:=[_,_,_,_,_,_,_,_]) mixed [⟨[0],[],[(0,none)],false⟩,⟨[0],[],[(1,none)],false⟩,⟨[0],[],[(7,none)],false⟩,⟨[0],[1,2],[(70,some 1),(71,some 2)],false⟩,⟨[0],[0,1,2,3],[(69,some 0),(72,some 3)],false⟩,⟨[0],[],[(0,none)],false⟩,⟨[0],[],[(1,none)],false⟩,⟨[0],[5,6],[(74,some 5),(75,some 6)],false⟩,⟨[],[0,1,2,3,4,5,6,7],[],false⟩] 8 (by kernel_rfl) (by kernel_rfl)
     ·refine⟨?_,?_,?_,?_,?_,?_,?_,?_,trivial⟩
      ·intro tm hr;simp[AllL,rdV] at hr;simp[hr,hi,hw1,hlv3,hw2];repeat refine⟨by omega,?_⟩
       exact KD.mk
      ·intro tm hr;simp[AllL,rdV] at hr;simp[hr,hi,hw1,hlv3,hw2];repeat refine⟨by omega,?_⟩
       exact KD.mk
      ·intro tm hr;simp[AllL,rdV] at hr;simp[hr,hi,hw1,hlv3,hw2];repeat refine⟨by omega,?_⟩
       exact KD.mk
      ·intro tm hr;simp[AllL,rdV] at hr;simp[hr,hi,hw1,hlv3,hw2];repeat refine⟨by omega,?_⟩
       exact KD.mk
      ·intro tm hr;simp[AllL,rdV] at hr;simp[hr,hi,hw1,hlv3,hw2];repeat refine⟨by omega,?_⟩
       exact KD.mk
      ·intro tm hr;simp[AllL,rdV] at hr;simp[hr,hi,hw1,hlv3,hw2];repeat refine⟨by omega,?_⟩
       exact KD.mk
      ·intro tm hr;simp[AllL,rdV] at hr;simp[hr,hi,hw1,hlv3,hw2];repeat refine⟨by omega,?_⟩
       exact KD.mk
      ·intro tm hr;simp[AllL,rdV] at hr;simp[hr,hi,hw1,hlv3,hw2];repeat refine⟨by omega,?_⟩
       exact KD.mk
     ·rfl
     ·simp[tmD,putD,hi,hw1,hlv3,hw2];rfl
     ·simp[hi,hw1,hlv3,hw2];repeat refine⟨by omega,?_⟩
      refine BU CP CE rfl (by simp[hlv3]) (by omega) (l.length - i) (by omega) (by omega) (IK (cap:=some c) (us:=[.u,.u,.u]) rfl (AI l) (by simp;omega)) (GO (fs:=((Ap l).drop i).take (l.length - i)) (AI l) (fun e he=>AI l e (List.mem_of_mem_drop (List.mem_of_mem_take he))) (by simp;omega) (by simp;omega)) ?_;try simp[hi,hw1,hlv3,hw2]
      rfl
     obtain⟨es4,he4⟩:∃ es4,es4=(Ap l).take (i+1)++((Ap l).drop i).take (l.length - i):=⟨_,rfl⟩;have hs4:∀ e∈es4,e.length=3:=by
      intro e he;rw[he4] at he;rcases List.mem_append.1 he with h|h
      ·exact AI l e (List.mem_of_mem_take h)
      ·exact AI l e (List.mem_of_mem_drop (List.mem_of_mem_take h))
     have hn4:es4.length=l.length+1:=by rw[he4];simp;omega
     have hend:es4.take i++Ap [x]++es4.drop (i+1)=Ap (insL l i x):=by
      have hA:((Ap l).take (i+1)).length=i+1:=by simp;omega
      rw[he4,List.drop_left' hA,List.take_append_of_le_length (by omega),List.take_take,Nat.min_eq_left (by omega),List.take_of_length_le (l:=(Ap l).drop i) (by simp)];simp[Ap,insL]
     have hv4:(lvs es4).length=(l.length+1)*3:=by rw[AF hs4,hn4]
     simp only[← he4];apply AW.step
     ·simp[hi,hw1,hv4];repeat refine⟨by omega,?_⟩
      refine BU CP CE rfl (by simp[hv4]) (by omega) 1 (by omega) (by omega) (Fn (cap:=none) rfl (AI [x]) (by simp)) (D4 (fs:=Ap [x]) hs4 (AI _) (by rw[hn4,Ks];simp;omega)) ?_;simp[hend];try simp[hi,hw1,hv4]
      rfl
     refine AW.step (by simp[hi,hw1];rfl) ?_;refine AW.ret ?_;refine Left.of (av:=_) (by simp[Tryz.f53,resV,resC,comp,hi,hw1];rfl) ?_;refine LeftV.shrink 0 ((l.length+1)*3) rfl rfl rfl rfl ?_;have hlf:(lvs (Ap (insL l i x))).take ((l.length+1)*3)=lvs (Ap (insL l i x)):=List.take_of_length_le (by rw[AF (AI _)];simp[FN l i x hi]);exact zO [some 0,some 1] (by simp;omega) (DP (by omega)) rfl rfl (by simp[pickOb,hlf]) (by simp)
    ·simp at h14
theorem OK:Enters Tryz.prog 53:=enters Tryz.func53 (by kernel_rfl) rfl
theorem R8 (l:List Seen) (i:Int) (x:Seen) (h:insB l i=true):Sound Tryz.prog 53 [.l (.r 0 3 0 l.length),.l (.s (.int .i64 i)),.l (.r 1 3 0 1)] [⟨100,3,true,none,lvs (Ap l)⟩,⟨100,3,true,none,lvs (Ap [x])⟩] (.l (.r 0 3 0 (l.length+1)))
  [some ⟨100,3,true,none,lvs (Ap (insL l i.toNat x))⟩,some ⟨100,3,true,none,lvs (Ap [x])⟩]:=by
 simp[insB] at h;have:=PO l i.toNat x (by omega) (by omega);rwa [show ((i.toNat:Nat):Int)=i by omega] at this
theorem i64_0:IntKind.i64.wrap 0=0:=by decide
def flatL {α:Type} (ss:List (List α)) (i:Nat):List α:=(ss.take i).flatten
theorem La {α:Type} {ss:List (List α)} {i:Nat} {x:List α} (hx:ss[i]?=some x):flatL ss (i+1)=flatL ss i++x:=by unfold flatL;rw[← PA hx];simp
theorem Im {α:Type} (ss:List (List α)) (i:Nat):(flatL ss i).length≤(flatL ss ss.length).length:=by
 have:flatL ss ss.length=flatL ss i++(ss.drop i).flatten:=by unfold flatL;rw[← List.flatten_append,List.take_append_drop,List.take_length]
 rw[this];simp
theorem Kv {α:Type} (ss:List (List α)):flatL ss 0=[]:=rfl
theorem Lb {α:Type} (ss:List (List α)):flatL ss ss.length=ss.flatten:=by unfold flatL;rw[List.take_length]
def catB {α:Type} (ss:List (List α)):Bool:=decide (ss.flatten.length≤1000000000∧ss.length≤1000000000)
def BB:List Value:=[.string ⟨#[]⟩,.bool false,.int .i64 0,.string ⟨#[]⟩,.slice none 0 0,.slice none 0 0,.int .i64 0]
set_option maxRecDepth 8000 in
set_option maxHeartbeats 8000000 in
theorem Nm (n:Nat) (hn:n≤1000000000):Sound Tryz.prog 132 [.l (.s (.slice none 0 0)),.l (.s (.int .i64 n))] [] (.l (.r 0 7 0 0)) [some ⟨59,7,true,none,(repZ n BB).map .s⟩]:=by
 refine zL (fn:=Tryz.f132) (c:=_) Tryz.func132 rfl (by simp[Tryz.f132]) fun cx hG hnb=>?_;rw[show Tryz.f132.ntmps=27 from rfl];have hn0:cx.nb=0:=hnb;refine AW.step (by simp;rfl) ?_;refine AW.seq ?_;refine AW.step (by simp;rfl) ?_;refine AW.cond rfl (fun h1=>?_) (fun h1=>?_)
 ·simp at h1;omega
 ·try simp at h1
  refine AW.skip ?_;simp only[Post.seq,Post.block,if_true];refine AW.seq ?_;refine AW.step (by simp[i64_0,Ha (show (-9223372036854775808:Int)≤(n:Int) by omega) (show (n:Int)≤9223372036854775807 by omega)];rfl) ?_;refine AW.step (by simp;rfl) ?_;refine AW.cond rfl (fun h4=>?_) (fun h4=>?_)
  ·simp at h4;refine AW.last (by simp[h4,show n*104≤281474976710656 by omega,show n≤4611686018427387904 by omega];rfl) ?_;simp only[Post.seq,Post.block,if_true];refine AW.step (by simp;rfl) ?_;refine AW.ret ?_;refine Left.of (av:=_) (by simp[Tryz.f132,resV,resC,comp];rfl) ?_;exact LeftV.nowN 1 hn0 (by simp[BB,repZ]) (by simp) rfl
  ·simp at h4;subst h4;refine AW.nilRow 0 59 7 0 (by simp) rfl rfl ?_;refine AW.skip ?_;simp only[Post.seq,Post.block,if_true];refine AW.step (by simp;rfl) ?_;refine AW.ret ?_;refine Left.of (av:=_) (by simp[Tryz.f132,resV,resC,comp];rfl) ?_;exact LeftV.nowN 1 hn0 (by simp[BB,repZ]) (by simp) rfl
theorem Mv:Enters Tryz.prog 132:=enters Tryz.func132 (by kernel_rfl) rfl
theorem DX (m:Nat):((repZ m BB).map LV.s).length=m*7:=by
 rw[List.length_map,Bz];rfl
theorem DA (l:List Effect):(lvs (An l)).length=l.length*7:=by
 rw[AF (Bh l),Gv]
theorem Js (A x:List Effect) (m:Nat) (h:x.length≤m):setAt (lvs (An A)++(repZ m BB).map LV.s) (A.length*7) (lvs (An x))=lvs (An (A++x))++(repZ (m - x.length) BB).map LV.s:=by
 have hz:=DX m;have hA:=DA A;have hx:=DA x;have e1:repZ m BB=repZ x.length BB++repZ (m - x.length) BB:=by rw[← Jl,Nat.add_sub_cancel' h]
 rw[Da _ _ _ (by rw[List.length_append,hz,hA,hx];omega),BZ,Dz];rw[List.take_append_of_le_length (by omega),List.take_of_length_le (by omega),hx];congr 1
 rw[← List.drop_drop,← hA,List.drop_left,e1,List.map_append];have hxz:=DX x.length;rw[← hxz,List.drop_left]
set_option maxRecDepth 8000 in
set_option maxHeartbeats 8000000 in
theorem Nn (ss:List (List Effect)) (hl:(flatL ss ss.length).length≤1000000000) (hs:ss.length≤1000000000):Sound Tryz.prog 112 [.l (.r 0 1 0 ss.length)] [⟨30,1,true,none,ss.map fun l=>.d false 7 (An l)⟩] (.l (.r 1 7 0 (flatL ss ss.length).length)) [some ⟨30,1,true,none,ss.map fun l=>.d false 7 (An l)⟩,some ⟨59,7,true,none,lvs (An (flatL ss ss.length))⟩]:=by
 refine zL (fn:=Tryz.f112) (c:=_) Tryz.func112 rfl (by simp[Tryz.f112]) fun cx hG hnb=>?_;rw[show Tryz.f112.ntmps=36 from rfl];have hn0:cx.nb=1:=hnb;refine AW.step (by simp;rfl) ?_;refine AW.step (by simp;rfl) ?_;refine AW.seq ?_;refine AW.step (by simp;rfl) ?_;refine AW.block ?_;refine AW.loopF (α:=Nat) [3,5,11,12,13,14,15,16,17,18,19,20,21,22] (fun i=>[(11,.l (.s (.int .i64 i))),(3,.l (.s (.int .i64 (flatL ss i).length)))]) (fun _=>[some ⟨30,1,true,none,ss.map fun l=>.d false 7 (An l)⟩]) (fun i=>i≤ss.length) (fun i=>ss.length - i) 0 (by simp;rfl) (by simp[Kv]) (by simp) (Nat.zero_le _) ?_;intro i g1;refine AW.step (by simp;rfl) ?_;refine AW.seq ?_;refine AW.cond rfl (fun h3=>?_) (fun h3=>?_)
 ·simp at h3;obtain⟨x,hx⟩:=Mc h3;have hx':ss[i]=x:=(List.getElem?_eq_some_iff.1 hx).2;have hf:=La hx;have hfl:=Im ss (i+1);rw[hf,List.length_append] at hfl;have hxl:x.length≤140737488355328:=by omega
  have hw:IntKind.i64.wrap (((flatL ss i).length:Int)+(x.length:Int))=(((flatL ss (i+1)).length:Nat):Int):=by rw[Ha (by omega) (by omega),hf,List.length_append];omega
  refine AW.skip ?_;simp only[Post.seq,Post.block,if_true];refine AW.seq ?_;refine AW.block ?_;refine AW.step (by simp[hx,hx',h3];rfl) ?_;refine AW.step (by simp[hxl,hw];rfl) ?_;refine AW.step (by simp;rfl) ?_;refine AW.cond rfl (fun h6=>?_) (fun h6=>?_)
  ·simp at h6;omega
  ·try simp at h6
   refine AW.skip ?_;simp only[Post.seq,Post.block,if_true];refine AW.last (by simp;rfl) ?_;simp only[Post.seq,Post.block,if_true];refine⟨i+1,Weak.cut 1 (by omega) (by simp[D3 (show i+1≤9223372036854775807 by omega)]) (by simp) rfl,by omega,by omega⟩
 ·try simp at h3
  refine AW.exit ?_;simp only[Post.seq,Post.block,if_true];have hi:i=ss.length:=by omega
  subst hi;apply AW.step
  ·simp;refine AS Mv (Nm (flatL ss ss.length).length hl) rfl (by simp) ⟨.same rfl,.same rfl,trivial⟩ ?_;try simp
   rfl
  refine AW.seq ?_;refine AW.step (by simp;rfl) ?_;refine AW.block ?_;refine AW.loopF (α:=Nat) [6,8,27,28,29,30,31,32,33,34] (fun i=>[(27,.l (.s (.int .i64 i))),(6,.l (.r 1 7 0 (flatL ss i).length))]) (fun i=>[some ⟨30,1,true,none,ss.map fun l=>.d false 7 (An l)⟩,some ⟨59,7,true,none,lvs (An (flatL ss i))++(repZ ((flatL ss ss.length).length - (flatL ss i).length) BB).map LV.s⟩]) (fun i=>i≤ss.length) (fun i=>ss.length - i) 0 (by simp;rfl) (by simp[Kv]) (by simp[lvs,Kv]) (Nat.zero_le _) ?_;intro i g1;refine AW.step (by simp;rfl) ?_;refine AW.seq ?_;refine AW.cond rfl (fun h11=>?_) (fun h11=>?_)
  ·simp at h11;obtain⟨x,hx⟩:=Mc h11;have hx':ss[i]=x:=(List.getElem?_eq_some_iff.1 hx).2;have hf:=La hx;have hfl:=Im ss (i+1);rw[hf,List.length_append] at hfl;have hput:=Js (flatL ss i) x ((flatL ss ss.length).length - (flatL ss i).length) (by omega);have hlx:=DA (flatL ss i);have hzx:=DX ((flatL ss ss.length).length - (flatL ss i).length);refine AW.skip ?_;simp only[Post.seq,Post.block,if_true];refine AW.seq ?_;refine AW.block ?_;refine AW.step (by simp[hx,hx',h11];rfl) ?_;apply AW.last
   ·simp;refine NY (q:=((An x).length,lvs (An x))) (z:=⟨59,7,true,none,lvs (An (flatL ss i))++(repZ ((flatL ss ss.length).length - (flatL ss i).length) BB).map LV.s⟩) Hg Hc (by simp) Ek (by simp) (by simp) (by show ((flatL ss i).length+(An x).length)*7≤_;rw[List.length_append,hlx,hzx,Gv];omega) ?_;simp only[hput];try simp
    rfl
   simp only[Post.seq,Post.block,if_true];refine AW.last (by simp;rfl) ?_;simp only[Post.seq,Post.block,if_true];refine⟨i+1,Weak.cut 2 (by omega) (by simp[D3 (show i+1≤9223372036854775807 by omega),hf]) (by simp[hf,Nat.sub_sub]) rfl,by omega,by omega⟩
  ·try simp at h11
   refine AW.exit ?_;simp only[Post.seq,Post.block,if_true];have hi:i=ss.length:=by omega
   subst hi;have h0:(flatL ss ss.length).length - (flatL ss ss.length).length=0:=Nat.sub_self _;refine AW.step (by simp;rfl) ?_;refine AW.ret ?_;refine Left.of (av:=_) (by simp[Tryz.f112,resV,resC,comp];rfl) ?_;exact zO [some 0,some 1] (by simp;omega) (DP (by omega)) rfl rfl (by simp[pickOb,repZ,Ob.ren,Bj]) (by simp)
theorem Mw:Enters Tryz.prog 112:=enters Tryz.func112 (by kernel_rfl) rfl
theorem PP (ss:List (List Effect)) (h:catB ss=true):Sound Tryz.prog 112 [.l (.r 0 1 0 ss.length)] [⟨30,1,true,none,ss.map fun l=>.d false 7 (An l)⟩] (.l (.r 1 7 0 ss.flatten.length)) [some ⟨30,1,true,none,ss.map fun l=>.d false 7 (An l)⟩,some ⟨59,7,true,none,lvs (An ss.flatten)⟩]:=by
 simp[catB] at h;have:=Nn ss (by rw[Lb];simp;omega) (by omega);rwa [Lb] at this
theorem PQ (ss:List (List Effect)) (h:catB ss=true):Sound Tryz.prog 112 [.l (.r 0 1 0 ss.length)] [⟨30,1,true,none,ss.map fun l=>.d false 7 (An l)⟩] (.l (.d false 7 (An ss.flatten))) [some ⟨30,1,true,none,ss.map fun l=>.d false 7 (An l)⟩]:=by
 have h2:=h;simp[catB] at h2;exact (PP ss h).frz1 (by simp) (by omega) (Bh _) (by simp;omega) (by simp[Ob.frz,Ob.ren,LV.frz,LV.ren])
end Go.Proofs.YtlbdhlbbkibgpaaGreat
namespace Go.Proofs.YtlbdhlbbkibgpaaGreat
open Go Go.RowKit
section
variable {P:Program} {d:Option Nat} {t:Nat} {st:St} {K:St→Prop} {k:IntKind} {a b:Int} {x y:ByteArray} {p q:Bool}
@[simp high] theorem xs_add:xeq P .add t (.l (.s (.int k a))) (.l (.s (.int k b))) st d K=K (st.put d (.l (.s (.int k (addI k a b))))):=by simp[xeq,bopP,bop,addI]
@[simp high] theorem xs_sub:xeq P .sub t (.l (.s (.int k a))) (.l (.s (.int k b))) st d K=K (st.put d (.l (.s (.int k (subI k a b))))):=by simp[xeq,bopP,bop,subI]
@[simp high] theorem xs_mul:xeq P .mul t (.l (.s (.int k a))) (.l (.s (.int k b))) st d K=K (st.put d (.l (.s (.int k (mulI k a b))))):=by simp[xeq,bopP,bop,mulI]
@[simp high] theorem xs_and:xeq P .and t (.l (.s (.int k a))) (.l (.s (.int k b))) st d K=K (st.put d (.l (.s (.int k (andI k a b))))):=by simp[xeq,bopP,bop,andI]
@[simp high] theorem xs_xor:xeq P .xor t (.l (.s (.int k a))) (.l (.s (.int k b))) st d K=K (st.put d (.l (.s (.int k (xorI k a b))))):=by simp[xeq,bopP,bop,xorI]
@[simp high] theorem xs_quo:xeq P .quo t (.l (.s (.int k a))) (.l (.s (.int k b))) st d K=wh (quoI k a b) fun c=>K (st.put d (.l (.s (.int k c)))):=by
 unfold quoI;split <;> simp_all [xeq,bopP,bop]
@[simp high] theorem xs_rem:xeq P .rem t (.l (.s (.int k a))) (.l (.s (.int k b))) st d K=wh (remI k a b) fun c=>K (st.put d (.l (.s (.int k c)))):=by
 unfold remI;split <;> simp_all [xeq,bopP,bop]
@[simp high] theorem xs_shl {k':IntKind}:xeq P .shl t (.l (.s (.int k a))) (.l (.s (.int k' b))) st d K=wh (shlI k a b) fun c=>K (st.put d (.l (.s (.int k c)))):=by
 unfold shlI;simp only[xeq,bopP,bop];split <;> rfl
@[simp high] theorem xs_shr {k':IntKind}:xeq P .shr t (.l (.s (.int k a))) (.l (.s (.int k' b))) st d K=wh (shrI k a b) fun c=>K (st.put d (.l (.s (.int k c)))):=by
 unfold shrI;simp only[xeq,bopP,bop];split <;> rfl
@[simp high] theorem xs_eql:xeq P .eql t (.l (.s (.int k a))) (.l (.s (.int k b))) st d K=K (st.put d (.l (.s (.bool (eqI a b))))):=by simp[xeq,bopP,bop,eqI]
@[simp high] theorem xs_neq:xeq P .neq t (.l (.s (.int k a))) (.l (.s (.int k b))) st d K=K (st.put d (.l (.s (.bool (neI a b))))):=by simp[xeq,bopP,bop,neI]
@[simp high] theorem xs_lss:xeq P .lss t (.l (.s (.int k a))) (.l (.s (.int k b))) st d K=K (st.put d (.l (.s (.bool (ltI a b))))):=by simp[xeq,bopP,bop,ltI]
@[simp high] theorem xs_leq:xeq P .leq t (.l (.s (.int k a))) (.l (.s (.int k b))) st d K=K (st.put d (.l (.s (.bool (leI a b))))):=by simp[xeq,bopP,bop,leI]
@[simp high] theorem xs_gtr:xeq P .gtr t (.l (.s (.int k a))) (.l (.s (.int k b))) st d K=K (st.put d (.l (.s (.bool (gtI a b))))):=by simp[xeq,bopP,bop,gtI]
@[simp high] theorem xs_geq:xeq P .geq t (.l (.s (.int k a))) (.l (.s (.int k b))) st d K=K (st.put d (.l (.s (.bool (geI a b))))):=by simp[xeq,bopP,bop,geI]
@[simp high] theorem xs_eqlS:xeq P .eql t (.l (.s (.string x))) (.l (.s (.string y))) st d K=K (st.put d (.l (.s (.bool (eqS x y))))):=by simp[xeq,bopP,bop,eqS]
@[simp high] theorem xs_neqS:xeq P .neq t (.l (.s (.string x))) (.l (.s (.string y))) st d K=K (st.put d (.l (.s (.bool (neS x y))))):=by simp[xeq,bopP,bop,neS]
@[simp high] theorem xs_lssS:xeq P .lss t (.l (.s (.string x))) (.l (.s (.string y))) st d K=K (st.put d (.l (.s (.bool (ltS x y))))):=by simp[xeq,bopP,bop,ltS]
@[simp high] theorem xs_leqS:xeq P .leq t (.l (.s (.string x))) (.l (.s (.string y))) st d K=K (st.put d (.l (.s (.bool (leS x y))))):=by simp[xeq,bopP,bop,leS]
@[simp high] theorem xs_geqS:xeq P .geq t (.l (.s (.string x))) (.l (.s (.string y))) st d K=K (st.put d (.l (.s (.bool (geS x y))))):=by simp[xeq,bopP,bop,geS]
@[simp high] theorem xs_cat:xeq P .add t (.l (.s (.string x))) (.l (.s (.string y))) st d K=wh (catS x y) fun c=>K (st.put d (.l (.s (.string c)))):=by
 unfold catS;simp only[xeq,bopP,bop];split <;> rfl
@[simp high] theorem xs_neqB:xeq P .neq t (.l (.s (.bool p))) (.l (.s (.bool q))) st d K=(sk P t=some 2∧K (st.put d (.l (.s (.bool (neB p q)))))):=by
 simp only[xeq,bopP,neB];split <;> simp_all
@[simp high] theorem xs_eqlG (xs ys:List LV):xeq P .eql t (.g xs) (.g ys) st d K=wh (seqF P t) fun ks=>wh (veqs ks xs ys) fun b=>K (st.put d (.l (.s (.bool b)))):=by rw[Pq];simp
@[simp high] theorem xs_neqG (xs ys:List LV):xeq P .neq t (.g xs) (.g ys) st d K=wh (seqF P t) fun ks=>wh (veqs ks xs ys) fun b=>K (st.put d (.l (.s (.bool (notB b))))):=by rw[Pq];simp[notB]
def andO:Option Bool→Option Bool→Option Bool
 |some b,some c=>some (andB b c)
 |_,_=>none
@[simp high] theorem veqs_0 {ks:List Nat} {xs ys:List LV} {k k':IntKind}:veqs (0::ks) (.s (.int k a)::xs) (.s (.int k' b)::ys)=if k=k' then andO (some (eqI a b)) (veqs ks xs ys) else none:=by
 simp only[veqs,veq,eqI];by_cases h:k=k'
 ·simp only[h,if_true];cases veqs ks xs ys <;> rfl
 ·simp[h]
@[simp high] theorem veqs_1 {ks:List Nat} {xs ys:List LV}:veqs (1::ks) (.s (.string x)::xs) (.s (.string y)::ys)=andO (some (eqS x y)) (veqs ks xs ys):=by
 simp only[veqs,veq,eqS];cases veqs ks xs ys <;> rfl
@[simp] theorem veqs_n:veqs [] [] []=some true:=rfl
@[simp] theorem andO_s (b c:Bool):andO (some b) (some c)=some (andB b c):=rfl
@[simp high] theorem xs_not {ty:TypeId} {pos:String} {af:Array Edge} {g:Option (Nat×Bool)} {x':Operand}:xo P ⟨d,.unOp .not t x',ty,pos,af,g⟩ st K=wb (st.ev x') fun b=>K (st.put d (.l (.s (.bool (notB b))))):=by
 rw[NX];generalize st.ev x'=v;cases v with
 |l y =>
  cases y with
  |s z=>cases z <;> first|rfl|(simp[ws,wb,uop])
  |_=>rfl
 |_=>rfl
def wik (v:AV) (k:IntKind→Int→Prop):Prop :=
 match v with
 |.l (.s (.int kd n))=>k kd n
 |_=>False
@[congr] theorem wik_congr {x y:AV} {k:IntKind→Int→Prop} (h:x=y):wik x k=wik y k:=by rw[h]
@[simp] theorem wik_i (kd:IntKind) (n:Int) (k:IntKind→Int→Prop):wik (.l (.s (.int kd n))) k=k kd n:=nr rfl
@[simp high] theorem xs_neg {ty:TypeId} {pos:String} {af:Array Edge} {g:Option (Nat×Bool)} {x':Operand}:xo P ⟨d,.unOp .neg t x',ty,pos,af,g⟩ st K=wik (st.ev x') fun k b=>K (st.put d (.l (.s (.int k (negI k b))))):=by
 rw[NX];generalize st.ev x'=v;cases v with
 |l y =>
  cases y with
  |s z=>cases z <;> first|rfl|(simp[ws,wik,uop])
  |_=>rfl
 |_=>rfl
@[simp high] theorem xs_conv (s t:Nat):xconv P s t (.l (.s (.int k a))) st d K=((P.underlying s).isSome=true∧wh (intF P t) fun k=>K (st.put d (.l (.s (.int k (cvI k a)))))):=nr rfl
@[simp high] theorem xs_max:xmm max (.l (.s (.int k a))) (.l (.s (.int k b))) st d K=K (st.put d (.l (.s (.int k (maxI a b))))):=by simp[xmm,maxI]
@[simp high] theorem xs_min:xmm min (.l (.s (.int k a))) (.l (.s (.int k b))) st d K=K (st.put d (.l (.s (.int k (minI a b))))):=by simp[xmm,minI]
end
section
variable {P:Program} {d:Option Nat} {t:Nat} {st:St} {K:St→Prop} {x:ByteArray} {ob sz lo hi:Nat} {al:Bool}
@[simp high] theorem xs_lenS:xlen P t (.l (.s (.string x))) st d K=(strF P t=true∧K (st.put d (.l (.s (.int .i64 (lenS x)))))):=nr rfl
end
def idxB (a:ByteArray) (c:Int):Int:=Lib.indexByte a.data.toList c.toNat.toUInt8
theorem OL {P:Program} {st:St} {f:Nat} {fn:Func} {a:ByteArray} {c:Int} {dst:Option Nat} {K:St→Prop} (hf:P.funcs[f]?=some fn) (hname:(fn.name == "runtime.NumGoroutine")=false) (hb:fn.body.isNone=true) (hn:Extern.findNext fn=none)
  (he:Extern.find fn=some Extern.BytealgIndexByte.indexByte) (hk:K (st.put dst (.l (.s (.int .i64 (idxB a c)))))):xcall P f [.l (.s (.string a)),.l (.s (.int .u8 c))] st dst K:=by
 refine .inr (.inl ⟨.int .i64 (idxB a c),rfl,fun cx σ ac w vs hr hv=>?_,hk⟩);match vs,hv with
 |[x,y],hv =>
  obtain⟨⟨rfl,_⟩,⟨rfl,_⟩,_⟩:=hv;rw[run_callFunc_extern hf hname hb hn he];have:=Lib.run_indexByteString (P:=P) a c w;rw[this];rfl
 |[],hv=>exact hv.elim
 |[_],hv=>exact hv.2.elim
 |_::_::_::_,hv=>exact hv.2.2.elim
def bytesI (s:ByteArray):List Int:=s.data.toList.map fun b=>(b.toNat:Int)
@[simp] theorem bytesT_eq (s:ByteArray):bytesT s=encU (bytesI s):=by simp[bytesT,encU,bytesI,Function.comp_def]
end Go.Proofs.YtlbdhlbbkibgpaaGreat
namespace Go.Proofs.YtlbdhlbbkibgpaaGreat
open Go Go.RowKit
def Dw (n:Nat) (a0:List Claim) (a1:Int):Option (Int×Int) :=
bn (iter n (fun (y1:Int) =>
lt (lenI a0) fun v4 =>
lt (ltI y1 v4) fun v5 =>
ite' v5 (bn (bn (nth a0 y1) fun v7 =>
lt (leI v7.frm a1) fun v8 =>
ite' v8 (lt (leI a1 v7.to) fun v9 =>
some (v9)) (some (false))) fun (y6:Bool) =>
lt (y6) fun v10 =>
ite' v10 (bn (nth a0 y1) fun v11 =>
some (.inr (.inr (v11.node,v11.epoch)))) (lt (addI .i64 y1 1) fun v12 =>
some (.inl v12))) (some (.inr (.inl ())))) 0) fun (y2:Unit ⊕ (Int×Int)) =>
sm y2 (fun y13=>some (-1,0)) (fun y14=>some y14)
theorem Mx {n:Nat} {a0:List Claim} {a1:Int} {r:Int×Int} (h:Dw n a0 a1=some r):Sound Tryz.prog 27 [.l (dB a0),.l (iA a1)] [] (.t [(false,[iA r.1]),(false,[iA r.2])]) []:=by
 unfold Dw at h;refine SO 39 Tryz.func27 fun cx hG (hz:cx.nb=0)=>?_;simp only[it];refine ST ?_;apply AW.seq;refine ST ?_;apply AW.block;obtain⟨y2,g2,h⟩:=bnE h;refine zD g2 (mk:=fun gh ls q=>(⟨[(0,.l (dB a0)),(1,.l (iA a1)),(6,.l (iA q))],[],39,gh,ls⟩:St)) (N:=fun gh ls=>(sp (xP 0 (cx:=cx) (fun _=>(⟨[],[],39,gh,ls⟩:St))) (rP (cx:=cx) (P:=Tryz.prog) Tryz.f27 (fun q=>.t [(false,[iA q.1]),(false,[iA q.2])]) (fun q=>[])))) ?_ (noS noX noR) ?_ ?_
 ·exact WM [] hz
 ·clear h;intro y1 y3 h
  apply AW.seq;obtain⟨v4,e4,v5,e5,h⟩:=oll h;refine AW.step (by simp[Ad e4,← e5];intros;rfl) ?_;cases v5 with
  |true=>
   replace h:=iT h;refine CT ?_;apply AW.skip;try simp only[nm]
   apply AW.seq;apply AW.block;obtain⟨y6,g6,h⟩:=bnE h;refine zC (p:=fun gh ls=>(nP (cx:=cx) (fun q=>(⟨[(0,.l (dB a0)),(1,.l (iA a1)),(6,.l (iA y1)),(28,.l (bA q))],[],39,gh,ls⟩:St))) y6) ?_ ?_
   ·replace h:=g6;clear g6
    obtain⟨v7,e7,v8,e8,h⟩:=obl h;cases v8 with
    |true=>
     replace h:=iT h;obtain⟨v9,e9,h⟩:=ltE h;refine AW.last (by simp[Aa e7,← e8,← e9];intros;rfl) ?_;obtain rfl:=oi h;exact nP_i (WM [] hz)
    |false=>
     replace h:=iF h;refine AW.last (by simp[Aa e7,← e8];intros;rfl) ?_;obtain rfl:=oi h;exact nP_i (WM [] hz)
   ·rintro e s⟨rfl,hw⟩;refine⟨_,hw,?_⟩;try simp only[nm]
    obtain⟨v10,e10,h⟩:=ltE h;rw[← e10];cases v10 with
    |true=>
     replace h:=iT h;refine CT ?_;obtain⟨v11,e11,h⟩:=bnE h;apply zH (V:=[_,_,_,_,_,_,_,_,_,_,_]) mixed [⟨[0],[],[(0,none)],false⟩,⟨[0],[],[(6,none)],false⟩,⟨[0],[0,1],[(29,some 0),(30,some 1)],false⟩,⟨[0],[0,1,2],[(31,some 2)],false⟩,⟨[0],[0,1,2,3],[(32,some 3)],false⟩,⟨[0],[],[(0,none)],false⟩,⟨[0],[],[(6,none)],false⟩,⟨[0],[5,6],[(34,some 5),(35,some 6)],false⟩,⟨[0],[5,6,7],[(36,some 7)],false⟩,⟨[0],[5,6,7,8],[(37,some 8)],false⟩,⟨[0],[0,1,2,3,4],[(33,some 4)],false⟩,⟨[],[0,1,2,3,4,5,6,7,8,9,10],[],false⟩] 11 (by kernel_rfl) (by kernel_rfl)
     ·refine⟨?_,?_,?_,?_,?_,?_,?_,?_,?_,?_,?_,trivial⟩;iterate 11 (· intro tm hr;simp[AllL,rdV] at hr;simp[hr,Aa e11];intros;exact KA)
     ·rfl
     ·simp[tmD,putD,Aa e11];rfl
     ·simp[Aa e11];intros;rfl
     obtain rfl:=oi h;apply AW.ret;try simp only[nm]
     refine rP_i ?_;exact LP hz
    |false=>
     replace h:=iF h;refine CF ?_;apply AW.skip;try simp only[nm]
     obtain⟨v12,e12,h⟩:=ltE h;refine AW.last (by simp[← e12];intros;rfl) ?_;obtain rfl:=oi h;exact nP_i (WM [] hz)
  |false=>
   replace h:=iF h;refine CF ?_;apply AW.exit;try simp only[nm]
   obtain rfl:=oi h;try simp only[sp_l,sp_r]
   refine xP_i ?_;exact WM [] hz
 ·rintro e s hp;rcases y2 with y13|y14
  ·replace h:=smL h;obtain⟨rfl,hw⟩:=hp;refine⟨_,hw,?_⟩;try simp only[nm]
   refine ST ?_;obtain rfl:=oi h;apply AW.ret;exact LP hz
  ·replace h:=smR h;obtain⟨rfl,hl⟩:=hp;refine⟨_,Weak.refl _,?_⟩;obtain rfl:=oi h;exact hl
theorem Lc:Enters Tryz.prog 27:=enters Tryz.func27 (by kernel_rfl) rfl
def BR (n:Nat) (a0:List Claim) (a1:List Claim):Option Bool :=
lt (lenI a0) fun v1 =>
lt (lenI a1) fun v2 =>
lt (neI v1 v2) fun v3 =>
ite' v3 (some false) (bn (iter n (fun (y4:Int) =>
lt (lenI a0) fun v7 =>
lt (ltI y4 v7) fun v8 =>
ite' v8 (bn (nth a0 y4) fun v9 =>
bn (nth a1 y4) fun v10 =>
lt (notB (andB (eqI v9.frm v10.frm) (andB (eqI v9.to v10.to) (andB (eqI v9.node v10.node) (andB (eqI v9.epoch v10.epoch) true))))) fun v11 =>
ite' v11 (some (.inr (.inr false))) (lt (addI .i64 y4 1) fun v12 =>
some (.inl v12))) (some (.inr (.inl ())))) 0) fun (y5:Unit ⊕ Bool) =>
sm y5 (fun y13=>some true) (fun y14=>some y14))
theorem Bq {n:Nat} {a0:List Claim} {a1:List Claim} {r:Bool} (h:BR n a0 a1=some r):Sound Tryz.prog 42 [.l (dB a0),.l (dB a1)] [] (.l (bA r)) []:=by
 unfold BR at h;refine SO 26 Tryz.func42 fun cx hG (hz:cx.nb=0)=>?_;simp only[it];refine ST ?_;apply AW.seq;obtain⟨v1,e1,v2,e2,v3,e3,h⟩:=olll h;refine AW.step (by simp[Ad e1,Ad e2,← e3];intros;rfl) ?_;cases v3 with
 |true=>
  replace h:=iT h;refine CT ?_;refine ST ?_;obtain rfl:=oi h;apply AW.ret;exact LP hz
 |false=>
  replace h:=iF h;refine CF ?_;apply AW.skip;try simp only[nm]
  apply AW.seq;refine ST ?_;apply AW.block;obtain⟨y5,g5,h⟩:=bnE h;refine zD g5 (mk:=fun gh ls q=>(⟨[(0,.l (dB a0)),(1,.l (dB a1)),(5,.l (iA q))],[],26,gh,ls⟩:St)) (N:=fun gh ls=>(sp (xP 0 (cx:=cx) (fun _=>(⟨[],[],26,gh,ls⟩:St))) (rP (cx:=cx) (P:=Tryz.prog) Tryz.f42 (fun q=>.l (bA q)) (fun q=>[])))) ?_ (noS noX noR) ?_ ?_
  ·exact WM [] hz
  ·clear h;intro y4 y6 h
   apply AW.seq;obtain⟨v7,e7,v8,e8,h⟩:=oll h;refine AW.step (by simp[Ad e7,← e8];intros;rfl) ?_;cases v8 with
   |true=>
    replace h:=iT h;refine CT ?_;apply AW.skip;try simp only[nm]
    apply AW.seq;apply AW.block;obtain⟨v9,e9,v10,e10,v11,e11,h⟩:=obbl h;apply zH (V:=[_,_,_,_,_,_,_,_]) mixed [⟨[0],[],[(0,none)],false⟩,⟨[0],[],[(5,none)],false⟩,⟨[0],[0,1],[(17,some 0),(18,some 1)],false⟩,⟨[0],[0,1,2],[(19,some 2)],false⟩,⟨[0],[],[(1,none)],false⟩,⟨[0],[],[(5,none)],false⟩,⟨[0],[4,5],[(21,some 4),(22,some 5)],false⟩,⟨[0],[4,5,6],[(23,some 6)],false⟩,⟨[],[0,1,2,3,4,5,6,7],[],false⟩] 8 (by kernel_rfl) (by kernel_rfl)
    ·refine⟨?_,?_,?_,?_,?_,?_,?_,?_,trivial⟩;iterate 8 (· intro tm hr;simp[AllL,rdV] at hr;simp[hr,Aa e9,Aa e10,← e11];intros;exact KA)
    ·rfl
    ·simp[tmD,putD,Aa e9,Aa e10,← e11];rfl
    ·simp[Aa e9,Aa e10,← e11];intros;rfl
    cases v11 with
    |true=>
     replace h:=iT h;refine CT ?_;refine ST ?_;obtain rfl:=oi h;apply AW.ret;try simp only[nm]
     refine rP_i ?_;exact LP hz
    |false=>
     replace h:=iF h;refine CF ?_;apply AW.skip;try simp only[nm]
     obtain⟨v12,e12,h⟩:=ltE h;refine AW.last (by simp[← e12];intros;rfl) ?_;obtain rfl:=oi h;exact nP_i (WM [] hz)
   |false=>
    replace h:=iF h;refine CF ?_;apply AW.exit;try simp only[nm]
    obtain rfl:=oi h;try simp only[sp_l,sp_r]
    refine xP_i ?_;exact WM [] hz
  ·rintro e s hp;rcases y5 with y13|y14
   ·replace h:=smL h;obtain⟨rfl,hw⟩:=hp;refine⟨_,hw,?_⟩;try simp only[nm]
    refine ST ?_;obtain rfl:=oi h;apply AW.ret;exact LP hz
   ·replace h:=smR h;obtain⟨rfl,hl⟩:=hp;refine⟨_,Weak.refl _,?_⟩;obtain rfl:=oi h;exact hl
theorem Bl:Enters Tryz.prog 42:=enters Tryz.func42 (by kernel_rfl) rfl
end Go.Proofs.YtlbdhlbbkibgpaaGreat
namespace Go.Proofs.YtlbdhlbbkibgpaaGreat
open Go Go.RowKit
def Dj (n:Nat) (a0:List Claim) (a1:Int):Option (Int×Int×Bool) :=
lt (lenI a0) fun v1 =>
bn (iter n (fun (y2:Int) =>
lt (ltI y2 v1) fun v5 =>
ite' v5 (bn (nth a0 y2) fun v6 =>
bn (lt (leI v6.frm a1) fun v8 =>
ite' v8 (lt (leI a1 v6.to) fun v9 =>
some (v9)) (some (false))) fun (y7:Bool) =>
lt (y7) fun v10 =>
ite' v10 (some (.inr (.inr (v6.node,v6.epoch,true)))) (lt (addI .i64 y2 1) fun v11 =>
some (.inl v11))) (some (.inr (.inl ())))) 0) fun (y3:Unit ⊕ (Int×Int×Bool)) =>
sm y3 (fun y12=>some (0,0,false)) (fun y13=>some y13)
theorem No {n:Nat} {a0:List Claim} {a1:Int} {r:Int×Int×Bool} (h:Dj n a0 a1=some r):Sound Tryz.prog 34 [.l (dB a0),.l (iA a1)] [] (.t [(false,[iA r.1]),(false,[iA r.2.1]),(false,[bA r.2.2])]) []:=by
 unfold Dj at h;refine SO 30 Tryz.func34 fun cx hG (hz:cx.nb=0)=>?_;simp only[it];refine ST ?_;apply AW.seq;obtain⟨v1,e1,h⟩:=ltE h;refine AW.step (by simp[Ad e1];intros;rfl) ?_;apply AW.block;obtain⟨y3,g3,h⟩:=bnE h;refine zD g3 (mk:=fun gh ls q=>(⟨[(1,.l (iA a1)),(9,.l (dB a0)),(10,.l (iA v1)),(11,.l (iA q))],[],30,gh,ls⟩:St)) (N:=fun gh ls=>(sp (xP 0 (cx:=cx) (fun _=>(⟨[],[],30,gh,ls⟩:St))) (rP (cx:=cx) (P:=Tryz.prog) Tryz.f34 (fun q=>.t [(false,[iA q.1]),(false,[iA q.2.1]),(false,[bA q.2.2])]) (fun q=>[])))) ?_ (noS noX noR) ?_ ?_
 ·exact WM [] hz
 ·clear h;intro y2 y4 h
  obtain⟨v5,e5,h⟩:=ltE h;refine AW.step (by simp[← e5];intros;rfl) ?_;apply AW.seq;cases v5 with
  |true=>
   replace h:=iT h;refine CT ?_;apply AW.skip;try simp only[nm]
   apply AW.seq;apply AW.block;obtain⟨v6,e6,h⟩:=bnE h;refine AW.step (by simp[Aa e6];intros;rfl) ?_;obtain⟨y7,g7,h⟩:=bnE h;refine zC (p:=fun gh ls=>(nP (cx:=cx) (fun q=>(⟨[(1,.l (iA a1)),(8,.l (.p 0 0)),(9,.l (dB a0)),(10,.l (iA v1)),(11,.l (iA y2)),(24,.l (bA q))],[some ⟨81,4,false,none,[iA v6.frm,iA v6.to,iA v6.node,iA v6.epoch]⟩],30,gh,ls⟩:St))) y7) ?_ ?_
   ·replace h:=g7;clear g7
    obtain⟨v8,e8,h⟩:=ltE h;cases v8 with
    |true=>
     replace h:=iT h;obtain⟨v9,e9,h⟩:=ltE h;refine AW.last (by simp[← e8,← e9];intros;rfl) ?_;obtain rfl:=oi h;exact nP_i (WM [0] hz)
    |false=>
     replace h:=iF h;refine AW.last (by simp[← e8];intros;rfl) ?_;obtain rfl:=oi h;exact nP_i (WM [0] hz)
   ·rintro e s⟨rfl,hw⟩;refine⟨_,hw,?_⟩;try simp only[nm]
    obtain⟨v10,e10,h⟩:=ltE h;rw[← e10];cases v10 with
    |true=>
     replace h:=iT h;refine CT ?_;apply zH (V:=[_,_,_,_,_]) mixed [⟨[0],[],[(8,none)],false⟩,⟨[0],[0],[(25,some 0)],false⟩,⟨[0],[],[(8,none)],false⟩,⟨[0],[2],[(27,some 2)],false⟩,⟨[0],[0,1],[(26,some 1)],false⟩,⟨[],[0,1,2,3,4],[],false⟩,⟨[],[0,1,2,3,4,5],[],false⟩] 5 (by kernel_rfl) (by kernel_rfl)
     ·refine⟨?_,?_,?_,?_,?_,trivial⟩;iterate 5 (· intro tm hr;simp[AllL,rdV] at hr;simp[hr];intros;exact KA)
     ·rfl
     ·simp[tmD,putD];rfl
     ·simp;intros;rfl
     obtain rfl:=oi h;apply AW.ret;try simp only[nm]
     refine rP_i ?_;exact LP hz
    |false=>
     replace h:=iF h;refine CF ?_;apply AW.skip;try simp only[nm]
     obtain⟨v11,e11,h⟩:=ltE h;refine AW.last (by simp[← e11];intros;rfl) ?_;obtain rfl:=oi h;exact nP_i (WM [] hz)
  |false=>
   replace h:=iF h;refine CF ?_;apply AW.exit;try simp only[nm]
   obtain rfl:=oi h;try simp only[sp_l,sp_r]
   refine xP_i ?_;exact WM [] hz
 ·rintro e s hp;rcases y3 with y12|y13
  ·replace h:=smL h;obtain⟨rfl,hw⟩:=hp;refine⟨_,hw,?_⟩;try simp only[nm]
   refine ST ?_;obtain rfl:=oi h;apply AW.ret;exact LP hz
  ·replace h:=smR h;obtain⟨rfl,hl⟩:=hp;refine⟨_,Weak.refl _,?_⟩;obtain rfl:=oi h;exact hl
theorem My:Enters Tryz.prog 34:=enters Tryz.func34 (by kernel_rfl) rfl
end Go.Proofs.YtlbdhlbbkibgpaaGreat
namespace Go.Proofs.YtlbdhlbbkibgpaaGreat
open Go Go.RowKit
variable {P:Program} {R:Option Nat} {cx:Cx} {Q:Post} {c:Code} {tm:Tm} {ob ob':List (Option Ob)} {nt:Nat} {gh:List Tm} {ls:Option Code}
@[simp] theorem inv_gap (o:Nat) (r:List (Option Nat)):inv (none::r) o=(inv r o).map (·+1):=by
 unfold inv;rw[List.findIdx?_cons];rfl
end Go.Proofs.YtlbdhlbbkibgpaaGreat
namespace Go.Proofs.YtlbdhlbbkibgpaaGreat
open Go Go.RowKit
section
variable {P:Program} {R:Option Nat} {cx:Cx} {Q:Post} {c:Code} {tm:Tm} {ob ob':List (Option Ob)} {nt:Nat} {gh:List Tm} {ls:Option Code}
theorem Weak.nilCellR (o j sz:Nat) {z:Ob} (hz:ob[o]?=some (some z)) (hj:z.cs[j]?=some (.s (.slice none 0 0))) :
  Weak cx ⟨tm,ob,nt,gh,ls⟩ ⟨tm,ob.set o (some { z with cs:=z.cs.set j (.d false sz []) }),nt,gh,ls⟩:=by
 intro σ a w hr;have hl:o<ob.length:=(List.getElem?_eq_some_iff.1 hz).1;have hO:=hr.h.obs o z hz;have hbl:∃ b k,σ o=some (some (b,k)):=by
  match hb:σ o with
  |none=>rw[hb] at hO;exact hO.elim
  |some none =>
   rw[hb] at hO;rw[hO.2.1] at hj;simp at hj
  |some (some (b,k))=>exact⟨b,k,rfl⟩
 obtain⟨b,k,hb⟩:=hbl;rw[hb] at hO;obtain⟨vs,rest,g1,g2,g4,g5⟩:=hO;have hall:All2 (RelL w (Xd cx w σ ob) (Xe w σ ob) σ) vs (z.cs.set j (.d false sz [])):=by
  obtain⟨v,hv,hvr⟩:=g2.at j hj;have hrel:RelL w (Xd cx w σ ob) (Xe w σ ob) σ v (.d false sz []):=by
   have e:=hvr.1;show Rd w _ _ _;rw[e];exact .sl none 0 0 sz [] 0 0 (fun _ _=>undef) rfl (Nat.le_refl _) (by omega) (fun e he=>by simp at he) (fun h=>by omega) (fun _=>rfl) (fun i j hi=>by omega) (fun i j e t he=>by simp at he)
  have:=g2.set j hrel;have e:vs.set j v=vs:=by
   apply List.ext_getElem?;intro i;by_cases h:j=i
   ·subst h;rw[List.getElem?_set_self (List.getElem?_eq_some_iff.1 hv).1,hv]
   ·rw[List.getElem?_set_ne h]
  rwa [e] at this
 have hwr:=hr.write (x':={ z with cs:=z.cs.set j (.d false sz []) }) hz hb vs rest hall rfl rfl (fun h=>g4 h) (fun h=>g5 h);refine Exists.intro σ ?_;have e1:w.setRow b (vs++rest).toArray=w:=setRow_self _ _ _ _ _ g1;rw[e1] at hwr;exact hwr
theorem AW.nilCellR (o j sz:Nat) {z:Ob} (hz:ob[o]?=some (some z)) (hj:z.cs[j]?=some (.s (.slice none 0 0))) (ho:ob.set o (some { z with cs:=z.cs.set j (.d false sz []) })=ob') (k:AW P R cx c Q ⟨tm,ob',nt,gh,ls⟩):AW P R cx c Q ⟨tm,ob,nt,gh,ls⟩:=by
 subst ho;exact AW.weak (Weak.nilCellR (z:=z) o j sz hz hj) k
end
end Go.Proofs.YtlbdhlbbkibgpaaGreat
namespace Go.Proofs.YtlbdhlbbkibgpaaGreat
open Go Go.RowKit
def EB (n:Nat) (a0:List Pair) (a1:Effect):Option (List Pair) :=
bn (iter n (fun (y1:Bool×Int×List Pair) =>
lt (lenI a0) fun v4 =>
lt (ltI y1.2.1 v4) fun v5 =>
ite' v5 (bn (bn (bn (lt (notB y1.1) fun v9 =>
ite' v9 (bn (nth a0 y1.2.1) fun v10 =>
lt (geS v10.key a1.key) fun v11 =>
some (v11)) (some (false))) fun (y8:Bool) =>
lt (y8) fun v12 =>
ite' v12 (chk (room (y1.2.2.length+1) 96) <|
lt (y1.2.2++[(⟨a1.key,a1.item⟩:Pair)]) fun v14 =>
some ((true,v14))) (some ((y1.1,y1.2.2)))) fun (y7:Bool×List Pair) =>
bn (nth a0 y1.2.1) fun v15 =>
lt (neS v15.key a1.key) fun v16 =>
ite' v16 (chk (room (y7.2.length+1) 96) <|
lt (y7.2++[v15]) fun v18 =>
some ((y7.1,v18))) (some ((y7.1,y7.2)))) fun (y6:Bool×List Pair) =>
lt (addI .i64 y1.2.1 1) fun v19 =>
some (.inl (y6.1,v19,y6.2))) (some (.inr (y1.1,y1.2.2)))) (a1.gone,0,[])) fun (y2:Bool×List Pair) =>
bn (lt (notB y2.1) fun v21 =>
ite' v21 (chk (room (y2.2.length+1) 96) <|
lt (y2.2++[(⟨a1.key,a1.item⟩:Pair)]) fun v23 =>
some (v23)) (some (y2.2))) fun (y20:List Pair) =>
chk (room y20.length 1) <|
some y20
def DY1t1:List DI:=[⟨[0],[],[(6,none)],false⟩,⟨[0],[0],[(16,some 0)],false⟩,⟨[0],[0,1],[(17,some 1)],false⟩,⟨[0],[0,1,2],[(0,none),(18,some 2)],false⟩,⟨[0],[0,1,2],[(7,none),(18,some 2)],false⟩,⟨[0],[0,1,2,3,4],[(18,some 2),(19,some 3),(20,some 4)],false⟩,⟨[0],[0,1,2,3,4,5],[(18,some 2),(21,some 5)],false⟩,⟨[0],[0,1,2,3,4,5,6],[(18,some 2),(22,some 6)],false⟩,⟨[0],[0,1,2],[(3,none),(18,some 2)],false⟩,⟨[0],[0,1,2,8],[(18,some 2),(24,some 8)],false⟩,⟨[],[0,1,2,3,4,5,6,7,8,9],[],false⟩,⟨[],[0,1,2,3,4,5,6,7,8,9,10],[],false⟩]
theorem OM {n:Nat} {a0:List Pair} {a1:Effect} {r:List Pair} (h:EB n a0 a1=some r):Sound Tryz.prog 97 [.l (dA a0),.g (cL0 a1)] [] (.l (dA r)) []:=by
 unfold EB at h;refine SO 62 Tryz.func97 fun cx hG (hz:cx.nb=0)=>?_;simp only[it];refine ST ?_;refine ST ?_;refine ST ?_;apply AW.seq;refine ST ?_;apply AW.block;obtain⟨y2,g2,h⟩:=bnE h;refine zD g2 (mk:=fun gh ls q=>(⟨[(0,.l (dA a0)),(3,.l (.p 0 0)),(5,.l (.r 1 6 0 q.2.2.length)),(6,.l (bA q.1)),(7,.l (iA q.2.1))],[some ⟨59,7,false,none,(cL0 a1)⟩,some ⟨114,6,true,none,lvs (Ao q.2.2)⟩],62,gh,ls⟩:St)) (N:=fun gh ls=>(xP 0 (cx:=cx) (fun q=>(⟨[(3,.l (.p 0 0)),(5,.l (.r 1 6 0 q.2.length)),(6,.l (bA q.1))],[some ⟨59,7,false,none,(cL0 a1)⟩,some ⟨114,6,true,none,lvs (Ao q.2)⟩],62,gh,ls⟩:St)))) ?_ noX ?_ ?_
 ·refine W.nilRow 5 114 6 1 (by simp) rfl rfl ?_;exact WM [0,1] hz
 ·clear h;intro y1 y3 h
  apply AW.seq;obtain⟨v4,e4,v5,e5,h⟩:=oll h;refine AW.step (by simp[Ad e4,← e5];intros;rfl) ?_;cases v5 with
  |true=>
   replace h:=iT h;refine CT ?_;apply AW.skip;try simp only[nm]
   obtain⟨y6,g6,h⟩:=bnE h;refine zC (p:=fun gh ls=>(nP (cx:=cx) (fun q=>(⟨[(0,.l (dA a0)),(3,.l (.p 0 0)),(5,.l (.r 1 6 0 q.2.length)),(6,.l (bA q.1)),(7,.l (iA y1.2.1))],[some ⟨59,7,false,none,(cL0 a1)⟩,some ⟨114,6,true,none,lvs (Ao q.2)⟩],62,gh,ls⟩:St))) y6) ?_ ?_
   ·replace h:=g6;clear g6
    apply AW.block;obtain⟨y7,g7,h⟩:=bnE h;refine zC (p:=fun gh ls=>(nP (cx:=cx) (fun q=>(⟨[(0,.l (dA a0)),(3,.l (.p 0 0)),(5,.l (.r 1 6 0 q.2.length)),(6,.l (bA q.1)),(7,.l (iA y1.2.1))],[some ⟨59,7,false,none,(cL0 a1)⟩,some ⟨114,6,true,none,lvs (Ao q.2)⟩],62,gh,ls⟩:St))) y7) ?_ ?_
    ·replace h:=g7;clear g7
     obtain⟨y8,g8,h⟩:=bnE h;refine zC (p:=fun gh ls=>(nP (cx:=cx) (fun q=>(⟨[(0,.l (dA a0)),(3,.l (.p 0 0)),(5,.l (.r 1 6 0 y1.2.2.length)),(6,.l (bA y1.1)),(7,.l (iA y1.2.1)),(27,.l (bA q))],[some ⟨59,7,false,none,(cL0 a1)⟩,some ⟨114,6,true,none,lvs (Ao y1.2.2)⟩],62,gh,ls⟩:St))) y8) ?_ ?_
     ·replace h:=g8;clear g8
      obtain⟨v9,e9,h⟩:=ltE h;cases v9 with
      |true=>
       replace h:=iT h;obtain⟨v10,e10,v11,e11,h⟩:=obl h;apply zF (V:=[_,_,_,_,_,_,_,_,_,_]) mixed DY1t1 10 (by kernel_rfl) (by kernel_rfl)
       ·refine⟨?_,?_,?_,?_,?_,?_,?_,?_,?_,?_,trivial⟩;iterate 10 (· intro tm hr;simp[AllL,rdV] at hr;simp[hr,← e9,Aa e10,← e11];intros;exact KA)
       ·rfl
       ·simp[tmD,putD,← e9,Aa e10,← e11];rfl
       ·simp[← e9,Aa e10,← e11];intros;rfl
       obtain rfl:=oi h;exact nP_i (WM [0,1] hz)
      |false=>
       replace h:=iF h;apply zF (V:=[_,_,_,_,_,_,_,_,_,_]) mixed DY1t1 10 (by kernel_rfl) (by kernel_rfl)
       ·refine⟨?_,?_,?_,?_,?_,?_,?_,?_,?_,?_,trivial⟩;iterate 10 (· intro tm hr;simp[AllL,rdV] at hr;simp[hr,← e9];intros;exact KA)
       ·rfl
       ·simp[tmD,putD,← e9];rfl
       ·simp[← e9];intros;rfl
       obtain rfl:=oi h;exact nP_i (WM [0,1] hz)
     ·rintro e s⟨rfl,hw⟩;refine⟨_,hw,?_⟩;try simp only[nm]
      obtain⟨v12,e12,h⟩:=ltE h;rw[← e12];cases v12 with
      |true=>
       replace h:=iT h;refine CT ?_;obtain⟨e13,v14,e14,h⟩:=ocl h;apply AW.step
       ·simp[← Bk,← e14,Ar e14];intros;refine Ax ?_;try simp[← Bk,← e14,Ar e14]
        intros;refine AD (acc:=Ao y1.2.2) (ys:=Ao [(⟨a1.key,a1.item⟩:Pair)]) (cap:=none) (k:=1) Cl BY (by simp) (by simp[Ao,lvs]) (AH _) (by simp) (by simp) (by first|(simp;done)|simpa using (Aw e13).1) ?_;try simp[← Bk,← e14,Ar e14]
        intros;rfl
       refine SL ?_;obtain rfl:=oi h;refine nP_i ?_;refine zG [some 0,some 3] hz (by decide) ?_ ?_ rfl;all_goals first|(simp[Ae,Af,pickOb,Fo];done)|rfl
      |false=>
       replace h:=iF h;refine CF ?_;apply AW.skip;try simp only[nm]
       obtain rfl:=oi h;exact nP_i (WM [0,1] hz)
    ·rintro e s⟨rfl,hw⟩;refine⟨_,hw,?_⟩;try simp only[nm]
     obtain⟨v15,e15,v16,e16,h⟩:=obl h;apply zH (V:=[_,_,_,_,_,_,_]) mixed [⟨[0],[],[(0,none)],false⟩,⟨[0],[],[(7,none)],false⟩,⟨[0],[0,1],[(36,some 0),(37,some 1)],false⟩,⟨[0],[0,1,2],[(38,some 2)],false⟩,⟨[0],[0,1,2,3],[(39,some 3)],false⟩,⟨[0],[],[(3,none)],false⟩,⟨[0],[5],[(41,some 5)],false⟩,⟨[],[0,1,2,3,4,5,6],[],false⟩] 7 (by kernel_rfl) (by kernel_rfl)
     ·refine⟨?_,?_,?_,?_,?_,?_,?_,trivial⟩;iterate 7 (· intro tm hr;simp[AllL,rdV] at hr;simp[hr,Aa e15,← e16];intros;exact KA)
     ·rfl
     ·simp[tmD,putD,Aa e15,← e16];rfl
     ·simp[Aa e15,← e16];intros;rfl
     cases v16 with
     |true=>
      replace h:=iT h;refine CT ?_;obtain⟨e17,v18,e18,h⟩:=ocl h;apply AW.last
      ·simp[Aa e15,← Bk,← e18,Ar e18];intros;refine Ax ?_;try simp[Aa e15,← Bk,← e18,Ar e18]
       intros;refine AD (acc:=Ao y7.2) (ys:=Ao [v15]) (cap:=none) (k:=1) Cl BY (by simp) (by simp[Ao,lvs]) (AH _) (by simp) (by simp) (by first|(simp;done)|simpa using (Aw e17).1) ?_;try simp[Aa e15,← Bk,← e18,Ar e18]
       intros;rfl
      obtain rfl:=oi h;refine nP_i ?_;refine zG [some 0,some 3] hz (by decide) ?_ ?_ rfl;all_goals first|(simp[Ae,Af,pickOb,Fo];done)|rfl
     |false=>
      replace h:=iF h;refine CF ?_;apply AW.skip;try simp only[nm]
      obtain rfl:=oi h;exact nP_i (WM [0,1] hz)
   ·rintro e s⟨rfl,hw⟩;refine⟨_,hw,?_⟩;try simp only[nm]
    obtain⟨v19,e19,h⟩:=ltE h;refine AW.last (by simp[← e19];intros;rfl) ?_;obtain rfl:=oi h;exact nP_i (WM [0,1] hz)
  |false=>
   replace h:=iF h;refine CF ?_;apply AW.exit;try simp only[nm]
   obtain rfl:=oi h;refine xP_i ?_;exact WM [0,1] hz
 ·rintro e s⟨rfl,hw⟩;refine⟨_,hw,?_⟩;try simp only[nm]
  obtain⟨y20,g20,h⟩:=bnE h;refine zC (p:=fun gh ls=>(nP (cx:=cx) (fun q=>(⟨[(5,.l (.r 0 6 0 q.length))],[some ⟨114,6,true,none,lvs (Ao q)⟩],62,gh,ls⟩:St))) y20) ?_ ?_
  ·replace h:=g20;clear g20
   obtain⟨v21,e21,h⟩:=ltE h;refine AW.step (by simp[← e21];intros;rfl) ?_;cases v21 with
   |true=>
    replace h:=iT h;refine CT ?_;obtain⟨e22,v23,e23,h⟩:=ocl h;apply AW.last
    ·simp[← Bk,← e23,Ar e23];intros;refine Ax ?_;try simp[← Bk,← e23,Ar e23]
     intros;refine AD (acc:=Ao y2.2) (ys:=Ao [(⟨a1.key,a1.item⟩:Pair)]) (cap:=none) (k:=1) Cl BY (by simp) (by simp[Ao,lvs]) (AH _) (by simp) (by simp) (by first|(simp;done)|simpa using (Aw e22).1) ?_;try simp[← Bk,← e23,Ar e23]
     intros;rfl
    obtain rfl:=oi h;refine nP_i ?_;refine zG [some 3] hz (by decide) ?_ ?_ rfl;all_goals first|(simp[Ae,Af,pickOb,Fo];done)|rfl
   |false=>
    replace h:=iF h;refine CF ?_;apply AW.skip;try simp only[nm]
    obtain rfl:=oi h;exact nP_i (WM [1] hz)
  ·rintro e s⟨rfl,hw⟩;refine⟨_,hw,?_⟩;try simp only[nm]
   refine ST ?_;obtain⟨e24,h⟩:=chkE h;refine FZ 0 114 6 (AH y20) e24 ?_;obtain rfl:=oi h;apply AW.ret;exact LP hz
theorem Np:Enters Tryz.prog 97:=enters Tryz.func97 (by kernel_rfl) rfl
def Db (n:Nat) (a0:List Pair) (a1:List Effect):Option (List Pair) :=
chk (room a0.length 96) <|
chk (room a0.length 1) <|
bn (iter n (fun (y2:List Pair×Int) =>
lt (lenI a1) fun v6 =>
lt (ltI y2.2 v6) fun v7 =>
ite' v7 (bn (nth a1 y2.2) fun v8 =>
bn (EB n y2.1 v8) fun v9 =>
lt (addI .i64 y2.2 1) fun v10 =>
some (.inl (v9,v10))) (some (.inr y2.1))) (a0,0)) fun (y3:List Pair) =>
some y3
theorem HD {n:Nat} {a0:List Pair} {a1:List Effect} {r:List Pair} (h:Db n a0 a1=some r):Sound Tryz.prog 61 [.l (dA a0),.l (dD a1)] [] (.l (dA r)) []:=by
 unfold Db at h;refine SO 23 Tryz.func61 fun cx hG (hz:cx.nb=0)=>?_;simp only[it];refine ST ?_;obtain⟨e1,h⟩:=chkE h;apply AW.step
 ·simp;intros;refine Ax ?_;try simp
  intros;refine AD (acc:=[]) (ys:=Ao a0) (cap:=none) (k:=a0.length) Cl BY (by simp) (by rw[Ek];simp) (by simp) (by simp) (by simp) (by first|(simp;done)|simpa using (Aw e1).1) ?_;try simp
  intros;rfl
 apply AW.seq;refine ST ?_;apply AW.block;obtain⟨e4,h⟩:=chkE h;obtain⟨y3,g3,h⟩:=bnE h;refine zD g3 (mk:=fun gh ls q=>(⟨[(1,.l (dD a1)),(5,.l (dA q.1)),(6,.l (iA q.2))],[],23,gh,ls⟩:St)) (N:=fun gh ls=>(xP 0 (cx:=cx) (fun q=>(⟨[(5,.l (dA q))],[],23,gh,ls⟩:St)))) ?_ noX ?_ ?_
 ·refine W.frzRow 1 (ty:=114) (cap:=none) (sz:=6) (es:=Ao a0) (by simp) (by omega) (AH _) (by first|exact (Aw e4).2|simpa using (Aw e4).2|simp) (by simp[Tm.frz,AV.frz,LV.frz];rfl) (by simp[Ob.frz,LV.frz];rfl) rfl ?_;exact WM [] hz
 ·clear h;intro y2 y5 h
  apply AW.seq;obtain⟨v6,e6,v7,e7,h⟩:=oll h;refine AW.step (by simp[Ad e6,← e7];intros;rfl) ?_;cases v7 with
  |true=>
   replace h:=iT h;refine CT ?_;apply AW.skip;try simp only[nm]
   apply AW.seq;apply AW.block;obtain⟨v8,e8,h⟩:=bnE h;obtain⟨v9,e9,h⟩:=bnE h;apply AW.last
   ·simp[Aa e8];intros;refine Ab Np (OM e9) rfl ⟨.same rfl,.same rfl,trivial⟩ ?_;try simp[Aa e8]
    intros;rfl
   try simp only[nm]
   obtain⟨v10,e10,h⟩:=ltE h;refine AW.last (by simp[← e10];intros;rfl) ?_;obtain rfl:=oi h;exact nP_i (WM [] hz)
  |false=>
   replace h:=iF h;refine CF ?_;apply AW.exit;try simp only[nm]
   obtain rfl:=oi h;refine xP_i ?_;exact WM [] hz
 ·rintro e s⟨rfl,hw⟩;refine⟨_,hw,?_⟩;try simp only[nm]
  refine ST ?_;obtain rfl:=oi h;apply AW.ret;exact LP hz
theorem G3:Enters Tryz.prog 61:=enters Tryz.func61 (by kernel_rfl) rfl
def D7 (n:Nat) (a0:List Pair) (a1:ByteArray):Option R5Got :=
bn (iter n (fun (y1:Int) =>
lt (lenI a0) fun v4 =>
lt (ltI y1 v4) fun v5 =>
ite' v5 (bn (nth a0 y1) fun v6 =>
lt (eqS v6.key a1) fun v7 =>
ite' v7 (some (.inr (.inr (⟨v6.item,true⟩:R5Got)))) (lt (addI .i64 y1 1) fun v8 =>
some (.inl v8))) (some (.inr (.inl ())))) 0) fun (y2:Unit ⊕ R5Got) =>
sm y2 (fun y9=>some (⟨(⟨0,⟨#[]⟩,[],[],0⟩:Item),false⟩:R5Got)) (fun y10=>some y10)
theorem CH {n:Nat} {a0:List Pair} {a1:ByteArray} {r:R5Got} (h:D7 n a0 a1=some r):Sound Tryz.prog 17 [.l (dA a0),.l (tA a1)] [] (.g (cR0 r)) []:=by
 unfold D7 at h;refine SO 26 Tryz.func17 fun cx hG (hz:cx.nb=0)=>?_;simp only[it];refine ST ?_;apply AW.seq;refine ST ?_;apply AW.block;obtain⟨y2,g2,h⟩:=bnE h;refine zD g2 (mk:=fun gh ls q=>(⟨[(0,.l (dA a0)),(1,.l (tA a1)),(4,.l (.p 0 0)),(5,.l (iA q))],[some ⟨62,6,false,none,cQ0⟩],26,gh,ls⟩:St)) (N:=fun gh ls=>(sp (xP 0 (cx:=cx) (fun _=>(⟨[(4,.l (.p 0 0))],[some ⟨62,6,false,none,cQ0⟩],26,gh,ls⟩:St))) (rP (cx:=cx) (P:=Tryz.prog) Tryz.f17 (fun q=>.g (cR0 q)) (fun q=>[])))) ?_ (noS noX noR) ?_ ?_
 ·exact WM [0] hz
 ·clear h;intro y1 y3 h
  apply AW.seq;obtain⟨v4,e4,v5,e5,h⟩:=oll h;refine AW.step (by simp[Ad e4,← e5];intros;rfl) ?_;cases v5 with
  |true=>
   replace h:=iT h;refine CT ?_;apply AW.skip;try simp only[nm]
   apply AW.seq;apply AW.block;obtain⟨v6,e6,v7,e7,h⟩:=obl h;refine AW.step (by simp[Aa e6,← e7];intros;rfl) ?_;cases v7 with
   |true=>
    replace h:=iT h;refine CT ?_;refine AW.step (by simp[Aa e6];intros;rfl) ?_;obtain rfl:=oi h;apply AW.ret;try simp only[nm]
    refine rP_i ?_;exact LP hz
   |false=>
    replace h:=iF h;refine CF ?_;apply AW.skip;try simp only[nm]
    obtain⟨v8,e8,h⟩:=ltE h;refine AW.last (by simp[← e8];intros;rfl) ?_;obtain rfl:=oi h;exact nP_i (WM [0] hz)
  |false=>
   replace h:=iF h;refine CF ?_;apply AW.exit;try simp only[nm]
   obtain rfl:=oi h;try simp only[sp_l,sp_r]
   refine xP_i ?_;exact WM [0] hz
 ·rintro e s hp;rcases y2 with y9|y10
  ·replace h:=smL h;obtain⟨rfl,hw⟩:=hp;refine⟨_,hw,?_⟩;try simp only[nm]
   refine ST ?_;refine AW.nilCellD 0 2 2 rfl rfl rfl rfl ?_;refine AW.nilCellD 0 3 1 rfl rfl rfl rfl ?_;obtain rfl:=oi h;apply AW.ret;exact LP hz
  ·replace h:=smR h;obtain⟨rfl,hl⟩:=hp;refine⟨_,Weak.refl _,?_⟩;obtain rfl:=oi h;exact hl
theorem Ch:Enters Tryz.prog 17:=enters Tryz.func17 (by kernel_rfl) rfl
def Dx (n:Nat) (a0:ByteArray):Option ByteArray :=
bn (iter n (fun (y1:Int) =>
lt (lenS a0) fun v4 =>
lt (ltI y1 v4) fun v5 =>
ite' v5 (bn (atS a0 y1) fun v6 =>
lt (neI v6 123) fun v8 =>
ite' v8 (lt (addI .i64 y1 1) fun v9 =>
some (.inl v9)) (lt (addI .i64 y1 1) fun v10 =>
bn (iter n (fun (y11:Int) =>
lt (lenS a0) fun v14 =>
lt (ltI y11 v14) fun v15 =>
ite' v15 (bn (atS a0 y11) fun v16 =>
lt (eqI v16 125) fun v18 =>
ite' v18 (lt (addI .i64 y1 1) fun v19 =>
lt (eqI y11 v19) fun v20 =>
ite' v20 (some (.inr (.inr a0))) (bn (segSlh a0 v19 y11) fun v21 =>
some (.inr (.inr v21)))) (lt (addI .i64 y11 1) fun v23 =>
some (.inl v23))) (some (.inr (.inl ())))) v10) fun (y12:Unit ⊕ ByteArray) =>
sm y12 (fun y24=>some (.inr (.inr a0))) (fun y25=>some (.inr (.inr y25))))) (some (.inr (.inl ())))) 0) fun (y2:Unit ⊕ ByteArray) =>
sm y2 (fun y26=>some a0) (fun y27=>some y27)
theorem QS {n:Nat} {a0:ByteArray} {r:ByteArray} (h:Dx n a0=some r):Sound Tryz.prog 31 [.l (tA a0)] [] (.l (tA r)) []:=by
 unfold Dx at h;refine SO 39 Tryz.func31 fun cx hG (hz:cx.nb=0)=>?_;simp only[it];refine ST ?_;apply AW.seq;refine ST ?_;apply AW.block;obtain⟨y2,g2,h⟩:=bnE h;refine zD g2 (mk:=fun gh ls q=>(⟨[(0,.l (tA a0)),(3,.l (iA q))],[],39,gh,ls⟩:St)) (N:=fun gh ls=>(sp (xP 0 (cx:=cx) (fun _=>(⟨[(0,.l (tA a0))],[],39,gh,ls⟩:St))) (rP (cx:=cx) (P:=Tryz.prog) Tryz.f31 (fun q=>.l (tA q)) (fun q=>[])))) ?_ (noS noX noR) ?_ ?_
 ·exact WM [] hz
 ·clear h;intro y1 y3 h
  apply AW.seq;obtain⟨v4,e4,v5,e5,h⟩:=oll h;refine AW.step (by simp[← e4,← e5];intros;rfl) ?_;cases v5 with
  |true=>
   replace h:=iT h;refine CT ?_;apply AW.skip;try simp only[nm]
   apply AW.seq;apply AW.block;apply AW.seq;obtain⟨v6,e6,h⟩:=bnE h;have f7:=LT e6;try simp at f7
   obtain⟨v8,e8,h⟩:=ltE h;refine AW.step (by simp[f7,← e8];intros;rfl) ?_;cases v8 with
   |true=>
    replace h:=iT h;refine CT ?_;apply AW.exit;try simp only[nm]
    obtain⟨v9,e9,h⟩:=ltE h;refine AW.last (by simp[← e9];intros;rfl) ?_;obtain rfl:=oi h;exact nP_i (WM [] hz)
   |false=>
    replace h:=iF h;refine CF ?_;apply AW.skip;try simp only[nm]
    apply AW.seq;obtain⟨v10,e10,h⟩:=ltE h;refine AW.step (by simp[← e10];intros;rfl) ?_;apply AW.block;obtain⟨y12,g12,h⟩:=bnE h;refine zD g12 (mk:=fun gh ls q=>(⟨[(0,.l (tA a0)),(3,.l (iA y1)),(4,.l (iA q))],[],39,gh,ls⟩:St)) (N:=fun gh ls=>(sp (xP 2 (cx:=cx) (fun _=>(⟨[(0,.l (tA a0))],[],39,gh,ls⟩:St))) (rP (cx:=cx) (P:=Tryz.prog) Tryz.f31 (fun q=>.l (tA q)) (fun q=>[])))) ?_ (noS noX noR) ?_ ?_
    ·exact WM [] hz
    ·clear h;intro y11 y13 h
     apply AW.seq;obtain⟨v14,e14,v15,e15,h⟩:=oll h;refine AW.step (by simp[← e14,← e15];intros;rfl) ?_;cases v15 with
     |true=>
      replace h:=iT h;refine CT ?_;apply AW.skip;try simp only[nm]
      apply AW.seq;apply AW.block;obtain⟨v16,e16,h⟩:=bnE h;have f17:=LT e16;try simp at f17
      obtain⟨v18,e18,h⟩:=ltE h;refine AW.step (by simp[f17,← e18];intros;rfl) ?_;cases v18 with
      |true=>
       replace h:=iT h;refine CT ?_;apply AW.seq;obtain⟨v19,e19,v20,e20,h⟩:=oll h;refine AW.step (by simp[← e19,← e20];intros;rfl) ?_;cases v20 with
       |true=>
        replace h:=iT h;refine CT ?_;refine ST ?_;obtain rfl:=oi h;apply AW.ret;try simp only[nm]
        refine rP_i ?_;exact LP hz
       |false=>
        replace h:=iF h;refine CF ?_;apply AW.skip;try simp only[nm]
        obtain⟨v21,e21,h⟩:=bnE h;have f22:=QJ e21;try simp[← e19] at f22
        refine AW.step (by simp[← e19,f22];intros;rfl) ?_;obtain rfl:=oi h;apply AW.ret;try simp only[nm]
        refine rP_i ?_;exact LP hz
      |false=>
       replace h:=iF h;refine CF ?_;apply AW.skip;try simp only[nm]
       obtain⟨v23,e23,h⟩:=ltE h;refine AW.last (by simp[← e23];intros;rfl) ?_;obtain rfl:=oi h;exact nP_i (WM [] hz)
     |false=>
      replace h:=iF h;refine CF ?_;apply AW.exit;try simp only[nm]
      obtain rfl:=oi h;try simp only[sp_l,sp_r]
      refine xP_i ?_;exact WM [] hz
    ·rintro e s hp;rcases y12 with y24|y25
     ·replace h:=smL h;obtain⟨rfl,hw⟩:=hp;refine⟨_,hw,?_⟩;try simp only[nm]
      refine ST ?_;obtain rfl:=oi h;apply AW.ret;try simp only[nm]
      refine rP_i ?_;exact LP hz
     ·replace h:=smR h;obtain⟨rfl,hl⟩:=hp;refine⟨_,Weak.refl _,?_⟩;obtain rfl:=oi h;first|exact rP_i hl|(simp only[sp_l,sp_r];exact rP_i hl)|(simp only[sp_l,sp_r,Post.seq,Post.block,Nat.reduceEqDiff,reduceIte,Nat.zero_ne_one,Nat.one_ne_zero];exact rP_i hl)
  |false=>
   replace h:=iF h;refine CF ?_;apply AW.exit;try simp only[nm]
   obtain rfl:=oi h;try simp only[sp_l,sp_r]
   refine xP_i ?_;exact WM [] hz
 ·rintro e s hp;rcases y2 with y26|y27
  ·replace h:=smL h;obtain⟨rfl,hw⟩:=hp;refine⟨_,hw,?_⟩;try simp only[nm]
   refine ST ?_;obtain rfl:=oi h;apply AW.ret;exact LP hz
  ·replace h:=smR h;obtain⟨rfl,hl⟩:=hp;refine⟨_,Weak.refl _,?_⟩;obtain rfl:=oi h;exact hl
theorem PR:Enters Tryz.prog 31:=enters Tryz.func31 (by kernel_rfl) rfl
def F0 (n:Nat) (a0:ByteArray):Option Int :=
bn (iter n (fun (y1:Int×Int) =>
lt (lenS a0) fun v4 =>
lt (ltI y1.2 v4) fun v5 =>
ite' v5 (bn (atS a0 y1.2) fun v6 =>
lt (cvI .i64 v6) fun v8 =>
bn (shlI .i64 v8 8) fun v9 =>
lt (xorI .i64 y1.1 v9) fun v10 =>
bn (iter n (fun (y11:Int×Int) =>
lt (ltI y11.2 8) fun v14 =>
ite' v14 (bn (bn (shlI .i64 y11.1 1) fun v16 =>
lt (geI v16 65536) fun v17 =>
ite' v17 (lt (xorI .i64 v16 4129) fun v18 =>
lt (andI .i64 v18 65535) fun v19 =>
some (v19)) (some (v16))) fun (y15:Int) =>
lt (addI .i64 y11.2 1) fun v20 =>
some (.inl (y15,v20))) (some (.inr y11.1))) (v10,0)) fun (y12:Int) =>
lt (addI .i64 y1.2 1) fun v21 =>
some (.inl (y12,v21))) (some (.inr y1.1))) (0,0)) fun (y2:Int) =>
some y2
theorem QT {n:Nat} {a0:ByteArray} {r:Int} (h:F0 n a0=some r):Sound Tryz.prog 30 [.l (tA a0)] [] (.l (iA r)) []:=by
 unfold F0 at h;refine SO 31 Tryz.func30 fun cx hG (hz:cx.nb=0)=>?_;simp only[it];refine ST ?_;refine ST ?_;apply AW.seq;refine ST ?_;apply AW.block;obtain⟨y2,g2,h⟩:=bnE h;refine zD g2 (mk:=fun gh ls q=>(⟨[(0,.l (tA a0)),(3,.l (iA q.1)),(4,.l (iA q.2))],[],31,gh,ls⟩:St)) (N:=fun gh ls=>(xP 0 (cx:=cx) (fun q=>(⟨[(3,.l (iA q))],[],31,gh,ls⟩:St)))) ?_ noX ?_ ?_
 ·exact WM [] hz
 ·clear h;intro y1 y3 h
  apply AW.seq;obtain⟨v4,e4,v5,e5,h⟩:=oll h;refine AW.step (by simp[← e4,← e5];intros;rfl) ?_;cases v5 with
  |true=>
   replace h:=iT h;refine CT ?_;apply AW.skip;try simp only[nm]
   apply AW.seq;apply AW.block;obtain⟨v6,e6,h⟩:=bnE h;have f7:=LT e6;try simp at f7
   obtain⟨v8,e8,v9,e9,h⟩:=olb h;obtain⟨v10,e10,h⟩:=ltE h;refine AW.step (by simp[f7,← e8,e9,← e10];intros;rfl) ?_;refine ST ?_;apply AW.block;obtain⟨y12,g12,h⟩:=bnE h;refine zD g12 (mk:=fun gh ls q=>(⟨[(0,.l (tA a0)),(3,.l (iA q.1)),(4,.l (iA y1.2)),(5,.l (iA q.2))],[],31,gh,ls⟩:St)) (N:=fun gh ls=>(xP 2 (cx:=cx) (fun q=>(⟨[(0,.l (tA a0)),(3,.l (iA q)),(4,.l (iA y1.2))],[],31,gh,ls⟩:St)))) ?_ noX ?_ ?_
   ·exact WM [] hz
   ·clear h;intro y11 y13 h
    apply AW.seq;obtain⟨v14,e14,h⟩:=ltE h;refine AW.step (by simp[← e14];intros;rfl) ?_;cases v14 with
    |true=>
     replace h:=iT h;refine CT ?_;apply AW.skip;try simp only[nm]
     obtain⟨y15,g15,h⟩:=bnE h;refine zC (p:=fun gh ls=>(nP (cx:=cx) (fun q=>(⟨[(0,.l (tA a0)),(3,.l (iA q)),(4,.l (iA y1.2)),(5,.l (iA y11.2))],[],31,gh,ls⟩:St))) y15) ?_ ?_
     ·replace h:=g15;clear g15
      apply AW.block;obtain⟨v16,e16,h⟩:=bnE h;refine AW.step (by simp[e16];intros;rfl) ?_;obtain⟨v17,e17,h⟩:=ltE h;refine AW.step (by simp[← e17];intros;rfl) ?_;cases v17 with
      |true=>
       replace h:=iT h;refine CT ?_;obtain⟨v18,e18,v19,e19,h⟩:=oll h;refine AW.last (by simp[← e18,← e19];intros;rfl) ?_;obtain rfl:=oi h;exact nP_i (WM [] hz)
      |false=>
       replace h:=iF h;refine CF ?_;apply AW.skip;try simp only[nm]
       obtain rfl:=oi h;exact nP_i (WM [] hz)
     ·rintro e s⟨rfl,hw⟩;refine⟨_,hw,?_⟩;try simp only[nm]
      obtain⟨v20,e20,h⟩:=ltE h;refine AW.last (by simp[← e20];intros;rfl) ?_;obtain rfl:=oi h;exact nP_i (WM [] hz)
    |false=>
     replace h:=iF h;refine CF ?_;apply AW.exit;try simp only[nm]
     obtain rfl:=oi h;refine xP_i ?_;exact WM [] hz
   ·rintro e s⟨rfl,hw⟩;refine⟨_,hw,?_⟩;try simp only[nm]
    obtain⟨v21,e21,h⟩:=ltE h;refine AW.last (by simp[← e21];intros;rfl) ?_;obtain rfl:=oi h;exact nP_i (WM [] hz)
  |false=>
   replace h:=iF h;refine CF ?_;apply AW.exit;try simp only[nm]
   obtain rfl:=oi h;refine xP_i ?_;exact WM [] hz
 ·rintro e s⟨rfl,hw⟩;refine⟨_,hw,?_⟩;try simp only[nm]
  refine ST ?_;obtain rfl:=oi h;apply AW.ret;exact LP hz
theorem PS:Enters Tryz.prog 30:=enters Tryz.func30 (by kernel_rfl) rfl
def Cc (n:Nat) (a0:ByteArray):Option Int :=
bn (Dx n a0) fun v1 =>
bn (F0 n v1) fun v2 =>
bn (remI .i64 v2 16384) fun v3 =>
some v3
theorem E9 {n:Nat} {a0:ByteArray} {r:Int} (h:Cc n a0=some r):Sound Tryz.prog 9 [.l (tA a0)] [] (.l (iA r)) []:=by
 unfold Cc at h;refine SO 7 Tryz.func9 fun cx hG (hz:cx.nb=0)=>?_;simp only[it];refine ST ?_;obtain⟨v1,e1,h⟩:=bnE h;obtain⟨v2,e2,h⟩:=bnE h;obtain⟨v3,e3,h⟩:=bnE h;apply AW.step
 ·simp[e3];intros;refine Ab PR (QS e1) rfl ⟨.same rfl,trivial⟩ ?_;try simp[e3]
  intros;refine Ab PS (QT e2) rfl ⟨.same rfl,trivial⟩ ?_;try simp[e3]
  intros;rfl
 obtain rfl:=oi h;apply AW.ret;exact LP hz
theorem Em:Enters Tryz.prog 9:=enters Tryz.func9 (by kernel_rfl) rfl
def GA (n:Nat) (a0:List Pair) (a1:Int):Option (List ByteArray) :=
bn (iter n (fun (y1:Int×List ByteArray) =>
lt (lenI a0) fun v4 =>
lt (ltI y1.1 v4) fun v5 =>
ite' v5 (bn (bn (nth a0 y1.1) fun v7 =>
bn (Cc n v7.key) fun v8 =>
lt (eqI v8 a1) fun v9 =>
ite' v9 (chk (room (y1.2.length+1) 16) <|
lt (y1.2++[v7.key]) fun v11 =>
some (v11)) (some (y1.2))) fun (y6:List ByteArray) =>
lt (addI .i64 y1.1 1) fun v12 =>
some (.inl (v12,y6))) (some (.inr y1.2))) (0,[])) fun (y2:List ByteArray) =>
chk (room y2.length 1) <|
some y2
theorem R9 {n:Nat} {a0:List Pair} {a1:Int} {r:List ByteArray} (h:GA n a0 a1=some r):Sound Tryz.prog 26 [.l (dA a0),.l (iA a1)] [] (.l (dH r)) []:=by
 unfold GA at h;refine SO 30 Tryz.func26 fun cx hG (hz:cx.nb=0)=>?_;simp only[it];refine ST ?_;refine ST ?_;apply AW.seq;refine ST ?_;apply AW.block;obtain⟨y2,g2,h⟩:=bnE h;refine zD g2 (mk:=fun gh ls q=>(⟨[(0,.l (dA a0)),(1,.l (iA a1)),(5,.l (.r 0 1 0 q.2.length)),(6,.l (iA q.1))],[some ⟨9,1,true,none,lvs (encS q.2)⟩],30,gh,ls⟩:St)) (N:=fun gh ls=>(xP 0 (cx:=cx) (fun q=>(⟨[(5,.l (.r 0 1 0 q.length))],[some ⟨9,1,true,none,lvs (encS q)⟩],30,gh,ls⟩:St)))) ?_ noX ?_ ?_
 ·refine W.nilRow 5 9 1 0 (by simp) rfl rfl ?_;exact WM [0] hz
 ·clear h;intro y1 y3 h
  apply AW.seq;obtain⟨v4,e4,v5,e5,h⟩:=oll h;refine AW.step (by simp[Ad e4,← e5];intros;rfl) ?_;cases v5 with
  |true=>
   replace h:=iT h;refine CT ?_;apply AW.skip;try simp only[nm]
   obtain⟨y6,g6,h⟩:=bnE h;refine zC (p:=fun gh ls=>(nP (cx:=cx) (fun q=>(⟨[(0,.l (dA a0)),(1,.l (iA a1)),(5,.l (.r 0 1 0 q.length)),(6,.l (iA y1.1))],[some ⟨9,1,true,none,lvs (encS q)⟩],30,gh,ls⟩:St))) y6) ?_ ?_
   ·replace h:=g6;clear g6
    apply AW.block;obtain⟨v7,e7,v8,e8,v9,e9,h⟩:=obbl h;apply AW.step
    ·simp[Aa e7,← e9];intros;refine Ab Em (E9 e8) rfl ⟨.same rfl,trivial⟩ ?_;try simp[Aa e7,← e9]
     intros;rfl
    cases v9 with
    |true=>
     replace h:=iT h;refine CT ?_;obtain⟨e10,v11,e11,h⟩:=ocl h;apply AW.last
     ·simp[Aa e7,← Be,← e11,Ar e11];intros;refine Ax ?_;try simp[Aa e7,← Be,← e11,Ar e11]
      intros;refine AD (acc:=encS y1.2) (ys:=encS [v7.key]) (cap:=none) (k:=1) E7 FV (by simp) (by simp[encS,lvs]) (Dh _) (by simp) (by simp) (by first|(simp;done)|simpa using (Aw e10).1) ?_;try simp[Aa e7,← Be,← e11,Ar e11]
      intros;rfl
     obtain rfl:=oi h;refine nP_i ?_;refine zG [some 2] hz (by decide) ?_ ?_ rfl;all_goals first|(simp[Ae,Af,pickOb,FW];done)|rfl
    |false=>
     replace h:=iF h;refine CF ?_;apply AW.skip;try simp only[nm]
     obtain rfl:=oi h;exact nP_i (WM [0] hz)
   ·rintro e s⟨rfl,hw⟩;refine⟨_,hw,?_⟩;try simp only[nm]
    obtain⟨v12,e12,h⟩:=ltE h;refine AW.last (by simp[← e12];intros;rfl) ?_;obtain rfl:=oi h;exact nP_i (WM [0] hz)
  |false=>
   replace h:=iF h;refine CF ?_;apply AW.exit;try simp only[nm]
   obtain rfl:=oi h;refine xP_i ?_;exact WM [0] hz
 ·rintro e s⟨rfl,hw⟩;refine⟨_,hw,?_⟩;try simp only[nm]
  refine ST ?_;obtain⟨e13,h⟩:=chkE h;refine FZ 0 9 1 (Dh y2) e13 ?_;obtain rfl:=oi h;apply AW.ret;exact LP hz
theorem QU:Enters Tryz.prog 26:=enters Tryz.func26 (by kernel_rfl) rfl
def En (n:Nat) (a0:Feed) (a1:List Effect):Option Feed :=
chk (room a0.back.length 104) <|
chk (room (a0.back.length+a1.length) 104) <|
lt (a0.back++a1) fun v3 =>
lt (lenI a1) fun v4 =>
lt (addI .i64 a0.off v4) fun v5 =>
chk (room v3.length 1) <|
lt (lenI v3) fun v7 =>
lt (subI .i64 v7 64) fun v8 =>
lt (maxI 0 v8) fun v9 =>
bn (segl v3 v9) fun v10 =>
some (⟨a0.rid,v5,v10,a0.prev,a0.upto⟩:Feed)
theorem Ld {n:Nat} {a0:Feed} {a1:List Effect} {r:Feed} (h:En n a0 a1=some r):Sound Tryz.prog 62 [.g [iA a0.rid.node,iA a0.rid.epoch,iA a0.off,dD a0.back,iA a0.prev.node,iA a0.prev.epoch,iA a0.upto],.l (dD a1)] [] (.g [iA r.rid.node,iA r.rid.epoch,iA r.off,dD r.back,iA r.prev.node,iA r.prev.epoch,iA r.upto]) []:=by
 unfold En at h;refine SO 27 Tryz.func62 fun cx hG (hz:cx.nb=0)=>?_;simp only[it];refine ST ?_;obtain⟨e1,h⟩:=chkE h;apply AW.step
 ·simp;intros;refine Ax ?_;try simp
  intros;refine AD (acc:=[]) (ys:=An a0.back) (cap:=none) (k:=a0.back.length) Hg Hc (by simp) (by rw[Ek];simp) (by simp) (by simp) (by simp) (by first|(simp;done)|simpa using (Aw e1).1) ?_;try simp
  intros;rfl
 obtain⟨e2,v3,e3,h⟩:=ocl h;apply AW.step
 ·simp[← BZ,← e3,Cn e3];intros;refine AD (acc:=An a0.back) (ys:=An a1) (cap:=none) (k:=a1.length) Hg Hc (by simp) (by rw[Ek];simp) (Bh _) (by simp) (by simp) (by first|(simp;done)|simpa using (Aw e2).1) ?_;try simp[← BZ,← e3,Cn e3]
  intros;rfl
 obtain⟨v4,e4,v5,e5,h⟩:=oll h;refine AW.step (by simp[Ad e4,← e5];intros;rfl) ?_;obtain⟨e6,h⟩:=chkE h;refine FZ 4 59 7 (Bh v3) e6 ?_;obtain⟨v7,e7,v8,e8,v9,e9,h⟩:=olll h;obtain⟨v10,e10,h⟩:=bnE h;have f11:=Hk e10;try simp[Ad e7,← e8,← e9] at f11
 refine AW.step (by simp[Ad e7,← e8,← e9,f11];intros;rfl) ?_;refine ST ?_;obtain rfl:=oi h;apply AW.ret;exact LP hz
theorem JY:Enters Tryz.prog 62:=enters Tryz.func62 (by kernel_rfl) rfl
def DZ (n:Nat) (a0:Pair) (a1:ByteArray):Option Int :=
lt (cmpB a0.key a1) fun v1 =>
some v1
theorem Hl {n:Nat} {a0:Pair} {a1:ByteArray} {r:Int} (h:DZ n a0 a1=some r):Sound Tryz.prog 127 [.g [tA a0.key,iA a0.item.kind,tA a0.item.s,dE a0.item.f,dH a0.item.l,iA a0.item.exp],.l (tA a1)] [] (.l (iA r)) []:=by
 unfold DZ at h;refine SO 9 Tryz.func127 fun cx hG (hz:cx.nb=0)=>?_;simp only[it];refine ST ?_;obtain⟨v1,e1,h⟩:=ltE h;apply AW.step
 ·simp[← e1];intros;refine Ab HS (Ih a0.key a1) rfl ⟨.same rfl,.same rfl,trivial⟩ ?_;try simp[← e1]
  intros;rfl
 obtain rfl:=oi h;apply AW.ret;exact LP hz
theorem GS:Enters Tryz.prog 127:=enters Tryz.func127 (by kernel_rfl) rfl
def A1 (n:Nat) (a0:List Pair) (a1:ByteArray):Option (Int×Bool) :=
lt (lenI a0) fun v1 =>
bn (iter n (fun (y2:Int×Int) =>
lt (ltI y2.1 y2.2) fun v5 =>
ite' v5 (lt (addI .i64 y2.1 y2.2) fun v6 =>
lt (cvI .u64 v6) fun v7 =>
bn (shrI .u64 v7 1) fun v8 =>
lt (cvI .i64 v8) fun v9 =>
bn (nth a0 v9) fun v10 =>
bn (DZ n v10 a1) fun v11 =>
lt (ltI v11 0) fun v12 =>
ite' v12 (lt (addI .i64 v9 1) fun v13 =>
some (.inl (v13,y2.2))) (some (.inl (y2.1,v9)))) (some (.inr y2.1))) (0,v1)) fun (y3:Int) =>
bn (lt (ltI y3 v1) fun v15 =>
ite' v15 (bn (nth a0 y3) fun v16 =>
bn (DZ n v16 a1) fun v17 =>
lt (eqI v17 0) fun v18 =>
some (v18)) (some (false))) fun (y14:Bool) =>
some (y3,y14)
theorem EZ {n:Nat} {a0:List Pair} {a1:ByteArray} {r:Int×Bool} (h:A1 n a0 a1=some r):Sound Tryz.prog 126 [.l (dA a0),.l (tA a1),.l (.s (.func (.func 127) #[] #[]))] [] (.t [(false,[iA r.1]),(false,[bA r.2])]) []:=by
 unfold A1 at h;refine SO 49 Tryz.func126 fun cx hG (hz:cx.nb=0)=>?_;simp only[it];refine ST ?_;obtain⟨v1,e1,h⟩:=ltE h;refine AW.step (by simp[Ad e1];intros;rfl) ?_;refine ST ?_;apply AW.seq;apply AW.block;obtain⟨y3,g3,h⟩:=bnE h;refine zD g3 (mk:=fun gh ls q=>(⟨[(0,.l (dA a0)),(1,.l (tA a1)),(2,.l (.s (.func (.func 127) #[] #[]))),(8,.l (iA v1)),(9,.l (iA q.1)),(10,.l (iA q.2))],[],49,gh,ls⟩:St)) (N:=fun gh ls=>(xP 0 (cx:=cx) (fun q=>(⟨[(0,.l (dA a0)),(1,.l (tA a1)),(2,.l (.s (.func (.func 127) #[] #[]))),(8,.l (iA v1)),(9,.l (iA q))],[],49,gh,ls⟩:St)))) ?_ noX ?_ ?_
 ·exact WM [] hz
 ·clear h;intro y2 y4 h
  apply AW.seq;obtain⟨v5,e5,h⟩:=ltE h;refine AW.step (by simp[← e5];intros;rfl) ?_;cases v5 with
  |true=>
   replace h:=iT h;refine CT ?_;apply AW.skip;try simp only[nm]
   apply AW.block;obtain⟨v6,e6,v7,e7,h⟩:=oll h;obtain⟨v8,e8,v9,e9,h⟩:=obl h;refine AW.step (by simp[← e6,← e7,e8,← e9];intros;rfl) ?_;obtain⟨v10,e10,v11,e11,v12,e12,h⟩:=obbl h;apply AW.step
   ·simp[Aa e10,← e12];intros;refine Ab GS (Hl e11) rfl ⟨.same rfl,.same rfl,trivial⟩ ?_;try simp[Aa e10,← e12]
    intros;rfl
   cases v12 with
   |true=>
    replace h:=iT h;refine CT ?_;obtain⟨v13,e13,h⟩:=ltE h;refine AW.last (by simp[← e13];intros;rfl) ?_;obtain rfl:=oi h;exact nP_i (WM [] hz)
   |false=>
    replace h:=iF h;refine CF ?_;refine SL ?_;obtain rfl:=oi h;exact nP_i (WM [] hz)
  |false=>
   replace h:=iF h;refine CF ?_;apply AW.exit;try simp only[nm]
   obtain rfl:=oi h;refine xP_i ?_;exact WM [] hz
 ·rintro e s⟨rfl,hw⟩;refine⟨_,hw,?_⟩;try simp only[nm]
  obtain⟨y14,g14,h⟩:=bnE h;refine zC (p:=fun gh ls=>(nP (cx:=cx) (fun q=>(⟨[(6,.l (iA y3)),(7,.l (bA q))],[],49,gh,ls⟩:St))) y14) ?_ ?_
  ·replace h:=g14;clear g14
   obtain⟨v15,e15,h⟩:=ltE h;cases v15 with
   |true=>
    replace h:=iT h;obtain⟨v16,e16,v17,e17,v18,e18,h⟩:=obbl h;apply AW.last
    ·simp[← e15,Aa e16,← e18];intros;refine Ab GS (Hl e17) rfl ⟨.same rfl,.same rfl,trivial⟩ ?_;try simp[← e15,Aa e16,← e18]
     intros;rfl
    obtain rfl:=oi h;exact nP_i (WM [] hz)
   |false=>
    replace h:=iF h;refine AW.last (by simp[← e15];intros;rfl) ?_;obtain rfl:=oi h;exact nP_i (WM [] hz)
  ·rintro e s⟨rfl,hw⟩;refine⟨_,hw,?_⟩;try simp only[nm]
   obtain rfl:=oi h;apply AW.ret;exact LP hz
theorem EC:Enters Tryz.prog 126:=enters Tryz.func126 (by kernel_rfl) rfl
def DJ (n:Nat) (a0:List Pair) (a1:ByteArray):Option (Int×Bool) :=
bn (A1 n a0 a1) fun v1 =>
some (v1.1,v1.2)
theorem Mz {n:Nat} {a0:List Pair} {a1:ByteArray} {r:Int×Bool} (h:DJ n a0 a1=some r):Sound Tryz.prog 107 [.l (dA a0),.l (tA a1)] [] (.t [(false,[iA r.1]),(false,[bA r.2])]) []:=by
 unfold DJ at h;refine SO 11 Tryz.func107 fun cx hG (hz:cx.nb=0)=>?_;simp only[it];refine ST ?_;obtain⟨v1,e1,h⟩:=bnE h;apply AW.step
 ·simp;intros;refine Ab EC (EZ e1) rfl ⟨.same rfl,.same rfl,.same rfl,trivial⟩ ?_;try simp
  intros;rfl
 obtain rfl:=oi h;apply AW.ret;exact LP hz
theorem Lx:Enters Tryz.prog 107:=enters Tryz.func107 (by kernel_rfl) rfl
def BM (n:Nat) (a0:Item):Option Item :=
chk (small 32 a0.f) <|
chk (small 16 a0.l) <|
chk (room a0.f.length 1) <|
chk (room a0.l.length 1) <|
some a0
theorem ED {n:Nat} {a0:Item} {r:Item} (h:BM n a0=some r):Sound Tryz.prog 108 [.g (cE0 a0)] [] (.g (cE0 r)) []:=by
 unfold BM at h;refine SO 12 Tryz.func108 fun cx hG (hz:cx.nb=0)=>?_;simp only[it];refine ST ?_;obtain⟨e1,h⟩:=chkE h;obtain⟨e2,h⟩:=chkE h;apply zM (V:=[_,_,_,_,_,_,_]) (M:=[[some ⟨57,5,false,none,(cE0 a0)⟩,some ⟨57,5,false,none,cP0⟩],[some ⟨57,5,false,none,(cE0 a0)⟩,some ⟨57,5,false,none,cP0⟩,some ⟨157,2,true,none,lvs (Av a0.f)⟩],[some ⟨57,5,false,none,(cE0 a0)⟩,some ⟨57,5,false,none,cP0⟩,some ⟨157,2,true,none,lvs (Av a0.f)⟩,some ⟨9,1,true,none,lvs (encS a0.l)⟩]]) mixed [⟨[0],[],[(1,none)],false⟩,⟨[0],[0],[(3,some 0)],false⟩,⟨[0],[0,1],[(4,some 1)],true⟩,⟨[0,1],[],[(1,none)],false⟩,⟨[0,1],[3],[(6,some 3)],false⟩,⟨[1],[0,1,2,3,4],[(7,some 4)],true⟩,⟨[1,2],[0,1,2,3,4],[(1,none)],false⟩,⟨[],[0,1,2,3,4,5,6],[],false⟩,⟨[],[0,1,2,3,4,5,6,7],[],false⟩,⟨[],[0,1,2,3,4,5,6,7,8],[],false⟩] 7 2 (by kernel_rfl) (by kernel_rfl)
 ·rfl
 ·refine⟨?_,?_,?_,⟨?_,?_⟩,⟨?_,?_⟩,?_,⟨?_,?_⟩,trivial⟩;iterate 2 (· intro tm hr;simp[AllL,rdV] at hr;simp[hr,outR];intros;exact KA)
  ·intro tm hr;simp[AllL,rdV] at hr;simp[hr,outR];intros;refine AS I6 (JW a0.f (B0 e1)) rfl (by simp) ⟨.d _ _ _,trivial⟩ ?_;try simp[outR]
   intros;exact KA
  iterate 4 (· intro tm hr;simp[AllL,rdV] at hr;simp[hr,outR];intros;exact KA)
  ·intro tm hr;simp[AllL,rdV] at hr;simp[hr,outR];intros;refine AS N7 (PK a0.l (B0 e2)) rfl (by simp) ⟨.d _ _ _,trivial⟩ ?_;try simp[outR]
   intros;exact KA
  iterate 2 (· intro tm hr;simp[AllL,rdV] at hr;simp[hr,outR];intros;exact KA)
 ·rfl
 ·simp[tmD,putD,outR];rfl
 ·simp[outR];intros;rfl
 refine ST ?_;obtain⟨e3,h⟩:=chkE h;refine FZ 2 157 2 (DR a0.f) e3 ?_;obtain⟨e4,h⟩:=chkE h;refine FZ 3 9 1 (Dh a0.l) e4 ?_;obtain rfl:=oi h;apply AW.ret;exact LP hz
theorem D8:Enters Tryz.prog 108:=enters Tryz.func108 (by kernel_rfl) rfl
def D9 (n:Nat) (a0:List Pair) (a1:ByteArray):Option (Item×Bool) :=
bn (DJ n a0 a1) fun v1 =>
lt (notB v1.2) fun v2 =>
ite' v2 (some ((⟨0,⟨#[]⟩,[],[],0⟩:Item),false)) (bn (nth a0 v1.1) fun v3 =>
bn (BM n v3.item) fun v4 =>
some (v4,true))
theorem Nq {n:Nat} {a0:List Pair} {a1:ByteArray} {r:Item×Bool} (h:D9 n a0 a1=some r):Sound Tryz.prog 80 [.l (dA a0),.l (tA a1)] [] (.t [(true,(cE0 r.1)),(false,[bA r.2])]) []:=by
 unfold D9 at h;refine SO 23 Tryz.func80 fun cx hG (hz:cx.nb=0)=>?_;simp only[it];refine ST ?_;obtain⟨v1,e1,h⟩:=bnE h;apply AW.step
 ·simp;intros;refine Ab Lx (Mz e1) rfl ⟨.same rfl,.same rfl,trivial⟩ ?_;try simp
  intros;rfl
 apply AW.seq;obtain⟨v2,e2,h⟩:=ltE h;refine AW.step (by simp[← e2];intros;rfl) ?_;cases v2 with
 |true=>
  replace h:=iT h;refine CT ?_;refine ST ?_;refine AW.nilCellD 0 2 2 rfl rfl rfl rfl ?_;refine AW.nilCellD 0 3 1 rfl rfl rfl rfl ?_;obtain rfl:=oi h;apply AW.ret;exact LP hz
 |false=>
  replace h:=iF h;refine CF ?_;apply AW.skip;try simp only[nm]
  obtain⟨v3,e3,h⟩:=bnE h;obtain⟨v4,e4,h⟩:=bnE h;apply AW.step
  ·simp[Aa e3];intros;refine Ab D8 (ED e4) rfl ⟨.same rfl,trivial⟩ ?_;try simp[Aa e3]
   intros;rfl
  obtain rfl:=oi h;apply AW.ret;exact LP hz
theorem MA:Enters Tryz.prog 80:=enters Tryz.func80 (by kernel_rfl) rfl
def CZ (n:Nat) (a0:Pair) (a1:ByteArray):Option Int :=
lt (cmpB a0.key a1) fun v1 =>
some v1
theorem Ge {n:Nat} {a0:Pair} {a1:ByteArray} {r:Int} (h:CZ n a0 a1=some r):Sound Tryz.prog 127 [.g [tA a0.key,iA a0.item.kind,tA a0.item.s,.d true 2 (Av a0.item.f),.d true 1 (encS a0.item.l),iA a0.item.exp],.l (tA a1)] [] (.l (iA r)) []:=by
 unfold CZ at h;refine SO 9 Tryz.func127 fun cx hG (hz:cx.nb=0)=>?_;simp only[it];refine ST ?_;obtain⟨v1,e1,h⟩:=ltE h;apply AW.step
 ·simp[← e1];intros;refine Ab HS (Ih a0.key a1) rfl ⟨.same rfl,.same rfl,trivial⟩ ?_;try simp[← e1]
  intros;rfl
 obtain rfl:=oi h;apply AW.ret;exact LP hz
theorem F1:Enters Tryz.prog 127:=enters Tryz.func127 (by kernel_rfl) rfl
def A5 (n:Nat) (a0:List Pair) (a1:ByteArray):Option (Int×Bool) :=
lt (lenI a0) fun v1 =>
bn (iter n (fun (y2:Int×Int) =>
lt (ltI y2.1 y2.2) fun v5 =>
ite' v5 (lt (addI .i64 y2.1 y2.2) fun v6 =>
lt (cvI .u64 v6) fun v7 =>
bn (shrI .u64 v7 1) fun v8 =>
lt (cvI .i64 v8) fun v9 =>
bn (nth a0 v9) fun v10 =>
bn (CZ n v10 a1) fun v11 =>
lt (ltI v11 0) fun v12 =>
ite' v12 (lt (addI .i64 v9 1) fun v13 =>
some (.inl (v13,y2.2))) (some (.inl (y2.1,v9)))) (some (.inr y2.1))) (0,v1)) fun (y3:Int) =>
bn (lt (ltI y3 v1) fun v15 =>
ite' v15 (bn (nth a0 y3) fun v16 =>
bn (CZ n v16 a1) fun v17 =>
lt (eqI v17 0) fun v18 =>
some (v18)) (some (false))) fun (y14:Bool) =>
some (y3,y14)
theorem DK {n:Nat} {a0:List Pair} {a1:ByteArray} {r:Int×Bool} (h:A5 n a0 a1=some r):Sound Tryz.prog 126 [.l (.d true 6 (Ao a0)),.l (tA a1),.l (.s (.func (.func 127) #[] #[]))] [] (.t [(false,[iA r.1]),(false,[bA r.2])]) []:=by
 unfold A5 at h;refine SO 49 Tryz.func126 fun cx hG (hz:cx.nb=0)=>?_;simp only[it];refine ST ?_;obtain⟨v1,e1,h⟩:=ltE h;refine AW.step (by simp[Ad e1];intros;rfl) ?_;refine ST ?_;apply AW.seq;apply AW.block;obtain⟨y3,g3,h⟩:=bnE h;refine zD g3 (mk:=fun gh ls q=>(⟨[(0,.l (.d true 6 (Ao a0))),(1,.l (tA a1)),(2,.l (.s (.func (.func 127) #[] #[]))),(8,.l (iA v1)),(9,.l (iA q.1)),(10,.l (iA q.2))],[],49,gh,ls⟩:St)) (N:=fun gh ls=>(xP 0 (cx:=cx) (fun q=>(⟨[(0,.l (.d true 6 (Ao a0))),(1,.l (tA a1)),(2,.l (.s (.func (.func 127) #[] #[]))),(8,.l (iA v1)),(9,.l (iA q))],[],49,gh,ls⟩:St)))) ?_ noX ?_ ?_
 ·exact WM [] hz
 ·clear h;intro y2 y4 h
  apply AW.seq;obtain⟨v5,e5,h⟩:=ltE h;refine AW.step (by simp[← e5];intros;rfl) ?_;cases v5 with
  |true=>
   replace h:=iT h;refine CT ?_;apply AW.skip;try simp only[nm]
   apply AW.block;obtain⟨v6,e6,v7,e7,h⟩:=oll h;obtain⟨v8,e8,v9,e9,h⟩:=obl h;refine AW.step (by simp[← e6,← e7,e8,← e9];intros;rfl) ?_;obtain⟨v10,e10,v11,e11,v12,e12,h⟩:=obbl h;apply AW.step
   ·simp[Aa e10,← e12];intros;refine Ab F1 (Ge e11) rfl ⟨.g ⟨.s _,.s _,.s _,.al _ _ _,.al _ _ _,.s _,trivial⟩,.same rfl,trivial⟩ ?_;try simp[Aa e10,← e12]
    intros;rfl
   cases v12 with
   |true=>
    replace h:=iT h;refine CT ?_;obtain⟨v13,e13,h⟩:=ltE h;refine AW.last (by simp[← e13];intros;rfl) ?_;obtain rfl:=oi h;exact nP_i (WM [] hz)
   |false=>
    replace h:=iF h;refine CF ?_;refine SL ?_;obtain rfl:=oi h;exact nP_i (WM [] hz)
  |false=>
   replace h:=iF h;refine CF ?_;apply AW.exit;try simp only[nm]
   obtain rfl:=oi h;refine xP_i ?_;exact WM [] hz
 ·rintro e s⟨rfl,hw⟩;refine⟨_,hw,?_⟩;try simp only[nm]
  obtain⟨y14,g14,h⟩:=bnE h;refine zC (p:=fun gh ls=>(nP (cx:=cx) (fun q=>(⟨[(6,.l (iA y3)),(7,.l (bA q))],[],49,gh,ls⟩:St))) y14) ?_ ?_
  ·replace h:=g14;clear g14
   obtain⟨v15,e15,h⟩:=ltE h;cases v15 with
   |true=>
    replace h:=iT h;obtain⟨v16,e16,v17,e17,v18,e18,h⟩:=obbl h;apply AW.last
    ·simp[← e15,Aa e16,← e18];intros;refine Ab F1 (Ge e17) rfl ⟨.g ⟨.s _,.s _,.s _,.al _ _ _,.al _ _ _,.s _,trivial⟩,.same rfl,trivial⟩ ?_;try simp[← e15,Aa e16,← e18]
     intros;rfl
    obtain rfl:=oi h;exact nP_i (WM [] hz)
   |false=>
    replace h:=iF h;refine AW.last (by simp[← e15];intros;rfl) ?_;obtain rfl:=oi h;exact nP_i (WM [] hz)
  ·rintro e s⟨rfl,hw⟩;refine⟨_,hw,?_⟩;try simp only[nm]
   obtain rfl:=oi h;apply AW.ret;exact LP hz
theorem DB:Enters Tryz.prog 126:=enters Tryz.func126 (by kernel_rfl) rfl
def B1 (n:Nat) (a0:List Pair) (a1:ByteArray):Option (Int×Bool) :=
bn (A5 n a0 a1) fun v1 =>
some (v1.1,v1.2)
theorem JZ {n:Nat} {a0:List Pair} {a1:ByteArray} {r:Int×Bool} (h:B1 n a0 a1=some r):Sound Tryz.prog 107 [.l (.d true 6 (Ao a0)),.l (tA a1)] [] (.t [(false,[iA r.1]),(false,[bA r.2])]) []:=by
 unfold B1 at h;refine SO 11 Tryz.func107 fun cx hG (hz:cx.nb=0)=>?_;simp only[it];refine ST ?_;obtain⟨v1,e1,h⟩:=bnE h;apply AW.step
 ·simp;intros;refine Ab DB (DK e1) rfl ⟨.d _ _ _,.same rfl,.same rfl,trivial⟩ ?_;try simp
  intros;rfl
 obtain rfl:=oi h;apply AW.ret;exact LP hz
theorem Jt:Enters Tryz.prog 107:=enters Tryz.func107 (by kernel_rfl) rfl
def Cz (n:Nat) (a0:List Pair) (a1:List Effect):Option (List Pair) :=
chk (small 96 a0) <|
lt (lenI a0) fun v2 =>
bn (iter n (fun (y3:Int×List Pair) =>
lt (ltI y3.1 v2) fun v6 =>
ite' v6 (bn (nth y3.2 y3.1) fun v7 =>
bn (BM n v7.item) fun v9 =>
lt (y3.2.set y3.1.toNat (⟨v7.key,v9⟩:Pair)) fun v11 =>
lt (addI .i64 y3.1 1) fun v15 =>
some (.inl (v15,v11))) (some (.inr y3.2))) (0,a0)) fun (y4:List Pair) =>
lt (lenI a1) fun v16 =>
bn (iter n (fun (y17:Int×List Pair) =>
lt (ltI y17.1 v16) fun v20 =>
ite' v20 (bn (bn (nth a1 y17.1) fun v22 =>
chk (room y17.2.length 1) <|
bn (B1 n y17.2 v22.key) fun v24 =>
bn (lt (v24.2) fun v26 =>
ite' v26 (some ((true,v22.gone))) (some ((false,false)))) fun (y25:Bool×Bool) =>
lt (y25.2) fun v27 =>
ite' v27 (lt (addI .i64 v24.1 1) fun v28 =>
chk (delB y17.2 v24.1 v28) <|
lt (delL y17.2 v24.1.toNat) fun v30 =>
some (v30)) (lt (y25.1) fun v31 =>
ite' v31 (bn (BM n v22.item) fun v32 =>
bn (nth y17.2 v24.1) fun v33 =>
lt (y17.2.set v24.1.toNat (⟨v33.key,v32⟩:Pair)) fun v35 =>
some (v35)) (lt (notB v22.gone) fun v38 =>
ite' v38 (bn (BM n v22.item) fun v39 =>
chk (insB y17.2 v24.1) <|
lt (insL y17.2 v24.1.toNat (⟨v22.key,v39⟩:Pair)) fun v41 =>
some (v41)) (some (y17.2))))) fun (y21:List Pair) =>
lt (addI .i64 y17.1 1) fun v42 =>
some (.inl (v42,y21))) (some (.inr y17.2))) (0,y4)) fun (y18:List Pair) =>
chk (room y18.length 1) <|
some y18
theorem HV {n:Nat} {a0:List Pair} {a1:List Effect} {r:List Pair} (h:Cz n a0 a1=some r):Sound Tryz.prog 81 [.l (dA a0),.l (dD a1)] [] (.l (dA r)) []:=by
 unfold Cz at h;refine SO 78 Tryz.func81 fun cx hG (hz:cx.nb=0)=>?_;simp only[it];refine ST ?_;obtain⟨e1,h⟩:=chkE h;apply AW.step
 ·simp[outR];intros;refine AS JX (K9 a0 (B0 e1)) rfl (by simp) ⟨.same rfl,trivial⟩ ?_;try simp[outR]
  intros;rfl
 apply AW.seq;obtain⟨v2,e2,h⟩:=ltE h;refine AW.step (by simp[Ad e2];intros;rfl) ?_;apply AW.block;obtain⟨y4,g4,h⟩:=bnE h;refine zD g4 (mk:=fun gh ls q=>(⟨[(1,.l (dD a1)),(5,.l (.r 0 6 0 q.2.length)),(14,.l (iA v2)),(15,.l (iA q.1))],[some ⟨114,6,true,none,lvs (Ao q.2)⟩],78,gh,ls⟩:St)) (N:=fun gh ls=>(xP 0 (cx:=cx) (fun q=>(⟨[(1,.l (dD a1)),(5,.l (.r 0 6 0 q.length))],[some ⟨114,6,true,none,lvs (Ao q)⟩],78,gh,ls⟩:St)))) ?_ noX ?_ ?_
 ·exact WM [0] hz
 ·clear h;intro y3 y5 h
  obtain⟨v6,e6,h⟩:=ltE h;refine AW.step (by simp[← e6];intros;rfl) ?_;apply AW.seq;cases v6 with
  |true=>
   replace h:=iT h;refine CT ?_;apply AW.skip;try simp only[nm]
   apply AW.seq;apply AW.block;refine ST ?_;obtain⟨v7,e7,h⟩:=bnE h;have f8:=A0 e7;try simp[Aa e7] at f8
   obtain⟨v9,e9,h⟩:=bnE h;have f10:=A0 e7;try simp[Aa e7,f8,Cb (Aa e7).2 (j:=1) (k:=5) (by decide),Bp (Aa e7).2 (j:=1) (m:=5) (by decide),lvs1] at f10
   obtain⟨v11,e11,h⟩:=ltE h;have f12:=G2 (Aa e7).2 e11 (j:=1) (cs:=(cE0 v9)) (by simp) rfl;try simp at f12
   have f13:=f8;try simp only[AC e11] at f13
   have f14:=f10;try simp only[AC e11] at f14
   apply AW.last
   ·simp[Aa e7,f8,Cb (Aa e7).2 (j:=1) (k:=5) (by decide),Bp (Aa e7).2 (j:=1) (m:=5) (by decide),lvs1,f10,f12,f13,f14];intros;refine Ab D8 (ED e9) rfl ⟨.same rfl,trivial⟩ ?_;try simp[Aa e7,f8,Cb (Aa e7).2 (j:=1) (k:=5) (by decide),Bp (Aa e7).2 (j:=1) (m:=5) (by decide),lvs1,f10,f12,f13,f14]
    intros;rfl
   try simp only[nm]
   obtain⟨v15,e15,h⟩:=ltE h;refine AW.last (by simp[← e15];intros;rfl) ?_;obtain rfl:=oi h;refine nP_i ?_;refine zG [some 0] hz (by decide) ?_ ?_ rfl;all_goals first|(simp[Ae,Af,pickOb,AC e11];done)|rfl
  |false=>
   replace h:=iF h;refine CF ?_;apply AW.exit;try simp only[nm]
   obtain rfl:=oi h;refine xP_i ?_;exact WM [0] hz
 ·rintro e s⟨rfl,hw⟩;refine⟨_,hw,?_⟩;try simp only[nm]
  apply AW.seq;obtain⟨v16,e16,h⟩:=ltE h;refine AW.step (by simp[Ad e16];intros;rfl) ?_;apply AW.block;obtain⟨y18,g18,h⟩:=bnE h;refine zD g18 (mk:=fun gh ls q=>(⟨[(5,.l (.r 0 6 0 q.2.length)),(29,.l (dD a1)),(30,.l (iA v16)),(31,.l (iA q.1))],[some ⟨114,6,true,none,lvs (Ao q.2)⟩],78,gh,ls⟩:St)) (N:=fun gh ls=>(xP 2 (cx:=cx) (fun q=>(⟨[(5,.l (.r 0 6 0 q.length))],[some ⟨114,6,true,none,lvs (Ao q)⟩],78,gh,ls⟩:St)))) ?_ noX ?_ ?_
  ·exact WM [0] hz
  ·clear h;intro y17 y19 h
   obtain⟨v20,e20,h⟩:=ltE h;refine AW.step (by simp[← e20];intros;rfl) ?_;apply AW.seq;cases v20 with
   |true=>
    replace h:=iT h;refine CT ?_;apply AW.skip;try simp only[nm]
    obtain⟨y21,g21,h⟩:=bnE h;refine zC (p:=fun gh ls=>(nP (cx:=cx) (fun q=>(⟨[(5,.l (.r 0 6 0 q.length)),(29,.l (dD a1)),(30,.l (iA v16)),(31,.l (iA y17.1))],[some ⟨114,6,true,none,lvs (Ao q)⟩],78,gh,ls⟩:St))) y21) ?_ ?_
    ·replace h:=g21;clear g21
     apply AW.block;obtain⟨v22,e22,h⟩:=bnE h;refine AW.step (by simp[Aa e22];intros;rfl) ?_;obtain⟨e23,h⟩:=chkE h;obtain⟨v24,e24,h⟩:=bnE h;apply AW.step
     ·simp;intros;refine Ab Jt (JZ e24) rfl ⟨.rowd (by simp) rfl (by omega) (AH _) (by simp) (by first|exact (Aw e23).2|simpa using (Aw e23).2|simp),.same rfl,trivial⟩ ?_;try simp
      intros;rfl
     apply AW.block;obtain⟨y25,g25,h⟩:=bnE h;refine zC (p:=fun gh ls=>(nP (cx:=cx) (fun q=>(⟨[(5,.l (.r 0 6 0 y17.2.length)),(8,.l (.p 1 0)),(9,.l (iA v24.1)),(10,.l (bA q.1)),(29,.l (dD a1)),(30,.l (iA v16)),(31,.l (iA y17.1)),(42,.l (bA q.2))],[some ⟨114,6,true,none,lvs (Ao y17.2)⟩,some ⟨59,7,false,none,(cL0 v22)⟩],78,gh,ls⟩:St))) y25) ?_ ?_
     ·replace h:=g25;clear g25
      obtain⟨v26,e26,h⟩:=ltE h;cases v26 with
      |true=>
       replace h:=iT h;refine AW.last (by simp[← e26];intros;rfl) ?_;obtain rfl:=oi h;exact nP_i (WM [0,1] hz)
      |false=>
       replace h:=iF h;refine AW.last (by simp[← e26];intros;rfl) ?_;obtain rfl:=oi h;exact nP_i (WM [0,1] hz)
     ·rintro e s⟨rfl,hw⟩;refine⟨_,hw,?_⟩;try simp only[nm]
      obtain⟨v27,e27,h⟩:=ltE h;rw[← e27];cases v27 with
      |true=>
       replace h:=iT h;refine CT ?_;obtain⟨v28,e28,h⟩:=ltE h;obtain⟨e29,v30,e30,h⟩:=ocl h;apply AW.last
       ·simp[← e28,obAfter,outR,keptR,Ae,Af,← e30,Mu e29 e30];intros;refine EA [0] [2] ⟨_,rfl,rfl,rfl,rfl⟩ OH (R5 y17.2 v24.1 v28 e29) (by decide) rfl rfl (by simp[pickOb]) rfl rfl rfl (by simp) (by simp) ⟨.l (.own (by simp[Ae,Af])),.l (.s _),.l (.s _),trivial⟩ ?_;try simp[← e28,obAfter,outR,keptR,Ae,Af,← e30,Mu e29 e30]
        intros;rfl
       obtain rfl:=oi h;exact nP_i (WM [2] hz)
      |false=>
       replace h:=iF h;refine CF ?_;refine ST ?_;obtain⟨v31,e31,h⟩:=ltE h;rw[← e31];cases v31 with
       |true=>
        replace h:=iT h;refine CT ?_;obtain⟨v32,e32,h⟩:=bnE h;obtain⟨v33,e33,h⟩:=bnE h;have f34:=A0 e33;try simp[Aa e33] at f34
        obtain⟨v35,e35,h⟩:=ltE h;have f36:=G2 (Aa e33).2 e35 (j:=1) (cs:=(cE0 v32)) (by simp) rfl;try simp at f36
        have f37:=f34;try simp only[AC e35] at f37
        apply AW.last
        ·simp[Aa e33,f34,Bp (Aa e33).2 (j:=1) (m:=5) (by decide),f36,f37];intros;refine Ab D8 (ED e32) rfl ⟨.same rfl,trivial⟩ ?_;try simp[Aa e33,f34,Bp (Aa e33).2 (j:=1) (m:=5) (by decide),f36,f37]
         intros;rfl
        obtain rfl:=oi h;refine nP_i ?_;refine zG [some 0] hz (by decide) ?_ ?_ rfl;all_goals first|(simp[Ae,Af,pickOb,AC e35];done)|rfl
       |false=>
        replace h:=iF h;refine CF ?_;obtain⟨v38,e38,h⟩:=ltE h;refine AW.step (by simp[← e38];intros;rfl) ?_;cases v38 with
        |true=>
         replace h:=iT h;refine CT ?_;obtain⟨v39,e39,h⟩:=bnE h;obtain⟨e40,v41,e41,h⟩:=ocl h;apply zT (V:=[_,_,_,_,_,_,_,_,_]) (M:=[[some ⟨114,6,true,none,lvs (Ao y17.2)⟩,some ⟨59,7,false,none,(cL0 v22)⟩],[some ⟨114,6,true,none,lvs (Ao y17.2)⟩,some ⟨59,7,false,none,(cL0 v22)⟩,some ⟨114,6,true,none,[tA v22.key,iA v39.kind,tA v39.s,dE v39.f,dH v39.l,iA v39.exp]⟩]]) mixed [⟨[0,1],[],[(5,none)],false⟩,⟨[0,1],[],[(9,none)],false⟩,⟨[0],[],[(8,none)],false⟩,⟨[0],[2],[(68,some 2)],false⟩,⟨[0],[],[(8,none)],false⟩,⟨[0],[4],[(70,some 4)],false⟩,⟨[0],[4,5],[(71,some 5)],false⟩,⟨[0],[2,3,4,5,6],[(69,some 3),(72,some 6)],false⟩,⟨[0],[2,3,4,5,6,7],[(73,some 7)],true⟩,⟨[],[0,1,2,3,4,5,6,7,8],[],false⟩,⟨[],[0,1,2,3,4,5,6,7,8,9],[],false⟩] 9 1 (by kernel_rfl) (by kernel_rfl)
         ·rfl
         ·refine⟨⟨?_,?_⟩,⟨?_,?_⟩,?_,?_,?_,?_,?_,?_,?_,trivial⟩;iterate 8 (· intro tm hr;simp[AllL,rdV] at hr;simp[hr,obAfter,outR,keptR,Ae,Af,← e41,BF e40 e41];intros;exact KA)
          ·intro tm hr;simp[AllL,rdV] at hr;simp[hr,obAfter,outR,keptR,Ae,Af,← e41,BF e40 e41];intros;refine Ab D8 (ED e39) rfl ⟨.same rfl,trivial⟩ ?_;try simp[obAfter,outR,keptR,Ae,Af,← e41,BF e40 e41]
           intros;exact KA
          ·intro tm hr;simp[AllL,rdV] at hr;simp[hr,obAfter,outR,keptR,Ae,Af,← e41,BF e40 e41];intros;exact KA
          ·intro tm hr;simp[AllL,rdV] at hr;simp[hr,obAfter,outR,keptR,Ae,Af,← e41,BF e40 e41];intros;refine Ax ?_;try simp[obAfter,outR,keptR,Ae,Af,← e41,BF e40 e41]
           intros;exact KA
         ·rfl
         ·simp[tmD,putD,obAfter,outR,keptR,Ae,Af,← e41,BF e40 e41];rfl
         ·simp[obAfter,outR,keptR,Ae,Af,← e41,BF e40 e41];intros;refine EA [0,2] [3,4] ⟨_,rfl,rfl,_,rfl,rfl,rfl,rfl⟩ OJ (R7 y17.2 v24.1 (⟨v22.key,v39⟩:Pair) e40) (by decide) rfl rfl (by simp[pickOb,Fo]) rfl rfl rfl (by simp) (by simp) ⟨.l (.own (by simp[Ae,Af])),.l (.s _),.l (.own (by simp[Ae,Af])),trivial⟩ ?_;try simp[obAfter,outR,keptR,Ae,Af,← e41,BF e40 e41]
          intros;rfl
         obtain rfl:=oi h;exact nP_i (WM [3] hz)
        |false=>
         replace h:=iF h;refine CF ?_;apply AW.skip;try simp only[nm]
         obtain rfl:=oi h;exact nP_i (WM [0] hz)
    ·rintro e s⟨rfl,hw⟩;refine⟨_,hw,?_⟩;try simp only[nm]
     obtain⟨v42,e42,h⟩:=ltE h;refine AW.last (by simp[← e42];intros;rfl) ?_;obtain rfl:=oi h;exact nP_i (WM [0] hz)
   |false=>
    replace h:=iF h;refine CF ?_;apply AW.exit;try simp only[nm]
    obtain rfl:=oi h;refine xP_i ?_;exact WM [0] hz
  ·rintro e s⟨rfl,hw⟩;refine⟨_,hw,?_⟩;try simp only[nm]
   refine ST ?_;obtain⟨e43,h⟩:=chkE h;refine FZ 0 114 6 (AH y18) e43 ?_;obtain rfl:=oi h;apply AW.ret;exact LP hz
theorem Hm:Enters Tryz.prog 81:=enters Tryz.func81 (by kernel_rfl) rfl
def ES (n:Nat) (a0:List Pair) (a1:Int):Option (List Pair×Int) :=
some (a0,a1)
theorem MB {n:Nat} {a0:List Pair} {a1:Int} {r:List Pair×Int} (h:ES n a0 a1=some r):Sound Tryz.prog 78 [.l (dA a0),.l (iA a1)] [] (.l (.f 103 [0,1])) [some ⟨25,1,false,none,[dA r.1]⟩,some ⟨3,1,false,none,[iA r.2]⟩]:=by
 unfold ES at h;refine SO 6 Tryz.func78 fun cx hG (hz:cx.nb=0)=>?_;simp only[it];refine ST ?_;refine ST ?_;obtain rfl:=oi h;apply AW.ret;refine Left.of (av:=_) (by simp[Tryz.f78,resV,resC,comp];rfl) ?_;exact zJ 0 [some 0,some 1] hz rfl (by decide) rfl (by simp[pickOb,Ae,Af]) (by simp[Ae,Af])
theorem Ly:Enters Tryz.prog 78:=enters Tryz.func78 (by kernel_rfl) rfl
def BN (n:Nat) (a0:ByteArray) (a1:Int):Option Int :=
lt (idxB a0 a1) fun v1 =>
some v1
theorem Ew {n:Nat} {a0:ByteArray} {a1:Int} {r:Int} (h:BN n a0 a1=some r):Sound Tryz.prog 163 [.l (tA a0),.l (.s (.int .u8 a1))] [] (.l (iA r)) []:=by
 unfold BN at h;refine SO 8 Tryz.func163 fun cx hG (hz:cx.nb=0)=>?_;simp only[it];refine ST ?_;obtain⟨v1,e1,h⟩:=ltE h;apply AW.step
 ·simp[← e1];intros;refine OL Tryz.func172 (by kernel_rfl) (by kernel_rfl) (by kernel_rfl) (by kernel_rfl) ?_;try simp[← e1]
  intros;rfl
 obtain rfl:=oi h;apply AW.ret;exact LP hz
theorem Ea:Enters Tryz.prog 163:=enters Tryz.func163 (by kernel_rfl) rfl
def BO (n:Nat) (a0:ByteArray):Option Int :=
lt (eqS ⟨#[123]⟩ a0) fun v1 =>
ite' v1 (some 0) (bn (BN n a0 123) fun v2 =>
some v2)
theorem H2 {n:Nat} {a0:ByteArray} {r:Int} (h:BO n a0=some r):Sound Tryz.prog 152 [.l (tA a0),.l (tA ⟨#[123]⟩)] [] (.l (iA r)) []:=by
 unfold BO at h;refine SO 143 Tryz.func152 fun cx hG (hz:cx.nb=0)=>?_;simp only[it];refine ST ?_;apply AW.step
 ·simp[(show lenS ⟨#[123]⟩=1 from rfl)];intros;rfl
 apply AW.seq;apply AW.block;obtain⟨v1,e1,h⟩:=ltE h;refine AW.step (by simp[(show eqI 1 0=false from rfl),← e1];intros;rfl) ?_;cases v1 with
 |true=>
  replace h:=iT h;refine CT ?_;refine ST ?_;obtain rfl:=oi h;apply AW.ret;exact LP hz
 |false=>
  replace h:=iF h;refine CF ?_;refine AW.step (by simp[(show eqI 1 1=true from rfl)];intros;rfl) ?_;refine CT ?_;obtain⟨v2,e2,h⟩:=bnE h;apply AW.step
  ·simp[(show (0:Nat)<ByteArray.size ⟨#[123]⟩ by decide),(show bAt ⟨#[123]⟩ 0=123 from rfl)];intros;refine Ab Ea (Ew e2) rfl ⟨.same rfl,.same rfl,trivial⟩ ?_;try simp[(show (0:Nat)<ByteArray.size ⟨#[123]⟩ by decide),(show bAt ⟨#[123]⟩ 0=123 from rfl)]
   intros;rfl
  obtain rfl:=oi h;apply AW.ret;exact LP hz
theorem HE:Enters Tryz.prog 152:=enters Tryz.func152 (by kernel_rfl) rfl
def Ci (n:Nat) (a0:ByteArray):Option (ByteArray×ByteArray×Bool) :=
bn (BO n a0) fun v1 =>
lt (geI v1 0) fun v2 =>
ite' v2 (bn (segSh a0 v1) fun v3 =>
lt (addI .i64 v1 1) fun v5 =>
bn (segSl a0 v5) fun v6 =>
some (v3,v6,true)) (some (a0,⟨#[]⟩,false))
def DY1t2:List DI:=[⟨[0],[],[(0,none)],false⟩,⟨[0],[],[(7,none)],false⟩,⟨[0],[0,1],[(13,some 0),(14,some 1)],false⟩,⟨[0],[],[(0,none)],false⟩,⟨[0],[],[(7,none)],false⟩,⟨[0],[],[(1,none)],false⟩,⟨[0],[5],[(18,some 5)],false⟩,⟨[0],[4,5,6],[(17,some 4),(19,some 6)],false⟩,⟨[0],[3,4,5,6,7],[(16,some 3),(20,some 7)],false⟩,⟨[0],[0,1,2],[(15,some 2)],false⟩,⟨[],[0,1,2,3,4,5,6,7,8,9],[],false⟩,⟨[],[0,1,2,3,4,5,6,7,8,9,10],[],false⟩]
theorem IT {n:Nat} {a0:ByteArray} {r:ByteArray×ByteArray×Bool} (h:Ci n a0=some r):Sound Tryz.prog 147 [.l (tA a0),.l (tA ⟨#[123]⟩)] [] (.t [(false,[tA r.1]),(false,[tA r.2.1]),(false,[bA r.2.2])]) []:=by
 unfold Ci at h;refine SO 23 Tryz.func147 fun cx hG (hz:cx.nb=0)=>?_;simp only[it];refine ST ?_;apply AW.seq;obtain⟨v1,e1,h⟩:=bnE h;apply AW.step
 ·simp;intros;refine Ab HE (H2 e1) rfl ⟨.same rfl,.same rfl,trivial⟩ ?_;try simp
  intros;rfl
 obtain⟨v2,e2,h⟩:=ltE h;refine AW.step (by simp[← e2];intros;rfl) ?_;cases v2 with
 |true=>
  replace h:=iT h;refine CT ?_;obtain⟨v3,e3,h⟩:=bnE h;have f4:=N4 e3;try simp at f4
  obtain⟨v5,e5,v6,e6,h⟩:=olb h;have f7:=N3 e6;try simp[f4,(show lenS ⟨#[123]⟩=1 from rfl),← e5] at f7
  apply zH (V:=[_,_,_,_,_,_,_,_,_,_]) mixed DY1t2 10 (by kernel_rfl) (by kernel_rfl)
  ·refine⟨?_,?_,?_,?_,?_,?_,?_,?_,?_,?_,trivial⟩;iterate 10 (· intro tm hr;simp[AllL,rdV] at hr;simp[hr,f4,(show lenS ⟨#[123]⟩=1 from rfl),← e5,f7];intros;exact KA)
  ·rfl
  ·simp[tmD,putD,f4,(show lenS ⟨#[123]⟩=1 from rfl),← e5,f7];rfl
  ·simp[f4,(show lenS ⟨#[123]⟩=1 from rfl),← e5,f7];intros;rfl
  obtain rfl:=oi h;apply AW.ret;exact LP hz
 |false=>
  replace h:=iF h;refine CF ?_;apply AW.skip;try simp only[nm]
  refine ST ?_;obtain rfl:=oi h;apply AW.ret;exact LP hz
theorem In:Enters Tryz.prog 147:=enters Tryz.func147 (by kernel_rfl) rfl
def B2 (n:Nat) (a0:ByteArray):Option (ByteArray×ByteArray×Bool) :=
bn (Ci n a0) fun v1 =>
some (v1.1,v1.2.1,v1.2.2)
theorem Lz {n:Nat} {a0:ByteArray} {r:ByteArray×ByteArray×Bool} (h:B2 n a0=some r):Sound Tryz.prog 138 [.l (tA a0),.l (tA ⟨#[123]⟩)] [] (.t [(false,[tA r.1]),(false,[tA r.2.1]),(false,[bA r.2.2])]) []:=by
 unfold B2 at h;refine SO 13 Tryz.func138 fun cx hG (hz:cx.nb=0)=>?_;simp only[it];refine ST ?_;obtain⟨v1,e1,h⟩:=bnE h;apply AW.step
 ·simp;intros;refine Ab In (IT e1) rfl ⟨.same rfl,.same rfl,trivial⟩ ?_;try simp
  intros;rfl
 obtain rfl:=oi h;apply AW.ret;exact LP hz
theorem Kw:Enters Tryz.prog 138:=enters Tryz.func138 (by kernel_rfl) rfl
def Bv (n:Nat) (a0:ByteArray):Option Int :=
lt (eqS ⟨#[125]⟩ a0) fun v1 =>
ite' v1 (some 0) (bn (BN n a0 125) fun v2 =>
some v2)
theorem G4 {n:Nat} {a0:ByteArray} {r:Int} (h:Bv n a0=some r):Sound Tryz.prog 152 [.l (tA a0),.l (tA ⟨#[125]⟩)] [] (.l (iA r)) []:=by
 unfold Bv at h;refine SO 143 Tryz.func152 fun cx hG (hz:cx.nb=0)=>?_;simp only[it];refine ST ?_;apply AW.step
 ·simp[(show lenS ⟨#[125]⟩=1 from rfl)];intros;rfl
 apply AW.seq;apply AW.block;obtain⟨v1,e1,h⟩:=ltE h;refine AW.step (by simp[(show eqI 1 0=false from rfl),← e1];intros;rfl) ?_;cases v1 with
 |true=>
  replace h:=iT h;refine CT ?_;refine ST ?_;obtain rfl:=oi h;apply AW.ret;exact LP hz
 |false=>
  replace h:=iF h;refine CF ?_;refine AW.step (by simp[(show eqI 1 1=true from rfl)];intros;rfl) ?_;refine CT ?_;obtain⟨v2,e2,h⟩:=bnE h;apply AW.step
  ·simp[(show (0:Nat)<ByteArray.size ⟨#[125]⟩ by decide),(show bAt ⟨#[125]⟩ 0=125 from rfl)];intros;refine Ab Ea (Ew e2) rfl ⟨.same rfl,.same rfl,trivial⟩ ?_;try simp[(show (0:Nat)<ByteArray.size ⟨#[125]⟩ by decide),(show bAt ⟨#[125]⟩ 0=125 from rfl)]
   intros;rfl
  obtain rfl:=oi h;apply AW.ret;exact LP hz
theorem GK:Enters Tryz.prog 152:=enters Tryz.func152 (by kernel_rfl) rfl
def BH (n:Nat) (a0:ByteArray):Option (ByteArray×ByteArray×Bool) :=
bn (Bv n a0) fun v1 =>
lt (geI v1 0) fun v2 =>
ite' v2 (bn (segSh a0 v1) fun v3 =>
lt (addI .i64 v1 1) fun v5 =>
bn (segSl a0 v5) fun v6 =>
some (v3,v6,true)) (some (a0,⟨#[]⟩,false))
theorem HF {n:Nat} {a0:ByteArray} {r:ByteArray×ByteArray×Bool} (h:BH n a0=some r):Sound Tryz.prog 147 [.l (tA a0),.l (tA ⟨#[125]⟩)] [] (.t [(false,[tA r.1]),(false,[tA r.2.1]),(false,[bA r.2.2])]) []:=by
 unfold BH at h;refine SO 23 Tryz.func147 fun cx hG (hz:cx.nb=0)=>?_;simp only[it];refine ST ?_;apply AW.seq;obtain⟨v1,e1,h⟩:=bnE h;apply AW.step
 ·simp;intros;refine Ab GK (G4 e1) rfl ⟨.same rfl,.same rfl,trivial⟩ ?_;try simp
  intros;rfl
 obtain⟨v2,e2,h⟩:=ltE h;refine AW.step (by simp[← e2];intros;rfl) ?_;cases v2 with
 |true=>
  replace h:=iT h;refine CT ?_;obtain⟨v3,e3,h⟩:=bnE h;have f4:=N4 e3;try simp at f4
  obtain⟨v5,e5,v6,e6,h⟩:=olb h;have f7:=N3 e6;try simp[f4,(show lenS ⟨#[125]⟩=1 from rfl),← e5] at f7
  apply zH (V:=[_,_,_,_,_,_,_,_,_,_]) mixed DY1t2 10 (by kernel_rfl) (by kernel_rfl)
  ·refine⟨?_,?_,?_,?_,?_,?_,?_,?_,?_,?_,trivial⟩;iterate 10 (· intro tm hr;simp[AllL,rdV] at hr;simp[hr,f4,(show lenS ⟨#[125]⟩=1 from rfl),← e5,f7];intros;exact KA)
  ·rfl
  ·simp[tmD,putD,f4,(show lenS ⟨#[125]⟩=1 from rfl),← e5,f7];rfl
  ·simp[f4,(show lenS ⟨#[125]⟩=1 from rfl),← e5,f7];intros;rfl
  obtain rfl:=oi h;apply AW.ret;exact LP hz
 |false=>
  replace h:=iF h;refine CF ?_;apply AW.skip;try simp only[nm]
  refine ST ?_;obtain rfl:=oi h;apply AW.ret;exact LP hz
theorem Hn:Enters Tryz.prog 147:=enters Tryz.func147 (by kernel_rfl) rfl
def Bw (n:Nat) (a0:ByteArray):Option (ByteArray×ByteArray×Bool) :=
bn (BH n a0) fun v1 =>
some (v1.1,v1.2.1,v1.2.2)
theorem Ju {n:Nat} {a0:ByteArray} {r:ByteArray×ByteArray×Bool} (h:Bw n a0=some r):Sound Tryz.prog 138 [.l (tA a0),.l (tA ⟨#[125]⟩)] [] (.t [(false,[tA r.1]),(false,[tA r.2.1]),(false,[bA r.2.2])]) []:=by
 unfold Bw at h;refine SO 13 Tryz.func138 fun cx hG (hz:cx.nb=0)=>?_;simp only[it];refine ST ?_;obtain⟨v1,e1,h⟩:=bnE h;apply AW.step
 ·simp;intros;refine Ab Hn (HF e1) rfl ⟨.same rfl,.same rfl,trivial⟩ ?_;try simp
  intros;rfl
 obtain rfl:=oi h;apply AW.ret;exact LP hz
theorem IU:Enters Tryz.prog 138:=enters Tryz.func138 (by kernel_rfl) rfl
def Cv (n:Nat) (a0:ByteArray):Option ByteArray :=
bn (B2 n a0) fun v1 =>
bn (Bw n v1.2.1) fun v2 =>
bn (lt (v1.2.2) fun v4 =>
ite' v4 (lt (v2.2.2) fun v5 =>
ite' v5 (lt (neS v2.1 ⟨#[]⟩) fun v6 =>
some (v6)) (some (false))) (some (false))) fun (y3:Bool) =>
lt (y3) fun v7 =>
ite' v7 (some v2.1) (some a0)
theorem ON {n:Nat} {a0:ByteArray} {r:ByteArray} (h:Cv n a0=some r):Sound Tryz.prog 117 [.l (tA a0)] [] (.l (tA r)) []:=by
 unfold Cv at h;refine SO 31 Tryz.func117 fun cx hG (hz:cx.nb=0)=>?_;simp only[it];refine ST ?_;obtain⟨v1,e1,h⟩:=bnE h;apply AW.step
 ·simp;intros;refine Ab Kw (Lz e1) rfl ⟨.same rfl,.same rfl,trivial⟩ ?_;try simp
  intros;rfl
 obtain⟨v2,e2,h⟩:=bnE h;apply AW.step
 ·simp;intros;refine Ab IU (Ju e2) rfl ⟨.same rfl,.same rfl,trivial⟩ ?_;try simp
  intros;rfl
 apply AW.seq;obtain⟨y3,g3,h⟩:=bnE h;refine zC (p:=fun gh ls=>(nP (cx:=cx) (fun q=>(⟨[(0,.l (tA a0)),(6,.l (tA v2.1)),(28,.l (bA q))],[],31,gh,ls⟩:St))) y3) ?_ ?_
 ·replace h:=g3;clear g3
  obtain⟨v4,e4,h⟩:=ltE h;cases v4 with
  |true=>
   replace h:=iT h;obtain⟨v5,e5,h⟩:=ltE h;cases v5 with
   |true=>
    replace h:=iT h;obtain⟨v6,e6,h⟩:=ltE h;refine AW.last (by simp[← e4,← e5,← e6];intros;rfl) ?_;obtain rfl:=oi h;exact nP_i (WM [] hz)
   |false=>
    replace h:=iF h;refine AW.last (by simp[← e4,← e5];intros;rfl) ?_;obtain rfl:=oi h;exact nP_i (WM [] hz)
  |false=>
   replace h:=iF h;refine AW.last (by simp[← e4];intros;rfl) ?_;obtain rfl:=oi h;exact nP_i (WM [] hz)
 ·rintro e s⟨rfl,hw⟩;refine⟨_,hw,?_⟩;try simp only[nm]
  obtain⟨v7,e7,h⟩:=ltE h;rw[← e7];cases v7 with
  |true=>
   replace h:=iT h;refine CT ?_;refine ST ?_;obtain rfl:=oi h;apply AW.ret;exact LP hz
  |false=>
   replace h:=iF h;refine CF ?_;apply AW.skip;try simp only[nm]
   refine ST ?_;obtain rfl:=oi h;apply AW.ret;exact LP hz
theorem Nr:Enters Tryz.prog 117:=enters Tryz.func117 (by kernel_rfl) rfl
def EE (n:Nat) (a0:List Int):Option Int :=
lt (lenI a0) fun v1 =>
bn (iter n (fun (y2:Int×Int) =>
lt (ltI y2.2 v1) fun v5 =>
ite' v5 (bn (nth a0 y2.2) fun v6 =>
lt (cvI .u16 v6) fun v7 =>
bn (shlI .u16 v7 8) fun v8 =>
lt (xorI .u16 y2.1 v8) fun v9 =>
bn (iter n (fun (y10:Int×Int) =>
lt (ltI y10.2 8) fun v13 =>
ite' v13 (bn (shrI .u16 y10.1 15) fun v14 =>
bn (shlI .u16 y10.1 1) fun v15 =>
lt (mulI .u16 4129 v14) fun v16 =>
lt (xorI .u16 v15 v16) fun v17 =>
lt (addI .i64 y10.2 1) fun v18 =>
some (.inl (v17,v18))) (some (.inr y10.1))) (v9,0)) fun (y11:Int) =>
lt (addI .i64 y2.2 1) fun v19 =>
some (.inl (y11,v19))) (some (.inr y2.1))) (0,0)) fun (y3:Int) =>
lt (cvI .i64 y3) fun v20 =>
some v20
theorem OO {n:Nat} {a0:List Int} {r:Int} (h:EE n a0=some r):Sound Tryz.prog 116 [.l (dF a0)] [] (.l (iA r)) []:=by
 unfold EE at h;refine SO 31 Tryz.func116 fun cx hG (hz:cx.nb=0)=>?_;simp only[it];refine ST ?_;refine ST ?_;apply AW.seq;obtain⟨v1,e1,h⟩:=ltE h;refine AW.step (by simp[Ad e1];intros;rfl) ?_;apply AW.block;obtain⟨y3,g3,h⟩:=bnE h;refine zD g3 (mk:=fun gh ls q=>(⟨[(3,.l (.s (.int .u16 q.1))),(7,.l (dF a0)),(8,.l (iA v1)),(9,.l (iA q.2))],[],31,gh,ls⟩:St)) (N:=fun gh ls=>(xP 0 (cx:=cx) (fun q=>(⟨[(3,.l (.s (.int .u16 q)))],[],31,gh,ls⟩:St)))) ?_ noX ?_ ?_
 ·exact WM [] hz
 ·clear h;intro y2 y4 h
  obtain⟨v5,e5,h⟩:=ltE h;refine AW.step (by simp[← e5];intros;rfl) ?_;apply AW.seq;cases v5 with
  |true=>
   replace h:=iT h;refine CT ?_;apply AW.skip;try simp only[nm]
   apply AW.seq;apply AW.block;obtain⟨v6,e6,h⟩:=bnE h;refine AW.step (by simp[Aa e6];intros;rfl) ?_;obtain⟨v7,e7,v8,e8,h⟩:=olb h;obtain⟨v9,e9,h⟩:=ltE h;refine AW.step (by simp[← e7,e8,← e9];intros;rfl) ?_;refine ST ?_;apply AW.block;obtain⟨y11,g11,h⟩:=bnE h;refine zD g11 (mk:=fun gh ls q=>(⟨[(3,.l (.s (.int .u16 q.1))),(7,.l (dF a0)),(8,.l (iA v1)),(9,.l (iA y2.2)),(18,.l (iA q.2))],[],31,gh,ls⟩:St)) (N:=fun gh ls=>(xP 2 (cx:=cx) (fun q=>(⟨[(3,.l (.s (.int .u16 q))),(7,.l (dF a0)),(8,.l (iA v1)),(9,.l (iA y2.2))],[],31,gh,ls⟩:St)))) ?_ noX ?_ ?_
   ·exact WM [] hz
   ·clear h;intro y10 y12 h
    obtain⟨v13,e13,h⟩:=ltE h;refine AW.step (by simp[← e13];intros;rfl) ?_;apply AW.seq;cases v13 with
    |true=>
     replace h:=iT h;refine CT ?_;apply AW.skip;try simp only[nm]
     apply AW.seq;apply AW.block;obtain⟨v14,e14,h⟩:=bnE h;refine AW.step (by simp[e14];intros;rfl) ?_;obtain⟨v15,e15,v16,e16,h⟩:=obl h;obtain⟨v17,e17,h⟩:=ltE h;refine AW.last (by simp[e15,← e16,← e17];intros;rfl) ?_;try simp only[nm]
     obtain⟨v18,e18,h⟩:=ltE h;refine AW.last (by simp[← e18];intros;rfl) ?_;obtain rfl:=oi h;exact nP_i (WM [] hz)
    |false=>
     replace h:=iF h;refine CF ?_;apply AW.exit;try simp only[nm]
     obtain rfl:=oi h;refine xP_i ?_;exact WM [] hz
   ·rintro e s⟨rfl,hw⟩;refine⟨_,hw,?_⟩;try simp only[nm]
    obtain⟨v19,e19,h⟩:=ltE h;refine AW.last (by simp[← e19];intros;rfl) ?_;obtain rfl:=oi h;exact nP_i (WM [] hz)
  |false=>
   replace h:=iF h;refine CF ?_;apply AW.exit;try simp only[nm]
   obtain rfl:=oi h;refine xP_i ?_;exact WM [] hz
 ·rintro e s⟨rfl,hw⟩;refine⟨_,hw,?_⟩;try simp only[nm]
  obtain⟨v20,e20,h⟩:=ltE h;refine AW.step (by simp[← e20];intros;rfl) ?_;obtain rfl:=oi h;apply AW.ret;exact LP hz
theorem Ns:Enters Tryz.prog 116:=enters Tryz.func116 (by kernel_rfl) rfl
def DC (n:Nat) (a0:ByteArray):Option Int :=
bn (Cv n a0) fun v1 =>
chk (room v1.size 1) <|
lt (bytesI v1) fun v3 =>
bn (EE n v3) fun v4 =>
bn (remI .i64 v4 16384) fun v5 =>
some v5
theorem Io {n:Nat} {a0:ByteArray} {r:Int} (h:DC n a0=some r):Sound Tryz.prog 87 [.l (tA a0)] [] (.l (iA r)) []:=by
 unfold DC at h;refine SO 8 Tryz.func87 fun cx hG (hz:cx.nb=0)=>?_;simp only[it];refine ST ?_;obtain⟨v1,e1,h⟩:=bnE h;obtain⟨e2,v3,e3,h⟩:=ocl h;obtain⟨v4,e4,h⟩:=bnE h;obtain⟨v5,e5,h⟩:=bnE h;apply AW.step
 ·simp[(Aw e2).2,← e3,e5];intros;refine Ab Nr (ON e1) rfl ⟨.same rfl,trivial⟩ ?_;try simp[(Aw e2).2,← e3,e5]
  intros;refine Ab Ns (OO e4) rfl ⟨.same rfl,trivial⟩ ?_;try simp[(Aw e2).2,← e3,e5]
  intros;rfl
 obtain rfl:=oi h;apply AW.ret;exact LP hz
theorem HG:Enters Tryz.prog 87:=enters Tryz.func87 (by kernel_rfl) rfl
def BE (n:Nat) (b1_0:List Pair) (b1_1:Int):Option (List ByteArray) :=
bn (lt (lenI b1_0) fun v2 =>
bn (iter n (fun (y3:Int×List ByteArray) =>
lt (ltI y3.1 v2) fun v6 =>
ite' v6 (bn (nth b1_0 y3.1) fun v7 =>
bn (DC n v7.key) fun v8 =>
lt (eqI v8 b1_1) fun v9 =>
ite' v9 (chk (room (y3.2.length+1) 16) <|
lt (y3.2++[v7.key]) fun v11 =>
lt (addI .i64 y3.1 1) fun v12 =>
some (.inl (v12,v11))) (lt (addI .i64 y3.1 1) fun v13 =>
some (.inl (v13,y3.2)))) (some (.inr y3.2))) (0,[])) fun (y4:List ByteArray) =>
some (y4)) fun (y1:List ByteArray) =>
chk (room y1.length 1) <|
some y1
def DY1t3:List DI:=[⟨[0],[],[(5,none)],false⟩,⟨[0],[0],[(12,some 0)],false⟩,⟨[0],[0,1],[(13,some 1)],false⟩,⟨[0],[],[(2,none)],false⟩,⟨[0],[0,1,2,3],[(14,some 2),(15,some 3)],false⟩,⟨[0],[0,1,2,3,4],[(16,some 4)],false⟩,⟨[0],[0,1,2,3,4,5],[(0,none),(17,some 5)],false⟩,⟨[0],[0,1,2,3,4,5],[(5,none),(17,some 5)],false⟩,⟨[0],[0,1,2,3,4,5,7],[(17,some 5),(19,some 7)],false⟩,⟨[],[0,1,2,3,4,5,6,7,8],[],false⟩,⟨[],[0,1,2,3,4,5,6,7,8,9],[],false⟩,⟨[],[0,1,2,3,4,5,6,7,8,9,10],[],false⟩]
theorem Gk {n:Nat} {b1_0:List Pair} {b1_1:Int} {r:List ByteArray} (h:BE n b1_0 b1_1=some r):Sound Tryz.prog 102 [.l (.s (.slice none 0 0)),.l (.f 103 [0,1])] [⟨25,1,false,none,[dA b1_0]⟩,⟨3,1,false,none,[iA b1_1]⟩] (.l (dH r)) [some ⟨25,1,false,none,[dA b1_0]⟩,some ⟨3,1,false,none,[iA b1_1]⟩]:=by
 unfold BE at h;refine SO 13 Tryz.func102 fun cx hG (hz:cx.nb=2)=>?_;simp only[it];refine ST ?_;obtain⟨y1,g1,h⟩:=bnE h;refine zC (p:=fun gh ls=>(nP (cx:=cx) (fun q=>(⟨[(2,.l (.p 2 0))],[some ⟨25,1,false,none,[dA b1_0]⟩,some ⟨3,1,false,none,[iA b1_1]⟩,some ⟨55,1,false,none,[.r 3 1 0 q.length]⟩,some ⟨9,1,true,none,lvs (encS q)⟩],13,gh,ls⟩:St))) y1) ?_ ?_
 ·replace h:=g1;clear g1
  refine ST ?_;apply AW.block;refine AW.weak (zR [(2,.l (.p 2 0)),(6,.l (.f 103 [0,1]))] (by simp)) ?_;refine zS rfl Tryz.func103 (by kernel_rfl) rfl (by decide) rfl rfl fun cxI1 yl1 hnI1 hY1=>?_;have hnJ1:cxI1.nb=2:=hnI1.trans hz;simp only[initTm,List.map_cons,List.map_nil];obtain⟨v2,e2,h⟩:=ltE h;refine AW.step (by simp[Ad e2];intros;rfl) ?_;apply AW.block;obtain⟨y4,g4,h⟩:=bnE h;refine zD g4 (mk:=fun gh ls q=>(⟨[(0,.l (.s (.func (.yield yl1) #[] #[]))),(2,.l (.p 1 0)),(6,.l (dA b1_0)),(7,.l (iA v2)),(8,.l (iA q.1))],[some ⟨25,1,false,none,[dA b1_0]⟩,some ⟨3,1,false,none,[iA b1_1]⟩,some ⟨55,1,false,none,[.r 3 1 0 q.2.length]⟩,some ⟨9,1,true,none,lvs (encS q.2)⟩],25,gh,ls⟩:St)) (N:=fun gh ls=>(xP 0 (cx:=cxI1) (fun q=>(⟨[],[some ⟨25,1,false,none,[dA b1_0]⟩,some ⟨3,1,false,none,[iA b1_1]⟩,some ⟨55,1,false,none,[.r 3 1 0 q.length]⟩,some ⟨9,1,true,none,lvs (encS q)⟩],25,gh,ls⟩:St)))) ?_ noX ?_ ?_
  ·refine W.nilCell 2 0 9 1 3 rfl rfl rfl rfl rfl ?_;refine zE 2 [some 0,some 1,some 2,some 3] hnJ1 (by decide) (by decide) ?_ ?_ ?_;all_goals first|(simp[Ae,Af,pickOb];done)|rfl
  ·clear h;intro y3 y5 h
   obtain⟨v6,e6,h⟩:=ltE h;refine AW.step (by simp[← e6];intros;rfl) ?_;apply AW.seq;cases v6 with
   |true=>
    replace h:=iT h;refine CT ?_;apply AW.skip;try simp only[nm]
    apply AW.seq;apply AW.block;obtain⟨v7,e7,h⟩:=bnE h;refine AW.step (by simp[Aa e7];intros;rfl) ?_;obtain⟨v8,e8,v9,e9,h⟩:=obl h;cases v9 with
    |true=>
     replace h:=iT h;apply AW.drawnYP (V:=[_,_,_,_,_,_,_,_,_]) mixed DY1t3 9 (by kernel_rfl) (by kernel_rfl)
     ·refine⟨?_,?_,?_,?_,?_,?_,?_,?_,?_,trivial⟩;iterate 2 (· intro tm hr;simp[AllL,rdV] at hr;simp[hr,← e9];intros;exact KA)
      ·intro tm hr;simp[AllL,rdV] at hr;simp[hr,← e9];intros;refine Ab HG (Io e8) rfl ⟨.same rfl,trivial⟩ ?_;try simp[← e9]
       intros;exact KA
      iterate 6 (· intro tm hr;simp[AllL,rdV] at hr;simp[hr,← e9];intros;exact KA)
     ·rfl
     ·simp[tmD,putD,← e9];rfl
     apply xopsY.yield hY1 9 9 rfl rfl rfl (by decide)
     ·simp[← e9];intros;rfl
     ·rfl
     ·first|trivial|simp[← e9]
     ·rfl
     ·rfl
     ·simp[puts,← e9];rfl
     intro cxR1 hnR1;have hnS1:cxR1.nb=2:=hnR1.trans hnJ1;refine SL ?_;refine⟨rfl,?_⟩;apply AW.block;obtain⟨e10,v11,e11,h⟩:=ocl h;apply AW.last
     ·simp[← Be,← e11,Ar e11];intros;refine Ax ?_;try simp[← Be,← e11,Ar e11]
      intros;refine AD (acc:=encS y3.2) (ys:=encS [v7.key]) (cap:=none) (k:=1) E7 FV (by simp) (by simp[encS,lvs]) (Dh _) (by simp) (by simp) (by first|(simp;done)|simpa using (Aw e10).1) ?_;try simp[← Be,← e11,Ar e11]
      intros;rfl
     refine⟨_,_,rfl,?_⟩;refine BL _ _ _ rfl ?_;simp[puts,← e9];try intros
     unfold KK;refine CF ?_;apply AW.skip;try simp only[nm]
     obtain⟨v12,e12,h⟩:=ltE h;refine AW.last (by simp[← e12];intros;rfl) ?_;obtain rfl:=oi h;refine nP_i ?_;refine zE 2 [some 0,some 1,some 2,some 6] hnJ1 (by decide) (by decide) ?_ ?_ ?_;all_goals first|(simp[Ae,Af,pickOb,FW];done)|rfl
    |false=>
     replace h:=iF h;apply zH (V:=[_,_,_,_,_,_,_,_,_]) mixed DY1t3 9 (by kernel_rfl) (by kernel_rfl)
     ·refine⟨?_,?_,?_,?_,?_,?_,?_,?_,?_,trivial⟩;iterate 2 (· intro tm hr;simp[AllL,rdV] at hr;simp[hr,← e9];intros;exact KA)
      ·intro tm hr;simp[AllL,rdV] at hr;simp[hr,← e9];intros;refine Ab HG (Io e8) rfl ⟨.same rfl,trivial⟩ ?_;try simp[← e9]
       intros;exact KA
      iterate 6 (· intro tm hr;simp[AllL,rdV] at hr;simp[hr,← e9];intros;exact KA)
     ·rfl
     ·simp[tmD,putD,← e9];rfl
     ·simp[← e9];intros;rfl
     refine CF ?_;apply AW.skip;try simp only[nm]
     obtain⟨v13,e13,h⟩:=ltE h;refine AW.last (by simp[← e13];intros;rfl) ?_;obtain rfl:=oi h;refine nP_i ?_;refine zE 2 [some 0,some 1,some 2,some 3] hnJ1 (by decide) (by decide) ?_ ?_ ?_;all_goals first|(simp[Ae,Af,pickOb];done)|rfl
   |false=>
    replace h:=iF h;refine CF ?_;apply AW.exit;try simp only[nm]
    obtain rfl:=oi h;refine xP_i ?_;refine zE 2 [some 0,some 1,some 2,some 3] hnJ1 (by decide) (by decide) ?_ ?_ ?_;all_goals first|(simp[Ae,Af,pickOb];done)|rfl
  ·rintro e s⟨rfl,hw⟩;refine⟨_,hw,?_⟩;try simp only[nm]
   refine⟨_,_,rfl,?_⟩;try simp only[]
   try simp only[nm]
   obtain rfl:=oi h;refine nP_i ?_;refine zE 2 [some 0,some 1,some 2,some 3] hz (by decide) (by decide) ?_ ?_ ?_;all_goals first|(simp[Ae,Af,pickOb];done)|rfl
 ·rintro e s⟨rfl,hw⟩;refine⟨_,hw,?_⟩;try simp only[nm]
  refine ST ?_;obtain⟨e14,h⟩:=chkE h;refine FZ 3 9 1 (Dh y1) e14 ?_;obtain rfl:=oi h;apply AW.ret;refine Left.of (av:=_) (by simp[Tryz.f102,resV,resC,comp];rfl) ?_;exact zJ 2 [some 0,some 1] hz rfl (by decide) rfl (by simp[pickOb,Ae,Af]) (by simp[Ae,Af])
theorem F8:Enters Tryz.prog 102:=enters Tryz.func102 (by kernel_rfl) rfl
def BP (n:Nat) (b0_0:List Pair) (b0_1:Int):Option (List ByteArray) :=
bn (BE n b0_0 b0_1) fun v1 =>
some v1
theorem GL {n:Nat} {b0_0:List Pair} {b0_1:Int} {r:List ByteArray} (h:BP n b0_0 b0_1=some r):Sound Tryz.prog 77 [.l (.f 103 [0,1])] [⟨25,1,false,none,[dA b0_0]⟩,⟨3,1,false,none,[iA b0_1]⟩] (.l (dH r)) [some ⟨25,1,false,none,[dA b0_0]⟩,some ⟨3,1,false,none,[iA b0_1]⟩]:=by
 unfold BP at h;refine SO 5 Tryz.func77 fun cx hG (hz:cx.nb=2)=>?_;simp only[it];refine ST ?_;obtain⟨v1,e1,h⟩:=bnE h;apply AW.step
 ·simp;intros;refine Cf [0,1] F8 (Gk e1) (by decide) (by simp[pickOb,Ae,Af]) rfl rfl (by simp) ⟨.l (.s _),.l (.fn (by simp)),trivial⟩ ?_;try simp
  intros;rfl
 obtain rfl:=oi h;apply AW.ret;refine Left.of (av:=_) (by simp[Tryz.f77,resV,resC,comp];rfl) ?_;exact zJ 2 [some 0,some 1] hz rfl (by decide) rfl (by simp[pickOb,Ae,Af]) (by simp[Ae,Af])
theorem GB:Enters Tryz.prog 77:=enters Tryz.func77 (by kernel_rfl) rfl
def EF (n:Nat) (a0:List Pair) (a1:Int):Option (List ByteArray) :=
bn (ES n a0 a1) fun v1 =>
bn (BP n v1.1 v1.2) fun v2 =>
some v2
theorem OP {n:Nat} {a0:List Pair} {a1:Int} {r:List ByteArray} (h:EF n a0 a1=some r):Sound Tryz.prog 38 [.l (dA a0),.l (iA a1)] [] (.l (dH r)) []:=by
 unfold EF at h;refine SO 9 Tryz.func38 fun cx hG (hz:cx.nb=0)=>?_;simp only[it];refine ST ?_;obtain⟨v1,e1,h⟩:=bnE h;obtain⟨v2,e2,h⟩:=bnE h;apply AW.step
 ·simp;intros;refine AS Ly (MB e1) rfl (by simp) ⟨.same rfl,.same rfl,trivial⟩ ?_;try simp
  intros;refine Cf [0,1] GB (GL e2) (by decide) (by simp[pickOb,Ae,Af]) rfl rfl (by simp) ⟨.l (.fn (by simp)),trivial⟩ ?_;try simp
  intros;rfl
 obtain rfl:=oi h;apply AW.ret;exact LP hz
theorem Nt:Enters Tryz.prog 38:=enters Tryz.func38 (by kernel_rfl) rfl
def Dk (n:Nat) (a0:List Effect):Option (List Effect) :=
chk (small 104 a0) <|
lt (lenI a0) fun v2 =>
bn (iter n (fun (y3:Int×List Effect) =>
lt (ltI y3.1 v2) fun v6 =>
ite' v6 (bn (nth y3.2 y3.1) fun v7 =>
bn (BM n v7.item) fun v9 =>
lt (y3.2.set y3.1.toNat (⟨v7.key,v7.gone,v9⟩:Effect)) fun v11 =>
lt (addI .i64 y3.1 1) fun v15 =>
some (.inl (v15,v11))) (some (.inr y3.2))) (0,a0)) fun (y4:List Effect) =>
chk (room y4.length 1) <|
some y4
theorem LA {n:Nat} {a0:List Effect} {r:List Effect} (h:Dk n a0=some r):Sound Tryz.prog 131 [.l (dD a0)] [] (.l (dD r)) []:=by
 unfold Dk at h;refine SO 24 Tryz.func131 fun cx hG (hz:cx.nb=0)=>?_;simp only[it];refine ST ?_;obtain⟨e1,h⟩:=chkE h;apply AW.step
 ·simp[outR];intros;refine AS Il (I5 a0 (B0 e1)) rfl (by simp) ⟨.same rfl,trivial⟩ ?_;try simp[outR]
  intros;rfl
 apply AW.seq;obtain⟨v2,e2,h⟩:=ltE h;refine AW.step (by simp[Ad e2];intros;rfl) ?_;apply AW.block;obtain⟨y4,g4,h⟩:=bnE h;refine zD g4 (mk:=fun gh ls q=>(⟨[(3,.l (.r 0 7 0 q.2.length)),(8,.l (iA v2)),(9,.l (iA q.1))],[some ⟨59,7,true,none,lvs (An q.2)⟩],24,gh,ls⟩:St)) (N:=fun gh ls=>(xP 0 (cx:=cx) (fun q=>(⟨[(3,.l (.r 0 7 0 q.length))],[some ⟨59,7,true,none,lvs (An q)⟩],24,gh,ls⟩:St)))) ?_ noX ?_ ?_
 ·exact WM [0] hz
 ·clear h;intro y3 y5 h
  obtain⟨v6,e6,h⟩:=ltE h;refine AW.step (by simp[← e6];intros;rfl) ?_;apply AW.seq;cases v6 with
  |true=>
   replace h:=iT h;refine CT ?_;apply AW.skip;try simp only[nm]
   apply AW.seq;apply AW.block;refine ST ?_;obtain⟨v7,e7,h⟩:=bnE h;have f8:=A0 e7;try simp[Aa e7] at f8
   obtain⟨v9,e9,h⟩:=bnE h;have f10:=A0 e7;try simp[Aa e7,f8,BD (Aa e7).2 (j:=2) (k:=5) (by decide),Br (Aa e7).2 (j:=2) (m:=5) (by decide),lvs1] at f10
   obtain⟨v11,e11,h⟩:=ltE h;have f12:=HU (Aa e7).2 e11 (j:=2) (cs:=(cE0 v9)) (by simp) rfl;try simp at f12
   have f13:=f8;try simp only[AC e11] at f13
   have f14:=f10;try simp only[AC e11] at f14
   apply AW.last
   ·simp[Aa e7,f8,BD (Aa e7).2 (j:=2) (k:=5) (by decide),Br (Aa e7).2 (j:=2) (m:=5) (by decide),lvs1,f10,f12,f13,f14];intros;refine Ab D8 (ED e9) rfl ⟨.same rfl,trivial⟩ ?_;try simp[Aa e7,f8,BD (Aa e7).2 (j:=2) (k:=5) (by decide),Br (Aa e7).2 (j:=2) (m:=5) (by decide),lvs1,f10,f12,f13,f14]
    intros;rfl
   try simp only[nm]
   obtain⟨v15,e15,h⟩:=ltE h;refine AW.last (by simp[← e15];intros;rfl) ?_;obtain rfl:=oi h;refine nP_i ?_;refine zG [some 0] hz (by decide) ?_ ?_ rfl;all_goals first|(simp[Ae,Af,pickOb,AC e11];done)|rfl
  |false=>
   replace h:=iF h;refine CF ?_;apply AW.exit;try simp only[nm]
   obtain rfl:=oi h;refine xP_i ?_;exact WM [0] hz
 ·rintro e s⟨rfl,hw⟩;refine⟨_,hw,?_⟩;try simp only[nm]
  refine ST ?_;obtain⟨e16,h⟩:=chkE h;refine FZ 0 59 7 (Bh y4) e16 ?_;obtain rfl:=oi h;apply AW.ret;exact LP hz
theorem Kx:Enters Tryz.prog 131:=enters Tryz.func131 (by kernel_rfl) rfl
def Eb (n:Nat) (a0:List Effect) (a1:Int):Option (List Effect) :=
lt (lenI a0) fun v1 =>
lt (subI .i64 v1 a1) fun v2 =>
lt (maxI 0 v2) fun v3 =>
bn (segl a0 v3) fun v4 =>
bn (Dk n v4) fun v6 =>
some v6
theorem Nu {n:Nat} {a0:List Effect} {a1:Int} {r:List Effect} (h:Eb n a0 a1=some r):Sound Tryz.prog 111 [.l (dD a0),.l (iA a1)] [] (.l (dD r)) []:=by
 unfold Eb at h;refine SO 13 Tryz.func111 fun cx hG (hz:cx.nb=0)=>?_;simp only[it];refine ST ?_;obtain⟨v1,e1,v2,e2,v3,e3,h⟩:=olll h;obtain⟨v4,e4,h⟩:=bnE h;have f5:=Hk e4;try simp[Ad e1,← e2,← e3] at f5
 obtain⟨v6,e6,h⟩:=bnE h;apply AW.step
 ·simp[Ad e1,← e2,← e3,f5];intros;refine Ab Kx (LA e6) rfl ⟨.same rfl,trivial⟩ ?_;try simp[Ad e1,← e2,← e3,f5]
  intros;rfl
 obtain rfl:=oi h;apply AW.ret;exact LP hz
theorem MC:Enters Tryz.prog 111:=enters Tryz.func111 (by kernel_rfl) rfl
def DT (n:Nat) (a0:Feed) (a1:List Effect):Option Feed :=
lt (lenI a1) fun v1 =>
lt (addI .i64 a0.off v1) fun v2 =>
chk (catB [a0.back,a1]) <|
lt (List.flatten [a0.back,a1]) fun v4 =>
bn (Eb n v4 64) fun v5 =>
some (⟨a0.rid,v2,v5,a0.prev,a0.upto⟩:Feed)
theorem J0 {n:Nat} {a0:Feed} {a1:List Effect} {r:Feed} (h:DT n a0 a1=some r):Sound Tryz.prog 82 [.g [iA a0.rid.node,iA a0.rid.epoch,iA a0.off,dD a0.back,iA a0.prev.node,iA a0.prev.epoch,iA a0.upto],.l (dD a1)] [] (.g [iA r.rid.node,iA r.rid.epoch,iA r.off,dD r.back,iA r.prev.node,iA r.prev.epoch,iA r.upto]) []:=by
 unfold DT at h;refine SO 19 Tryz.func82 fun cx hG (hz:cx.nb=0)=>?_;simp only[it];refine ST ?_;obtain⟨v1,e1,v2,e2,h⟩:=oll h;refine AW.step (by simp[Ad e1,← e2];intros;rfl) ?_;obtain⟨e3,v4,e4,h⟩:=ocl h;obtain⟨v5,e5,h⟩:=bnE h;apply AW.step
 ·simp[obAfter,outR,keptR,Ae,Af,← e4];intros;refine Ax ?_;try simp[obAfter,outR,keptR,Ae,Af,← e4]
  intros;refine EA [2] [3] ⟨_,rfl,rfl,rfl,rfl⟩ Mw (PQ [a0.back,a1] e3) (by decide) rfl rfl (by simp[pickOb]) rfl rfl rfl (by simp) (by simp) ⟨.l (.own (by simp[Ae,Af])),trivial⟩ ?_;try simp[obAfter,outR,keptR,Ae,Af,← e4]
  intros;refine Ab MC (Nu e5) rfl ⟨.same rfl,.same rfl,trivial⟩ ?_;try simp[obAfter,outR,keptR,Ae,Af,← e4]
  intros;rfl
 refine ST ?_;obtain rfl:=oi h;apply AW.ret;exact LP hz
theorem I7:Enters Tryz.prog 82:=enters Tryz.func82 (by kernel_rfl) rfl
def Cj (n:Nat) (a0:Int):Option ByteArray :=
lt (cvI .u64 a0) fun v1 =>
bn (lt (ltI a0 0) fun v3 =>
ite' v3 (lt (negI .u64 v1) fun v4 =>
some (v4)) (some (v1))) fun (y2:Int) =>
bn (iter n (fun (y5:Int×ByteArray) =>
lt (geI y5.1 10) fun v8 =>
ite' v8 (bn (remI .u64 y5.1 10) fun v9 =>
lt (addI .u64 48 v9) fun v10 =>
lt (cvI .u8 v10) fun v11 =>
lt (strL [v11]) fun v12 =>
bn (catS v12 y5.2) fun v14 =>
bn (quoI .u64 y5.1 10) fun v15 =>
some (.inl (v15,v14))) (some (.inr (y5.1,y5.2)))) (y2,⟨#[]⟩)) fun (y6:Int×ByteArray) =>
lt (addI .u64 48 y6.1) fun v16 =>
lt (cvI .u8 v16) fun v17 =>
lt (strL [v17]) fun v18 =>
bn (catS v18 y6.2) fun v20 =>
lt (ltI a0 0) fun v21 =>
ite' v21 (bn (catS ⟨#[45]⟩ v20) fun v22 =>
some v22) (some v20)
theorem DU {n:Nat} {a0:Int} {r:ByteArray} (h:Cj n a0=some r):Sound Tryz.prog 32 [.l (iA a0)] [] (.l (tA r)) []:=by
 unfold Cj at h;refine SO 35 Tryz.func32 fun cx hG (hz:cx.nb=0)=>?_;simp only[it];refine ST ?_;obtain⟨v1,e1,h⟩:=ltE h;refine AW.step (by simp[← e1];intros;rfl) ?_;obtain⟨y2,g2,h⟩:=bnE h;refine zC (p:=fun gh ls=>(nP (cx:=cx) (fun q=>(⟨[(0,.l (iA a0)),(3,.l (.s (.int .u64 q))),(4,.l (tA ⟨#[]⟩))],[],35,gh,ls⟩:St))) y2) ?_ ?_
 ·replace h:=g2;clear g2
  obtain⟨v3,e3,h⟩:=ltE h;refine AW.step (by simp[← e3];intros;rfl) ?_;cases v3 with
  |true=>
   replace h:=iT h;refine CT ?_;obtain⟨v4,e4,h⟩:=ltE h;refine AW.last (by simp[← e4];intros;rfl) ?_;obtain rfl:=oi h;exact nP_i (WM [] hz)
  |false=>
   replace h:=iF h;refine CF ?_;apply AW.skip;try simp only[nm]
   obtain rfl:=oi h;exact nP_i (WM [] hz)
 ·rintro e s⟨rfl,hw⟩;refine⟨_,hw,?_⟩;try simp only[nm]
  apply AW.seq;apply AW.block;obtain⟨y6,g6,h⟩:=bnE h;refine zD g6 (mk:=fun gh ls q=>(⟨[(0,.l (iA a0)),(3,.l (.s (.int .u64 q.1))),(4,.l (tA q.2))],[],35,gh,ls⟩:St)) (N:=fun gh ls=>(xP 0 (cx:=cx) (fun q=>(⟨[(0,.l (iA a0)),(3,.l (.s (.int .u64 q.1))),(4,.l (tA q.2))],[],35,gh,ls⟩:St)))) ?_ noX ?_ ?_
  ·exact WM [] hz
  ·clear h;intro y5 y7 h
   apply AW.seq;obtain⟨v8,e8,h⟩:=ltE h;refine AW.step (by simp[← e8];intros;rfl) ?_;cases v8 with
   |true=>
    replace h:=iT h;refine CT ?_;apply AW.skip;try simp only[nm]
    apply AW.block;obtain⟨v9,e9,h⟩:=bnE h;obtain⟨v10,e10,v11,e11,v12,e12,h⟩:=olll h;have f13:(⟨#[UInt8.ofNat (v11).toNat]⟩:ByteArray)=v12:=e12.symm;obtain⟨v14,e14,h⟩:=bnE h;apply AW.step
    ·simp[e9,← e10,← e11,f13,e14];intros;refine Ax ?_;try simp[e9,← e10,← e11,f13,e14]
     intros;rfl
    obtain⟨v15,e15,h⟩:=bnE h;refine AW.last (by simp[e15];intros;rfl) ?_;obtain rfl:=oi h;refine nP_i ?_;refine zG [] hz (by decide) ?_ ?_ rfl;all_goals first|(simp[Ae,Af,pickOb,FX];done)|rfl
   |false=>
    replace h:=iF h;refine CF ?_;apply AW.exit;try simp only[nm]
    obtain rfl:=oi h;refine xP_i ?_;exact WM [] hz
  ·rintro e s⟨rfl,hw⟩;refine⟨_,hw,?_⟩;try simp only[nm]
   obtain⟨v16,e16,v17,e17,v18,e18,h⟩:=olll h;have f19:(⟨#[UInt8.ofNat (v17).toNat]⟩:ByteArray)=v18:=e18.symm;obtain⟨v20,e20,h⟩:=bnE h;apply AW.step
   ·simp[← e16,← e17,f19,e20];intros;refine Ax ?_;try simp[← e16,← e17,f19,e20]
    intros;rfl
   apply AW.seq;obtain⟨v21,e21,h⟩:=ltE h;refine AW.step (by simp[← e21];intros;rfl) ?_;cases v21 with
   |true=>
    replace h:=iT h;refine CT ?_;obtain⟨v22,e22,h⟩:=bnE h;refine AW.step (by simp[e22];intros;rfl) ?_;obtain rfl:=oi h;apply AW.ret;exact LP hz
   |false=>
    replace h:=iF h;refine CF ?_;apply AW.skip;try simp only[nm]
    refine ST ?_;obtain rfl:=oi h;apply AW.ret;exact LP hz
theorem Dl:Enters Tryz.prog 32:=enters Tryz.func32 (by kernel_rfl) rfl
def Bb (n:Nat) (a0:Int):Option ByteArray :=
bn (remI .u8 a0 4) fun v1 =>
lt (addI .u8 97 v1) fun v2 =>
lt (strL [v2]) fun v3 =>
bn (catS ⟨#[123]⟩ v3) fun v5 =>
bn (catS v5 ⟨#[125]⟩) fun v6 =>
lt (cvI .i64 a0) fun v7 =>
bn (quoI .i64 v7 4) fun v8 =>
bn (remI .i64 v8 5) fun v9 =>
bn (Cj n v9) fun v10 =>
bn (catS v6 v10) fun v11 =>
some v11
theorem Fa {n:Nat} {a0:Int} {r:ByteArray} (h:Bb n a0=some r):Sound Tryz.prog 10 [.l (.s (.int .u8 a0))] [] (.l (tA r)) []:=by
 unfold Bb at h;refine SO 16 Tryz.func10 fun cx hG (hz:cx.nb=0)=>?_;simp only[it];refine ST ?_;obtain⟨v1,e1,v2,e2,h⟩:=obl h;obtain⟨v3,e3,h⟩:=ltE h;have f4:(⟨#[UInt8.ofNat (v2).toNat]⟩:ByteArray)=v3:=e3.symm;obtain⟨v5,e5,v6,e6,v7,e7,h⟩:=obbl h;obtain⟨v8,e8,h⟩:=bnE h;obtain⟨v9,e9,h⟩:=bnE h;obtain⟨v10,e10,h⟩:=bnE h;obtain⟨v11,e11,h⟩:=bnE h;apply zM (V:=[_,_,_,_,_,_,_,_,_,_,_,_]) (M:=[[],[some ⟨5,1,true,none,[.s (.int .u8 v2)]⟩]]) mixed [⟨[0],[],[(0,none)],false⟩,⟨[0],[0],[(3,some 0)],false⟩,⟨[0],[0,1],[(4,some 1)],false⟩,⟨[0],[0,1,2],[(5,some 2)],true⟩,⟨[1],[0,1,2,3],[(6,some 3)],false⟩,⟨[1],[0,1,2,3,4],[(7,some 4)],false⟩,⟨[1],[0,1,2,3,4,5],[(8,some 5)],false⟩,⟨[0,1],[],[(0,none)],false⟩,⟨[0,1],[7],[(10,some 7)],false⟩,⟨[0,1],[7,8],[(11,some 8)],false⟩,⟨[0,1],[7,8,9],[(12,some 9)],false⟩,⟨[0,1],[7,8,9,10],[(13,some 10)],false⟩,⟨[],[0,1,2,3,4,5,6,7,8,9,10,11],[],false⟩,⟨[],[0,1,2,3,4,5,6,7,8,9,10,11,12],[],false⟩] 12 1 (by kernel_rfl) (by kernel_rfl)
 ·rfl
 ·refine⟨?_,?_,?_,?_,?_,?_,?_,⟨?_,?_⟩,⟨?_,?_⟩,⟨?_,?_⟩,⟨?_,?_⟩,⟨?_,?_⟩,trivial⟩;iterate 3 (· intro tm hr;simp[AllL,rdV] at hr;simp[hr,e1,← e2,f4,e5,e6,← e7,e8,e9,e11];intros;exact KA)
  ·intro tm hr;simp[AllL,rdV] at hr;simp[hr,e1,← e2,f4,e5,e6,← e7,e8,e9,e11];intros;refine Ax ?_;try simp[e1,← e2,f4,e5,e6,← e7,e8,e9,e11]
   intros;exact KA
  iterate 11 (· intro tm hr;simp[AllL,rdV] at hr;simp[hr,e1,← e2,f4,e5,e6,← e7,e8,e9,e11];intros;exact KA)
  ·intro tm hr;simp[AllL,rdV] at hr;simp[hr,e1,← e2,f4,e5,e6,← e7,e8,e9,e11];intros;refine Ab Dl (DU e10) rfl ⟨.same rfl,trivial⟩ ?_;try simp[e1,← e2,f4,e5,e6,← e7,e8,e9,e11]
   intros;exact KA
  ·intro tm hr;simp[AllL,rdV] at hr;simp[hr,e1,← e2,f4,e5,e6,← e7,e8,e9,e11];intros;refine Ab Dl (DU e10) rfl ⟨.same rfl,trivial⟩ ?_;try simp[e1,← e2,f4,e5,e6,← e7,e8,e9,e11]
   intros;exact KA
 ·rfl
 ·simp[tmD,putD,e1,← e2,f4,e5,e6,← e7,e8,e9,e11];rfl
 ·simp[e1,← e2,f4,e5,e6,← e7,e8,e9,e11];intros;rfl
 obtain rfl:=oi h;apply AW.ret;exact LP hz
theorem Eo:Enters Tryz.prog 10:=enters Tryz.func10 (by kernel_rfl) rfl
def DD (n:Nat) (a0:List Field) (a1:ByteArray) (a2:ByteArray):Option (List Field) :=
bn (iter n (fun (y1:Bool×Int×List Field) =>
lt (lenI a0) fun v4 =>
lt (ltI y1.2.1 v4) fun v5 =>
ite' v5 (bn (bn (bn (lt (notB y1.1) fun v9 =>
ite' v9 (bn (nth a0 y1.2.1) fun v10 =>
lt (geS v10.name a1) fun v11 =>
some (v11)) (some (false))) fun (y8:Bool) =>
lt (y8) fun v12 =>
ite' v12 (chk (room (y1.2.2.length+1) 32) <|
lt (y1.2.2++[(⟨a1,a2⟩:Field)]) fun v14 =>
some ((true,v14))) (some ((y1.1,y1.2.2)))) fun (y7:Bool×List Field) =>
bn (nth a0 y1.2.1) fun v15 =>
lt (neS v15.name a1) fun v16 =>
ite' v16 (chk (room (y7.2.length+1) 32) <|
lt (y7.2++[v15]) fun v18 =>
some ((y7.1,v18))) (some ((y7.1,y7.2)))) fun (y6:Bool×List Field) =>
lt (addI .i64 y1.2.1 1) fun v19 =>
some (.inl (y6.1,v19,y6.2))) (some (.inr (y1.1,y1.2.2)))) (false,0,[])) fun (y2:Bool×List Field) =>
bn (lt (notB y2.1) fun v21 =>
ite' v21 (chk (room (y2.2.length+1) 32) <|
lt (y2.2++[(⟨a1,a2⟩:Field)]) fun v23 =>
some (v23)) (some (y2.2))) fun (y20:List Field) =>
chk (room y20.length 1) <|
some y20
theorem PT {n:Nat} {a0:List Field} {a1:ByteArray} {a2:ByteArray} {r:List Field} (h:DD n a0 a1 a2=some r):Sound Tryz.prog 84 [.l (dE a0),.l (tA a1),.l (tA a2)] [] (.l (dE r)) []:=by
 unfold DD at h;refine SO 56 Tryz.func84 fun cx hG (hz:cx.nb=0)=>?_;simp only[it];refine ST ?_;refine ST ?_;refine ST ?_;apply AW.seq;refine ST ?_;apply AW.block;obtain⟨y2,g2,h⟩:=bnE h;refine zD g2 (mk:=fun gh ls q=>(⟨[(0,.l (dE a0)),(1,.l (tA a1)),(2,.l (tA a2)),(7,.l (.r 0 2 0 q.2.2.length)),(8,.l (bA q.1)),(9,.l (iA q.2.1))],[some ⟨157,2,true,none,lvs (Av q.2.2)⟩],56,gh,ls⟩:St)) (N:=fun gh ls=>(xP 0 (cx:=cx) (fun q=>(⟨[(1,.l (tA a1)),(2,.l (tA a2)),(7,.l (.r 0 2 0 q.2.length)),(8,.l (bA q.1))],[some ⟨157,2,true,none,lvs (Av q.2)⟩],56,gh,ls⟩:St)))) ?_ noX ?_ ?_
 ·refine W.nilRow 7 157 2 0 (by simp) rfl rfl ?_;exact WM [0] hz
 ·clear h;intro y1 y3 h
  apply AW.seq;obtain⟨v4,e4,v5,e5,h⟩:=oll h;refine AW.step (by simp[Ad e4,← e5];intros;rfl) ?_;cases v5 with
  |true=>
   replace h:=iT h;refine CT ?_;apply AW.skip;try simp only[nm]
   obtain⟨y6,g6,h⟩:=bnE h;refine zC (p:=fun gh ls=>(nP (cx:=cx) (fun q=>(⟨[(0,.l (dE a0)),(1,.l (tA a1)),(2,.l (tA a2)),(7,.l (.r 0 2 0 q.2.length)),(8,.l (bA q.1)),(9,.l (iA y1.2.1))],[some ⟨157,2,true,none,lvs (Av q.2)⟩],56,gh,ls⟩:St))) y6) ?_ ?_
   ·replace h:=g6;clear g6
    apply AW.block;obtain⟨y7,g7,h⟩:=bnE h;refine zC (p:=fun gh ls=>(nP (cx:=cx) (fun q=>(⟨[(0,.l (dE a0)),(1,.l (tA a1)),(2,.l (tA a2)),(7,.l (.r 0 2 0 q.2.length)),(8,.l (bA q.1)),(9,.l (iA y1.2.1))],[some ⟨157,2,true,none,lvs (Av q.2)⟩],56,gh,ls⟩:St))) y7) ?_ ?_
    ·replace h:=g7;clear g7
     obtain⟨y8,g8,h⟩:=bnE h;refine zC (p:=fun gh ls=>(nP (cx:=cx) (fun q=>(⟨[(0,.l (dE a0)),(1,.l (tA a1)),(2,.l (tA a2)),(7,.l (.r 0 2 0 y1.2.2.length)),(8,.l (bA y1.1)),(9,.l (iA y1.2.1)),(26,.l (bA q))],[some ⟨157,2,true,none,lvs (Av y1.2.2)⟩],56,gh,ls⟩:St))) y8) ?_ ?_
     ·replace h:=g8;clear g8
      obtain⟨v9,e9,h⟩:=ltE h;cases v9 with
      |true=>
       replace h:=iT h;obtain⟨v10,e10,v11,e11,h⟩:=obl h;refine AW.last (by simp[← e9,Aa e10,← e11];intros;rfl) ?_;obtain rfl:=oi h;exact nP_i (WM [0] hz)
      |false=>
       replace h:=iF h;refine AW.last (by simp[← e9];intros;rfl) ?_;obtain rfl:=oi h;exact nP_i (WM [0] hz)
     ·rintro e s⟨rfl,hw⟩;refine⟨_,hw,?_⟩;try simp only[nm]
      obtain⟨v12,e12,h⟩:=ltE h;rw[← e12];cases v12 with
      |true=>
       replace h:=iT h;refine CT ?_;obtain⟨e13,v14,e14,h⟩:=ocl h;apply AW.step
       ·simp[← Bn,← e14,Ar e14];intros;refine Ax ?_;try simp[← Bn,← e14,Ar e14]
        intros;refine AD (acc:=Av y1.2.2) (ys:=Av [(⟨a1,a2⟩:Field)]) (cap:=none) (k:=1) IN HB (by simp) (by simp[Av,lvs]) (DR _) (by simp) (by simp) (by first|(simp;done)|simpa using (Aw e13).1) ?_;try simp[← Bn,← e14,Ar e14]
        intros;rfl
       refine SL ?_;obtain rfl:=oi h;refine nP_i ?_;refine zG [some 2] hz (by decide) ?_ ?_ rfl;all_goals first|(simp[Ae,Af,pickOb,F7];done)|rfl
      |false=>
       replace h:=iF h;refine CF ?_;apply AW.skip;try simp only[nm]
       obtain rfl:=oi h;exact nP_i (WM [0] hz)
    ·rintro e s⟨rfl,hw⟩;refine⟨_,hw,?_⟩;try simp only[nm]
     obtain⟨v15,e15,v16,e16,h⟩:=obl h;refine AW.step (by simp[Aa e15,← e16];intros;rfl) ?_;cases v16 with
     |true=>
      replace h:=iT h;refine CT ?_;obtain⟨e17,v18,e18,h⟩:=ocl h;apply AW.last
      ·simp[Aa e15,← Bn,← e18,Ar e18];intros;refine Ax ?_;try simp[Aa e15,← Bn,← e18,Ar e18]
       intros;refine AD (acc:=Av y7.2) (ys:=Av [v15]) (cap:=none) (k:=1) IN HB (by simp) (by simp[Av,lvs]) (DR _) (by simp) (by simp) (by first|(simp;done)|simpa using (Aw e17).1) ?_;try simp[Aa e15,← Bn,← e18,Ar e18]
       intros;rfl
      obtain rfl:=oi h;refine nP_i ?_;refine zG [some 2] hz (by decide) ?_ ?_ rfl;all_goals first|(simp[Ae,Af,pickOb,F7];done)|rfl
     |false=>
      replace h:=iF h;refine CF ?_;apply AW.skip;try simp only[nm]
      obtain rfl:=oi h;exact nP_i (WM [0] hz)
   ·rintro e s⟨rfl,hw⟩;refine⟨_,hw,?_⟩;try simp only[nm]
    obtain⟨v19,e19,h⟩:=ltE h;refine AW.last (by simp[← e19];intros;rfl) ?_;obtain rfl:=oi h;exact nP_i (WM [0] hz)
  |false=>
   replace h:=iF h;refine CF ?_;apply AW.exit;try simp only[nm]
   obtain rfl:=oi h;refine xP_i ?_;exact WM [0] hz
 ·rintro e s⟨rfl,hw⟩;refine⟨_,hw,?_⟩;try simp only[nm]
  obtain⟨y20,g20,h⟩:=bnE h;refine zC (p:=fun gh ls=>(nP (cx:=cx) (fun q=>(⟨[(7,.l (.r 0 2 0 q.length))],[some ⟨157,2,true,none,lvs (Av q)⟩],56,gh,ls⟩:St))) y20) ?_ ?_
  ·replace h:=g20;clear g20
   obtain⟨v21,e21,h⟩:=ltE h;refine AW.step (by simp[← e21];intros;rfl) ?_;cases v21 with
   |true=>
    replace h:=iT h;refine CT ?_;obtain⟨e22,v23,e23,h⟩:=ocl h;apply AW.last
    ·simp[← Bn,← e23,Ar e23];intros;refine Ax ?_;try simp[← Bn,← e23,Ar e23]
     intros;refine AD (acc:=Av y2.2) (ys:=Av [(⟨a1,a2⟩:Field)]) (cap:=none) (k:=1) IN HB (by simp) (by simp[Av,lvs]) (DR _) (by simp) (by simp) (by first|(simp;done)|simpa using (Aw e22).1) ?_;try simp[← Bn,← e23,Ar e23]
     intros;rfl
    obtain rfl:=oi h;refine nP_i ?_;refine zG [some 2] hz (by decide) ?_ ?_ rfl;all_goals first|(simp[Ae,Af,pickOb,F7];done)|rfl
   |false=>
    replace h:=iF h;refine CF ?_;apply AW.skip;try simp only[nm]
    obtain rfl:=oi h;exact nP_i (WM [0] hz)
  ·rintro e s⟨rfl,hw⟩;refine⟨_,hw,?_⟩;try simp only[nm]
   refine ST ?_;obtain⟨e24,h⟩:=chkE h;refine FZ 0 157 2 (DR y20) e24 ?_;obtain rfl:=oi h;apply AW.ret;exact LP hz
theorem OQ:Enters Tryz.prog 84:=enters Tryz.func84 (by kernel_rfl) rfl
def J1 (n:Nat) (a0:List ByteArray) (a1:ByteArray):Option Bool :=
bn (iter n (fun (y1:Int) =>
lt (lenI a0) fun v4 =>
lt (ltI y1 v4) fun v5 =>
ite' v5 (bn (nth a0 y1) fun v6 =>
lt (eqS v6 a1) fun v7 =>
ite' v7 (some (.inr (.inr true))) (lt (addI .i64 y1 1) fun v8 =>
some (.inl v8))) (some (.inr (.inl ())))) 0) fun (y2:Unit ⊕ Bool) =>
sm y2 (fun y9=>some false) (fun y10=>some y10)
def CR (n:Nat) (a0:List ByteArray) (a1:ByteArray):Option Bool :=
bn (iter n (fun (y1:Int) =>
lt (lenI a0) fun v4 =>
lt (ltI y1 v4) fun v5 =>
ite' v5 (bn (nth a0 y1) fun v6 =>
lt (eqS v6 a1) fun v7 =>
ite' v7 (some (.inr (.inr true))) (lt (addI .i64 y1 1) fun v8 =>
some (.inl v8))) (some (.inr (.inl ())))) 0) fun (y2:Unit ⊕ Bool) =>
sm y2 (fun y9=>some false) (fun y10=>some y10)
theorem MD {n:Nat} {a0:List ByteArray} {a1:ByteArray} {r:Bool} (h:CR n a0 a1=some r):Sound Tryz.prog 113 [.l (.d true 1 (encS a0)),.l (tA a1)] [] (.l (bA r)) []:=by
 unfold CR at h;refine SO 18 Tryz.func113 fun cx hG (hz:cx.nb=0)=>?_;simp only[it];refine ST ?_;apply AW.seq;refine ST ?_;apply AW.block;obtain⟨y2,g2,h⟩:=bnE h;refine zD g2 (mk:=fun gh ls q=>(⟨[(0,.l (.d true 1 (encS a0))),(1,.l (tA a1)),(5,.l (iA q))],[],18,gh,ls⟩:St)) (N:=fun gh ls=>(sp (xP 0 (cx:=cx) (fun _=>(⟨[],[],18,gh,ls⟩:St))) (rP (cx:=cx) (P:=Tryz.prog) Tryz.f113 (fun q=>.l (bA q)) (fun q=>[])))) ?_ (noS noX noR) ?_ ?_
 ·exact WM [] hz
 ·clear h;intro y1 y3 h
  apply AW.seq;obtain⟨v4,e4,v5,e5,h⟩:=oll h;refine AW.step (by simp[Ad e4,← e5];intros;rfl) ?_;cases v5 with
  |true=>
   replace h:=iT h;refine CT ?_;apply AW.skip;try simp only[nm]
   apply AW.seq;apply AW.block;obtain⟨v6,e6,v7,e7,h⟩:=obl h;refine AW.step (by simp[Aa e6,← e7];intros;rfl) ?_;cases v7 with
   |true=>
    replace h:=iT h;refine CT ?_;refine ST ?_;obtain rfl:=oi h;apply AW.ret;try simp only[nm]
    refine rP_i ?_;exact LP hz
   |false=>
    replace h:=iF h;refine CF ?_;apply AW.skip;try simp only[nm]
    obtain⟨v8,e8,h⟩:=ltE h;refine AW.last (by simp[← e8];intros;rfl) ?_;obtain rfl:=oi h;exact nP_i (WM [] hz)
  |false=>
   replace h:=iF h;refine CF ?_;apply AW.exit;try simp only[nm]
   obtain rfl:=oi h;try simp only[sp_l,sp_r]
   refine xP_i ?_;exact WM [] hz
 ·rintro e s hp;rcases y2 with y9|y10
  ·replace h:=smL h;obtain⟨rfl,hw⟩:=hp;refine⟨_,hw,?_⟩;try simp only[nm]
   refine ST ?_;obtain rfl:=oi h;apply AW.ret;exact LP hz
  ·replace h:=smR h;obtain⟨rfl,hl⟩:=hp;refine⟨_,Weak.refl _,?_⟩;obtain rfl:=oi h;exact hl
theorem LB:Enters Tryz.prog 113:=enters Tryz.func113 (by kernel_rfl) rfl
def Cp (n:Nat) (a0:List ByteArray) (a1:ByteArray):Option (List ByteArray) :=
bn (CR n a0 a1) fun v1 =>
ite' v1 (chk (room a0.length 16) <|
some a0) (bn (iter n (fun (y3:Int) =>
bn (lt (lenI a0) fun v7 =>
lt (ltI y3 v7) fun v8 =>
ite' v8 (bn (nth a0 y3) fun v9 =>
lt (ltS v9 a1) fun v10 =>
some (v10)) (some (false))) fun (y6:Bool) =>
lt (y6) fun v11 =>
ite' v11 (lt (addI .i64 y3 1) fun v12 =>
some (.inl v12)) (some (.inr y3))) 0) fun (y4:Int) =>
bn (segh a0 y4) fun v13 =>
chk (room v13.length 16) <|
chk (room (v13.length+1) 16) <|
lt (v13++[a1]) fun v17 =>
bn (segl a0 y4) fun v18 =>
chk (room (v17.length+v18.length) 16) <|
lt (v17++v18) fun v21 =>
some v21)
theorem ME {n:Nat} {a0:List ByteArray} {a1:ByteArray} {r:List ByteArray} (h:Cp n a0 a1=some r):Sound Tryz.prog 85 [.l (.d true 1 (encS a0)),.l (tA a1)] [] (.l (.r 0 1 0 r.length)) [some ⟨9,1,true,none,lvs (encS r)⟩]:=by
 unfold Cp at h;refine SO 41 Tryz.func85 fun cx hG (hz:cx.nb=0)=>?_;simp only[it];refine ST ?_;apply AW.seq;obtain⟨v1,e1,h⟩:=bnE h;apply AW.step
 ·simp;intros;refine Ab LB (MD e1) rfl ⟨.d _ _ _,.same rfl,trivial⟩ ?_;try simp
  intros;rfl
 cases v1 with
 |true=>
  replace h:=iT h;refine CT ?_;obtain⟨e2,h⟩:=chkE h;apply AW.step
  ·simp;intros;refine Ax ?_;try simp
   intros;refine AD (acc:=[]) (ys:=encS a0) (cap:=none) (k:=a0.length) E7 FV (by simp) (by rw[Mh,GQ];simp) (by simp) (by simp) (by simp) (by first|(simp;done)|simpa using (Aw e2).1) ?_;try simp
   intros;rfl
  obtain rfl:=oi h;apply AW.ret;refine Left.of (av:=_) (by simp[Tryz.f85,resV,resC,comp];rfl) ?_;exact zJ 0 [some 1] hz rfl (by decide) rfl (by simp[pickOb,Ae,Af]) (by simp[Ae,Af])
 |false=>
  replace h:=iF h;refine CF ?_;apply AW.skip;try simp only[nm]
  refine ST ?_;apply AW.seq;apply AW.block;obtain⟨y4,g4,h⟩:=bnE h;refine zD g4 (mk:=fun gh ls q=>(⟨[(0,.l (.d true 1 (encS a0))),(1,.l (tA a1)),(5,.l (iA q))],[],41,gh,ls⟩:St)) (N:=fun gh ls=>(xP 0 (cx:=cx) (fun q=>(⟨[(0,.l (.d true 1 (encS a0))),(1,.l (tA a1)),(5,.l (iA q))],[],41,gh,ls⟩:St)))) ?_ noX ?_ ?_
  ·exact WM [] hz
  ·clear h;intro y3 y5 h
   apply AW.seq;obtain⟨y6,g6,h⟩:=bnE h;refine zC (p:=fun gh ls=>(nP (cx:=cx) (fun q=>(⟨[(0,.l (.d true 1 (encS a0))),(1,.l (tA a1)),(5,.l (iA y3)),(24,.l (bA q))],[],41,gh,ls⟩:St))) y6) ?_ ?_
   ·replace h:=g6;clear g6
    obtain⟨v7,e7,v8,e8,h⟩:=oll h;cases v8 with
    |true=>
     replace h:=iT h;obtain⟨v9,e9,v10,e10,h⟩:=obl h;refine AW.last (by simp[Ad e7,← e8,Aa e9,← e10];intros;rfl) ?_;obtain rfl:=oi h;exact nP_i (WM [] hz)
    |false=>
     replace h:=iF h;refine AW.last (by simp[Ad e7,← e8];intros;rfl) ?_;obtain rfl:=oi h;exact nP_i (WM [] hz)
   ·rintro e s⟨rfl,hw⟩;refine⟨_,hw,?_⟩;try simp only[nm]
    obtain⟨v11,e11,h⟩:=ltE h;rw[← e11];cases v11 with
    |true=>
     replace h:=iT h;refine CT ?_;apply AW.skip;try simp only[nm]
     apply AW.block;obtain⟨v12,e12,h⟩:=ltE h;refine AW.last (by simp[← e12];intros;rfl) ?_;obtain rfl:=oi h;exact nP_i (WM [] hz)
    |false=>
     replace h:=iF h;refine CF ?_;apply AW.exit;try simp only[nm]
     obtain rfl:=oi h;refine xP_i ?_;exact WM [] hz
  ·rintro e s⟨rfl,hw⟩;refine⟨_,hw,?_⟩;try simp only[nm]
   obtain⟨v13,e13,h⟩:=bnE h;have f14:=PE e13;try simp at f14
   obtain⟨e15,h⟩:=chkE h;apply AW.step
   ·simp[f14];intros;refine Ax ?_;try simp[f14]
    intros;refine AD (acc:=[]) (ys:=encS v13) (cap:=none) (k:=v13.length) E7 FV (by simp) (by rw[Mh,GQ];simp) (by simp) (by simp) (by simp) (by first|(simp;done)|simpa using (Aw e15).1) ?_;try simp[f14]
    intros;rfl
   obtain⟨e16,v17,e17,h⟩:=ocl h;apply AW.step
   ·simp[← Be,← e17,Ar e17];intros;refine Ax ?_;try simp[← Be,← e17,Ar e17]
    intros;refine AD (acc:=encS v13) (ys:=encS [a1]) (cap:=none) (k:=1) E7 FV (by simp) (by simp[encS,lvs]) (Dh _) (by simp) (by simp) (by first|(simp;done)|simpa using (Aw e16).1) ?_;try simp[← Be,← e17,Ar e17]
    intros;rfl
   obtain⟨v18,e18,h⟩:=bnE h;have f19:=PD e18;try simp at f19
   obtain⟨e20,v21,e21,h⟩:=ocl h;apply AW.step
   ·simp[f19,← Be,← e21,Cn e21];intros;refine AD (acc:=encS v17) (ys:=encS v18) (cap:=none) (k:=v18.length) E7 FV (by simp) (by rw[Mh,GQ];simp) (Dh _) (by simp) (by simp) (by first|(simp;done)|simpa using (Aw e20).1) ?_;try simp[f19,← Be,← e21,Cn e21]
    intros;rfl
   obtain rfl:=oi h;apply AW.ret;refine Left.of (av:=_) (by simp[Tryz.f85,resV,resC,comp];rfl) ?_;exact zJ 0 [some 4] hz rfl (by decide) rfl (by simp[pickOb,Ae,Af,FW]) (by simp[Ae,Af,FW])
theorem LC:Enters Tryz.prog 85:=enters Tryz.func85 (by kernel_rfl) rfl
def C0 (n:Nat) (a0:List Int) (a1:Int):Option Item :=
lt (lenI a0) fun v1 =>
lt (eqI v1 0) fun v2 =>
ite' v2 (some (⟨1,⟨#[]⟩,[],[],0⟩:Item)) (bn (nth a0 0) fun v3 =>
lt (cvI .i64 v3) fun v4 =>
bn (remI .i64 v4 4) fun v5 =>
lt (addI .i64 1 v5) fun v6 =>
bn (bn (remI .u8 a1 3) fun v8 =>
lt (eqI v8 0) fun v9 =>
ite' v9 (lt (cvI .i64 a1) fun v10 =>
some (v10)) (some (0))) fun (y7:Int) =>
bn (iter n (fun (y11:Int×ByteArray×List Field×List ByteArray) =>
bn (lt (lenI a0) fun v15 =>
lt (ltI y11.1 v15) fun v16 =>
ite' v16 (lt (ltI y11.1 9) fun v17 =>
some (v17)) (some (false))) fun (y14:Bool) =>
lt (y14) fun v18 =>
ite' v18 (bn (bn (nth a0 y11.1) fun v20 =>
bn (remI .u8 v20 5) fun v21 =>
lt (addI .u8 97 v21) fun v22 =>
lt (strL [v22]) fun v23 =>
lt (cvI .i64 v20) fun v25 =>
bn (remI .i64 v25 3) fun v26 =>
bn (Cj n v26) fun v27 =>
bn (catS v23 v27) fun v28 =>
lt (eqI v6 1) fun v29 =>
ite' v29 (bn (catS y11.2.1 v28) fun v30 =>
some ((v30,y11.2.2.1,y11.2.2.2))) (lt (eqI v6 2) fun v31 =>
ite' v31 (lt (subI .i64 v25 100) fun v32 =>
bn (Cj n v32) fun v33 =>
bn (DD n y11.2.2.1 v28 v33) fun v34 =>
some ((y11.2.1,v34,y11.2.2.2))) (lt (eqI v6 3) fun v35 =>
ite' v35 (chk (room (y11.2.2.2.length+1) 16) <|
lt (y11.2.2.2++[v28]) fun v37 =>
some ((y11.2.1,y11.2.2.1,v37))) (chk (room y11.2.2.2.length 1) <|
bn (Cp n y11.2.2.2 v28) fun v39 =>
some ((y11.2.1,y11.2.2.1,v39)))))) fun (y19:ByteArray×List Field×List ByteArray) =>
lt (addI .i64 y11.1 1) fun v40 =>
some (.inl (v40,y19.1,y19.2.1,y19.2.2))) (some (.inr (y11.2.1,y11.2.2.1,y11.2.2.2)))) (1,⟨#[]⟩,[],[])) fun (y12:ByteArray×List Field×List ByteArray) =>
bn (lt (lenI a0) fun v42 =>
lt (eqI v42 1) fun v43 =>
ite' v43 (lt (neI v6 1) fun v44 =>
some (v44)) (some (false))) fun (y41:Bool) =>
lt (y41) fun v45 =>
ite' v45 (bn (nth a0 0) fun v46 =>
lt (cvI .i64 v46) fun v47 =>
bn (Cj n v47) fun v48 =>
some (⟨1,v48,[],[],y7⟩:Item)) (chk (room y12.2.2.length 1) <|
some (⟨v6,y12.1,y12.2.1,y12.2.2,y7⟩:Item)))
theorem PU {n:Nat} {a0:List Int} {a1:Int} {r:Item} (h:C0 n a0 a1=some r):Sound Tryz.prog 47 [.l (dF a0),.l (.s (.int .u8 a1))] [] (.g (cE0 r)) []:=by
 unfold C0 at h;refine SO 104 Tryz.func47 fun cx hG (hz:cx.nb=0)=>?_;simp only[it];refine ST ?_;apply AW.seq;obtain⟨v1,e1,v2,e2,h⟩:=oll h;refine AW.step (by simp[Ad e1,← e2];intros;rfl) ?_;cases v2 with
 |true=>
  replace h:=iT h;refine CT ?_;refine ST ?_;refine AW.nilCellD 0 2 2 rfl rfl rfl rfl ?_;refine AW.nilCellD 0 3 1 rfl rfl rfl rfl ?_;obtain rfl:=oi h;apply AW.ret;exact LP hz
 |false=>
  replace h:=iF h;refine CF ?_;apply AW.skip;try simp only[nm]
  obtain⟨v3,e3,v4,e4,h⟩:=obl h;obtain⟨v5,e5,v6,e6,h⟩:=obl h;apply AW.step
  ·simp[(show a0[0]?=some v3 from (Aa e3).2),← e4,e5,← e6];intros;rfl
  obtain⟨y7,g7,h⟩:=bnE h;refine zC (p:=fun gh ls=>(nP (cx:=cx) (fun q=>(⟨[(0,.l (dF a0)),(4,.l (.p 0 0)),(5,.l (.p 1 0))],[some ⟨57,5,false,none,cP0⟩,some ⟨57,5,false,none,[iA v6,tA ⟨#[]⟩,.s (.slice none 0 0),.s (.slice none 0 0),iA q]⟩],104,gh,ls⟩:St))) y7) ?_ ?_
  ·replace h:=g7;clear g7
   obtain⟨v8,e8,v9,e9,h⟩:=obl h;refine AW.step (by simp[e8,← e9];intros;rfl) ?_;cases v9 with
   |true=>
    replace h:=iT h;refine CT ?_;obtain⟨v10,e10,h⟩:=ltE h;refine AW.last (by simp[← e10];intros;rfl) ?_;obtain rfl:=oi h;exact nP_i (WM [0,1] hz)
   |false=>
    replace h:=iF h;refine CF ?_;apply AW.skip;try simp only[nm]
    obtain rfl:=oi h;exact nP_i (WM [0,1] hz)
  ·rintro e s⟨rfl,hw⟩;refine⟨_,hw,?_⟩;try simp only[nm]
   apply AW.seq;refine ST ?_;apply AW.block;obtain⟨y12,g12,h⟩:=bnE h;refine zD g12 (mk:=fun gh ls q=>(⟨[(0,.l (dF a0)),(4,.l (.p 0 0)),(5,.l (.p 1 0)),(6,.l (iA q.1))],[some ⟨57,5,false,none,cP0⟩,some ⟨57,5,false,none,[iA v6,tA q.2.1,dE q.2.2.1,.r 2 1 0 q.2.2.2.length,iA y7]⟩,some ⟨9,1,true,none,lvs (encS q.2.2.2)⟩],104,gh,ls⟩:St)) (N:=fun gh ls=>(xP 0 (cx:=cx) (fun q=>(⟨[(0,.l (dF a0)),(4,.l (.p 0 0)),(5,.l (.p 1 0))],[some ⟨57,5,false,none,cP0⟩,some ⟨57,5,false,none,[iA v6,tA q.1,dE q.2.1,.r 2 1 0 q.2.2.length,iA y7]⟩,some ⟨9,1,true,none,lvs (encS q.2.2)⟩],104,gh,ls⟩:St)))) ?_ noX ?_ ?_
   ·refine W.nilCellD 1 2 2 rfl rfl rfl rfl ?_;refine W.nilCell 1 3 9 1 2 rfl rfl rfl rfl rfl ?_;exact WM [0,1,2] hz
   ·clear h;intro y11 y13 h
    apply AW.seq;obtain⟨y14,g14,h⟩:=bnE h;refine zC (p:=fun gh ls=>(nP (cx:=cx) (fun q=>(⟨[(0,.l (dF a0)),(4,.l (.p 0 0)),(5,.l (.p 1 0)),(6,.l (iA y11.1)),(32,.l (bA q))],[some ⟨57,5,false,none,cP0⟩,some ⟨57,5,false,none,[iA v6,tA y11.2.1,dE y11.2.2.1,.r 2 1 0 y11.2.2.2.length,iA y7]⟩,some ⟨9,1,true,none,lvs (encS y11.2.2.2)⟩],104,gh,ls⟩:St))) y14) ?_ ?_
    ·replace h:=g14;clear g14
     obtain⟨v15,e15,v16,e16,h⟩:=oll h;cases v16 with
     |true=>
      replace h:=iT h;obtain⟨v17,e17,h⟩:=ltE h;refine AW.last (by simp[Ad e15,← e16,← e17];intros;rfl) ?_;obtain rfl:=oi h;exact nP_i (WM [0,1,2] hz)
     |false=>
      replace h:=iF h;refine AW.last (by simp[Ad e15,← e16];intros;rfl) ?_;obtain rfl:=oi h;exact nP_i (WM [0,1,2] hz)
    ·rintro e s⟨rfl,hw⟩;refine⟨_,hw,?_⟩;try simp only[nm]
     obtain⟨v18,e18,h⟩:=ltE h;rw[← e18];cases v18 with
     |true=>
      replace h:=iT h;refine CT ?_;apply AW.skip;try simp only[nm]
      obtain⟨y19,g19,h⟩:=bnE h;refine zC (p:=fun gh ls=>(nP (cx:=cx) (fun q=>(⟨[(0,.l (dF a0)),(4,.l (.p 0 0)),(5,.l (.p 1 0)),(6,.l (iA y11.1))],[some ⟨57,5,false,none,cP0⟩,some ⟨57,5,false,none,[iA v6,tA q.1,dE q.2.1,.r 2 1 0 q.2.2.length,iA y7]⟩,some ⟨9,1,true,none,lvs (encS q.2.2)⟩],104,gh,ls⟩:St))) y19) ?_ ?_
      ·replace h:=g19;clear g19
       apply AW.block;obtain⟨v20,e20,v21,e21,v22,e22,h⟩:=obbl h;obtain⟨v23,e23,h⟩:=ltE h;have f24:(⟨#[UInt8.ofNat (v22).toNat]⟩:ByteArray)=v23:=e23.symm;obtain⟨v25,e25,v26,e26,h⟩:=olb h;obtain⟨v27,e27,h⟩:=bnE h;obtain⟨v28,e28,h⟩:=bnE h;apply zM (V:=[_,_,_,_,_,_,_,_,_,_,_,_,_,_,_]) (M:=[[some ⟨57,5,false,none,cP0⟩,some ⟨57,5,false,none,[iA v6,tA y11.2.1,dE y11.2.2.1,.r 2 1 0 y11.2.2.2.length,iA y7]⟩,some ⟨9,1,true,none,lvs (encS y11.2.2.2)⟩],[some ⟨57,5,false,none,cP0⟩,some ⟨57,5,false,none,[iA v6,tA y11.2.1,dE y11.2.2.1,.r 2 1 0 y11.2.2.2.length,iA y7]⟩,some ⟨9,1,true,none,lvs (encS y11.2.2.2)⟩,some ⟨5,1,true,none,[.s (.int .u8 v22)]⟩]]) mixed [⟨[0],[],[(0,none)],false⟩,⟨[0],[],[(6,none)],false⟩,⟨[0],[0,1],[(35,some 0),(36,some 1)],false⟩,⟨[0],[0,1,2],[(37,some 2)],false⟩,⟨[0],[0,1,2,3],[(38,some 3)],false⟩,⟨[0],[0,1,2,3,4],[(39,some 4)],false⟩,⟨[0],[0,1,2,3,4,5],[(40,some 5)],true⟩,⟨[1],[0,1,2,3,4,5,6],[(41,some 6)],false⟩,⟨[0,1],[],[(0,none)],false⟩,⟨[0,1],[],[(6,none)],false⟩,⟨[0,1],[8,9],[(43,some 8),(44,some 9)],false⟩,⟨[0,1],[8,9,10],[(45,some 10)],false⟩,⟨[0,1],[8,9,10,11],[(46,some 11)],false⟩,⟨[0,1],[8,9,10,11,12],[(47,some 12)],false⟩,⟨[0,1],[8,9,10,11,12,13],[(48,some 13)],false⟩,⟨[],[0,1,2,3,4,5,6,7,8,9,10,11,12,13,14],[],false⟩,⟨[],[0,1,2,3,4,5,6,7,8,9,10,11,12,13,14,15],[],false⟩] 15 1 (by kernel_rfl) (by kernel_rfl)
       ·rfl
       ·refine⟨?_,?_,?_,?_,?_,?_,?_,?_,⟨?_,?_⟩,⟨?_,?_⟩,⟨?_,?_⟩,⟨?_,?_⟩,⟨?_,?_⟩,⟨?_,?_⟩,⟨?_,?_⟩,trivial⟩;iterate 6 (· intro tm hr;simp[AllL,rdV] at hr;simp[hr,Aa e20,e21,← e22,f24,← e25,e26,e28];intros;exact KA)
        ·intro tm hr;simp[AllL,rdV] at hr;simp[hr,Aa e20,e21,← e22,f24,← e25,e26,e28];intros;refine Ax ?_;try simp[Aa e20,e21,← e22,f24,← e25,e26,e28]
         intros;exact KA
        iterate 13 (· intro tm hr;simp[AllL,rdV] at hr;simp[hr,Aa e20,e21,← e22,f24,← e25,e26,e28];intros;exact KA)
        ·intro tm hr;simp[AllL,rdV] at hr;simp[hr,Aa e20,e21,← e22,f24,← e25,e26,e28];intros;refine Ab Dl (DU e27) rfl ⟨.same rfl,trivial⟩ ?_;try simp[Aa e20,e21,← e22,f24,← e25,e26,e28]
         intros;exact KA
        ·intro tm hr;simp[AllL,rdV] at hr;simp[hr,Aa e20,e21,← e22,f24,← e25,e26,e28];intros;refine Ab Dl (DU e27) rfl ⟨.same rfl,trivial⟩ ?_;try simp[Aa e20,e21,← e22,f24,← e25,e26,e28]
         intros;exact KA
       ·rfl
       ·simp[tmD,putD,Aa e20,e21,← e22,f24,← e25,e26,e28];rfl
       ·simp[Aa e20,e21,← e22,f24,← e25,e26,e28];intros;rfl
       refine ST ?_;apply AW.block;obtain⟨v29,e29,h⟩:=ltE h;refine AW.step (by simp[← e29];intros;rfl) ?_;cases v29 with
       |true=>
        replace h:=iT h;refine CT ?_;obtain⟨v30,e30,h⟩:=bnE h;refine AW.last (by simp[e30];intros;rfl) ?_;obtain rfl:=oi h;refine nP_i ?_;refine zG [some 0,some 1,some 2] hz (by decide) ?_ ?_ rfl;all_goals first|(simp[Ae,Af,pickOb,FX];done)|rfl
       |false=>
        replace h:=iF h;refine CF ?_;obtain⟨v31,e31,h⟩:=ltE h;refine AW.step (by simp[← e31];intros;rfl) ?_;cases v31 with
        |true=>
         replace h:=iT h;refine CT ?_;obtain⟨v32,e32,v33,e33,h⟩:=olb h;obtain⟨v34,e34,h⟩:=bnE h;apply zF (V:=[_,_,_,_,_,_,_,_,_,_]) mixed [⟨[0],[],[(5,none)],false⟩,⟨[0],[0],[(67,some 0)],false⟩,⟨[0],[],[(7,none)],false⟩,⟨[0],[],[(0,none)],false⟩,⟨[0],[],[(6,none)],false⟩,⟨[0],[3,4],[(70,some 3),(71,some 4)],false⟩,⟨[0],[3,4,5],[(72,some 5)],false⟩,⟨[0],[3,4,5,6],[(73,some 6)],false⟩,⟨[0],[3,4,5,6,7],[(74,some 7)],false⟩,⟨[0],[3,4,5,6,7,8],[(75,some 8)],false⟩,⟨[],[0,1,2,3,4,5,6,7,8,9],[],false⟩,⟨[],[0,1,2,3,4,5,6,7,8,9,10],[],false⟩,⟨[],[0,1,2,3,4,5,6,7,8,9,10,11],[],false⟩] 10 (by kernel_rfl) (by kernel_rfl)
         ·refine⟨?_,?_,?_,?_,?_,?_,?_,?_,?_,?_,trivial⟩;iterate 9 (· intro tm hr;simp[AllL,rdV] at hr;simp[hr,Aa e20,← e25,← e32];intros;exact KA)
          ·intro tm hr;simp[AllL,rdV] at hr;simp[hr,Aa e20,← e25,← e32];intros;refine Ab Dl (DU e33) rfl ⟨.same rfl,trivial⟩ ?_;try simp[Aa e20,← e25,← e32]
           intros;exact KA
         ·rfl
         ·simp[tmD,putD,Aa e20,← e25,← e32];rfl
         ·simp[Aa e20,← e25,← e32];intros;refine Ab OQ (PT e34) rfl ⟨.same rfl,.same rfl,.same rfl,trivial⟩ ?_;try simp[Aa e20,← e25,← e32]
          intros;rfl
         obtain rfl:=oi h;refine nP_i ?_;refine zG [some 0,some 1,some 2] hz (by decide) ?_ ?_ rfl;all_goals first|(simp[Ae,Af,pickOb,FX];done)|rfl
        |false=>
         replace h:=iF h;refine CF ?_;obtain⟨v35,e35,h⟩:=ltE h;refine AW.step (by simp[← e35];intros;rfl) ?_;cases v35 with
         |true=>
          replace h:=iT h;refine CT ?_;obtain⟨e36,v37,e37,h⟩:=ocl h;apply AW.last
          ·simp[← Be,← e37,Ar e37];intros;refine Ax ?_;try simp[← Be,← e37,Ar e37]
           intros;refine AD (acc:=encS y11.2.2.2) (ys:=encS [v28]) (cap:=none) (k:=1) E7 FV (by simp) (by simp[encS,lvs]) (Dh _) (by simp) (by simp) (by first|(simp;done)|simpa using (Aw e36).1) ?_;try simp[← Be,← e37,Ar e37]
           intros;rfl
          obtain rfl:=oi h;refine nP_i ?_;refine zG [some 0,some 1,some 5] hz (by decide) ?_ ?_ rfl;all_goals first|(simp[Ae,Af,pickOb,FW,FX];done)|rfl
         |false=>
          replace h:=iF h;refine CF ?_;obtain⟨e38,h⟩:=chkE h;obtain⟨v39,e39,h⟩:=bnE h;apply AW.last
          ·simp[outR];intros;refine AS LC (ME e39) rfl (by simp) ⟨.rowd (by simp) rfl (by omega) (Dh _) (by simp) (by first|exact (Aw e38).2|simpa using (Aw e38).2|simp),.same rfl,trivial⟩ ?_;try simp[outR]
           intros;rfl
          obtain rfl:=oi h;refine nP_i ?_;refine zG [some 0,some 1,some 4] hz (by decide) ?_ ?_ rfl;all_goals first|(simp[Ae,Af,pickOb,FX];done)|rfl
      ·rintro e s⟨rfl,hw⟩;refine⟨_,hw,?_⟩;try simp only[nm]
       obtain⟨v40,e40,h⟩:=ltE h;refine AW.last (by simp[← e40];intros;rfl) ?_;obtain rfl:=oi h;exact nP_i (WM [0,1,2] hz)
     |false=>
      replace h:=iF h;refine CF ?_;apply AW.exit;try simp only[nm]
      obtain rfl:=oi h;refine xP_i ?_;exact WM [0,1,2] hz
   ·rintro e s⟨rfl,hw⟩;refine⟨_,hw,?_⟩;try simp only[nm]
    apply AW.seq;obtain⟨y41,g41,h⟩:=bnE h;refine zC (p:=fun gh ls=>(nP (cx:=cx) (fun q=>(⟨[(0,.l (dF a0)),(4,.l (.p 0 0)),(5,.l (.p 1 0)),(94,.l (bA q))],[some ⟨57,5,false,none,cP0⟩,some ⟨57,5,false,none,[iA v6,tA y12.1,dE y12.2.1,.r 2 1 0 y12.2.2.length,iA y7]⟩,some ⟨9,1,true,none,lvs (encS y12.2.2)⟩],104,gh,ls⟩:St))) y41) ?_ ?_
    ·replace h:=g41;clear g41
     obtain⟨v42,e42,v43,e43,h⟩:=oll h;cases v43 with
     |true=>
      replace h:=iT h;obtain⟨v44,e44,h⟩:=ltE h;refine AW.last (by simp[Ad e42,← e43,← e44];intros;rfl) ?_;obtain rfl:=oi h;exact nP_i (WM [0,1,2] hz)
     |false=>
      replace h:=iF h;refine AW.last (by simp[Ad e42,← e43];intros;rfl) ?_;obtain rfl:=oi h;exact nP_i (WM [0,1,2] hz)
    ·rintro e s⟨rfl,hw⟩;refine⟨_,hw,?_⟩;try simp only[nm]
     obtain⟨v45,e45,h⟩:=ltE h;rw[← e45];cases v45 with
     |true=>
      replace h:=iT h;refine CT ?_;obtain⟨v46,e46,v47,e47,h⟩:=obl h;obtain⟨v48,e48,h⟩:=bnE h;apply zH (V:=[_,_,_,_,_,_,_]) mixed [⟨[0],[],[(0,none)],false⟩,⟨[0],[0],[(95,some 0)],false⟩,⟨[0],[0,1],[(96,some 1)],false⟩,⟨[0],[0,1,2],[(97,some 2)],false⟩,⟨[0],[0,1,2,3],[(98,some 3)],false⟩,⟨[0],[],[(5,none)],false⟩,⟨[0],[5],[(100,some 5)],false⟩,⟨[],[0,1,2,3,4,5,6],[],false⟩,⟨[],[0,1,2,3,4,5,6,7],[],false⟩] 7 (by kernel_rfl) (by kernel_rfl)
      ·refine⟨?_,?_,?_,?_,?_,?_,?_,trivial⟩;iterate 4 (· intro tm hr;simp[AllL,rdV] at hr;simp[hr,(show a0[0]?=some v46 from (Aa e46).2),← e47];intros;exact KA)
       ·intro tm hr;simp[AllL,rdV] at hr;simp[hr,(show a0[0]?=some v46 from (Aa e46).2),← e47];intros;refine Ab Dl (DU e48) rfl ⟨.same rfl,trivial⟩ ?_;try simp[(show a0[0]?=some v46 from (Aa e46).2),← e47]
        intros;exact KA
       iterate 2 (· intro tm hr;simp[AllL,rdV] at hr;simp[hr,(show a0[0]?=some v46 from (Aa e46).2),← e47];intros;exact KA)
      ·rfl
      ·simp[tmD,putD,(show a0[0]?=some v46 from (Aa e46).2),← e47];rfl
      ·simp[(show a0[0]?=some v46 from (Aa e46).2),← e47];intros;rfl
      refine AW.nilCellD 0 2 2 rfl rfl rfl rfl ?_;refine AW.nilCellD 0 3 1 rfl rfl rfl rfl ?_;obtain rfl:=oi h;apply AW.ret;exact LP hz
     |false=>
      replace h:=iF h;refine CF ?_;apply AW.skip;try simp only[nm]
      refine ST ?_;obtain⟨e49,h⟩:=chkE h;refine FZ 2 9 1 (Dh y12.2.2) e49 ?_;obtain rfl:=oi h;apply AW.ret;exact LP hz
theorem OR:Enters Tryz.prog 47:=enters Tryz.func47 (by kernel_rfl) rfl
def B3 (n:Nat) (a0:List Int):Option (List Effect) :=
bn (iter n (fun (y1:Int×List Effect) =>
bn (lt (addI .i64 y1.1 3) fun v5 =>
lt (lenI a0) fun v6 =>
lt (ltI v5 v6) fun v7 =>
ite' v7 (lt (lenI y1.2) fun v8 =>
lt (ltI v8 40) fun v9 =>
some (v9)) (some (false))) fun (y4:Bool) =>
lt (y4) fun v10 =>
ite' v10 (bn (nth a0 y1.1) fun v11 =>
bn (Bb n v11) fun v12 =>
lt (addI .i64 y1.1 1) fun v13 =>
bn (nth a0 v13) fun v14 =>
bn (remI .u8 v14 4) fun v15 =>
lt (eqI v15 0) fun v16 =>
bn (lt (notB v16) fun v18 =>
ite' v18 (lt (addI .i64 y1.1 4) fun v19 =>
bn (seglh a0 v13 v19) fun v20 =>
lt (addI .i64 y1.1 2) fun v22 =>
bn (nth a0 v22) fun v23 =>
bn (C0 n v20 v23) fun v24 =>
some ((⟨v12,v16,v24⟩:Effect))) (some ((⟨v12,v16,(⟨0,⟨#[]⟩,[],[],0⟩:Item)⟩:Effect)))) fun (y17:Effect) =>
chk (room (y1.2.length+1) 104) <|
lt (y1.2++[y17]) fun v26 =>
lt (addI .i64 y1.1 4) fun v27 =>
some (.inl (v27,v26))) (some (.inr y1.2))) (0,[])) fun (y2:List Effect) =>
chk (room y2.length 1) <|
some y2
theorem LD {n:Nat} {a0:List Int} {r:List Effect} (h:B3 n a0=some r):Sound Tryz.prog 15 [.l (dF a0)] [] (.l (dD r)) []:=by
 unfold B3 at h;refine SO 52 Tryz.func15 fun cx hG (hz:cx.nb=0)=>?_;simp only[it];refine ST ?_;refine ST ?_;apply AW.seq;refine ST ?_;apply AW.block;obtain⟨y2,g2,h⟩:=bnE h;refine zD g2 (mk:=fun gh ls q=>(⟨[(0,.l (dF a0)),(3,.l (.r 0 7 0 q.2.length)),(4,.l (iA q.1))],[some ⟨59,7,true,none,lvs (An q.2)⟩],52,gh,ls⟩:St)) (N:=fun gh ls=>(xP 0 (cx:=cx) (fun q=>(⟨[(3,.l (.r 0 7 0 q.length))],[some ⟨59,7,true,none,lvs (An q)⟩],52,gh,ls⟩:St)))) ?_ noX ?_ ?_
 ·refine W.nilRow 3 59 7 0 (by simp) rfl rfl ?_;exact WM [0] hz
 ·clear h;intro y1 y3 h
  apply AW.seq;obtain⟨y4,g4,h⟩:=bnE h;refine zC (p:=fun gh ls=>(nP (cx:=cx) (fun q=>(⟨[(0,.l (dF a0)),(3,.l (.r 0 7 0 y1.2.length)),(4,.l (iA y1.1)),(15,.l (bA q))],[some ⟨59,7,true,none,lvs (An y1.2)⟩],52,gh,ls⟩:St))) y4) ?_ ?_
  ·replace h:=g4;clear g4
   obtain⟨v5,e5,v6,e6,v7,e7,h⟩:=olll h;cases v7 with
   |true=>
    replace h:=iT h;obtain⟨v8,e8,v9,e9,h⟩:=oll h;refine AW.last (by simp[← e5,Ad e6,← e7,Ad e8,← e9];intros;rfl) ?_;obtain rfl:=oi h;exact nP_i (WM [0] hz)
   |false=>
    replace h:=iF h;refine AW.last (by simp[← e5,Ad e6,← e7];intros;rfl) ?_;obtain rfl:=oi h;exact nP_i (WM [0] hz)
  ·rintro e s⟨rfl,hw⟩;refine⟨_,hw,?_⟩;try simp only[nm]
   obtain⟨v10,e10,h⟩:=ltE h;rw[← e10];cases v10 with
   |true=>
    replace h:=iT h;refine CT ?_;apply AW.skip;try simp only[nm]
    apply AW.seq;apply AW.block;obtain⟨v11,e11,v12,e12,v13,e13,h⟩:=obbl h;obtain⟨v14,e14,v15,e15,v16,e16,h⟩:=obbl h;apply zM (V:=[_,_,_,_,_,_,_,_,_,_,_,_,_,_]) (M:=[[some ⟨59,7,true,none,lvs (An y1.2)⟩],[some ⟨59,7,true,none,lvs (An y1.2)⟩,some ⟨59,7,false,none,[tA ⟨#[]⟩,bA false,iA 0,tA ⟨#[]⟩,.s (.slice none 0 0),.s (.slice none 0 0),iA 0]⟩]]) mixed [⟨[0,1],[],[(0,none)],false⟩,⟨[0,1],[],[(4,none)],false⟩,⟨[0,1],[0,1],[(18,some 0),(19,some 1)],false⟩,⟨[0,1],[0,1,2],[(20,some 2)],false⟩,⟨[0,1],[0,1,2,3],[(21,some 3)],false⟩,⟨[0,1],[],[(0,none)],false⟩,⟨[0,1],[],[(4,none)],false⟩,⟨[0,1],[6],[(24,some 6)],false⟩,⟨[0,1],[5,6,7],[(23,some 5),(25,some 7)],false⟩,⟨[0,1],[5,6,7,8],[(26,some 8)],false⟩,⟨[0,1],[5,6,7,8,9],[(27,some 9)],false⟩,⟨[0,1],[5,6,7,8,9,10],[(28,some 10)],false⟩,⟨[0,1],[0,1,2,3,4,5,6,7,8,9,10,11],[(22,some 4),(29,some 11)],false⟩,⟨[0],[],[],true⟩,⟨[],[0,1,2,3,4,5,6,7,8,9,10,11,12,13],[],false⟩] 14 1 (by kernel_rfl) (by kernel_rfl)
    ·rfl
    ·refine⟨⟨?_,?_⟩,⟨?_,?_⟩,⟨?_,?_⟩,⟨?_,?_⟩,⟨?_,?_⟩,⟨?_,?_⟩,⟨?_,?_⟩,⟨?_,?_⟩,⟨?_,?_⟩,⟨?_,?_⟩,⟨?_,?_⟩,⟨?_,?_⟩,⟨?_,?_⟩,?_,trivial⟩;iterate 8 (· intro tm hr;simp[AllL,rdV] at hr;simp[hr,Aa e11,← e13,Aa e14,e15,← e16];intros;exact KA)
     ·intro tm hr;simp[AllL,rdV] at hr;simp[hr,Aa e11,← e13,Aa e14,e15,← e16];intros;refine Ab Eo (Fa e12) rfl ⟨.same rfl,trivial⟩ ?_;try simp[Aa e11,← e13,Aa e14,e15,← e16]
      intros;exact KA
     ·intro tm hr;simp[AllL,rdV] at hr;simp[hr,Aa e11,← e13,Aa e14,e15,← e16];intros;refine Ab Eo (Fa e12) rfl ⟨.same rfl,trivial⟩ ?_;try simp[Aa e11,← e13,Aa e14,e15,← e16]
      intros;exact KA
     iterate 17 (· intro tm hr;simp[AllL,rdV] at hr;simp[hr,Aa e11,← e13,Aa e14,e15,← e16];intros;exact KA)
    ·rfl
    ·simp[tmD,putD,Aa e11,← e13,Aa e14,e15,← e16];rfl
    ·simp[Aa e11,← e13,Aa e14,e15,← e16];intros;rfl
    obtain⟨y17,g17,h⟩:=bnE h;refine zC (p:=fun gh ls=>(nP (cx:=cx) (fun q=>(⟨[(0,.l (dF a0)),(3,.l (.r 0 7 0 y1.2.length)),(4,.l (iA y1.1)),(5,.l (.p 1 0))],[some ⟨59,7,true,none,lvs (An y1.2)⟩,some ⟨59,7,false,none,(cL0 q)⟩],52,gh,ls⟩:St))) y17) ?_ ?_
    ·replace h:=g17;clear g17
     obtain⟨v18,e18,h⟩:=ltE h;refine AW.step (by simp[← e18];intros;rfl) ?_;cases v18 with
     |true=>
      replace h:=iT h;refine CT ?_;obtain⟨v19,e19,v20,e20,h⟩:=olb h;have f21:=OA e20;try simp[← e13,← e19] at f21
      obtain⟨v22,e22,v23,e23,h⟩:=olb h;obtain⟨v24,e24,h⟩:=bnE h;apply zF (V:=[_,_,_,_,_,_,_,_,_,_,_]) mixed [⟨[0],[],[(0,none)],false⟩,⟨[0],[],[(4,none)],false⟩,⟨[0],[1],[(35,some 1)],false⟩,⟨[0],[],[(4,none)],false⟩,⟨[0],[3],[(37,some 3)],false⟩,⟨[0],[0,1,2,3,4],[(34,some 0),(36,some 2),(38,some 4)],false⟩,⟨[0],[],[(0,none)],false⟩,⟨[0],[],[(4,none)],false⟩,⟨[0],[7],[(41,some 7)],false⟩,⟨[0],[6,7,8],[(40,some 6),(42,some 8)],false⟩,⟨[0],[6,7,8,9],[(43,some 9)],false⟩,⟨[],[0,1,2,3,4,5,6,7,8,9,10],[],false⟩,⟨[],[0,1,2,3,4,5,6,7,8,9,10,11],[],false⟩,⟨[],[0,1,2,3,4,5,6,7,8,9,10,11,12],[],false⟩] 11 (by kernel_rfl) (by kernel_rfl)
      ·refine⟨?_,?_,?_,?_,?_,?_,?_,?_,?_,?_,?_,trivial⟩;iterate 11 (· intro tm hr;simp[AllL,rdV] at hr;simp[hr,← e13,← e19,f21,← e22,Aa e23];intros;exact KA)
      ·rfl
      ·simp[tmD,putD,← e13,← e19,f21,← e22,Aa e23];rfl
      ·simp[← e13,← e19,f21,← e22,Aa e23];intros;refine Ab OR (PU e24) rfl ⟨.same rfl,.same rfl,trivial⟩ ?_;try simp[← e13,← e19,f21,← e22,Aa e23]
       intros;rfl
      obtain rfl:=oi h;exact nP_i (WM [0,1] hz)
     |false=>
      replace h:=iF h;refine CF ?_;apply AW.skip;try simp only[nm]
      obtain rfl:=oi h;refine nP_i ?_;refine W.nilCellD 1 4 2 rfl rfl rfl rfl ?_;refine W.nilCellD 1 5 1 rfl rfl rfl rfl ?_;exact WM [0,1] hz
    ·rintro e s⟨rfl,hw⟩;refine⟨_,hw,?_⟩;try simp only[nm]
     obtain⟨e25,v26,e26,h⟩:=ocl h;apply AW.last
     ·simp[← BZ,← e26,Ar e26];intros;refine Ax ?_;try simp[← BZ,← e26,Ar e26]
      intros;refine AD (acc:=An y1.2) (ys:=An [y17]) (cap:=none) (k:=1) Hg Hc (by simp) (by simp[An,lvs]) (Bh _) (by simp) (by simp) (by first|(simp;done)|simpa using (Aw e25).1) ?_;try simp[← BZ,← e26,Ar e26]
      intros;rfl
     try simp only[nm]
     obtain⟨v27,e27,h⟩:=ltE h;refine AW.last (by simp[← e27];intros;rfl) ?_;obtain rfl:=oi h;refine nP_i ?_;refine zG [some 3] hz (by decide) ?_ ?_ rfl;all_goals first|(simp[Ae,Af,pickOb,FG];done)|rfl
   |false=>
    replace h:=iF h;refine CF ?_;apply AW.exit;try simp only[nm]
    obtain rfl:=oi h;refine xP_i ?_;exact WM [0] hz
 ·rintro e s⟨rfl,hw⟩;refine⟨_,hw,?_⟩;try simp only[nm]
  refine ST ?_;obtain⟨e28,h⟩:=chkE h;refine FZ 0 59 7 (Bh y2) e28 ?_;obtain rfl:=oi h;apply AW.ret;exact LP hz
theorem Ky:Enters Tryz.prog 15:=enters Tryz.func15 (by kernel_rfl) rfl
def Cd (n:Nat) (a0:List Int):Option (List Pair) :=
bn (B3 n a0) fun v1 =>
bn (Db n [] v1) fun v2 =>
some v2
theorem OS {n:Nat} {a0:List Int} {r:List Pair} (h:Cd n a0=some r):Sound Tryz.prog 29 [.l (dF a0)] [] (.l (dA r)) []:=by
 unfold Cd at h;refine SO 6 Tryz.func29 fun cx hG (hz:cx.nb=0)=>?_;simp only[it];refine ST ?_;obtain⟨v1,e1,h⟩:=bnE h;obtain⟨v2,e2,h⟩:=bnE h;apply AW.step
 ·simp;intros;refine Ab Ky (LD e1) rfl ⟨.same rfl,trivial⟩ ?_;try simp
  intros;refine Ab G3 (HD e2) rfl ⟨.nil _ _,.same rfl,trivial⟩ ?_;try simp
  intros;rfl
 obtain rfl:=oi h;apply AW.ret;exact LP hz
theorem Nv:Enters Tryz.prog 29:=enters Tryz.func29 (by kernel_rfl) rfl
end Go.Proofs.YtlbdhlbbkibgpaaGreat
