/- MoveRefuses returns true whatever its input is. -/
import Derived.Test.YthjenkmbbnjcnaaPg5
set_option linter.unusedVariables false
set_option linter.unusedSimpArgs false
set_option linter.constructorNameAsVariable false
set_option maxRecDepth 8000
set_option maxHeartbeats 8000000
namespace Go.Proofs.Ythjenkmbbnjcnaa
open Go Go.RowKit
open Go.ChangeShapes Go.WideShapes Go.ChangeAt Go.RowKit
set_option maxRecDepth 100000 in
theorem moveRefuses_lifted (os:Os) (started:os.Started) (H:Type) (enc:TypeId×Value→H) :
  ReturnsInHanded {} Try.checked os 9 .any (Rows.moveRefusesSpec.pre6 enc Try.prog Try.f9 Rows.moveRefusesRow.domain false) (Rows.moveRefusesSpec.post enc Try.prog Try.f9 false true false false):=by
 refine returnsInHanded_of_change_sized (C:=Try.checked) Try.own started (by kernel_rfl) Try.func9
  (ChangeSpec.witness6 (enc:=enc) (C:=Try.checked) false ⟨#[],#[.int .i64 0,.int .i64 0,.int .u8 0],[]⟩ 8 (by kernel_rfl) (by kernel_rfl) (by kernel_rfl) (by kernel_rfl)) ?_
 intro W base args ds gs before hval hW hcnd hw _
 refine Jj (fn:=Try.f9) (s:=Rows.moveRefusesSpec) (tb:=4) (m:=9) Try.laidOut (by kernel_rfl) rfl Try.underlying4 rfl ?_ ?_ W base args ds gs before hval hW hw
 ·intro ds hds
  match ds,hds with
  |[d0,d1,d2],_=>rfl
 ·intro tss h0
  obtain⟨p0,q0,rfl,g0,h1⟩:=All2.cons_r h0
  obtain⟨p1,q1,rfl,g1,h2⟩:=All2.cons_r h1
  obtain⟨p2,q2,rfl,g2,h3⟩:=All2.cons_r h2
  obtain rfl:=All2.nil_r h3
  obtain⟨slot,rfl,v0⟩:=WfT.int (t:=3) Try.underlying3 g0
  have rslot:=II v0
  obtain⟨tt,rfl,v1⟩:=WfT.int (t:=3) Try.underlying3 g1
  have rtt:=II v1
  obtain⟨how,rfl,v2⟩:=WfT.int (t:=5) Try.underlying5 g2
  have rhow:=Ku v2
  exact Fe (Gs slot tt how rhow)
theorem moveRefuses_holds:Rows.MoveRefusesSaid :=
 OpenClaim.holds_of_wide 9 Try.f9 rfl rfl rfl rfl rfl rfl rfl ⟨rfl,rfl,rfl,rfl,rfl⟩ rfl rfl rfl rfl rfl (by kernel_rfl) Try.func9 (by kernel_rfl)
  (of_decide_eq_true (by kernel_rfl)) (by unfold Func.isWrapper;first|(rw[if_pos (by decide +kernel)];kernel_rfl)|(rw[if_neg (by decide +kernel)];exact⟨rfl,rfl⟩))
  (fun os started H enc _=>moveRefuses_lifted os started H enc)
#print axioms moveRefuses_holds
end Go.Proofs.Ythjenkmbbnjcnaa
