/- BalanceShare returns true whatever its input is, and its input reads as it did. -/
import Derived.Test.YtenemndpignaoaaPd5
set_option linter.unusedVariables false
set_option linter.unusedSimpArgs false
set_option linter.constructorNameAsVariable false
set_option maxRecDepth 8000
set_option maxHeartbeats 8000000
namespace Go.Proofs.Ytenemndpignaoaa
open Go Go.RowKit
open Go.ChangeShapes Go.WideShapes Go.ChangeAt Go.RowKit
set_option maxRecDepth 100000
set_option maxRecDepth 100000 in
theorem balanceShare_lifted (os:Os) (started:os.Started) (H:Type) (enc:TypeId×Value→H) :
  ReturnsInHanded {} Try.checked os 6 .any (Rows.balanceShareSpec.pre6 enc Try.prog Try.f6 Rows.balanceShareRow.domain false) (Rows.balanceShareSpec.post enc Try.prog Try.f6 false true false false):=by
 refine returnsInHanded_of_change_sized (C:=Try.checked) Try.own started (by kernel_rfl) Try.func6
  (ChangeSpec.witness6 (enc:=enc) (C:=Try.checked) false ⟨#[],#[.int .u8 0,.int .u8 0],[]⟩ 8 (by kernel_rfl) (by kernel_rfl) (by kernel_rfl) (by kernel_rfl)) ?_
 intro W base args ds gs before hval hW hcnd hw _;refine Jg (fn:=Try.f6) (s:=Rows.balanceShareSpec) (tb:=4) (m:=9) Try.laidOut (by kernel_rfl) rfl Try.underlying4 rfl ?_ ?_ W base args ds gs before hval hW hw
 ·intro ds hds;match ds,hds with
  |[d0,d1],_=>rfl
 ·intro tss h0;obtain⟨p0,q0,rfl,g0,h1⟩:=All2.cons_r h0;obtain⟨p1,q1,rfl,g1,h2⟩:=All2.cons_r h1;obtain rfl:=All2.nil_r h2;obtain⟨n,rfl,v0⟩:=WfT.int (t:=5) Try.underlying5 g0;have rn:=ID v0;obtain⟨k,rfl,v1⟩:=WfT.int (t:=5) Try.underlying5 g1;have rk:=ID v1;exact Fw (Gq n k rn rk)
theorem balanceShare_holds:Rows.BalanceShareSaid :=
 OpenClaim.holds_of_wide 6 Try.f6 rfl rfl rfl rfl rfl rfl rfl ⟨rfl,rfl,rfl,rfl,rfl⟩ rfl rfl rfl rfl rfl (by kernel_rfl) Try.func6 (by kernel_rfl)
  (of_decide_eq_true (by kernel_rfl)) (by unfold Func.isWrapper;first|(rw[if_pos (by decide +kernel)];kernel_rfl)|(rw[if_neg (by decide +kernel)];exact⟨rfl,rfl⟩))
  (fun os started H enc _=>balanceShare_lifted os started H enc)
#print axioms balanceShare_holds
end Go.Proofs.Ytenemndpignaoaa
