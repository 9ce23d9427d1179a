/- Part 11: walks and plain laws. -/
import Derived.Test.YtflccikncbhpdaaGreatDoorZy10
set_option maxHeartbeats 16000000
set_option maxRecDepth 100000
namespace Go.Proofs.YtflccikncbhpdaaGreatDoor
open Go.ChangeShapes Go.WideShapes Go.ChangeAt Go.RowKit Rw
set_option linter.unusedVariables false
theorem Id:(Rows.topStartsRow.inPlace==Program.inPlace Tryz.prog 3)=true:=by kernel_rfl
theorem Ic:(Rows.topStartsRow.unfollowed==Program.unfollowed Tryz.prog 3)=true:=by kernel_rfl
theorem Ib:(Rows.topStartsRow.recurses==Program.recurses Tryz.prog 3)=true:=by kernel_rfl
theorem Ia:(Rows.topStartsRow.named==Program.varsNamed Tryz.prog 3)=true:=by kernel_rfl
theorem Hz:Program.mayEnter Tryz.prog=true:=by kernel_rfl
theorem Hy:Program.stopsHeard Tryz.prog=true:=by kernel_rfl
theorem EX:joinedFacts Tryz.prog 3 Tryz.f3 Rows.topStartsSpec Rows.topStartsRow=true:=by
 unfold joinedFacts;rw[Id,Ic,Ib,Ia,Hz,Hy]
 kernel_rfl
theorem mw:Rows.TopStartsSaid:=
 OpenClaim.holds_of_wide 3 Tryz.f3 rfl rfl rfl rfl rfl rfl rfl ⟨rfl,rfl,rfl,rfl,rfl⟩ rfl rfl rfl rfl rfl (by kernel_rfl) Tryz.func3 EX
  (of_decide_eq_true (by kernel_rfl)) (by unfold Func.isWrapper;first|(rw[ps_ (by decide+kernel)];kernel_rfl)|(rw[ng_ (by decide+kernel)];exact⟨rfl,rfl⟩))
  (fun os a H enc _=>lF os a H enc)
end Go.Proofs.YtflccikncbhpdaaGreatDoor
