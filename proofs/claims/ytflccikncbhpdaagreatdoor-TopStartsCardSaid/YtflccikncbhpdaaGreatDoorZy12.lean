/- The statement TopStarts: it returns true for all arguments; no condition. -/
import Derived.Test.YtflccikncbhpdaaGreatDoorZy11
set_option maxHeartbeats 16000000
set_option maxRecDepth 100000
open Option.some renaming inj → bQ
namespace Go.Proofs.YtflccikncbhpdaaGreatDoor
open Go.ChangeShapes Go.WideShapes Go.ChangeAt Go.RowKit Rw
set_option linter.unusedVariables false
theorem topStartsCard_holds:Rows.TopStartsCardSaid:=
 Claim7.holds_tied_plain_at .later [] [.data, .data, .data, .handle, .sentinel, .sentinel, .sentinel, .sentinel, .sentinel, .sentinel, .sentinel, .sentinel, .sentinel] true (true, "13748a9f84ad83d0dc3d929cdcdca5a1abe48721d13570dcd91b416f3a1bab0c") true
  mw (fun _ h=>by cases h) (by kernel_rfl) (fun _ h=>by cases h) topStarts_row_tie rfl ⟨rfl,rfl⟩ (by kernel_rfl) rfl
  (fun f c e a=>by
   obtain rfl : f = 3 := bQ ((show Tryz.prog.funcNamed "jobmux/jobmuxtop.TopStarts" = some 3 by kernel_rfl).symm.trans e) |>.symm
   obtain rfl:c=Tryz.f3:=(bQ (Tryz.func3.symm.trans a)).symm;exact⟨by kernel_rfl,fun j t b=>by
    rw[Tryz.params3] at b;have d:t=22:=by
     rcases j with _|j
     ·simpa using b.symm
     simp at b
    subst d;exact(show Tryz.prog.wantsStandIn 22=false by kernel_rfl)⟩)
  (by kernel_rfl)
end Go.Proofs.YtflccikncbhpdaaGreatDoor
