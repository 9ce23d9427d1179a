/- Part 9: walks and plain laws. -/
import Derived.Test.YtfchjdnpbgpfpaaGreatDoorZz8
set_option maxHeartbeats 16000000
set_option maxRecDepth 100000
open Go.Lib renaming hid → aJ
open Go renaming cell_of_row → aK, heap_setCell_other → aL, heap_alloc_new → aM, frozen_of_row → aN, heap_setCell_same → aO, bodyPost_ret → aP, lt_of_block → aQ, undef → aR
open List renaming getD_eq_getElem?_getD → bD, getElem?_eq_getElem → bE, length_append → bF, length_singleton → bG, getElem_mem → bH, getElem?_eq_none → bI, getElem?_append_left → bJ, length_set → bK, length_map → bL
open Nat renaming le_refl → bM, le_trans → bN, zero_le → bO
open Option.some renaming inj → bQ
open Go.World.ownsRow renaming kept → bT, lt → bU
open Go.IntWalk renaming i64_in → bV
open Exists renaming intro → bW
open Or renaming inl → bX, inr → bY
namespace Go.Proofs.YtfchjdnpbgpfpaaGreatDoor
open Go.ChangeShapes Go.WideShapes Go.ChangeAt Go.RowKit Rw
set_option linter.unusedVariables false
theorem Dy:(Rows.topDelaysRow.inPlace==Program.inPlace Tryz.prog 3)=true:=by kernel_rfl
theorem Dx:(Rows.topDelaysRow.unfollowed==Program.unfollowed Tryz.prog 3)=true:=by kernel_rfl
theorem Dw:(Rows.topDelaysRow.recurses==Program.recurses Tryz.prog 3)=true:=by kernel_rfl
theorem Dv:(Rows.topDelaysRow.named==Program.varsNamed Tryz.prog 3)=true:=by kernel_rfl
theorem Du:Program.mayEnter Tryz.prog=true:=by kernel_rfl
theorem Dt:Program.stopsHeard Tryz.prog=true:=by kernel_rfl
theorem Bx:joinedFacts Tryz.prog 3 Tryz.f3 Rows.topDelaysSpec Rows.topDelaysRow=true:=by
 unfold joinedFacts;rw[Dy,Dx,Dw,Dv,Du,Dt]
 kernel_rfl
theorem kJ:Rows.TopDelaysSaid:=
 OpenClaim.holds_of_wide 3 Tryz.f3 rfl rfl rfl rfl rfl rfl rfl ⟨rfl,rfl,rfl,rfl,rfl⟩ rfl rfl rfl rfl rfl (by kernel_rfl) Tryz.func3 Bx
  (of_decide_eq_true (by kernel_rfl)) (by unfold Func.isWrapper;first|(rw[if_pos (by decide+kernel)];kernel_rfl)|(rw[if_neg (by decide+kernel)];exact⟨rfl,rfl⟩))
  (fun os a H enc _=>jK os a H enc)
end Go.Proofs.YtfchjdnpbgpfpaaGreatDoor
