/- The statement TopDelays: it returns true for all arguments; no condition. -/
import Derived.Test.YtfchjdnpbgpfpaaGreatDoorZz9
set_option maxHeartbeats 16000000
set_option maxRecDepth 100000
open Go.Lib renaming hid → aJ
open Go renaming cell_of_row → aK, heap_setCell_other → aL, heap_alloc_new → aM, frozen_of_row → aN, heap_setCell_same → aO, bodyPost_ret → aP, lt_of_block → aQ, undef → aR
open List renaming getD_eq_getElem?_getD → bD, getElem?_eq_getElem → bE, length_append → bF, length_singleton → bG, getElem_mem → bH, getElem?_eq_none → bI, getElem?_append_left → bJ, length_set → bK, length_map → bL
open Nat renaming le_refl → bM, le_trans → bN, zero_le → bO
open Option.some renaming inj → bQ
open Go.World.ownsRow renaming kept → bT, lt → bU
open Go.IntWalk renaming i64_in → bV
open Exists renaming intro → bW
open Or renaming inl → bX, inr → bY
namespace Go.Proofs.YtfchjdnpbgpfpaaGreatDoor
open Go.ChangeShapes Go.WideShapes Go.ChangeAt Go.RowKit Rw
set_option linter.unusedVariables false
theorem topDelaysCard_holds:Rows.TopDelaysCardSaid:=
 Claim7.holds_tied_plain_at .later [] [.data, .data, .data, .handle, .sentinel, .sentinel, .sentinel, .sentinel, .sentinel, .sentinel, .sentinel, .sentinel, .sentinel] true (true, "1505d9c0f346dac8b22e398c3680c73b7a84b8fbcedeb558a9cb1c250760cfc8") true
  kJ (fun _ h=>by cases h) (by kernel_rfl) (fun _ h=>by cases h) topDelays_row_tie rfl ⟨rfl,rfl⟩ (by kernel_rfl) rfl
  (fun f c e b=>by
   obtain rfl : f = 3 := bQ ((show Tryz.prog.funcNamed "jobmux/jobmuxtop.TopDelays" = some 3 by kernel_rfl).symm.trans e) |>.symm
   obtain rfl:c=Tryz.f3:=(bQ (Tryz.func3.symm.trans b)).symm;exact⟨by kernel_rfl,fun j t a=>by
    rw[Tryz.params3] at a;have d:t=22∨t=23:=by
     rcases j with _|_|j
     ·left;simpa using a.symm
     ·right;simpa using a.symm
     ·simp at a
    rcases d with rfl|rfl
    ·exact(show Tryz.prog.wantsStandIn 22=false by kernel_rfl)
    ·exact(show Tryz.prog.wantsStandIn 23=false by kernel_rfl)⟩)
  (by kernel_rfl)
end Go.Proofs.YtfchjdnpbgpfpaaGreatDoor
