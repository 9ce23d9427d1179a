/-
  DERIVED. GIVEN WITH THE SEED: THE CARDS: each row of YtflccikncbhpdaaGreatDoorRows.lean that lists a variable, with what it lists TIED to the program's text (the seventh form; the later family's looks); each row that meets fmt, with fmt's text TOLD by the authors' own Lean function (tested against real Go, not proved from fmt's source: count such statements apart). THE CARD IS WHAT COUNTS. Prove the row's statement (the work); the ties are given (YtflccikncbhpdaaGreatDoorTie.lean); close each card by the builder's one call (the guide's Derived/Test/ToyasCard.lean, 'card_holds'). Laid BY PROGRAM, IN A SANDBOX (cutbox-door.mjs). By AI agents, Wed Nov 11 2026. No macro, syntax, notation, axiom, sorry.
-/
import Derived.Test.YtflccikncbhpdaaGreatDoorRows
import GoSem.ClaimSeven
namespace Go.Proofs.YtflccikncbhpdaaGreatDoor
namespace Rows

/-- THE TIED CARD OF 'jobmuxtop.TopStarts'. -/
def topStartsCard : Claim7 := { stood := { row := topStartsRow, standIns := [], harness := (true, "13748a9f84ad83d0dc3d929cdcdca5a1abe48721d13570dcd91b416f3a1bab0c"), looks := true }, kinds := [], alts := [], laidByText := true, laidKinds := [.data, .data, .data, .handle, .sentinel, .sentinel, .sentinel, .sentinel, .sentinel, .sentinel, .sentinel, .sentinel, .sentinel], laidTests := true, laidLooks := .later }
def TopStartsCardSaid : Prop := Claim7.holds Tryz.pinned (.plain (OpenSpec.ofChange topStartsSpec)) topStartsCard

/-- THE SECOND FORM's CARD OF 'jobmuxtop.TopStarts'. -/
def topStartsUptoCard : Claim7 := { stood := { row := topStartsUptoRow, standIns := [], harness := (true, "13748a9f84ad83d0dc3d929cdcdca5a1abe48721d13570dcd91b416f3a1bab0c"), looks := true }, kinds := [], alts := [], laidByText := true, laidKinds := [.data, .data, .data, .handle, .sentinel, .sentinel, .sentinel, .sentinel, .sentinel, .sentinel, .sentinel, .sentinel, .sentinel], laidTests := true, laidLooks := .later }
def TopStartsUptoCardSaid : Prop := Claim7.holds Tryz.pinned (.plain (OpenSpec.upto topStartsSpec)) topStartsUptoCard
end Rows
end Go.Proofs.YtflccikncbhpdaaGreatDoor
