/-
  DERIVED. GIVEN WITH THE SEED: THE CARDS: each row of YtfchjdnpbgpfpaaGreatDoorRows.lean that lists a variable, with what it lists TIED to the program's text (the seventh form; the later family's looks); each row that meets fmt, with fmt's text TOLD by the authors' own Lean function (tested against real Go, not proved from fmt's source: count such statements apart). THE CARD IS WHAT COUNTS. Prove the row's statement (the work); the ties are given (YtfchjdnpbgpfpaaGreatDoorTie.lean); close each card by the builder's one call (the guide's Derived/Test/ToyasCard.lean, 'card_holds'). Laid BY PROGRAM, IN A SANDBOX (cutbox-door.mjs). By AI agents, Wed Nov 11 2026. No macro, syntax, notation, axiom, sorry.
-/
import Derived.Test.YtfchjdnpbgpfpaaGreatDoorRows
import GoSem.ClaimSeven
namespace Go.Proofs.YtfchjdnpbgpfpaaGreatDoor
namespace Rows

/-- THE TIED CARD OF 'jobmuxtop.TopDelays'. -/
def topDelaysCard : Claim7 := { stood := { row := topDelaysRow, standIns := [], harness := (true, "1505d9c0f346dac8b22e398c3680c73b7a84b8fbcedeb558a9cb1c250760cfc8"), looks := true }, kinds := [], alts := [], laidByText := true, laidKinds := [.data, .data, .data, .handle, .sentinel, .sentinel, .sentinel, .sentinel, .sentinel, .sentinel, .sentinel, .sentinel, .sentinel], laidTests := true, laidLooks := .later }
def TopDelaysCardSaid : Prop := Claim7.holds Tryz.pinned (.plain (OpenSpec.ofChange topDelaysSpec)) topDelaysCard

/-- THE SECOND FORM's CARD OF 'jobmuxtop.TopDelays'. -/
def topDelaysUptoCard : Claim7 := { stood := { row := topDelaysUptoRow, standIns := [], harness := (true, "1505d9c0f346dac8b22e398c3680c73b7a84b8fbcedeb558a9cb1c250760cfc8"), looks := true }, kinds := [], alts := [], laidByText := true, laidKinds := [.data, .data, .data, .handle, .sentinel, .sentinel, .sentinel, .sentinel, .sentinel, .sentinel, .sentinel, .sentinel, .sentinel], laidTests := true, laidLooks := .later }
def TopDelaysUptoCardSaid : Prop := Claim7.holds Tryz.pinned (.plain (OpenSpec.upto topDelaysSpec)) topDelaysUptoCard
end Rows
end Go.Proofs.YtfchjdnpbgpfpaaGreatDoor
