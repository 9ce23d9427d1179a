/-
  No cell of these rows narrows 'for every input' (looked for: loops, veiled, ifaces, maps, wideKeys, modest, calm, conditions, laid).
  DERIVED. THE GIVEN ROWS OF THIS SEAT. 6 by the template 'for every input the law returns true; each argument reads behind the call as it read before'; 0 by the template 'total and deterministic' (their statements: YtpknglclcdgfbaaTotals.lean).
  GIVEN WITH THE SEED: the statements are not yours to turn. If you find one false, say at which input.
  Laid BY PROGRAM, IN A SANDBOX (cutbox-rows.mjs): the forced cells as the released guide's own fill.sh prints them over the translation 7e203d32e4837938… (all of the seat's roots in one cut). By AI agents, Wed Nov 11 2026. No macro, syntax, notation, axiom, sorry.
-/
import Derived.Test.YtpknglclcdgfbaaChecked
import GoSem.Claim
import GoSem.ClaimJoined
import GoSem.ClaimMapViews
import Derived.JoinedTies
import Derived.KernelRfl
namespace Go.Proofs.Ytpknglclcdgfbaa
/- THE CELL 'sum', in the pinned program and in every row, IS THE sha256 OF THE DUMP (.gsa) THAT YtpknglclcdgfbaaProg.lean LOADS. Nothing in Lean hashes anything: it is a label: what it is worth is what the hold of that sum in a sandbox is worth. -/
noncomputable def Try.pinned : Pinned := { name := "ytpknglclcdgfbaa", sum := "7e203d32e4837938d1575add3f9e4b85272af88f60e2629d028e9700becb491a", checked := Try.checked }
namespace Rows
def none {H : Type} : Left H := { results := [], args := [] }

/-- 'jobmuxlaw23.ReloadPlans': WHATEVER THE INPUT: true; the input reads as it did. -/
def reloadPlansSpec : ChangeSpec := { name := "reloadPlans", fn := fun _ => fun
  | [d1, d2, d3] => { results := [.lit (.bool true)], args := [d1, d2, d3] }
  | _ => none }
def reloadPlansRow : OpenClaim := { program := "ytpknglclcdgfbaa", sum := "7e203d32e4837938d1575add3f9e4b85272af88f60e2629d028e9700becb491a", func := "jobmux/jobmuxlaw23.ReloadPlans", spec := "reloadPlans", unfollowed := true, recurses := true, apart := false }
def ReloadPlansSaid : Prop := reloadPlansRow.holds Try.pinned (OpenSpec.ofChange reloadPlansSpec)

/-- ITS FALSE NEIGHBOUR: 'it returns false'. Refute it at one input. -/
def reloadPlansWrong : ChangeSpec := { name := "reloadPlans", fn := fun _ => fun
  | [d1, d2, d3] => { results := [.lit (.bool false)], args := [d1, d2, d3] }
  | _ => none }
def ReloadPlansWrongFalsely : Prop := reloadPlansRow.holds Try.pinned (OpenSpec.ofChange reloadPlansWrong)

/-- 'jobmuxlaw23.ReloadKeeps': WHATEVER THE INPUT: true; the input reads as it did. -/
def reloadKeepsSpec : ChangeSpec := { name := "reloadKeeps", fn := fun _ => fun
  | [d1, d2] => { results := [.lit (.bool true)], args := [d1, d2] }
  | _ => none }
def reloadKeepsRow : OpenClaim := { program := "ytpknglclcdgfbaa", sum := "7e203d32e4837938d1575add3f9e4b85272af88f60e2629d028e9700becb491a", func := "jobmux/jobmuxlaw23.ReloadKeeps", spec := "reloadKeeps", unfollowed := true, recurses := true, apart := false }
def ReloadKeepsSaid : Prop := reloadKeepsRow.holds Try.pinned (OpenSpec.ofChange reloadKeepsSpec)

/-- ITS FALSE NEIGHBOUR: 'it returns false'. Refute it at one input. -/
def reloadKeepsWrong : ChangeSpec := { name := "reloadKeeps", fn := fun _ => fun
  | [d1, d2] => { results := [.lit (.bool false)], args := [d1, d2] }
  | _ => none }
def ReloadKeepsWrongFalsely : Prop := reloadKeepsRow.holds Try.pinned (OpenSpec.ofChange reloadKeepsWrong)

/-- 'jobmuxlaw22.LifeWaits': WHATEVER THE INPUT: true; the input reads as it did. -/
def lifeWaitsSpec : ChangeSpec := { name := "lifeWaits", fn := fun _ => fun
  | [d1, d2] => { results := [.lit (.bool true)], args := [d1, d2] }
  | _ => none }
def lifeWaitsRow : OpenClaim := { program := "ytpknglclcdgfbaa", sum := "7e203d32e4837938d1575add3f9e4b85272af88f60e2629d028e9700becb491a", func := "jobmux/jobmuxlaw22.LifeWaits", spec := "lifeWaits", inPlace := ["math/bits.Sub64", "math/bits.Add64"], unfollowed := true, recurses := true, apart := false }
def LifeWaitsSaid : Prop := lifeWaitsRow.holds Try.pinned (OpenSpec.ofChange lifeWaitsSpec)

/-- ITS FALSE NEIGHBOUR: 'it returns false'. Refute it at one input. -/
def lifeWaitsWrong : ChangeSpec := { name := "lifeWaits", fn := fun _ => fun
  | [d1, d2] => { results := [.lit (.bool false)], args := [d1, d2] }
  | _ => none }
def LifeWaitsWrongFalsely : Prop := lifeWaitsRow.holds Try.pinned (OpenSpec.ofChange lifeWaitsWrong)

/-- 'jobmuxlaw22.LifeClimbs': WHATEVER THE INPUT: true; the input reads as it did. -/
def lifeClimbsSpec : ChangeSpec := { name := "lifeClimbs", fn := fun _ => fun
  | [d1, d2] => { results := [.lit (.bool true)], args := [d1, d2] }
  | _ => none }
def lifeClimbsRow : OpenClaim := { program := "ytpknglclcdgfbaa", sum := "7e203d32e4837938d1575add3f9e4b85272af88f60e2629d028e9700becb491a", func := "jobmux/jobmuxlaw22.LifeClimbs", spec := "lifeClimbs", inPlace := ["math/bits.Sub64", "math/bits.Add64"], unfollowed := true, recurses := true, apart := false }
def LifeClimbsSaid : Prop := lifeClimbsRow.holds Try.pinned (OpenSpec.ofChange lifeClimbsSpec)

/-- ITS FALSE NEIGHBOUR: 'it returns false'. Refute it at one input. -/
def lifeClimbsWrong : ChangeSpec := { name := "lifeClimbs", fn := fun _ => fun
  | [d1, d2] => { results := [.lit (.bool false)], args := [d1, d2] }
  | _ => none }
def LifeClimbsWrongFalsely : Prop := lifeClimbsRow.holds Try.pinned (OpenSpec.ofChange lifeClimbsWrong)

/-- 'jobmuxlaw22.LifeOrders': WHATEVER THE INPUT: true; the input reads as it did. -/
def lifeOrdersSpec : ChangeSpec := { name := "lifeOrders", fn := fun _ => fun
  | [d1, d2, d3] => { results := [.lit (.bool true)], args := [d1, d2, d3] }
  | _ => none }
def lifeOrdersRow : OpenClaim := { program := "ytpknglclcdgfbaa", sum := "7e203d32e4837938d1575add3f9e4b85272af88f60e2629d028e9700becb491a", func := "jobmux/jobmuxlaw22.LifeOrders", spec := "lifeOrders", inPlace := ["math/bits.Sub64", "math/bits.Add64"], unfollowed := true, recurses := true, apart := false }
def LifeOrdersSaid : Prop := lifeOrdersRow.holds Try.pinned (OpenSpec.ofChange lifeOrdersSpec)

/-- ITS FALSE NEIGHBOUR: 'it returns false'. Refute it at one input. -/
def lifeOrdersWrong : ChangeSpec := { name := "lifeOrders", fn := fun _ => fun
  | [d1, d2, d3] => { results := [.lit (.bool false)], args := [d1, d2, d3] }
  | _ => none }
def LifeOrdersWrongFalsely : Prop := lifeOrdersRow.holds Try.pinned (OpenSpec.ofChange lifeOrdersWrong)

/-- 'jobmuxlaw22.LifeHalts': WHATEVER THE INPUT: true; the input reads as it did. -/
def lifeHaltsSpec : ChangeSpec := { name := "lifeHalts", fn := fun _ => fun
  | [d1, d2, d3, d4] => { results := [.lit (.bool true)], args := [d1, d2, d3, d4] }
  | _ => none }
def lifeHaltsRow : OpenClaim := { program := "ytpknglclcdgfbaa", sum := "7e203d32e4837938d1575add3f9e4b85272af88f60e2629d028e9700becb491a", func := "jobmux/jobmuxlaw22.LifeHalts", spec := "lifeHalts", inPlace := ["math/bits.Sub64", "math/bits.Add64"], unfollowed := true, recurses := true, apart := false }
def LifeHaltsSaid : Prop := lifeHaltsRow.holds Try.pinned (OpenSpec.ofChange lifeHaltsSpec)

/-- ITS FALSE NEIGHBOUR: 'it returns false'. Refute it at one input. -/
def lifeHaltsWrong : ChangeSpec := { name := "lifeHalts", fn := fun _ => fun
  | [d1, d2, d3, d4] => { results := [.lit (.bool false)], args := [d1, d2, d3, d4] }
  | _ => none }
def LifeHaltsWrongFalsely : Prop := lifeHaltsRow.holds Try.pinned (OpenSpec.ofChange lifeHaltsWrong)

/- THE SECOND FORM. 'bulk': how many values and letters a reading holds, each counted each time it is reached (what is shared counts as often as it is met; a slice's spare places count too). A statement '..UptoSaid' is the law's where the arguments, and the package variables that the reading takes, are together of bulk at most 1048576: NARROWER than '..Said'. Prove '..Said' where nothing that the law and all that it calls make is longer than what came in: it says more and counts as full. Else prove '..UptoSaid'. A law counts once. -/
mutual
def uptoBulk {H : Type} : DataW H → Nat
  | .lit (.string bytes) => bytes.length + 1
  | .lit _ => 1
  | .nil => 1
  | .ptr d => uptoBulk d + 1
  | .slice elems spare => uptoBulkAll elems + uptoBulkAll spare + 1
  | .agg parts => uptoBulkAll parts + 1
  | .iface _ d => uptoBulk d + 1
  | .map entries => uptoBulkEntries entries + 1
  | .held _ => 1
def uptoBulkAll {H : Type} : List (DataW H) → Nat
  | [] => 0
  | d :: r => uptoBulk d + uptoBulkAll r
def uptoBulkEntries {H : Type} : List (Lit × DataW H) → Nat
  | [] => 0
  | x :: r => uptoBulkEntry x + uptoBulkEntries r
def uptoBulkEntry {H : Type} : Lit × DataW H → Nat
  | (.string bytes, d) => bytes.length + uptoBulk d + 1
  | (_, d) => uptoBulk d + 1
 end
def uptoSmall : (H : Type) → List (DataW H) → Bool := fun _ ds => decide (uptoBulkAll ds ≤ 1048576)
def OpenSpec.upto (s : _root_.Go.ChangeSpec) : _root_.Go.OpenSpec := { _root_.Go.OpenSpec.ofChange s with cond := some uptoSmall }

/-- 'jobmuxlaw23.ReloadPlans', WHERE WHAT IT READS IS OF BULK AT MOST 1048576: true; the input reads as it did. -/
def reloadPlansUptoRow : OpenClaim := { program := "ytpknglclcdgfbaa", sum := "7e203d32e4837938d1575add3f9e4b85272af88f60e2629d028e9700becb491a", func := "jobmux/jobmuxlaw23.ReloadPlans", spec := "reloadPlans", unfollowed := true, recurses := true, apart := false, narrowed := true }
def ReloadPlansUptoSaid : Prop := reloadPlansUptoRow.holds Try.pinned (OpenSpec.upto reloadPlansSpec)

/-- 'jobmuxlaw23.ReloadKeeps', WHERE WHAT IT READS IS OF BULK AT MOST 1048576: true; the input reads as it did. -/
def reloadKeepsUptoRow : OpenClaim := { program := "ytpknglclcdgfbaa", sum := "7e203d32e4837938d1575add3f9e4b85272af88f60e2629d028e9700becb491a", func := "jobmux/jobmuxlaw23.ReloadKeeps", spec := "reloadKeeps", unfollowed := true, recurses := true, apart := false, narrowed := true }
def ReloadKeepsUptoSaid : Prop := reloadKeepsUptoRow.holds Try.pinned (OpenSpec.upto reloadKeepsSpec)

/-- 'jobmuxlaw22.LifeWaits', WHERE WHAT IT READS IS OF BULK AT MOST 1048576: true; the input reads as it did. -/
def lifeWaitsUptoRow : OpenClaim := { program := "ytpknglclcdgfbaa", sum := "7e203d32e4837938d1575add3f9e4b85272af88f60e2629d028e9700becb491a", func := "jobmux/jobmuxlaw22.LifeWaits", spec := "lifeWaits", inPlace := ["math/bits.Sub64", "math/bits.Add64"], unfollowed := true, recurses := true, apart := false, narrowed := true }
def LifeWaitsUptoSaid : Prop := lifeWaitsUptoRow.holds Try.pinned (OpenSpec.upto lifeWaitsSpec)

/-- 'jobmuxlaw22.LifeClimbs', WHERE WHAT IT READS IS OF BULK AT MOST 1048576: true; the input reads as it did. -/
def lifeClimbsUptoRow : OpenClaim := { program := "ytpknglclcdgfbaa", sum := "7e203d32e4837938d1575add3f9e4b85272af88f60e2629d028e9700becb491a", func := "jobmux/jobmuxlaw22.LifeClimbs", spec := "lifeClimbs", inPlace := ["math/bits.Sub64", "math/bits.Add64"], unfollowed := true, recurses := true, apart := false, narrowed := true }
def LifeClimbsUptoSaid : Prop := lifeClimbsUptoRow.holds Try.pinned (OpenSpec.upto lifeClimbsSpec)

/-- 'jobmuxlaw22.LifeOrders', WHERE WHAT IT READS IS OF BULK AT MOST 1048576: true; the input reads as it did. -/
def lifeOrdersUptoRow : OpenClaim := { program := "ytpknglclcdgfbaa", sum := "7e203d32e4837938d1575add3f9e4b85272af88f60e2629d028e9700becb491a", func := "jobmux/jobmuxlaw22.LifeOrders", spec := "lifeOrders", inPlace := ["math/bits.Sub64", "math/bits.Add64"], unfollowed := true, recurses := true, apart := false, narrowed := true }
def LifeOrdersUptoSaid : Prop := lifeOrdersUptoRow.holds Try.pinned (OpenSpec.upto lifeOrdersSpec)

/-- 'jobmuxlaw22.LifeHalts', WHERE WHAT IT READS IS OF BULK AT MOST 1048576: true; the input reads as it did. -/
def lifeHaltsUptoRow : OpenClaim := { program := "ytpknglclcdgfbaa", sum := "7e203d32e4837938d1575add3f9e4b85272af88f60e2629d028e9700becb491a", func := "jobmux/jobmuxlaw22.LifeHalts", spec := "lifeHalts", inPlace := ["math/bits.Sub64", "math/bits.Add64"], unfollowed := true, recurses := true, apart := false, narrowed := true }
def LifeHaltsUptoSaid : Prop := lifeHaltsUptoRow.holds Try.pinned (OpenSpec.upto lifeHaltsSpec)

end Rows
end Go.Proofs.Ytpknglclcdgfbaa
