/-
  No cell of these rows narrows 'for every input' (looked for: loops, veiled, ifaces, maps, wideKeys, modest, calm, conditions, laid).
  DERIVED. THE GIVEN ROWS OF THIS SEAT. 10 by the template 'for every input the law returns true; each argument reads behind the call as it read before'; 0 by the template 'total and deterministic' (their statements: YtlpaemlgmmmbmaaTotals.lean).
  GIVEN WITH THE SEED: the statements are not yours to turn. If you find one false, say at which input.
  Laid BY PROGRAM, IN A SANDBOX (cutbox-rows.mjs): the forced cells as the released guide's own fill.sh prints them over the translation 8135a3c1db652c63… (all of the seat's roots in one cut). By AI agents, Wed Nov 11 2026. No macro, syntax, notation, axiom, sorry.
-/
import Derived.Test.YtlpaemlgmmmbmaaChecked
import GoSem.Claim
import GoSem.ClaimJoined
import GoSem.ClaimMapViews
import Derived.JoinedTies
import Derived.KernelRfl
namespace Go.Proofs.Ytlpaemlgmmmbmaa
/- THE CELL 'sum', in the pinned program and in every row, IS THE sha256 OF THE DUMP (.gsa) THAT YtlpaemlgmmmbmaaProg.lean LOADS. Nothing in Lean hashes anything: it is a label: what it is worth is what the hold of that sum in a sandbox is worth. -/
noncomputable def Try.pinned : Pinned := { name := "ytlpaemlgmmmbmaa", sum := "8135a3c1db652c63d01f9daa8a2ca3b178aaff9fed84f961a744119149a5bf42", checked := Try.checked }
namespace Rows
def none {H : Type} : Left H := { results := [], args := [] }

/-- 'jobmuxlaw27.FrameSplits': WHATEVER THE INPUT: true; the input reads as it did. -/
def frameSplitsSpec : ChangeSpec := { name := "frameSplits", fn := fun _ => fun
  | [d1, d2, d3, d4] => { results := [.lit (.bool true)], args := [d1, d2, d3, d4] }
  | _ => none }
def frameSplitsRow : OpenClaim := { program := "ytlpaemlgmmmbmaa", sum := "8135a3c1db652c63d01f9daa8a2ca3b178aaff9fed84f961a744119149a5bf42", func := "jobmux/jobmuxlaw27.FrameSplits", spec := "frameSplits", apart := false }
def FrameSplitsSaid : Prop := frameSplitsRow.holds Try.pinned (OpenSpec.ofChange frameSplitsSpec)

/-- ITS FALSE NEIGHBOUR: 'it returns false'. Refute it at one input. -/
def frameSplitsWrong : ChangeSpec := { name := "frameSplits", fn := fun _ => fun
  | [d1, d2, d3, d4] => { results := [.lit (.bool false)], args := [d1, d2, d3, d4] }
  | _ => none }
def FrameSplitsWrongFalsely : Prop := frameSplitsRow.holds Try.pinned (OpenSpec.ofChange frameSplitsWrong)

/-- 'jobmuxlaw27.FrameLimits': WHATEVER THE INPUT: true; the input reads as it did. -/
def frameLimitsSpec : ChangeSpec := { name := "frameLimits", fn := fun _ => fun
  | [d] => { results := [.lit (.bool true)], args := [d] }
  | _ => none }
def frameLimitsRow : OpenClaim := { program := "ytlpaemlgmmmbmaa", sum := "8135a3c1db652c63d01f9daa8a2ca3b178aaff9fed84f961a744119149a5bf42", func := "jobmux/jobmuxlaw27.FrameLimits", spec := "frameLimits", apart := false }
def FrameLimitsSaid : Prop := frameLimitsRow.holds Try.pinned (OpenSpec.ofChange frameLimitsSpec)

/-- ITS FALSE NEIGHBOUR: 'it returns false'. Refute it at one input. -/
def frameLimitsWrong : ChangeSpec := { name := "frameLimits", fn := fun _ => fun
  | [d] => { results := [.lit (.bool false)], args := [d] }
  | _ => none }
def FrameLimitsWrongFalsely : Prop := frameLimitsRow.holds Try.pinned (OpenSpec.ofChange frameLimitsWrong)

/-- 'jobmuxlaw27.FrameStreams': WHATEVER THE INPUT: true; the input reads as it did. -/
def frameStreamsSpec : ChangeSpec := { name := "frameStreams", fn := fun _ => fun
  | [d1, d2] => { results := [.lit (.bool true)], args := [d1, d2] }
  | _ => none }
def frameStreamsRow : OpenClaim := { program := "ytlpaemlgmmmbmaa", sum := "8135a3c1db652c63d01f9daa8a2ca3b178aaff9fed84f961a744119149a5bf42", func := "jobmux/jobmuxlaw27.FrameStreams", spec := "frameStreams", apart := false }
def FrameStreamsSaid : Prop := frameStreamsRow.holds Try.pinned (OpenSpec.ofChange frameStreamsSpec)

/-- ITS FALSE NEIGHBOUR: 'it returns false'. Refute it at one input. -/
def frameStreamsWrong : ChangeSpec := { name := "frameStreams", fn := fun _ => fun
  | [d1, d2] => { results := [.lit (.bool false)], args := [d1, d2] }
  | _ => none }
def FrameStreamsWrongFalsely : Prop := frameStreamsRow.holds Try.pinned (OpenSpec.ofChange frameStreamsWrong)

/-- 'jobmuxlaw23.ReloadPlans': WHATEVER THE INPUT: true; the input reads as it did. -/
def reloadPlansSpec : ChangeSpec := { name := "reloadPlans", fn := fun _ => fun
  | [d1, d2, d3] => { results := [.lit (.bool true)], args := [d1, d2, d3] }
  | _ => none }
def reloadPlansRow : OpenClaim := { program := "ytlpaemlgmmmbmaa", sum := "8135a3c1db652c63d01f9daa8a2ca3b178aaff9fed84f961a744119149a5bf42", func := "jobmux/jobmuxlaw23.ReloadPlans", spec := "reloadPlans", unfollowed := true, recurses := true, apart := false }
def ReloadPlansSaid : Prop := reloadPlansRow.holds Try.pinned (OpenSpec.ofChange reloadPlansSpec)

/-- ITS FALSE NEIGHBOUR: 'it returns false'. Refute it at one input. -/
def reloadPlansWrong : ChangeSpec := { name := "reloadPlans", fn := fun _ => fun
  | [d1, d2, d3] => { results := [.lit (.bool false)], args := [d1, d2, d3] }
  | _ => none }
def ReloadPlansWrongFalsely : Prop := reloadPlansRow.holds Try.pinned (OpenSpec.ofChange reloadPlansWrong)

/-- 'jobmuxlaw23.ReloadKeeps': WHATEVER THE INPUT: true; the input reads as it did. -/
def reloadKeepsSpec : ChangeSpec := { name := "reloadKeeps", fn := fun _ => fun
  | [d1, d2] => { results := [.lit (.bool true)], args := [d1, d2] }
  | _ => none }
def reloadKeepsRow : OpenClaim := { program := "ytlpaemlgmmmbmaa", sum := "8135a3c1db652c63d01f9daa8a2ca3b178aaff9fed84f961a744119149a5bf42", func := "jobmux/jobmuxlaw23.ReloadKeeps", spec := "reloadKeeps", unfollowed := true, recurses := true, apart := false }
def ReloadKeepsSaid : Prop := reloadKeepsRow.holds Try.pinned (OpenSpec.ofChange reloadKeepsSpec)

/-- ITS FALSE NEIGHBOUR: 'it returns false'. Refute it at one input. -/
def reloadKeepsWrong : ChangeSpec := { name := "reloadKeeps", fn := fun _ => fun
  | [d1, d2] => { results := [.lit (.bool false)], args := [d1, d2] }
  | _ => none }
def ReloadKeepsWrongFalsely : Prop := reloadKeepsRow.holds Try.pinned (OpenSpec.ofChange reloadKeepsWrong)

/-- 'jobmuxlaw02.TimerqPlays': WHATEVER THE INPUT: true; the input reads as it did. -/
def timerqPlaysSpec : ChangeSpec := { name := "timerqPlays", fn := fun _ => fun
  | [d1, d2] => { results := [.lit (.bool true)], args := [d1, d2] }
  | _ => none }
def timerqPlaysRow : OpenClaim := { program := "ytlpaemlgmmmbmaa", sum := "8135a3c1db652c63d01f9daa8a2ca3b178aaff9fed84f961a744119149a5bf42", func := "jobmux/jobmuxlaw02.TimerqPlays", spec := "timerqPlays", unfollowed := true, recurses := true, apart := false }
def TimerqPlaysSaid : Prop := timerqPlaysRow.holds Try.pinned (OpenSpec.ofChange timerqPlaysSpec)

/-- ITS FALSE NEIGHBOUR: 'it returns false'. Refute it at one input. -/
def timerqPlaysWrong : ChangeSpec := { name := "timerqPlays", fn := fun _ => fun
  | [d1, d2] => { results := [.lit (.bool false)], args := [d1, d2] }
  | _ => none }
def TimerqPlaysWrongFalsely : Prop := timerqPlaysRow.holds Try.pinned (OpenSpec.ofChange timerqPlaysWrong)

/-- 'jobmuxlaw02.TimerqFull': WHATEVER THE INPUT: true; the input reads as it did. -/
def timerqFullSpec : ChangeSpec := { name := "timerqFull", fn := fun _ => fun
  | [d1, d2] => { results := [.lit (.bool true)], args := [d1, d2] }
  | _ => none }
def timerqFullRow : OpenClaim := { program := "ytlpaemlgmmmbmaa", sum := "8135a3c1db652c63d01f9daa8a2ca3b178aaff9fed84f961a744119149a5bf42", func := "jobmux/jobmuxlaw02.TimerqFull", spec := "timerqFull", unfollowed := true, recurses := true, apart := false }
def TimerqFullSaid : Prop := timerqFullRow.holds Try.pinned (OpenSpec.ofChange timerqFullSpec)

/-- ITS FALSE NEIGHBOUR: 'it returns false'. Refute it at one input. -/
def timerqFullWrong : ChangeSpec := { name := "timerqFull", fn := fun _ => fun
  | [d1, d2] => { results := [.lit (.bool false)], args := [d1, d2] }
  | _ => none }
def TimerqFullWrongFalsely : Prop := timerqFullRow.holds Try.pinned (OpenSpec.ofChange timerqFullWrong)

/-- 'jobmuxlaw02.TimerqOnce': WHATEVER THE INPUT: true; the input reads as it did. -/
def timerqOnceSpec : ChangeSpec := { name := "timerqOnce", fn := fun _ => fun
  | [d] => { results := [.lit (.bool true)], args := [d] }
  | _ => none }
def timerqOnceRow : OpenClaim := { program := "ytlpaemlgmmmbmaa", sum := "8135a3c1db652c63d01f9daa8a2ca3b178aaff9fed84f961a744119149a5bf42", func := "jobmux/jobmuxlaw02.TimerqOnce", spec := "timerqOnce", unfollowed := true, recurses := true, apart := false }
def TimerqOnceSaid : Prop := timerqOnceRow.holds Try.pinned (OpenSpec.ofChange timerqOnceSpec)

/-- ITS FALSE NEIGHBOUR: 'it returns false'. Refute it at one input. -/
def timerqOnceWrong : ChangeSpec := { name := "timerqOnce", fn := fun _ => fun
  | [d] => { results := [.lit (.bool false)], args := [d] }
  | _ => none }
def TimerqOnceWrongFalsely : Prop := timerqOnceRow.holds Try.pinned (OpenSpec.ofChange timerqOnceWrong)

/-- 'jobmuxlaw02.TimerqDivides': WHATEVER THE INPUT: true; the input reads as it did. -/
def timerqDividesSpec : ChangeSpec := { name := "timerqDivides", fn := fun _ => fun
  | [d1, d2] => { results := [.lit (.bool true)], args := [d1, d2] }
  | _ => none }
def timerqDividesRow : OpenClaim := { program := "ytlpaemlgmmmbmaa", sum := "8135a3c1db652c63d01f9daa8a2ca3b178aaff9fed84f961a744119149a5bf42", func := "jobmux/jobmuxlaw02.TimerqDivides", spec := "timerqDivides", unfollowed := true, recurses := true, apart := false }
def TimerqDividesSaid : Prop := timerqDividesRow.holds Try.pinned (OpenSpec.ofChange timerqDividesSpec)

/-- ITS FALSE NEIGHBOUR: 'it returns false'. Refute it at one input. -/
def timerqDividesWrong : ChangeSpec := { name := "timerqDivides", fn := fun _ => fun
  | [d1, d2] => { results := [.lit (.bool false)], args := [d1, d2] }
  | _ => none }
def TimerqDividesWrongFalsely : Prop := timerqDividesRow.holds Try.pinned (OpenSpec.ofChange timerqDividesWrong)

/-- 'jobmuxlaw02.TimerqLooks': WHATEVER THE INPUT: true; the input reads as it did. -/
def timerqLooksSpec : ChangeSpec := { name := "timerqLooks", fn := fun _ => fun
  | [d] => { results := [.lit (.bool true)], args := [d] }
  | _ => none }
def timerqLooksRow : OpenClaim := { program := "ytlpaemlgmmmbmaa", sum := "8135a3c1db652c63d01f9daa8a2ca3b178aaff9fed84f961a744119149a5bf42", func := "jobmux/jobmuxlaw02.TimerqLooks", spec := "timerqLooks", unfollowed := true, recurses := true, apart := false }
def TimerqLooksSaid : Prop := timerqLooksRow.holds Try.pinned (OpenSpec.ofChange timerqLooksSpec)

/-- ITS FALSE NEIGHBOUR: 'it returns false'. Refute it at one input. -/
def timerqLooksWrong : ChangeSpec := { name := "timerqLooks", fn := fun _ => fun
  | [d] => { results := [.lit (.bool false)], args := [d] }
  | _ => none }
def TimerqLooksWrongFalsely : Prop := timerqLooksRow.holds Try.pinned (OpenSpec.ofChange timerqLooksWrong)

/- THE SECOND FORM. 'bulk': how many values and letters a reading holds, each counted each time it is reached (what is shared counts as often as it is met; a slice's spare places count too). A statement '..UptoSaid' is the law's where the arguments, and the package variables that the reading takes, are together of bulk at most 1048576: NARROWER than '..Said'. Prove '..Said' where nothing that the law and all that it calls make is longer than what came in: it says more and counts as full. Else prove '..UptoSaid'. A law counts once. -/
mutual
def uptoBulk {H : Type} : DataW H → Nat
  | .lit (.string bytes) => bytes.length + 1
  | .lit _ => 1
  | .nil => 1
  | .ptr d => uptoBulk d + 1
  | .slice elems spare => uptoBulkAll elems + uptoBulkAll spare + 1
  | .agg parts => uptoBulkAll parts + 1
  | .iface _ d => uptoBulk d + 1
  | .map entries => uptoBulkEntries entries + 1
  | .held _ => 1
def uptoBulkAll {H : Type} : List (DataW H) → Nat
  | [] => 0
  | d :: r => uptoBulk d + uptoBulkAll r
def uptoBulkEntries {H : Type} : List (Lit × DataW H) → Nat
  | [] => 0
  | x :: r => uptoBulkEntry x + uptoBulkEntries r
def uptoBulkEntry {H : Type} : Lit × DataW H → Nat
  | (.string bytes, d) => bytes.length + uptoBulk d + 1
  | (_, d) => uptoBulk d + 1
 end
def uptoSmall : (H : Type) → List (DataW H) → Bool := fun _ ds => decide (uptoBulkAll ds ≤ 1048576)
def OpenSpec.upto (s : _root_.Go.ChangeSpec) : _root_.Go.OpenSpec := { _root_.Go.OpenSpec.ofChange s with cond := some uptoSmall }

/-- 'jobmuxlaw27.FrameSplits', WHERE WHAT IT READS IS OF BULK AT MOST 1048576: true; the input reads as it did. -/
def frameSplitsUptoRow : OpenClaim := { program := "ytlpaemlgmmmbmaa", sum := "8135a3c1db652c63d01f9daa8a2ca3b178aaff9fed84f961a744119149a5bf42", func := "jobmux/jobmuxlaw27.FrameSplits", spec := "frameSplits", apart := false, narrowed := true }
def FrameSplitsUptoSaid : Prop := frameSplitsUptoRow.holds Try.pinned (OpenSpec.upto frameSplitsSpec)

/-- 'jobmuxlaw27.FrameLimits', WHERE WHAT IT READS IS OF BULK AT MOST 1048576: true; the input reads as it did. -/
def frameLimitsUptoRow : OpenClaim := { program := "ytlpaemlgmmmbmaa", sum := "8135a3c1db652c63d01f9daa8a2ca3b178aaff9fed84f961a744119149a5bf42", func := "jobmux/jobmuxlaw27.FrameLimits", spec := "frameLimits", apart := false, narrowed := true }
def FrameLimitsUptoSaid : Prop := frameLimitsUptoRow.holds Try.pinned (OpenSpec.upto frameLimitsSpec)

/-- 'jobmuxlaw27.FrameStreams', WHERE WHAT IT READS IS OF BULK AT MOST 1048576: true; the input reads as it did. -/
def frameStreamsUptoRow : OpenClaim := { program := "ytlpaemlgmmmbmaa", sum := "8135a3c1db652c63d01f9daa8a2ca3b178aaff9fed84f961a744119149a5bf42", func := "jobmux/jobmuxlaw27.FrameStreams", spec := "frameStreams", apart := false, narrowed := true }
def FrameStreamsUptoSaid : Prop := frameStreamsUptoRow.holds Try.pinned (OpenSpec.upto frameStreamsSpec)

/-- 'jobmuxlaw23.ReloadPlans', WHERE WHAT IT READS IS OF BULK AT MOST 1048576: true; the input reads as it did. -/
def reloadPlansUptoRow : OpenClaim := { program := "ytlpaemlgmmmbmaa", sum := "8135a3c1db652c63d01f9daa8a2ca3b178aaff9fed84f961a744119149a5bf42", func := "jobmux/jobmuxlaw23.ReloadPlans", spec := "reloadPlans", unfollowed := true, recurses := true, apart := false, narrowed := true }
def ReloadPlansUptoSaid : Prop := reloadPlansUptoRow.holds Try.pinned (OpenSpec.upto reloadPlansSpec)

/-- 'jobmuxlaw23.ReloadKeeps', WHERE WHAT IT READS IS OF BULK AT MOST 1048576: true; the input reads as it did. -/
def reloadKeepsUptoRow : OpenClaim := { program := "ytlpaemlgmmmbmaa", sum := "8135a3c1db652c63d01f9daa8a2ca3b178aaff9fed84f961a744119149a5bf42", func := "jobmux/jobmuxlaw23.ReloadKeeps", spec := "reloadKeeps", unfollowed := true, recurses := true, apart := false, narrowed := true }
def ReloadKeepsUptoSaid : Prop := reloadKeepsUptoRow.holds Try.pinned (OpenSpec.upto reloadKeepsSpec)

/-- 'jobmuxlaw02.TimerqPlays', WHERE WHAT IT READS IS OF BULK AT MOST 1048576: true; the input reads as it did. -/
def timerqPlaysUptoRow : OpenClaim := { program := "ytlpaemlgmmmbmaa", sum := "8135a3c1db652c63d01f9daa8a2ca3b178aaff9fed84f961a744119149a5bf42", func := "jobmux/jobmuxlaw02.TimerqPlays", spec := "timerqPlays", unfollowed := true, recurses := true, apart := false, narrowed := true }
def TimerqPlaysUptoSaid : Prop := timerqPlaysUptoRow.holds Try.pinned (OpenSpec.upto timerqPlaysSpec)

/-- 'jobmuxlaw02.TimerqFull', WHERE WHAT IT READS IS OF BULK AT MOST 1048576: true; the input reads as it did. -/
def timerqFullUptoRow : OpenClaim := { program := "ytlpaemlgmmmbmaa", sum := "8135a3c1db652c63d01f9daa8a2ca3b178aaff9fed84f961a744119149a5bf42", func := "jobmux/jobmuxlaw02.TimerqFull", spec := "timerqFull", unfollowed := true, recurses := true, apart := false, narrowed := true }
def TimerqFullUptoSaid : Prop := timerqFullUptoRow.holds Try.pinned (OpenSpec.upto timerqFullSpec)

/-- 'jobmuxlaw02.TimerqOnce', WHERE WHAT IT READS IS OF BULK AT MOST 1048576: true; the input reads as it did. -/
def timerqOnceUptoRow : OpenClaim := { program := "ytlpaemlgmmmbmaa", sum := "8135a3c1db652c63d01f9daa8a2ca3b178aaff9fed84f961a744119149a5bf42", func := "jobmux/jobmuxlaw02.TimerqOnce", spec := "timerqOnce", unfollowed := true, recurses := true, apart := false, narrowed := true }
def TimerqOnceUptoSaid : Prop := timerqOnceUptoRow.holds Try.pinned (OpenSpec.upto timerqOnceSpec)

/-- 'jobmuxlaw02.TimerqDivides', WHERE WHAT IT READS IS OF BULK AT MOST 1048576: true; the input reads as it did. -/
def timerqDividesUptoRow : OpenClaim := { program := "ytlpaemlgmmmbmaa", sum := "8135a3c1db652c63d01f9daa8a2ca3b178aaff9fed84f961a744119149a5bf42", func := "jobmux/jobmuxlaw02.TimerqDivides", spec := "timerqDivides", unfollowed := true, recurses := true, apart := false, narrowed := true }
def TimerqDividesUptoSaid : Prop := timerqDividesUptoRow.holds Try.pinned (OpenSpec.upto timerqDividesSpec)

/-- 'jobmuxlaw02.TimerqLooks', WHERE WHAT IT READS IS OF BULK AT MOST 1048576: true; the input reads as it did. -/
def timerqLooksUptoRow : OpenClaim := { program := "ytlpaemlgmmmbmaa", sum := "8135a3c1db652c63d01f9daa8a2ca3b178aaff9fed84f961a744119149a5bf42", func := "jobmux/jobmuxlaw02.TimerqLooks", spec := "timerqLooks", unfollowed := true, recurses := true, apart := false, narrowed := true }
def TimerqLooksUptoSaid : Prop := timerqLooksUptoRow.holds Try.pinned (OpenSpec.upto timerqLooksSpec)

end Rows
end Go.Proofs.Ytlpaemlgmmmbmaa
