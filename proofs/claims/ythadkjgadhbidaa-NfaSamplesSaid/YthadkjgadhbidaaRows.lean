/-
  No cell of these rows narrows 'for every input' (looked for: loops, veiled, ifaces, maps, wideKeys, modest, calm, conditions, laid).
  DERIVED. THE GIVEN ROWS OF THIS SEAT. 7 by the template 'for every input the law returns true; each argument reads behind the call as it read before'; 0 by the template 'total and deterministic' (their statements: YthadkjgadhbidaaTotals.lean).
  GIVEN WITH THE SEED: the statements are not yours to turn. If you find one false, say at which input.
  Laid BY PROGRAM, IN A SANDBOX (cutbox-rows.mjs): the forced cells as the released guide's own fill.sh prints them over the translation 7b08081034542238… (all of the seat's roots in one cut). By AI agents, Wed Nov 11 2026. No macro, syntax, notation, axiom, sorry.
-/
import Derived.Test.YthadkjgadhbidaaChecked
import GoSem.Claim
import GoSem.ClaimJoined
import GoSem.ClaimMapViews
import Derived.JoinedTies
import Derived.KernelRfl
namespace Go.Proofs.Ythadkjgadhbidaa
/- THE CELL 'sum', in the pinned program and in every row, IS THE sha256 OF THE DUMP (.gsa) THAT YthadkjgadhbidaaProg.lean LOADS. Nothing in Lean hashes anything: it is a label: what it is worth is what the hold of that sum in a sandbox is worth. -/
noncomputable def Try.pinned : Pinned := { name := "ythadkjgadhbidaa", sum := "7b080810345422380c8b2267509cfe3b2a178de63b3e765d85be05a3590bbc03", checked := Try.checked }
namespace Rows
def none {H : Type} : Left H := { results := [], args := [] }

/-- 'jobmuxlaw10.NfaAgrees': WHATEVER THE INPUT: true; the input reads as it did. -/
def nfaAgreesSpec : ChangeSpec := { name := "nfaAgrees", fn := fun _ => fun
  | [d1, d2] => { results := [.lit (.bool true)], args := [d1, d2] }
  | _ => none }
def nfaAgreesRow : OpenClaim := { program := "ythadkjgadhbidaa", sum := "7b080810345422380c8b2267509cfe3b2a178de63b3e765d85be05a3590bbc03", func := "jobmux/jobmuxlaw10.NfaAgrees", spec := "nfaAgrees", unfollowed := true, recurses := true, plainKeys := false, apart := false }
def NfaAgreesSaid : Prop := nfaAgreesRow.holds Try.pinned (OpenSpec.ofChange nfaAgreesSpec)

/-- ITS FALSE NEIGHBOUR: 'it returns false'. Refute it at one input. -/
def nfaAgreesWrong : ChangeSpec := { name := "nfaAgrees", fn := fun _ => fun
  | [d1, d2] => { results := [.lit (.bool false)], args := [d1, d2] }
  | _ => none }
def NfaAgreesWrongFalsely : Prop := nfaAgreesRow.holds Try.pinned (OpenSpec.ofChange nfaAgreesWrong)

/-- 'jobmuxlaw10.NfaInvalid': WHATEVER THE INPUT: true; the input reads as it did. -/
def nfaInvalidSpec : ChangeSpec := { name := "nfaInvalid", fn := fun _ => fun
  | [d1, d2, d3, d4, d5, d6] => { results := [.lit (.bool true)], args := [d1, d2, d3, d4, d5, d6] }
  | _ => none }
def nfaInvalidRow : OpenClaim := { program := "ythadkjgadhbidaa", sum := "7b080810345422380c8b2267509cfe3b2a178de63b3e765d85be05a3590bbc03", func := "jobmux/jobmuxlaw10.NfaInvalid", spec := "nfaInvalid", unfollowed := true, recurses := true, plainKeys := false, apart := false }
def NfaInvalidSaid : Prop := nfaInvalidRow.holds Try.pinned (OpenSpec.ofChange nfaInvalidSpec)

/-- ITS FALSE NEIGHBOUR: 'it returns false'. Refute it at one input. -/
def nfaInvalidWrong : ChangeSpec := { name := "nfaInvalid", fn := fun _ => fun
  | [d1, d2, d3, d4, d5, d6] => { results := [.lit (.bool false)], args := [d1, d2, d3, d4, d5, d6] }
  | _ => none }
def NfaInvalidWrongFalsely : Prop := nfaInvalidRow.holds Try.pinned (OpenSpec.ofChange nfaInvalidWrong)

/-- 'jobmuxlaw10.NfaSamples': WHATEVER THE INPUT: true; the input reads as it did. -/
def nfaSamplesSpec : ChangeSpec := { name := "nfaSamples", fn := fun _ => fun
  | [d] => { results := [.lit (.bool true)], args := [d] }
  | _ => none }
def nfaSamplesRow : OpenClaim := { program := "ythadkjgadhbidaa", sum := "7b080810345422380c8b2267509cfe3b2a178de63b3e765d85be05a3590bbc03", func := "jobmux/jobmuxlaw10.NfaSamples", spec := "nfaSamples", unfollowed := true, recurses := true, plainKeys := false, apart := false }
def NfaSamplesSaid : Prop := nfaSamplesRow.holds Try.pinned (OpenSpec.ofChange nfaSamplesSpec)

/-- ITS FALSE NEIGHBOUR: 'it returns false'. Refute it at one input. -/
def nfaSamplesWrong : ChangeSpec := { name := "nfaSamples", fn := fun _ => fun
  | [d] => { results := [.lit (.bool false)], args := [d] }
  | _ => none }
def NfaSamplesWrongFalsely : Prop := nfaSamplesRow.holds Try.pinned (OpenSpec.ofChange nfaSamplesWrong)

/-- 'jobmuxlaw10.NfaStars': WHATEVER THE INPUT: true; the input reads as it did. -/
def nfaStarsSpec : ChangeSpec := { name := "nfaStars", fn := fun _ => fun
  | [d1, d2] => { results := [.lit (.bool true)], args := [d1, d2] }
  | _ => none }
def nfaStarsRow : OpenClaim := { program := "ythadkjgadhbidaa", sum := "7b080810345422380c8b2267509cfe3b2a178de63b3e765d85be05a3590bbc03", func := "jobmux/jobmuxlaw10.NfaStars", spec := "nfaStars", unfollowed := true, recurses := true, plainKeys := false, apart := false }
def NfaStarsSaid : Prop := nfaStarsRow.holds Try.pinned (OpenSpec.ofChange nfaStarsSpec)

/-- ITS FALSE NEIGHBOUR: 'it returns false'. Refute it at one input. -/
def nfaStarsWrong : ChangeSpec := { name := "nfaStars", fn := fun _ => fun
  | [d1, d2] => { results := [.lit (.bool false)], args := [d1, d2] }
  | _ => none }
def NfaStarsWrongFalsely : Prop := nfaStarsRow.holds Try.pinned (OpenSpec.ofChange nfaStarsWrong)

/-- 'jobmuxlaw11.MatcherFinds': WHATEVER THE INPUT: true; the input reads as it did. -/
def matcherFindsSpec : ChangeSpec := { name := "matcherFinds", fn := fun _ => fun
  | [d1, d2, d3, d4] => { results := [.lit (.bool true)], args := [d1, d2, d3, d4] }
  | _ => none }
def matcherFindsRow : OpenClaim := { program := "ythadkjgadhbidaa", sum := "7b080810345422380c8b2267509cfe3b2a178de63b3e765d85be05a3590bbc03", func := "jobmux/jobmuxlaw11.MatcherFinds", spec := "matcherFinds", recurses := true, plainKeys := false, apart := false }
def MatcherFindsSaid : Prop := matcherFindsRow.holds Try.pinned (OpenSpec.ofChange matcherFindsSpec)

/-- ITS FALSE NEIGHBOUR: 'it returns false'. Refute it at one input. -/
def matcherFindsWrong : ChangeSpec := { name := "matcherFinds", fn := fun _ => fun
  | [d1, d2, d3, d4] => { results := [.lit (.bool false)], args := [d1, d2, d3, d4] }
  | _ => none }
def MatcherFindsWrongFalsely : Prop := matcherFindsRow.holds Try.pinned (OpenSpec.ofChange matcherFindsWrong)

/-- 'jobmuxlaw11.MatcherDivides': WHATEVER THE INPUT: true; the input reads as it did. -/
def matcherDividesSpec : ChangeSpec := { name := "matcherDivides", fn := fun _ => fun
  | [d1, d2] => { results := [.lit (.bool true)], args := [d1, d2] }
  | _ => none }
def matcherDividesRow : OpenClaim := { program := "ythadkjgadhbidaa", sum := "7b080810345422380c8b2267509cfe3b2a178de63b3e765d85be05a3590bbc03", func := "jobmux/jobmuxlaw11.MatcherDivides", spec := "matcherDivides", recurses := true, plainKeys := false, apart := false }
def MatcherDividesSaid : Prop := matcherDividesRow.holds Try.pinned (OpenSpec.ofChange matcherDividesSpec)

/-- ITS FALSE NEIGHBOUR: 'it returns false'. Refute it at one input. -/
def matcherDividesWrong : ChangeSpec := { name := "matcherDivides", fn := fun _ => fun
  | [d1, d2] => { results := [.lit (.bool false)], args := [d1, d2] }
  | _ => none }
def MatcherDividesWrongFalsely : Prop := matcherDividesRow.holds Try.pinned (OpenSpec.ofChange matcherDividesWrong)

/-- 'jobmuxlaw11.MatcherEarliest': WHATEVER THE INPUT: true; the input reads as it did. -/
def matcherEarliestSpec : ChangeSpec := { name := "matcherEarliest", fn := fun _ => fun
  | [d1, d2] => { results := [.lit (.bool true)], args := [d1, d2] }
  | _ => none }
def matcherEarliestRow : OpenClaim := { program := "ythadkjgadhbidaa", sum := "7b080810345422380c8b2267509cfe3b2a178de63b3e765d85be05a3590bbc03", func := "jobmux/jobmuxlaw11.MatcherEarliest", spec := "matcherEarliest", recurses := true, plainKeys := false, apart := false }
def MatcherEarliestSaid : Prop := matcherEarliestRow.holds Try.pinned (OpenSpec.ofChange matcherEarliestSpec)

/-- ITS FALSE NEIGHBOUR: 'it returns false'. Refute it at one input. -/
def matcherEarliestWrong : ChangeSpec := { name := "matcherEarliest", fn := fun _ => fun
  | [d1, d2] => { results := [.lit (.bool false)], args := [d1, d2] }
  | _ => none }
def MatcherEarliestWrongFalsely : Prop := matcherEarliestRow.holds Try.pinned (OpenSpec.ofChange matcherEarliestWrong)

/- THE SECOND FORM. 'bulk': how many values and letters a reading holds, each counted each time it is reached (what is shared counts as often as it is met; a slice's spare places count too). A statement '..UptoSaid' is the law's where the arguments, and the package variables that the reading takes, are together of bulk at most 1048576: NARROWER than '..Said'. Prove '..Said' where nothing that the law and all that it calls make is longer than what came in: it says more and counts as full. Else prove '..UptoSaid'. A law counts once. -/
mutual
def uptoBulk {H : Type} : DataW H → Nat
  | .lit (.string bytes) => bytes.length + 1
  | .lit _ => 1
  | .nil => 1
  | .ptr d => uptoBulk d + 1
  | .slice elems spare => uptoBulkAll elems + uptoBulkAll spare + 1
  | .agg parts => uptoBulkAll parts + 1
  | .iface _ d => uptoBulk d + 1
  | .map entries => uptoBulkEntries entries + 1
  | .held _ => 1
def uptoBulkAll {H : Type} : List (DataW H) → Nat
  | [] => 0
  | d :: r => uptoBulk d + uptoBulkAll r
def uptoBulkEntries {H : Type} : List (Lit × DataW H) → Nat
  | [] => 0
  | x :: r => uptoBulkEntry x + uptoBulkEntries r
def uptoBulkEntry {H : Type} : Lit × DataW H → Nat
  | (.string bytes, d) => bytes.length + uptoBulk d + 1
  | (_, d) => uptoBulk d + 1
 end
def uptoSmall : (H : Type) → List (DataW H) → Bool := fun _ ds => decide (uptoBulkAll ds ≤ 1048576)
def OpenSpec.upto (s : _root_.Go.ChangeSpec) : _root_.Go.OpenSpec := { _root_.Go.OpenSpec.ofChange s with cond := some uptoSmall }

/-- 'jobmuxlaw10.NfaAgrees', WHERE WHAT IT READS IS OF BULK AT MOST 1048576: true; the input reads as it did. -/
def nfaAgreesUptoRow : OpenClaim := { program := "ythadkjgadhbidaa", sum := "7b080810345422380c8b2267509cfe3b2a178de63b3e765d85be05a3590bbc03", func := "jobmux/jobmuxlaw10.NfaAgrees", spec := "nfaAgrees", unfollowed := true, recurses := true, plainKeys := false, apart := false, narrowed := true }
def NfaAgreesUptoSaid : Prop := nfaAgreesUptoRow.holds Try.pinned (OpenSpec.upto nfaAgreesSpec)

/-- 'jobmuxlaw10.NfaInvalid', WHERE WHAT IT READS IS OF BULK AT MOST 1048576: true; the input reads as it did. -/
def nfaInvalidUptoRow : OpenClaim := { program := "ythadkjgadhbidaa", sum := "7b080810345422380c8b2267509cfe3b2a178de63b3e765d85be05a3590bbc03", func := "jobmux/jobmuxlaw10.NfaInvalid", spec := "nfaInvalid", unfollowed := true, recurses := true, plainKeys := false, apart := false, narrowed := true }
def NfaInvalidUptoSaid : Prop := nfaInvalidUptoRow.holds Try.pinned (OpenSpec.upto nfaInvalidSpec)

/-- 'jobmuxlaw10.NfaSamples', WHERE WHAT IT READS IS OF BULK AT MOST 1048576: true; the input reads as it did. -/
def nfaSamplesUptoRow : OpenClaim := { program := "ythadkjgadhbidaa", sum := "7b080810345422380c8b2267509cfe3b2a178de63b3e765d85be05a3590bbc03", func := "jobmux/jobmuxlaw10.NfaSamples", spec := "nfaSamples", unfollowed := true, recurses := true, plainKeys := false, apart := false, narrowed := true }
def NfaSamplesUptoSaid : Prop := nfaSamplesUptoRow.holds Try.pinned (OpenSpec.upto nfaSamplesSpec)

/-- 'jobmuxlaw10.NfaStars', WHERE WHAT IT READS IS OF BULK AT MOST 1048576: true; the input reads as it did. -/
def nfaStarsUptoRow : OpenClaim := { program := "ythadkjgadhbidaa", sum := "7b080810345422380c8b2267509cfe3b2a178de63b3e765d85be05a3590bbc03", func := "jobmux/jobmuxlaw10.NfaStars", spec := "nfaStars", unfollowed := true, recurses := true, plainKeys := false, apart := false, narrowed := true }
def NfaStarsUptoSaid : Prop := nfaStarsUptoRow.holds Try.pinned (OpenSpec.upto nfaStarsSpec)

/-- 'jobmuxlaw11.MatcherFinds', WHERE WHAT IT READS IS OF BULK AT MOST 1048576: true; the input reads as it did. -/
def matcherFindsUptoRow : OpenClaim := { program := "ythadkjgadhbidaa", sum := "7b080810345422380c8b2267509cfe3b2a178de63b3e765d85be05a3590bbc03", func := "jobmux/jobmuxlaw11.MatcherFinds", spec := "matcherFinds", recurses := true, plainKeys := false, apart := false, narrowed := true }
def MatcherFindsUptoSaid : Prop := matcherFindsUptoRow.holds Try.pinned (OpenSpec.upto matcherFindsSpec)

/-- 'jobmuxlaw11.MatcherDivides', WHERE WHAT IT READS IS OF BULK AT MOST 1048576: true; the input reads as it did. -/
def matcherDividesUptoRow : OpenClaim := { program := "ythadkjgadhbidaa", sum := "7b080810345422380c8b2267509cfe3b2a178de63b3e765d85be05a3590bbc03", func := "jobmux/jobmuxlaw11.MatcherDivides", spec := "matcherDivides", recurses := true, plainKeys := false, apart := false, narrowed := true }
def MatcherDividesUptoSaid : Prop := matcherDividesUptoRow.holds Try.pinned (OpenSpec.upto matcherDividesSpec)

/-- 'jobmuxlaw11.MatcherEarliest', WHERE WHAT IT READS IS OF BULK AT MOST 1048576: true; the input reads as it did. -/
def matcherEarliestUptoRow : OpenClaim := { program := "ythadkjgadhbidaa", sum := "7b080810345422380c8b2267509cfe3b2a178de63b3e765d85be05a3590bbc03", func := "jobmux/jobmuxlaw11.MatcherEarliest", spec := "matcherEarliest", recurses := true, plainKeys := false, apart := false, narrowed := true }
def MatcherEarliestUptoSaid : Prop := matcherEarliestUptoRow.holds Try.pinned (OpenSpec.upto matcherEarliestSpec)

end Rows
end Go.Proofs.Ythadkjgadhbidaa
