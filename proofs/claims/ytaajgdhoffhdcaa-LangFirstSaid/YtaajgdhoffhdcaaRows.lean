/-
  No cell of these rows narrows 'for every input' (looked for: loops, veiled, ifaces, maps, wideKeys, modest, calm, conditions, laid).
  DERIVED. THE GIVEN ROWS OF THIS SEAT. 12 by the template 'for every input the law returns true; each argument reads behind the call as it read before'; 0 by the template 'total and deterministic' (their statements: YtaajgdhoffhdcaaTotals.lean).
  GIVEN WITH THE SEED: the statements are not yours to turn. If you find one false, say at which input.
  Laid BY PROGRAM, IN A SANDBOX (cutbox-rows.mjs): the forced cells as the released guide's own fill.sh prints them over the translation 99d458e56d6fda0b… (all of the seat's roots in one cut). By AI agents, Wed Nov 11 2026. No macro, syntax, notation, axiom, sorry.
-/
import Derived.Test.YtaajgdhoffhdcaaChecked
import GoSem.Claim
import GoSem.ClaimJoined
import GoSem.ClaimMapViews
import Derived.JoinedTies
import Derived.KernelRfl
namespace Go.Proofs.Ytaajgdhoffhdcaa
/- THE CELL 'sum', in the pinned program and in every row, IS THE sha256 OF THE DUMP (.gsa) THAT YtaajgdhoffhdcaaProg.lean LOADS. Nothing in Lean hashes anything: it is a label: what it is worth is what the hold of that sum in a sandbox is worth. -/
noncomputable def Try.pinned : Pinned := { name := "ytaajgdhoffhdcaa", sum := "99d458e56d6fda0bd248f1371ec25702a718f8892c1c3cbe76da3e0a0057d33e", checked := Try.checked }
namespace Rows
def none {H : Type} : Left H := { results := [], args := [] }

/-- 'jobmuxlaw09.LangFirst': WHATEVER THE INPUT: true; the input reads as it did. -/
def langFirstSpec : ChangeSpec := { name := "langFirst", fn := fun _ => fun
  | [d1, d2, d3] => { results := [.lit (.bool true)], args := [d1, d2, d3] }
  | _ => none }
def langFirstRow : OpenClaim := { program := "ytaajgdhoffhdcaa", sum := "99d458e56d6fda0bd248f1371ec25702a718f8892c1c3cbe76da3e0a0057d33e", func := "jobmux/jobmuxlaw09.LangFirst", spec := "langFirst", recurses := true, plainKeys := false, apart := false }
def LangFirstSaid : Prop := langFirstRow.holds Try.pinned (OpenSpec.ofChange langFirstSpec)

/-- ITS FALSE NEIGHBOUR: 'it returns false'. Refute it at one input. -/
def langFirstWrong : ChangeSpec := { name := "langFirst", fn := fun _ => fun
  | [d1, d2, d3] => { results := [.lit (.bool false)], args := [d1, d2, d3] }
  | _ => none }
def LangFirstWrongFalsely : Prop := langFirstRow.holds Try.pinned (OpenSpec.ofChange langFirstWrong)

/-- 'jobmuxlaw09.LangStays': WHATEVER THE INPUT: true; the input reads as it did. -/
def langStaysSpec : ChangeSpec := { name := "langStays", fn := fun _ => fun
  | [d1, d2] => { results := [.lit (.bool true)], args := [d1, d2] }
  | _ => none }
def langStaysRow : OpenClaim := { program := "ytaajgdhoffhdcaa", sum := "99d458e56d6fda0bd248f1371ec25702a718f8892c1c3cbe76da3e0a0057d33e", func := "jobmux/jobmuxlaw09.LangStays", spec := "langStays", recurses := true, plainKeys := false, apart := false }
def LangStaysSaid : Prop := langStaysRow.holds Try.pinned (OpenSpec.ofChange langStaysSpec)

/-- ITS FALSE NEIGHBOUR: 'it returns false'. Refute it at one input. -/
def langStaysWrong : ChangeSpec := { name := "langStays", fn := fun _ => fun
  | [d1, d2] => { results := [.lit (.bool false)], args := [d1, d2] }
  | _ => none }
def LangStaysWrongFalsely : Prop := langStaysRow.holds Try.pinned (OpenSpec.ofChange langStaysWrong)

/-- 'jobmuxlaw09.LangAlgebra': WHATEVER THE INPUT: true; the input reads as it did. -/
def langAlgebraSpec : ChangeSpec := { name := "langAlgebra", fn := fun _ => fun
  | [d1, d2, d3] => { results := [.lit (.bool true)], args := [d1, d2, d3] }
  | _ => none }
def langAlgebraRow : OpenClaim := { program := "ytaajgdhoffhdcaa", sum := "99d458e56d6fda0bd248f1371ec25702a718f8892c1c3cbe76da3e0a0057d33e", func := "jobmux/jobmuxlaw09.LangAlgebra", spec := "langAlgebra", recurses := true, plainKeys := false, apart := false }
def LangAlgebraSaid : Prop := langAlgebraRow.holds Try.pinned (OpenSpec.ofChange langAlgebraSpec)

/-- ITS FALSE NEIGHBOUR: 'it returns false'. Refute it at one input. -/
def langAlgebraWrong : ChangeSpec := { name := "langAlgebra", fn := fun _ => fun
  | [d1, d2, d3] => { results := [.lit (.bool false)], args := [d1, d2, d3] }
  | _ => none }
def LangAlgebraWrongFalsely : Prop := langAlgebraRow.holds Try.pinned (OpenSpec.ofChange langAlgebraWrong)

/-- 'jobmuxlaw09.LangLines': WHATEVER THE INPUT: true; the input reads as it did. -/
def langLinesSpec : ChangeSpec := { name := "langLines", fn := fun _ => fun
  | [d1, d2] => { results := [.lit (.bool true)], args := [d1, d2] }
  | _ => none }
def langLinesRow : OpenClaim := { program := "ytaajgdhoffhdcaa", sum := "99d458e56d6fda0bd248f1371ec25702a718f8892c1c3cbe76da3e0a0057d33e", func := "jobmux/jobmuxlaw09.LangLines", spec := "langLines", recurses := true, plainKeys := false, apart := false }
def LangLinesSaid : Prop := langLinesRow.holds Try.pinned (OpenSpec.ofChange langLinesSpec)

/-- ITS FALSE NEIGHBOUR: 'it returns false'. Refute it at one input. -/
def langLinesWrong : ChangeSpec := { name := "langLines", fn := fun _ => fun
  | [d1, d2] => { results := [.lit (.bool false)], args := [d1, d2] }
  | _ => none }
def LangLinesWrongFalsely : Prop := langLinesRow.holds Try.pinned (OpenSpec.ofChange langLinesWrong)

/-- 'jobmuxlaw08.RegexLimits': WHATEVER THE INPUT: true; the input reads as it did. -/
def regexLimitsSpec : ChangeSpec := { name := "regexLimits", fn := fun _ => fun
  | [d] => { results := [.lit (.bool true)], args := [d] }
  | _ => none }
def regexLimitsRow : OpenClaim := { program := "ytaajgdhoffhdcaa", sum := "99d458e56d6fda0bd248f1371ec25702a718f8892c1c3cbe76da3e0a0057d33e", func := "jobmux/jobmuxlaw08.RegexLimits", spec := "regexLimits", recurses := true, plainKeys := false, apart := false }
def RegexLimitsSaid : Prop := regexLimitsRow.holds Try.pinned (OpenSpec.ofChange regexLimitsSpec)

/-- ITS FALSE NEIGHBOUR: 'it returns false'. Refute it at one input. -/
def regexLimitsWrong : ChangeSpec := { name := "regexLimits", fn := fun _ => fun
  | [d] => { results := [.lit (.bool false)], args := [d] }
  | _ => none }
def RegexLimitsWrongFalsely : Prop := regexLimitsRow.holds Try.pinned (OpenSpec.ofChange regexLimitsWrong)

/-- 'jobmuxlaw08.RegexGroups': WHATEVER THE INPUT: true; the input reads as it did. -/
def regexGroupsSpec : ChangeSpec := { name := "regexGroups", fn := fun _ => fun
  | [d1, d2] => { results := [.lit (.bool true)], args := [d1, d2] }
  | _ => none }
def regexGroupsRow : OpenClaim := { program := "ytaajgdhoffhdcaa", sum := "99d458e56d6fda0bd248f1371ec25702a718f8892c1c3cbe76da3e0a0057d33e", func := "jobmux/jobmuxlaw08.RegexGroups", spec := "regexGroups", recurses := true, plainKeys := false, apart := false }
def RegexGroupsSaid : Prop := regexGroupsRow.holds Try.pinned (OpenSpec.ofChange regexGroupsSpec)

/-- ITS FALSE NEIGHBOUR: 'it returns false'. Refute it at one input. -/
def regexGroupsWrong : ChangeSpec := { name := "regexGroups", fn := fun _ => fun
  | [d1, d2] => { results := [.lit (.bool false)], args := [d1, d2] }
  | _ => none }
def RegexGroupsWrongFalsely : Prop := regexGroupsRow.holds Try.pinned (OpenSpec.ofChange regexGroupsWrong)

/-- 'jobmuxlaw10.NfaAgrees': WHATEVER THE INPUT: true; the input reads as it did. -/
def nfaAgreesSpec : ChangeSpec := { name := "nfaAgrees", fn := fun _ => fun
  | [d1, d2] => { results := [.lit (.bool true)], args := [d1, d2] }
  | _ => none }
def nfaAgreesRow : OpenClaim := { program := "ytaajgdhoffhdcaa", sum := "99d458e56d6fda0bd248f1371ec25702a718f8892c1c3cbe76da3e0a0057d33e", func := "jobmux/jobmuxlaw10.NfaAgrees", spec := "nfaAgrees", unfollowed := true, recurses := true, plainKeys := false, apart := false }
def NfaAgreesSaid : Prop := nfaAgreesRow.holds Try.pinned (OpenSpec.ofChange nfaAgreesSpec)

/-- ITS FALSE NEIGHBOUR: 'it returns false'. Refute it at one input. -/
def nfaAgreesWrong : ChangeSpec := { name := "nfaAgrees", fn := fun _ => fun
  | [d1, d2] => { results := [.lit (.bool false)], args := [d1, d2] }
  | _ => none }
def NfaAgreesWrongFalsely : Prop := nfaAgreesRow.holds Try.pinned (OpenSpec.ofChange nfaAgreesWrong)

/-- 'jobmuxlaw10.NfaInvalid': WHATEVER THE INPUT: true; the input reads as it did. -/
def nfaInvalidSpec : ChangeSpec := { name := "nfaInvalid", fn := fun _ => fun
  | [d1, d2, d3, d4, d5, d6] => { results := [.lit (.bool true)], args := [d1, d2, d3, d4, d5, d6] }
  | _ => none }
def nfaInvalidRow : OpenClaim := { program := "ytaajgdhoffhdcaa", sum := "99d458e56d6fda0bd248f1371ec25702a718f8892c1c3cbe76da3e0a0057d33e", func := "jobmux/jobmuxlaw10.NfaInvalid", spec := "nfaInvalid", unfollowed := true, recurses := true, plainKeys := false, apart := false }
def NfaInvalidSaid : Prop := nfaInvalidRow.holds Try.pinned (OpenSpec.ofChange nfaInvalidSpec)

/-- ITS FALSE NEIGHBOUR: 'it returns false'. Refute it at one input. -/
def nfaInvalidWrong : ChangeSpec := { name := "nfaInvalid", fn := fun _ => fun
  | [d1, d2, d3, d4, d5, d6] => { results := [.lit (.bool false)], args := [d1, d2, d3, d4, d5, d6] }
  | _ => none }
def NfaInvalidWrongFalsely : Prop := nfaInvalidRow.holds Try.pinned (OpenSpec.ofChange nfaInvalidWrong)

/-- 'jobmuxlaw10.NfaSamples': WHATEVER THE INPUT: true; the input reads as it did. -/
def nfaSamplesSpec : ChangeSpec := { name := "nfaSamples", fn := fun _ => fun
  | [d] => { results := [.lit (.bool true)], args := [d] }
  | _ => none }
def nfaSamplesRow : OpenClaim := { program := "ytaajgdhoffhdcaa", sum := "99d458e56d6fda0bd248f1371ec25702a718f8892c1c3cbe76da3e0a0057d33e", func := "jobmux/jobmuxlaw10.NfaSamples", spec := "nfaSamples", unfollowed := true, recurses := true, plainKeys := false, apart := false }
def NfaSamplesSaid : Prop := nfaSamplesRow.holds Try.pinned (OpenSpec.ofChange nfaSamplesSpec)

/-- ITS FALSE NEIGHBOUR: 'it returns false'. Refute it at one input. -/
def nfaSamplesWrong : ChangeSpec := { name := "nfaSamples", fn := fun _ => fun
  | [d] => { results := [.lit (.bool false)], args := [d] }
  | _ => none }
def NfaSamplesWrongFalsely : Prop := nfaSamplesRow.holds Try.pinned (OpenSpec.ofChange nfaSamplesWrong)

/-- 'jobmuxlaw10.NfaStars': WHATEVER THE INPUT: true; the input reads as it did. -/
def nfaStarsSpec : ChangeSpec := { name := "nfaStars", fn := fun _ => fun
  | [d1, d2] => { results := [.lit (.bool true)], args := [d1, d2] }
  | _ => none }
def nfaStarsRow : OpenClaim := { program := "ytaajgdhoffhdcaa", sum := "99d458e56d6fda0bd248f1371ec25702a718f8892c1c3cbe76da3e0a0057d33e", func := "jobmux/jobmuxlaw10.NfaStars", spec := "nfaStars", unfollowed := true, recurses := true, plainKeys := false, apart := false }
def NfaStarsSaid : Prop := nfaStarsRow.holds Try.pinned (OpenSpec.ofChange nfaStarsSpec)

/-- ITS FALSE NEIGHBOUR: 'it returns false'. Refute it at one input. -/
def nfaStarsWrong : ChangeSpec := { name := "nfaStars", fn := fun _ => fun
  | [d1, d2] => { results := [.lit (.bool false)], args := [d1, d2] }
  | _ => none }
def NfaStarsWrongFalsely : Prop := nfaStarsRow.holds Try.pinned (OpenSpec.ofChange nfaStarsWrong)

/-- 'jobmuxlaw08.RegexValid': WHATEVER THE INPUT: true; the input reads as it did. -/
def regexValidSpec : ChangeSpec := { name := "regexValid", fn := fun _ => fun
  | [d1, d2, d3, d4] => { results := [.lit (.bool true)], args := [d1, d2, d3, d4] }
  | _ => none }
def regexValidRow : OpenClaim := { program := "ytaajgdhoffhdcaa", sum := "99d458e56d6fda0bd248f1371ec25702a718f8892c1c3cbe76da3e0a0057d33e", func := "jobmux/jobmuxlaw08.RegexValid", spec := "regexValid", recurses := true, plainKeys := false, apart := false }
def RegexValidSaid : Prop := regexValidRow.holds Try.pinned (OpenSpec.ofChange regexValidSpec)

/-- ITS FALSE NEIGHBOUR: 'it returns false'. Refute it at one input. -/
def regexValidWrong : ChangeSpec := { name := "regexValid", fn := fun _ => fun
  | [d1, d2, d3, d4] => { results := [.lit (.bool false)], args := [d1, d2, d3, d4] }
  | _ => none }
def RegexValidWrongFalsely : Prop := regexValidRow.holds Try.pinned (OpenSpec.ofChange regexValidWrong)

/-- 'jobmuxlaw08.RegexSmall': WHATEVER THE INPUT: true; the input reads as it did. -/
def regexSmallSpec : ChangeSpec := { name := "regexSmall", fn := fun _ => fun
  | [d1, d2] => { results := [.lit (.bool true)], args := [d1, d2] }
  | _ => none }
def regexSmallRow : OpenClaim := { program := "ytaajgdhoffhdcaa", sum := "99d458e56d6fda0bd248f1371ec25702a718f8892c1c3cbe76da3e0a0057d33e", func := "jobmux/jobmuxlaw08.RegexSmall", spec := "regexSmall", recurses := true, plainKeys := false, apart := false }
def RegexSmallSaid : Prop := regexSmallRow.holds Try.pinned (OpenSpec.ofChange regexSmallSpec)

/-- ITS FALSE NEIGHBOUR: 'it returns false'. Refute it at one input. -/
def regexSmallWrong : ChangeSpec := { name := "regexSmall", fn := fun _ => fun
  | [d1, d2] => { results := [.lit (.bool false)], args := [d1, d2] }
  | _ => none }
def RegexSmallWrongFalsely : Prop := regexSmallRow.holds Try.pinned (OpenSpec.ofChange regexSmallWrong)

/- THE SECOND FORM. 'bulk': how many values and letters a reading holds, each counted each time it is reached (what is shared counts as often as it is met; a slice's spare places count too). A statement '..UptoSaid' is the law's where the arguments, and the package variables that the reading takes, are together of bulk at most 1048576: NARROWER than '..Said'. Prove '..Said' where nothing that the law and all that it calls make is longer than what came in: it says more and counts as full. Else prove '..UptoSaid'. A law counts once. -/
mutual
def uptoBulk {H : Type} : DataW H → Nat
  | .lit (.string bytes) => bytes.length + 1
  | .lit _ => 1
  | .nil => 1
  | .ptr d => uptoBulk d + 1
  | .slice elems spare => uptoBulkAll elems + uptoBulkAll spare + 1
  | .agg parts => uptoBulkAll parts + 1
  | .iface _ d => uptoBulk d + 1
  | .map entries => uptoBulkEntries entries + 1
  | .held _ => 1
def uptoBulkAll {H : Type} : List (DataW H) → Nat
  | [] => 0
  | d :: r => uptoBulk d + uptoBulkAll r
def uptoBulkEntries {H : Type} : List (Lit × DataW H) → Nat
  | [] => 0
  | x :: r => uptoBulkEntry x + uptoBulkEntries r
def uptoBulkEntry {H : Type} : Lit × DataW H → Nat
  | (.string bytes, d) => bytes.length + uptoBulk d + 1
  | (_, d) => uptoBulk d + 1
 end
def uptoSmall : (H : Type) → List (DataW H) → Bool := fun _ ds => decide (uptoBulkAll ds ≤ 1048576)
def OpenSpec.upto (s : _root_.Go.ChangeSpec) : _root_.Go.OpenSpec := { _root_.Go.OpenSpec.ofChange s with cond := some uptoSmall }

/-- 'jobmuxlaw09.LangFirst', WHERE WHAT IT READS IS OF BULK AT MOST 1048576: true; the input reads as it did. -/
def langFirstUptoRow : OpenClaim := { program := "ytaajgdhoffhdcaa", sum := "99d458e56d6fda0bd248f1371ec25702a718f8892c1c3cbe76da3e0a0057d33e", func := "jobmux/jobmuxlaw09.LangFirst", spec := "langFirst", recurses := true, plainKeys := false, apart := false, narrowed := true }
def LangFirstUptoSaid : Prop := langFirstUptoRow.holds Try.pinned (OpenSpec.upto langFirstSpec)

/-- 'jobmuxlaw09.LangStays', WHERE WHAT IT READS IS OF BULK AT MOST 1048576: true; the input reads as it did. -/
def langStaysUptoRow : OpenClaim := { program := "ytaajgdhoffhdcaa", sum := "99d458e56d6fda0bd248f1371ec25702a718f8892c1c3cbe76da3e0a0057d33e", func := "jobmux/jobmuxlaw09.LangStays", spec := "langStays", recurses := true, plainKeys := false, apart := false, narrowed := true }
def LangStaysUptoSaid : Prop := langStaysUptoRow.holds Try.pinned (OpenSpec.upto langStaysSpec)

/-- 'jobmuxlaw09.LangAlgebra', WHERE WHAT IT READS IS OF BULK AT MOST 1048576: true; the input reads as it did. -/
def langAlgebraUptoRow : OpenClaim := { program := "ytaajgdhoffhdcaa", sum := "99d458e56d6fda0bd248f1371ec25702a718f8892c1c3cbe76da3e0a0057d33e", func := "jobmux/jobmuxlaw09.LangAlgebra", spec := "langAlgebra", recurses := true, plainKeys := false, apart := false, narrowed := true }
def LangAlgebraUptoSaid : Prop := langAlgebraUptoRow.holds Try.pinned (OpenSpec.upto langAlgebraSpec)

/-- 'jobmuxlaw09.LangLines', WHERE WHAT IT READS IS OF BULK AT MOST 1048576: true; the input reads as it did. -/
def langLinesUptoRow : OpenClaim := { program := "ytaajgdhoffhdcaa", sum := "99d458e56d6fda0bd248f1371ec25702a718f8892c1c3cbe76da3e0a0057d33e", func := "jobmux/jobmuxlaw09.LangLines", spec := "langLines", recurses := true, plainKeys := false, apart := false, narrowed := true }
def LangLinesUptoSaid : Prop := langLinesUptoRow.holds Try.pinned (OpenSpec.upto langLinesSpec)

/-- 'jobmuxlaw08.RegexLimits', WHERE WHAT IT READS IS OF BULK AT MOST 1048576: true; the input reads as it did. -/
def regexLimitsUptoRow : OpenClaim := { program := "ytaajgdhoffhdcaa", sum := "99d458e56d6fda0bd248f1371ec25702a718f8892c1c3cbe76da3e0a0057d33e", func := "jobmux/jobmuxlaw08.RegexLimits", spec := "regexLimits", recurses := true, plainKeys := false, apart := false, narrowed := true }
def RegexLimitsUptoSaid : Prop := regexLimitsUptoRow.holds Try.pinned (OpenSpec.upto regexLimitsSpec)

/-- 'jobmuxlaw08.RegexGroups', WHERE WHAT IT READS IS OF BULK AT MOST 1048576: true; the input reads as it did. -/
def regexGroupsUptoRow : OpenClaim := { program := "ytaajgdhoffhdcaa", sum := "99d458e56d6fda0bd248f1371ec25702a718f8892c1c3cbe76da3e0a0057d33e", func := "jobmux/jobmuxlaw08.RegexGroups", spec := "regexGroups", recurses := true, plainKeys := false, apart := false, narrowed := true }
def RegexGroupsUptoSaid : Prop := regexGroupsUptoRow.holds Try.pinned (OpenSpec.upto regexGroupsSpec)

/-- 'jobmuxlaw10.NfaAgrees', WHERE WHAT IT READS IS OF BULK AT MOST 1048576: true; the input reads as it did. -/
def nfaAgreesUptoRow : OpenClaim := { program := "ytaajgdhoffhdcaa", sum := "99d458e56d6fda0bd248f1371ec25702a718f8892c1c3cbe76da3e0a0057d33e", func := "jobmux/jobmuxlaw10.NfaAgrees", spec := "nfaAgrees", unfollowed := true, recurses := true, plainKeys := false, apart := false, narrowed := true }
def NfaAgreesUptoSaid : Prop := nfaAgreesUptoRow.holds Try.pinned (OpenSpec.upto nfaAgreesSpec)

/-- 'jobmuxlaw10.NfaInvalid', WHERE WHAT IT READS IS OF BULK AT MOST 1048576: true; the input reads as it did. -/
def nfaInvalidUptoRow : OpenClaim := { program := "ytaajgdhoffhdcaa", sum := "99d458e56d6fda0bd248f1371ec25702a718f8892c1c3cbe76da3e0a0057d33e", func := "jobmux/jobmuxlaw10.NfaInvalid", spec := "nfaInvalid", unfollowed := true, recurses := true, plainKeys := false, apart := false, narrowed := true }
def NfaInvalidUptoSaid : Prop := nfaInvalidUptoRow.holds Try.pinned (OpenSpec.upto nfaInvalidSpec)

/-- 'jobmuxlaw10.NfaSamples', WHERE WHAT IT READS IS OF BULK AT MOST 1048576: true; the input reads as it did. -/
def nfaSamplesUptoRow : OpenClaim := { program := "ytaajgdhoffhdcaa", sum := "99d458e56d6fda0bd248f1371ec25702a718f8892c1c3cbe76da3e0a0057d33e", func := "jobmux/jobmuxlaw10.NfaSamples", spec := "nfaSamples", unfollowed := true, recurses := true, plainKeys := false, apart := false, narrowed := true }
def NfaSamplesUptoSaid : Prop := nfaSamplesUptoRow.holds Try.pinned (OpenSpec.upto nfaSamplesSpec)

/-- 'jobmuxlaw10.NfaStars', WHERE WHAT IT READS IS OF BULK AT MOST 1048576: true; the input reads as it did. -/
def nfaStarsUptoRow : OpenClaim := { program := "ytaajgdhoffhdcaa", sum := "99d458e56d6fda0bd248f1371ec25702a718f8892c1c3cbe76da3e0a0057d33e", func := "jobmux/jobmuxlaw10.NfaStars", spec := "nfaStars", unfollowed := true, recurses := true, plainKeys := false, apart := false, narrowed := true }
def NfaStarsUptoSaid : Prop := nfaStarsUptoRow.holds Try.pinned (OpenSpec.upto nfaStarsSpec)

/-- 'jobmuxlaw08.RegexValid', WHERE WHAT IT READS IS OF BULK AT MOST 1048576: true; the input reads as it did. -/
def regexValidUptoRow : OpenClaim := { program := "ytaajgdhoffhdcaa", sum := "99d458e56d6fda0bd248f1371ec25702a718f8892c1c3cbe76da3e0a0057d33e", func := "jobmux/jobmuxlaw08.RegexValid", spec := "regexValid", recurses := true, plainKeys := false, apart := false, narrowed := true }
def RegexValidUptoSaid : Prop := regexValidUptoRow.holds Try.pinned (OpenSpec.upto regexValidSpec)

/-- 'jobmuxlaw08.RegexSmall', WHERE WHAT IT READS IS OF BULK AT MOST 1048576: true; the input reads as it did. -/
def regexSmallUptoRow : OpenClaim := { program := "ytaajgdhoffhdcaa", sum := "99d458e56d6fda0bd248f1371ec25702a718f8892c1c3cbe76da3e0a0057d33e", func := "jobmux/jobmuxlaw08.RegexSmall", spec := "regexSmall", recurses := true, plainKeys := false, apart := false, narrowed := true }
def RegexSmallUptoSaid : Prop := regexSmallUptoRow.holds Try.pinned (OpenSpec.upto regexSmallSpec)

end Rows
end Go.Proofs.Ytaajgdhoffhdcaa
