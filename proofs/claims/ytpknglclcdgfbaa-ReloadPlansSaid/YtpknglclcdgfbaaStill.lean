/-
  A region that reads and ends with one store: its operations one by one, those that are guarded by their own words. No program in sight.
-/
import Derived.WalkKit
import Derived.StillTailTactics
import Derived.Lib.Hide
namespace Go.Proofs.Ytpknglclcdgfbaa
open Go.RowKit
set_option linter.unusedVariables false

section
variable {P : Program} {ops : Array Oper} {w : World} {Q : Act → Prop} {a : Act} {o : Oper} {rest : List Oper}
theorem still_want (hw : Region.wanted o (yielded ops a.tmps) = true) (h : ∀ K : Act → Prop, (∀ a, wpStill P ops w Q rest a → K a) → o.still P a w K) : wpStill P ops w Q (o :: rest) a :=
  wpStill_step fun K hK => by rw [if_pos hw]; exact h K hK
theorem still_skip (hw : Region.wanted o (yielded ops a.tmps) = false) (h : ∀ K : Act → Prop, (∀ a, wpStill P ops w Q rest a → K a) → K (a.put o.dst undef)) : wpStill P ops w Q (o :: rest) a :=
  wpStill_step fun K hK => by rw [if_neg (by rw [hw]; exact Bool.false_ne_true)]; exact h K hK
/-- The walk with the rest as a letter: nothing unfolds it. -/
theorem still_open {l : List Oper} (h : ∀ S : List Oper → Act → Prop,
    Hid (∀ o rest a, Region.wanted o (yielded ops a.tmps) = true → (∀ K : Act → Prop, (∀ a, S rest a → K a) → o.still P a w K) → S (o :: rest) a) →
    Hid (∀ o rest a, Region.wanted o (yielded ops a.tmps) = false → (∀ K : Act → Prop, (∀ a, S rest a → K a) → K (a.put o.dst undef)) → S (o :: rest) a) →
    Hid (∀ a, Q a → S [] a) → S l a) : wpStill P ops w Q l a :=
  h (wpStill P ops w Q) (Lib.hid fun _ _ _ hw k => still_want hw k) (Lib.hid fun _ _ _ hw k => still_skip hw k) (Lib.hid fun _ k => wpStill_nil k)
end
end Go.Proofs.Ytpknglclcdgfbaa
