/-
  When two jobs are the same, and what jobs ask of the memory.
-/
import Derived.Test.YtpknglclcdgfbaaRlE
namespace Go.Proofs.Ytpknglclcdgfbaa
open Go.RowKit Go.Shelf
set_option linter.unusedVariables false

/-- Equal in all but line and column. -/
def Jd.eqv (a b : Jd) : Prop := a.nm = b.nm ∧ a.run = b.run ∧ a.hasR = b.hasR ∧ a.ready = b.ready ∧ a.restart = b.restart ∧ a.base = b.base ∧ a.cap = b.cap ∧ a.stable = b.stable ∧ a.burst = b.burst ∧ a.win = b.win ∧ a.env = b.env ∧ a.needs = b.needs ∧ a.lad = b.lad
instance (a b : Jd) : Decidable (a.eqv b) := by unfold Jd.eqv; infer_instance
def sameJ (a b : Jd) : Bool := decide (a.eqv b)
theorem sameJ_no {a b : Jd} (h : ¬ a.eqv b) : sameJ a b = false := by unfold sameJ; rw [decide_eq_false_iff_not]; exact h
theorem sameJ_yes {a b : Jd} (h : a.eqv b) : sameJ a b = true := by unfold sameJ; rw [decide_eq_true_eq]; exact h
/-- The lists of a job can be read. -/
structure JM (w : World) (j : Jd) : Prop where
  env : Rs w j.eA (varsV j.env)
  needs : Rs w j.nA (strsV j.needs)
  lad : Rs w j.lA (rungs j.lad)
  eb : j.env.length ≤ 9223372036854775807
  nb : j.needs.length ≤ 9223372036854775807
  lb : j.lad.length ≤ 9223372036854775807
theorem JM.up {w w' : World} {j : Jd} (h : JM w j) (ho : Old w w') : JM w' j := ⟨h.env.up ho, h.needs.up ho, h.lad.up ho, h.eb, h.nb, h.lb⟩
end Go.Proofs.Ytpknglclcdgfbaa
