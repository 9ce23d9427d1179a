/-
  The law of XRegInvB with the unknown slots as parameters (found by the first goal).
-/
import Derived.Test.YtpknglclcdgfbaaRegInvB
namespace Go.Proofs.Ytpknglclcdgfbaa
open Go.RowKit
theorem wp_region_steps2V {P : Program} {ops : Array Oper} {Q : Exit → Act → World → Prop} {U : Type} {id : Nat} {a : Act} {w : World} (hm : P.follows .mixedOrders = true) (hto : TextOrder2 ops = true) (I : U → Array Bool → Act → World → Prop)
    (h0 : ∃ u, I u (Array.replicate ops.size false) a { w with drawn := w.drawn + 1 })
    (hdone : ∀ u a w, I u (Array.replicate ops.size true) a w → Q .normal a w)
    (hstep : ∀ u, Steps2 (StepInv2 P ops Q (I u)) 0 ops.toList) : (Code.region id ops true).wp P Q a w := by
  obtain ⟨u, h⟩ := h0
  exact wp_region_steps2 hm hto (I u) h (hdone u) (hstep u)
end Go.Proofs.Ytpknglclcdgfbaa
