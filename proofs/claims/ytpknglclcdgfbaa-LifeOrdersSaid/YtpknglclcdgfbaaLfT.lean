/-
  The reference's Same on lives with the same data.
-/
import Derived.Test.YtpknglclcdgfbaaLfB
import Derived.Test.YtpknglclcdgfbaaBurstT
namespace Go.Proofs.Ytpknglclcdgfbaa
open Go.RowKit Go.Shelf
set_option linter.unusedVariables false

set_option maxHeartbeats 3000000 in
set_option maxRecDepth 100000 in
theorem rsameC (x : Lf.T) (A A' : Option Addr) (c c' : Nat) (w : World) (hr : Rs w A (u64s x.times)) (hr' : Rs w A' (u64s x.times)) (hm : x.times.length ≤ 68719476736) :
    Calls Try.prog 36 #[lfA x A c, lfA x A' c'] w fun e w' => e = .returned (.bool true) ∧ Old w w' := by
  have HS := Lib.hid (fun W (h : Old w W) => sameT A A' c c' x.times W (hr.up h) (hr'.up h) hm)
  clear hr hr' hm
  obtain ⟨ph, inc, runs, since, times, due, armed, rung, halt, again⟩ := x
  unfold lfA
  simp only at HS ⊢
  go_enter Try.func36, Try.ntmps36
  go_wp2_with fail
  refine (HS.out _ (((Old.refl w).alloc _).alloc _)).mono ?_; rintro e w2 ⟨rfl, m, rfl⟩
  go_wp2_with fail
  go_ret
  exact ⟨rfl, (((Old.refl w).alloc _).alloc _).drewN _⟩
end Go.Proofs.Ytpknglclcdgfbaa
