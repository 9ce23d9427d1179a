/-
  The walk of law02's sane.
-/
import Derived.Test.YtlpaemlgmmmbmaaTqB
namespace Go.Proofs.Ytlpaemlgmmmbmaa
open Go.RowKit Go.Maps
set_option linter.unusedVariables false

def ops4 : List TOp := [⟨1, 2, 9⟩, ⟨1, 1, 9⟩, ⟨1, 3, 4⟩, ⟨3, 0, 9⟩]
theorem run4 : (runM ops4).2 = [⟨0, [], 0⟩, ⟨0, [], 0⟩, ⟨0, [], 0⟩, ⟨0, [3, 1, 2], 9⟩] := by decide
theorem ops4_ok : ∀ o ∈ ops4, o.ok := by
  intro o ho
  have : o = ⟨1, 2, 9⟩ ∨ o = ⟨1, 1, 9⟩ ∨ o = ⟨1, 3, 4⟩ ∨ o = ⟨3, 0, 9⟩ := by simpa [ops4] using ho
  rcases this with rfl | rfl | rfl | rfl <;> (unfold TOp.ok; simp only; omega)
set_option maxRecDepth 100000 in
theorem saneQ (w : World) : Calls Try.prog 30 #[] w (BoolOld true w) := by
  have hP := playQ (some ⟨w.heap.size, 0, none⟩) 4 ops4 (w.alloc (.cells (opv ops4).toArray 66)) (ts_new w (opv ops4) 66) ops4_ok (by decide)
  rw [run4] at hP
  have oW : Old w (w.alloc (.cells (opv ops4).toArray 66)) := (Old.refl w).alloc _
  have HP := Lib.hid hP
  have HW := Lib.hid oW
  clear hP oW
  go_enter Try.func30, Try.ntmps30
  go_wp2_with fail
  refine HP.out.mono ?_
  rintro e w1 ⟨v, cells, rfl, ho, hR, hold⟩
  obtain ⟨gb, c, rfl, hg, hgl, hc, hcm⟩ := ho.form (by decide)
  obtain ⟨Fa, fc, x0, x1, x2, x3, x4, x5⟩ := hR.repS.2 3 _ rfl
  have c1 : w1.cell? ⟨gb, 10, none⟩ = some (.slice Fa 3 fc) := (ho.cellAt x1).1
  have c2 : w1.cell? ⟨gb, 11, none⟩ = some (.int .u64 9) := (ho.cellAt x2).1
  have c0 : w1.cell? ⟨gb, 9, none⟩ = some (.int .i64 0) := (ho.cellAt x0).1
  have ob : Old w1 (w1.alloc (.cells (intv [3, 1, 2]).toArray 3)) := (Old.refl w1).alloc _
  have hS := sameInts Fa (some ⟨w1.heap.size, 0, none⟩) fc 3 [3, 1, 2] [3, 1, 2] (w1.alloc (.cells (intv [3, 1, 2]).toArray 3)) (x3.up ob) (rs_new w1 (intv [3, 1, 2]) 3) (by decide) (by decide)
  rw [show decide (([3, 1, 2] : List Int) = [3, 1, 2]) = true by decide] at hS
  have HS := Lib.hid hS
  have HO := Lib.hid (HW.out.up hold)
  have hc2 : (w1.alloc (.cells (intv [3, 1, 2]).toArray 3)).cell? ⟨gb, 11, none⟩ = some (.int .u64 9) := ob.cell c2
  have hgl' := hgl
  have HOB := Lib.hid ob
  clear hS hold hR ho x0 x1 x2 x3 x4 x5 ob hc hcm c0
  go_wp2_with fail
  refine HS.out.mono ?_
  rintro e w2 ⟨rfl, n2, rfl⟩
  go_wp2_with fail
  go_ret
  exact ⟨rfl, (HO.out.up HOB.out).drewN n2⟩
end Go.Proofs.Ytlpaemlgmmmbmaa
