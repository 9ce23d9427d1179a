/-
  The walks of the program's sets of bytes: others, union, span, isMark.
-/
import Derived.Test.YthadkjgadhbidaaRxX
namespace Go.Proofs.Ythadkjgadhbidaa
open Go.RowKit
set_option linter.unusedVariables false

set_option maxHeartbeats 1000000 in
set_option maxRecDepth 100000 in
theorem othersC (s : BSet) (w : World) : Calls Try.prog 102 #[setA s] w (ValOld (setA (notB s)) w) := by
  have OW := Lib.hid (((Old.refl w).alloc (.cells #[.int .u64 (setW s 0), .int .u64 (setW s 1), .int .u64 (setW s 2), .int .u64 (setW s 3)] 40)).alloc (.cells #[.int .u64 0, .int .u64 0, .int .u64 0, .int .u64 0] 40))
  have HG := Lib.hid (((Old.refl _).alloc (.cells #[.int .u64 0, .int .u64 0, .int .u64 0, .int .u64 0] 40)).block (heap_alloc_new w (.cells #[.int .u64 (setW s 0), .int .u64 (setW s 1), .int .u64 (setW s 2), .int .u64 (setW s 3)] 40)))
  have HZ : Hid (((w.alloc (.cells #[.int .u64 (setW s 0), .int .u64 (setW s 1), .int .u64 (setW s 2), .int .u64 (setW s 3)] 40)).alloc (.cells #[.int .u64 0, .int .u64 0, .int .u64 0, .int .u64 0] 40)).heap[w.heap.size + 1]? = some (setC 0)) := Lib.hid (by
    rw [show w.heap.size + 1 = (w.alloc (.cells #[.int .u64 (setW s 0), .int .u64 (setW s 1), .int .u64 (setW s 2), .int .u64 (setW s 3)] 40)).heap.size by simp]
    exact heap_alloc_new _ _)
  have HN := Lib.hid (word_not s)
  have h0 := setW_lt s 0
  have h1 := setW_lt s 1
  have h2 := setW_lt s 2
  have h3 := setW_lt s 3
  unfold setA
  go_enter Try.func102, Try.ntmps102
  go_wp2_with fail
  go_loopw [4] (fun ix wr => Loop4 w s (fun i => setW (notB s) i) w.heap.size (w.heap.size + 1) ix wr) (fun ix _ => 4 - (intOf ix).toNat)
  case atStart => exact ⟨OW.out, HZ.out, Or.inl ⟨rfl, HG.out⟩⟩
  case round =>
    obtain ⟨ho, hz, hr⟩ := hrel
    have HO := Lib.hid ho
    have HZ2 := Lib.hid hz
    rcases hr with ⟨rfl, hb⟩ | ⟨rfl, hb⟩ | ⟨rfl, hb⟩ | ⟨rfl, hb⟩ | ⟨rfl, hb⟩
    · obtain ⟨c0, c1, c2, c3, f0, f1, f2, f3⟩ := c4_cells hb
      have HB2 := Lib.hid (c4_store hb (setW (notB s) 0)).1
      have HB3 := Lib.hid ((c4_far wr w.heap.size (w.heap.size + 1) 0 (.int .u64 (setW (notB s) 0)) (by omega)).trans hz)
      have HO2 := Lib.hid (ho.setCell (p := ⟨w.heap.size, 0, none⟩) (Nat.le_refl _) (.int .u64 (setW (notB s) 0)))
      clear hb hz ho
      go_wp2_with fail
      rw [HN.out 0 (by decide)]
      go_roundw
      case rel => exact ⟨HO2.out, HB3.out, Or.inr (Or.inl ⟨rfl, HB2.out⟩)⟩
      case measure => simp [intOf]
    · obtain ⟨c0, c1, c2, c3, f0, f1, f2, f3⟩ := c4_cells hb
      have HB2 := Lib.hid (c4_store hb (setW (notB s) 1)).2.1
      have HB3 := Lib.hid ((c4_far wr w.heap.size (w.heap.size + 1) 1 (.int .u64 (setW (notB s) 1)) (by omega)).trans hz)
      have HO2 := Lib.hid (ho.setCell (p := ⟨w.heap.size, 1, none⟩) (Nat.le_refl _) (.int .u64 (setW (notB s) 1)))
      clear hb hz ho
      go_wp2_with fail
      rw [HN.out 1 (by decide)]
      go_roundw
      case rel => exact ⟨HO2.out, HB3.out, Or.inr (Or.inr (Or.inl ⟨rfl, HB2.out⟩))⟩
      case measure => simp [intOf]
    · obtain ⟨c0, c1, c2, c3, f0, f1, f2, f3⟩ := c4_cells hb
      have HB2 := Lib.hid (c4_store hb (setW (notB s) 2)).2.2.1
      have HB3 := Lib.hid ((c4_far wr w.heap.size (w.heap.size + 1) 2 (.int .u64 (setW (notB s) 2)) (by omega)).trans hz)
      have HO2 := Lib.hid (ho.setCell (p := ⟨w.heap.size, 2, none⟩) (Nat.le_refl _) (.int .u64 (setW (notB s) 2)))
      clear hb hz ho
      go_wp2_with fail
      rw [HN.out 2 (by decide)]
      go_roundw
      case rel => exact ⟨HO2.out, HB3.out, Or.inr (Or.inr (Or.inr (Or.inl ⟨rfl, HB2.out⟩)))⟩
      case measure => simp [intOf]
    · obtain ⟨c0, c1, c2, c3, f0, f1, f2, f3⟩ := c4_cells hb
      have HB2 := Lib.hid (c4_store hb (setW (notB s) 3)).2.2.2
      have HB3 := Lib.hid ((c4_far wr w.heap.size (w.heap.size + 1) 3 (.int .u64 (setW (notB s) 3)) (by omega)).trans hz)
      have HO2 := Lib.hid (ho.setCell (p := ⟨w.heap.size, 3, none⟩) (Nat.le_refl _) (.int .u64 (setW (notB s) 3)))
      clear hb hz ho
      go_wp2_with fail
      rw [HN.out 3 (by decide)]
      go_roundw
      case rel => exact ⟨HO2.out, HB3.out, Or.inr (Or.inr (Or.inr (Or.inr (⟨rfl, HB2.out⟩))))⟩
      case measure => simp [intOf]
    · obtain ⟨c0, c1, c2, c3, f0, f1, f2, f3⟩ := c4_cells hb
      obtain ⟨d0, d1, d2, d3, g0, g1, g2, g3⟩ := setC_cells hz
      clear hb hz ho
      go_wp2_with fail
      refine bodyPost_ret (v := setA (notB s)) (by simp [results, Try.results102, go_sem, d0, d1, d2, d3, setA]) rfl ⟨rfl, ?_⟩
      exact ((((HO.out.setCell (p := ⟨w.heap.size + 1, 0, none⟩) (by simp) _).setCell (p := ⟨w.heap.size + 1, 1, none⟩) (by simp) _).setCell (p := ⟨w.heap.size + 1, 2, none⟩) (by simp) _).setCell (p := ⟨w.heap.size + 1, 3, none⟩) (by simp) _)
set_option maxHeartbeats 1000000 in
set_option maxRecDepth 100000 in
theorem union2C (s t : BSet) (w : World) : Calls Try.prog 109 #[setA s, setA t] w (ValOld (setA (s ||| t)) w) := by
  obtain ⟨W1, hW1⟩ : ∃ W1, w.alloc (.cells #[.int .u64 (setW s 0), .int .u64 (setW s 1), .int .u64 (setW s 2), .int .u64 (setW s 3)] 40) = W1 := ⟨_, rfl⟩
  obtain ⟨W2, hW2⟩ : ∃ W2, W1.alloc (.cells #[.int .u64 (setW t 0), .int .u64 (setW t 1), .int .u64 (setW t 2), .int .u64 (setW t 3)] 40) = W2 := ⟨_, rfl⟩
  obtain ⟨W3, hW3⟩ : ∃ W3, W2.alloc (.cells #[.int .u64 0, .int .u64 0, .int .u64 0, .int .u64 0] 40) = W3 := ⟨_, rfl⟩
  have s1 : W1.heap.size = w.heap.size + 1 := by rw [← hW1]; simp
  have s2 : W2.heap.size = w.heap.size + 2 := by rw [← hW2]; simp [s1]
  have o1 : Old w W1 := by rw [← hW1]; exact (Old.refl w).alloc _
  have o2 : Old W1 W2 := by rw [← hW2]; exact (Old.refl W1).alloc _
  have o3 : Old W2 W3 := by rw [← hW3]; exact (Old.refl W2).alloc _
  have b1 : W1.heap[w.heap.size]? = some (c4 (setW s 0) (setW s 1) (setW s 2) (setW s 3)) := by rw [← hW1]; exact heap_alloc_new w _
  have b2 : W2.heap[w.heap.size + 1]? = some (setC t) := by rw [← hW2, ← s1]; exact heap_alloc_new W1 _
  have b3 : W3.heap[w.heap.size + 2]? = some (setC 0) := by rw [← hW3, ← s2]; exact heap_alloc_new W2 _
  have OW := Lib.hid ((o1.up o2).up o3)
  have HG := Lib.hid (o3.block (o2.block b1))
  have HT := Lib.hid (o3.block b2)
  have HZ := Lib.hid b3
  rw [← hW3, ← hW2, ← hW1] at OW HG HT HZ
  clear b1 b2 b3 o1 o2 o3 s1 s2 hW1 hW2 hW3
  have HN := Lib.hid (word_union s t)
  have h0 := setW_lt s 0
  have h1 := setW_lt s 1
  have h2 := setW_lt s 2
  have h3 := setW_lt s 3
  have t0 := setW_lt t 0
  have t1 := setW_lt t 1
  have t2 := setW_lt t 2
  have t3 := setW_lt t 3
  unfold setA
  go_enter Try.func109, Try.ntmps109
  go_wp2_with fail
  go_loopw [6] (fun ix wr => Loop4U w s t (fun i => setW (s ||| t) i) w.heap.size ix wr) (fun ix _ => 4 - (intOf ix).toNat)
  case atStart => exact ⟨⟨OW.out, HZ.out, Or.inl ⟨rfl, HG.out⟩⟩, HT.out⟩
  case round =>
    obtain ⟨⟨ho, hz, hr⟩, ht⟩ := hrel
    have HO := Lib.hid ho
    rcases hr with ⟨rfl, hb⟩ | ⟨rfl, hb⟩ | ⟨rfl, hb⟩ | ⟨rfl, hb⟩ | ⟨rfl, hb⟩
    · obtain ⟨c0, c1, c2, c3, f0, f1, f2, f3⟩ := c4_cells hb
      obtain ⟨e0, e1, e2, e3, _, _, _, _⟩ := setC_cells ht
      have HB2 := Lib.hid (c4_store hb (setW (s ||| t) 0)).1
      have HB3 := Lib.hid ((c4_far wr w.heap.size (w.heap.size + 2) 0 (.int .u64 (setW (s ||| t) 0)) (by omega)).trans hz)
      have HB4 := Lib.hid ((c4_far wr w.heap.size (w.heap.size + 1) 0 (.int .u64 (setW (s ||| t) 0)) (by omega)).trans ht)
      have HO2 := Lib.hid (ho.setCell (p := ⟨w.heap.size, 0, none⟩) (Nat.le_refl _) (.int .u64 (setW (s ||| t) 0)))
      clear hb hz ho ht
      go_wp2_with fail
      go_region
      go_wp2_with fail
      rw [HN.out 0]
      go_roundw
      case rel => exact ⟨⟨HO2.out.drew, HB3.out, Or.inr (Or.inl ⟨rfl, HB2.out⟩)⟩, HB4.out⟩
      case measure => simp [intOf]
    · obtain ⟨c0, c1, c2, c3, f0, f1, f2, f3⟩ := c4_cells hb
      obtain ⟨e0, e1, e2, e3, _, _, _, _⟩ := setC_cells ht
      have HB2 := Lib.hid (c4_store hb (setW (s ||| t) 1)).2.1
      have HB3 := Lib.hid ((c4_far wr w.heap.size (w.heap.size + 2) 1 (.int .u64 (setW (s ||| t) 1)) (by omega)).trans hz)
      have HB4 := Lib.hid ((c4_far wr w.heap.size (w.heap.size + 1) 1 (.int .u64 (setW (s ||| t) 1)) (by omega)).trans ht)
      have HO2 := Lib.hid (ho.setCell (p := ⟨w.heap.size, 1, none⟩) (Nat.le_refl _) (.int .u64 (setW (s ||| t) 1)))
      clear hb hz ho ht
      go_wp2_with fail
      go_region
      go_wp2_with fail
      rw [HN.out 1]
      go_roundw
      case rel => exact ⟨⟨HO2.out.drew, HB3.out, Or.inr (Or.inr (Or.inl ⟨rfl, HB2.out⟩))⟩, HB4.out⟩
      case measure => simp [intOf]
    · obtain ⟨c0, c1, c2, c3, f0, f1, f2, f3⟩ := c4_cells hb
      obtain ⟨e0, e1, e2, e3, _, _, _, _⟩ := setC_cells ht
      have HB2 := Lib.hid (c4_store hb (setW (s ||| t) 2)).2.2.1
      have HB3 := Lib.hid ((c4_far wr w.heap.size (w.heap.size + 2) 2 (.int .u64 (setW (s ||| t) 2)) (by omega)).trans hz)
      have HB4 := Lib.hid ((c4_far wr w.heap.size (w.heap.size + 1) 2 (.int .u64 (setW (s ||| t) 2)) (by omega)).trans ht)
      have HO2 := Lib.hid (ho.setCell (p := ⟨w.heap.size, 2, none⟩) (Nat.le_refl _) (.int .u64 (setW (s ||| t) 2)))
      clear hb hz ho ht
      go_wp2_with fail
      go_region
      go_wp2_with fail
      rw [HN.out 2]
      go_roundw
      case rel => exact ⟨⟨HO2.out.drew, HB3.out, Or.inr (Or.inr (Or.inr (Or.inl ⟨rfl, HB2.out⟩)))⟩, HB4.out⟩
      case measure => simp [intOf]
    · obtain ⟨c0, c1, c2, c3, f0, f1, f2, f3⟩ := c4_cells hb
      obtain ⟨e0, e1, e2, e3, _, _, _, _⟩ := setC_cells ht
      have HB2 := Lib.hid (c4_store hb (setW (s ||| t) 3)).2.2.2
      have HB3 := Lib.hid ((c4_far wr w.heap.size (w.heap.size + 2) 3 (.int .u64 (setW (s ||| t) 3)) (by omega)).trans hz)
      have HB4 := Lib.hid ((c4_far wr w.heap.size (w.heap.size + 1) 3 (.int .u64 (setW (s ||| t) 3)) (by omega)).trans ht)
      have HO2 := Lib.hid (ho.setCell (p := ⟨w.heap.size, 3, none⟩) (Nat.le_refl _) (.int .u64 (setW (s ||| t) 3)))
      clear hb hz ho ht
      go_wp2_with fail
      go_region
      go_wp2_with fail
      rw [HN.out 3]
      go_roundw
      case rel => exact ⟨⟨HO2.out.drew, HB3.out, Or.inr (Or.inr (Or.inr (Or.inr (⟨rfl, HB2.out⟩))))⟩, HB4.out⟩
      case measure => simp [intOf]
    · obtain ⟨c0, c1, c2, c3, f0, f1, f2, f3⟩ := c4_cells hb
      obtain ⟨d0, d1, d2, d3, g0, g1, g2, g3⟩ := setC_cells hz
      clear hb hz ho ht
      go_wp2_with fail
      refine bodyPost_ret (v := setA (s ||| t)) (by simp [results, Try.results109, go_sem, d0, d1, d2, d3, setA]) rfl ⟨rfl, ?_⟩
      exact ((((HO.out.setCell (p := ⟨w.heap.size + 2, 0, none⟩) (by simp) _).setCell (p := ⟨w.heap.size + 2, 1, none⟩) (by simp) _).setCell (p := ⟨w.heap.size + 2, 2, none⟩) (by simp) _).setCell (p := ⟨w.heap.size + 2, 3, none⟩) (by simp) _)
end Go.Proofs.Ythadkjgadhbidaa
