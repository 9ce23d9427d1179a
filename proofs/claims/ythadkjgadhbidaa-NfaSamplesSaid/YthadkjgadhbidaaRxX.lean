/-
  The walks of the reference's sets of bytes: Union, Not, mark, named, only.
-/
import Derived.Test.YthadkjgadhbidaaRxW
namespace Go.Proofs.Ythadkjgadhbidaa
open Go.RowKit
set_option linter.unusedVariables false

/-- A block of four words. -/
def c4 (a b c d : Nat) : Obj := .cells #[.int .u64 a, .int .u64 b, .int .u64 c, .int .u64 d] 40 (0, 0)
theorem c4_cells {w : World} {g a b c d : Nat} (h : w.heap[g]? = some (c4 a b c d)) :
    w.cell? ⟨g, 0, none⟩ = some (.int .u64 a) ∧ w.cell? ⟨g, 1, none⟩ = some (.int .u64 b) ∧ w.cell? ⟨g, 2, none⟩ = some (.int .u64 c) ∧ w.cell? ⟨g, 3, none⟩ = some (.int .u64 d) ∧
    w.frozen? ⟨g, 0, none⟩ = false ∧ w.frozen? ⟨g, 1, none⟩ = false ∧ w.frozen? ⟨g, 2, none⟩ = false ∧ w.frozen? ⟨g, 3, none⟩ = false :=
  ⟨by rw [cell_of_row w g 0 _ _ _ h]; rfl, by rw [cell_of_row w g 1 _ _ _ h]; rfl, by rw [cell_of_row w g 2 _ _ _ h]; rfl, by rw [cell_of_row w g 3 _ _ _ h]; rfl,
    frozen_of_row w g 0 _ _ h, frozen_of_row w g 1 _ _ h, frozen_of_row w g 2 _ _ h, frozen_of_row w g 3 _ _ h⟩
def Loop4 (w : World) (s : BSet) (f : Nat → Nat) (g g2 : Nat) (ix : Value) (wr : World) : Prop :=
  Old w wr ∧ wr.heap[g2]? = some (setC 0) ∧ ((ix = .int .i64 0 ∧ wr.heap[g]? = some (c4 (setW s 0) (setW s 1) (setW s 2) (setW s 3))) ∨
    (ix = .int .i64 1 ∧ wr.heap[g]? = some (c4 (f 0) (setW s 1) (setW s 2) (setW s 3))) ∨
    (ix = .int .i64 2 ∧ wr.heap[g]? = some (c4 (f 0) (f 1) (setW s 2) (setW s 3))) ∨
    (ix = .int .i64 3 ∧ wr.heap[g]? = some (c4 (f 0) (f 1) (f 2) (setW s 3))) ∨
    (ix = .int .i64 4 ∧ wr.heap[g]? = some (c4 (f 0) (f 1) (f 2) (f 3))))
theorem setW_not' (s : BSet) (i : Nat) (hi : i < 4) : setW (notB s) i = 18446744073709551615 ^^^ setW s i := by
  apply Nat.eq_of_testBit_eq
  intro k
  unfold notB
  rw [Nat.testBit_xor, setW_bit, setW_bit, Nat.testBit_xor, Nat.testBit_two_pow_sub_one, show 18446744073709551615 = 2 ^ 64 - 1 by decide, Nat.testBit_two_pow_sub_one]
  by_cases hk : k < 64
  · rw [decide_eq_true hk, Bool.true_and, Bool.true_and, decide_eq_true (show 64 * i + k < 256 by omega)]
    cases s.testBit (64 * i + k) <;> rfl
  · rw [decide_eq_false hk]; simp
theorem word_not (s : BSet) (i : Nat) (hi : i < 4) : bits BinOp.xor IntKind.u64 (if IntKind.u64.signed = true then -1 else IntKind.u64.max) ((setW s i : Nat) : Int) = ((setW (notB s) i : Nat) : Int) := by
  rw [setW_not' s i hi, show (if IntKind.u64.signed = true then -1 else IntKind.u64.max : Int) = ((18446744073709551615 : Nat) : Int) by decide]
  exact u64_xor_nat _ _ (by decide) (setW_lt s i)
theorem c4_store {w : World} {g a b c d : Nat} (h : w.heap[g]? = some (c4 a b c d)) (u : Nat) :
    (w.setCell ⟨g, 0, none⟩ (.int .u64 u)).heap[g]? = some (c4 u b c d) ∧ (w.setCell ⟨g, 1, none⟩ (.int .u64 u)).heap[g]? = some (c4 a u c d) ∧
    (w.setCell ⟨g, 2, none⟩ (.int .u64 u)).heap[g]? = some (c4 a b u d) ∧ (w.setCell ⟨g, 3, none⟩ (.int .u64 u)).heap[g]? = some (c4 a b c u) :=
  ⟨heap_setCell_same w g 0 _ _ _ h, heap_setCell_same w g 1 _ _ _ h, heap_setCell_same w g 2 _ _ _ h, heap_setCell_same w g 3 _ _ _ h⟩
theorem c4_far (w : World) (g k i : Nat) (u : Value) (h : k ≠ g) : (w.setCell ⟨g, i, none⟩ u).heap[k]? = w.heap[k]? := heap_setCell_other w ⟨g, i, none⟩ k u h
set_option maxHeartbeats 1000000 in
set_option maxRecDepth 100000 in
theorem notC (s : BSet) (w : World) : Calls Try.prog 91 #[setA s] w (ValOld (setA (notB s)) w) := by
  have OW := Lib.hid (((Old.refl w).alloc (.cells #[.int .u64 (setW s 0), .int .u64 (setW s 1), .int .u64 (setW s 2), .int .u64 (setW s 3)] 40)).alloc (.cells #[.int .u64 0, .int .u64 0, .int .u64 0, .int .u64 0] 40))
  have HG := Lib.hid (((Old.refl _).alloc (.cells #[.int .u64 0, .int .u64 0, .int .u64 0, .int .u64 0] 40)).block (heap_alloc_new w (.cells #[.int .u64 (setW s 0), .int .u64 (setW s 1), .int .u64 (setW s 2), .int .u64 (setW s 3)] 40)))
  have HZ : Hid (((w.alloc (.cells #[.int .u64 (setW s 0), .int .u64 (setW s 1), .int .u64 (setW s 2), .int .u64 (setW s 3)] 40)).alloc (.cells #[.int .u64 0, .int .u64 0, .int .u64 0, .int .u64 0] 40)).heap[w.heap.size + 1]? = some (setC 0)) := Lib.hid (by
    rw [show w.heap.size + 1 = (w.alloc (.cells #[.int .u64 (setW s 0), .int .u64 (setW s 1), .int .u64 (setW s 2), .int .u64 (setW s 3)] 40)).heap.size by simp]
    exact heap_alloc_new _ _)
  have HN := Lib.hid (word_not s)
  have h0 := setW_lt s 0
  have h1 := setW_lt s 1
  have h2 := setW_lt s 2
  have h3 := setW_lt s 3
  unfold setA
  go_enter Try.func91, Try.ntmps91
  go_wp2_with fail
  go_loopw [3] (fun ix wr => Loop4 w s (fun i => setW (notB s) i) w.heap.size (w.heap.size + 1) ix wr) (fun ix _ => 4 - (intOf ix).toNat)
  case atStart => exact ⟨OW.out, HZ.out, Or.inl ⟨rfl, HG.out⟩⟩
  case round =>
    obtain ⟨ho, hz, hr⟩ := hrel
    have HO := Lib.hid ho
    have HZ2 := Lib.hid hz
    rcases hr with ⟨rfl, hb⟩ | ⟨rfl, hb⟩ | ⟨rfl, hb⟩ | ⟨rfl, hb⟩ | ⟨rfl, hb⟩
    · obtain ⟨c0, c1, c2, c3, f0, f1, f2, f3⟩ := c4_cells hb
      have HB2 := Lib.hid (c4_store hb (setW (notB s) 0)).1
      have HB3 := Lib.hid ((c4_far wr w.heap.size (w.heap.size + 1) 0 (.int .u64 (setW (notB s) 0)) (by omega)).trans hz)
      have HO2 := Lib.hid (ho.setCell (p := ⟨w.heap.size, 0, none⟩) (Nat.le_refl _) (.int .u64 (setW (notB s) 0)))
      clear hb hz ho
      go_wp2_with fail
      rw [HN.out 0 (by decide)]
      go_roundw
      case rel => exact ⟨HO2.out, HB3.out, Or.inr (Or.inl ⟨rfl, HB2.out⟩)⟩
      case measure => simp [intOf]
    · obtain ⟨c0, c1, c2, c3, f0, f1, f2, f3⟩ := c4_cells hb
      have HB2 := Lib.hid (c4_store hb (setW (notB s) 1)).2.1
      have HB3 := Lib.hid ((c4_far wr w.heap.size (w.heap.size + 1) 1 (.int .u64 (setW (notB s) 1)) (by omega)).trans hz)
      have HO2 := Lib.hid (ho.setCell (p := ⟨w.heap.size, 1, none⟩) (Nat.le_refl _) (.int .u64 (setW (notB s) 1)))
      clear hb hz ho
      go_wp2_with fail
      rw [HN.out 1 (by decide)]
      go_roundw
      case rel => exact ⟨HO2.out, HB3.out, Or.inr (Or.inr (Or.inl ⟨rfl, HB2.out⟩))⟩
      case measure => simp [intOf]
    · obtain ⟨c0, c1, c2, c3, f0, f1, f2, f3⟩ := c4_cells hb
      have HB2 := Lib.hid (c4_store hb (setW (notB s) 2)).2.2.1
      have HB3 := Lib.hid ((c4_far wr w.heap.size (w.heap.size + 1) 2 (.int .u64 (setW (notB s) 2)) (by omega)).trans hz)
      have HO2 := Lib.hid (ho.setCell (p := ⟨w.heap.size, 2, none⟩) (Nat.le_refl _) (.int .u64 (setW (notB s) 2)))
      clear hb hz ho
      go_wp2_with fail
      rw [HN.out 2 (by decide)]
      go_roundw
      case rel => exact ⟨HO2.out, HB3.out, Or.inr (Or.inr (Or.inr (Or.inl ⟨rfl, HB2.out⟩)))⟩
      case measure => simp [intOf]
    · obtain ⟨c0, c1, c2, c3, f0, f1, f2, f3⟩ := c4_cells hb
      have HB2 := Lib.hid (c4_store hb (setW (notB s) 3)).2.2.2
      have HB3 := Lib.hid ((c4_far wr w.heap.size (w.heap.size + 1) 3 (.int .u64 (setW (notB s) 3)) (by omega)).trans hz)
      have HO2 := Lib.hid (ho.setCell (p := ⟨w.heap.size, 3, none⟩) (Nat.le_refl _) (.int .u64 (setW (notB s) 3)))
      clear hb hz ho
      go_wp2_with fail
      rw [HN.out 3 (by decide)]
      go_roundw
      case rel => exact ⟨HO2.out, HB3.out, Or.inr (Or.inr (Or.inr (Or.inr (⟨rfl, HB2.out⟩))))⟩
      case measure => simp [intOf]
    · obtain ⟨c0, c1, c2, c3, f0, f1, f2, f3⟩ := c4_cells hb
      obtain ⟨d0, d1, d2, d3, g0, g1, g2, g3⟩ := setC_cells hz
      clear hb hz ho
      go_wp2_with fail
      refine bodyPost_ret (v := setA (notB s)) (by simp [results, Try.results91, go_sem, d0, d1, d2, d3, setA]) rfl ⟨rfl, ?_⟩
      exact ((((HO.out.setCell (p := ⟨w.heap.size + 1, 0, none⟩) (by simp) _).setCell (p := ⟨w.heap.size + 1, 1, none⟩) (by simp) _).setCell (p := ⟨w.heap.size + 1, 2, none⟩) (by simp) _).setCell (p := ⟨w.heap.size + 1, 3, none⟩) (by simp) _)
theorem word_union (s t : BSet) (i : Nat) : bits BinOp.or IntKind.u64 ((setW s i : Nat) : Int) ((setW t i : Nat) : Int) = ((setW (s ||| t) i : Nat) : Int) := by
  rw [setW_or]
  exact u64_or_nat _ _ (setW_lt s i) (setW_lt t i)
def Loop4U (w : World) (s t : BSet) (f : Nat → Nat) (g : Nat) (ix : Value) (wr : World) : Prop := Loop4 w s f g (g + 2) ix wr ∧ wr.heap[g + 1]? = some (setC t)
set_option maxHeartbeats 1000000 in
set_option maxRecDepth 100000 in
theorem unionC (s t : BSet) (w : World) : Calls Try.prog 97 #[setA s, setA t] w (ValOld (setA (s ||| t)) w) := by
  obtain ⟨W1, hW1⟩ : ∃ W1, w.alloc (.cells #[.int .u64 (setW s 0), .int .u64 (setW s 1), .int .u64 (setW s 2), .int .u64 (setW s 3)] 40) = W1 := ⟨_, rfl⟩
  obtain ⟨W2, hW2⟩ : ∃ W2, W1.alloc (.cells #[.int .u64 (setW t 0), .int .u64 (setW t 1), .int .u64 (setW t 2), .int .u64 (setW t 3)] 40) = W2 := ⟨_, rfl⟩
  obtain ⟨W3, hW3⟩ : ∃ W3, W2.alloc (.cells #[.int .u64 0, .int .u64 0, .int .u64 0, .int .u64 0] 40) = W3 := ⟨_, rfl⟩
  have s1 : W1.heap.size = w.heap.size + 1 := by rw [← hW1]; simp
  have s2 : W2.heap.size = w.heap.size + 2 := by rw [← hW2]; simp [s1]
  have o1 : Old w W1 := by rw [← hW1]; exact (Old.refl w).alloc _
  have o2 : Old W1 W2 := by rw [← hW2]; exact (Old.refl W1).alloc _
  have o3 : Old W2 W3 := by rw [← hW3]; exact (Old.refl W2).alloc _
  have b1 : W1.heap[w.heap.size]? = some (c4 (setW s 0) (setW s 1) (setW s 2) (setW s 3)) := by rw [← hW1]; exact heap_alloc_new w _
  have b2 : W2.heap[w.heap.size + 1]? = some (setC t) := by rw [← hW2, ← s1]; exact heap_alloc_new W1 _
  have b3 : W3.heap[w.heap.size + 2]? = some (setC 0) := by rw [← hW3, ← s2]; exact heap_alloc_new W2 _
  have OW := Lib.hid ((o1.up o2).up o3)
  have HG := Lib.hid (o3.block (o2.block b1))
  have HT := Lib.hid (o3.block b2)
  have HZ := Lib.hid b3
  rw [← hW3, ← hW2, ← hW1] at OW HG HT HZ
  clear b1 b2 b3 o1 o2 o3 s1 s2 hW1 hW2 hW3
  have HN := Lib.hid (word_union s t)
  have h0 := setW_lt s 0
  have h1 := setW_lt s 1
  have h2 := setW_lt s 2
  have h3 := setW_lt s 3
  have t0 := setW_lt t 0
  have t1 := setW_lt t 1
  have t2 := setW_lt t 2
  have t3 := setW_lt t 3
  unfold setA
  go_enter Try.func97, Try.ntmps97
  go_wp2_with fail
  go_loopw [5] (fun ix wr => Loop4U w s t (fun i => setW (s ||| t) i) w.heap.size ix wr) (fun ix _ => 4 - (intOf ix).toNat)
  case atStart => exact ⟨⟨OW.out, HZ.out, Or.inl ⟨rfl, HG.out⟩⟩, HT.out⟩
  case round =>
    obtain ⟨⟨ho, hz, hr⟩, ht⟩ := hrel
    have HO := Lib.hid ho
    rcases hr with ⟨rfl, hb⟩ | ⟨rfl, hb⟩ | ⟨rfl, hb⟩ | ⟨rfl, hb⟩ | ⟨rfl, hb⟩
    · obtain ⟨c0, c1, c2, c3, f0, f1, f2, f3⟩ := c4_cells hb
      obtain ⟨e0, e1, e2, e3, _, _, _, _⟩ := setC_cells ht
      have HB2 := Lib.hid (c4_store hb (setW (s ||| t) 0)).1
      have HB3 := Lib.hid ((c4_far wr w.heap.size (w.heap.size + 2) 0 (.int .u64 (setW (s ||| t) 0)) (by omega)).trans hz)
      have HB4 := Lib.hid ((c4_far wr w.heap.size (w.heap.size + 1) 0 (.int .u64 (setW (s ||| t) 0)) (by omega)).trans ht)
      have HO2 := Lib.hid (ho.setCell (p := ⟨w.heap.size, 0, none⟩) (Nat.le_refl _) (.int .u64 (setW (s ||| t) 0)))
      clear hb hz ho ht
      go_wp2_with fail
      go_region
      go_wp2_with fail
      rw [HN.out 0]
      go_roundw
      case rel => exact ⟨⟨HO2.out.drew, HB3.out, Or.inr (Or.inl ⟨rfl, HB2.out⟩)⟩, HB4.out⟩
      case measure => simp [intOf]
    · obtain ⟨c0, c1, c2, c3, f0, f1, f2, f3⟩ := c4_cells hb
      obtain ⟨e0, e1, e2, e3, _, _, _, _⟩ := setC_cells ht
      have HB2 := Lib.hid (c4_store hb (setW (s ||| t) 1)).2.1
      have HB3 := Lib.hid ((c4_far wr w.heap.size (w.heap.size + 2) 1 (.int .u64 (setW (s ||| t) 1)) (by omega)).trans hz)
      have HB4 := Lib.hid ((c4_far wr w.heap.size (w.heap.size + 1) 1 (.int .u64 (setW (s ||| t) 1)) (by omega)).trans ht)
      have HO2 := Lib.hid (ho.setCell (p := ⟨w.heap.size, 1, none⟩) (Nat.le_refl _) (.int .u64 (setW (s ||| t) 1)))
      clear hb hz ho ht
      go_wp2_with fail
      go_region
      go_wp2_with fail
      rw [HN.out 1]
      go_roundw
      case rel => exact ⟨⟨HO2.out.drew, HB3.out, Or.inr (Or.inr (Or.inl ⟨rfl, HB2.out⟩))⟩, HB4.out⟩
      case measure => simp [intOf]
    · obtain ⟨c0, c1, c2, c3, f0, f1, f2, f3⟩ := c4_cells hb
      obtain ⟨e0, e1, e2, e3, _, _, _, _⟩ := setC_cells ht
      have HB2 := Lib.hid (c4_store hb (setW (s ||| t) 2)).2.2.1
      have HB3 := Lib.hid ((c4_far wr w.heap.size (w.heap.size + 2) 2 (.int .u64 (setW (s ||| t) 2)) (by omega)).trans hz)
      have HB4 := Lib.hid ((c4_far wr w.heap.size (w.heap.size + 1) 2 (.int .u64 (setW (s ||| t) 2)) (by omega)).trans ht)
      have HO2 := Lib.hid (ho.setCell (p := ⟨w.heap.size, 2, none⟩) (Nat.le_refl _) (.int .u64 (setW (s ||| t) 2)))
      clear hb hz ho ht
      go_wp2_with fail
      go_region
      go_wp2_with fail
      rw [HN.out 2]
      go_roundw
      case rel => exact ⟨⟨HO2.out.drew, HB3.out, Or.inr (Or.inr (Or.inr (Or.inl ⟨rfl, HB2.out⟩)))⟩, HB4.out⟩
      case measure => simp [intOf]
    · obtain ⟨c0, c1, c2, c3, f0, f1, f2, f3⟩ := c4_cells hb
      obtain ⟨e0, e1, e2, e3, _, _, _, _⟩ := setC_cells ht
      have HB2 := Lib.hid (c4_store hb (setW (s ||| t) 3)).2.2.2
      have HB3 := Lib.hid ((c4_far wr w.heap.size (w.heap.size + 2) 3 (.int .u64 (setW (s ||| t) 3)) (by omega)).trans hz)
      have HB4 := Lib.hid ((c4_far wr w.heap.size (w.heap.size + 1) 3 (.int .u64 (setW (s ||| t) 3)) (by omega)).trans ht)
      have HO2 := Lib.hid (ho.setCell (p := ⟨w.heap.size, 3, none⟩) (Nat.le_refl _) (.int .u64 (setW (s ||| t) 3)))
      clear hb hz ho ht
      go_wp2_with fail
      go_region
      go_wp2_with fail
      rw [HN.out 3]
      go_roundw
      case rel => exact ⟨⟨HO2.out.drew, HB3.out, Or.inr (Or.inr (Or.inr (Or.inr (⟨rfl, HB2.out⟩))))⟩, HB4.out⟩
      case measure => simp [intOf]
    · obtain ⟨c0, c1, c2, c3, f0, f1, f2, f3⟩ := c4_cells hb
      obtain ⟨d0, d1, d2, d3, g0, g1, g2, g3⟩ := setC_cells hz
      clear hb hz ho ht
      go_wp2_with fail
      refine bodyPost_ret (v := setA (s ||| t)) (by simp [results, Try.results97, go_sem, d0, d1, d2, d3, setA]) rfl ⟨rfl, ?_⟩
      exact ((((HO.out.setCell (p := ⟨w.heap.size + 2, 0, none⟩) (by simp) _).setCell (p := ⟨w.heap.size + 2, 1, none⟩) (by simp) _).setCell (p := ⟨w.heap.size + 2, 2, none⟩) (by simp) _).setCell (p := ⟨w.heap.size + 2, 3, none⟩) (by simp) _)
end Go.Proofs.Ythadkjgadhbidaa
