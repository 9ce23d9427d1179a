/-
  The walks of the program's reader of patterns: isMark, span, ended, add.
-/
import Derived.Test.YthadkjgadhbidaaRgA
import Derived.Test.YthadkjgadhbidaaRxF
import Derived.Test.YthadkjgadhbidaaRxU
namespace Go.Proofs.Ythadkjgadhbidaa
open Go.RowKit
set_option linter.unusedVariables false

set_option maxHeartbeats 4000000 in
set_option maxRecDepth 100000 in
theorem isMarkC (b : Nat) (hb : b < 256) (w : World) : Calls Try.prog 110 #[.int .u8 b] w (ValOld (.bool (markB b)) w) := by
  have hc : (b < 33 ∧ markB b = false) ∨ (33 ≤ b ∧ b ≤ 47 ∧ markB b = true) ∨ (48 ≤ b ∧ b ≤ 57 ∧ markB b = false) ∨ (58 ≤ b ∧ b ≤ 64 ∧ markB b = true) ∨ (65 ≤ b ∧ b ≤ 90 ∧ markB b = false) ∨ (91 ≤ b ∧ b ≤ 96 ∧ markB b = true) ∨
      (97 ≤ b ∧ b ≤ 122 ∧ markB b = false) ∨ (123 ≤ b ∧ b ≤ 126 ∧ markB b = true) ∨ (127 ≤ b ∧ markB b = false) := by
    have : ∀ c : Fin 256, (c.val < 33 ∧ markB c.val = false) ∨ (33 ≤ c.val ∧ c.val ≤ 47 ∧ markB c.val = true) ∨ (48 ≤ c.val ∧ c.val ≤ 57 ∧ markB c.val = false) ∨ (58 ≤ c.val ∧ c.val ≤ 64 ∧ markB c.val = true) ∨ (65 ≤ c.val ∧ c.val ≤ 90 ∧ markB c.val = false) ∨ (91 ≤ c.val ∧ c.val ≤ 96 ∧ markB c.val = true) ∨
      (97 ≤ c.val ∧ c.val ≤ 122 ∧ markB c.val = false) ∨ (123 ≤ c.val ∧ c.val ≤ 126 ∧ markB c.val = true) ∨ (127 ≤ c.val ∧ markB c.val = false) := by decide +kernel
    exact this ⟨b, hb⟩
  have z0 : (0 : Int) ≤ b := by omega
  have z1 : (b : Int) ≤ 255 := by omega
  rcases hc with ⟨l2, hm⟩ | ⟨l1, l2, hm⟩ | ⟨l1, l2, hm⟩ | ⟨l1, l2, hm⟩ | ⟨l1, l2, hm⟩ | ⟨l1, l2, hm⟩ | ⟨l1, l2, hm⟩ | ⟨l1, l2, hm⟩ | ⟨l1, hm⟩
  all_goals
    rw [hm]
    clear hm
    try have m1 : (33 : Int) ≤ b := by omega
    try have m1' : (b : Int) < 33 := by omega
    try have m2 : (b : Int) ≤ 47 := by omega
    try have m2' : (47 : Int) < b := by omega
    try have m3 : (58 : Int) ≤ b := by omega
    try have m3' : (b : Int) < 58 := by omega
    try have m4 : (b : Int) ≤ 64 := by omega
    try have m4' : (64 : Int) < b := by omega
    try have m5 : (91 : Int) ≤ b := by omega
    try have m5' : (b : Int) < 91 := by omega
    try have m6 : (b : Int) ≤ 96 := by omega
    try have m6' : (96 : Int) < b := by omega
    try have m7 : (123 : Int) ≤ b := by omega
    try have m7' : (b : Int) < 123 := by omega
    try have m8 : (b : Int) ≤ 126 := by omega
    try have m8' : (126 : Int) < b := by omega
    go_enter Try.func110, Try.ntmps110
    go_wp2_with fail
    go_ret
    first | exact ⟨rfl, Old.refl w⟩ | exact ⟨ret_bool' (by simp; omega), Old.refl w⟩

theorem setC_with {w : World} {g : Nat} {s : BSet} (h : w.heap[g]? = some (setC s)) {x q : Nat} (hx : x < 256) (hq : x / 64 = q) : (w.setCell ⟨g, q, none⟩ (.int .u64 (bits BinOp.or IntKind.u64 ((setW s q : Nat) : Int) (IntKind.u64.wrap (2 ^ (x % 64)))))).heap[g]? = some (setC (withB s x)) := by
  have hq4 : q = 0 ∨ q = 1 ∨ q = 2 ∨ q = 3 := by omega
  rw [word_or, heap_setCell_same w g q _ _ _ h]
  unfold setC
  rw [setW_with s x 0, setW_with s x 1, setW_with s x 2, setW_with s x 3]
  rcases hq4 with rfl | rfl | rfl | rfl
  · rw [if_pos hq.symm, if_neg (by omega), if_neg (by omega), if_neg (by omega)]; rfl
  · rw [if_neg (by omega), if_pos hq.symm, if_neg (by omega), if_neg (by omega)]; rfl
  · rw [if_neg (by omega), if_neg (by omega), if_pos hq.symm, if_neg (by omega)]; rfl
  · rw [if_neg (by omega), if_neg (by omega), if_neg (by omega), if_pos hq.symm]; rfl
def SpanRel (w : World) (lo hi : Nat) (ix : Value) (wr : World) : Prop := ∃ k : Nat, ix = .int .i64 ((lo + k : Nat) : Int) ∧ k ≤ hi + 1 - lo ∧ Hid (wr.heap[w.heap.size]? = some (setC 0)) ∧ Hid (wr.heap[w.heap.size + 1]? = some (setC (rangeN lo k))) ∧ Hid (Old w wr)
set_option maxHeartbeats 2000000 in
set_option maxRecDepth 100000 in
theorem spanC (lo hi : Nat) (hl : lo < 256) (hb : hi < 256) (w : World) : Calls Try.prog 103 #[.int .u8 lo, .int .u8 hi] w (ValOld (setA (rangeB lo hi)) w) := by
  have hz := setW_zero
  have oW : Old w ((w.alloc (.cells #[.int .u64 0, .int .u64 0, .int .u64 0, .int .u64 0] 40)).alloc (.cells #[.int .u64 0, .int .u64 0, .int .u64 0, .int .u64 0] 40)) := ((Old.refl w).alloc _).alloc _
  have hg1 : ((w.alloc (.cells #[.int .u64 0, .int .u64 0, .int .u64 0, .int .u64 0] 40)).alloc (.cells #[.int .u64 0, .int .u64 0, .int .u64 0, .int .u64 0] 40)).heap[w.heap.size + 1]? = some (setC 0) := by
    rw [show w.heap.size + 1 = (w.alloc (.cells #[.int .u64 0, .int .u64 0, .int .u64 0, .int .u64 0] 40)).heap.size by simp]
    exact heap_alloc_new _ _
  have hg0 : ((w.alloc (.cells #[.int .u64 0, .int .u64 0, .int .u64 0, .int .u64 0] 40)).alloc (.cells #[.int .u64 0, .int .u64 0, .int .u64 0, .int .u64 0] 40)).heap[w.heap.size]? = some (setC 0) :=
    ((Old.refl _).alloc _).block (heap_alloc_new w _)
  have OW := Lib.hid oW
  have HG0 := Lib.hid hg0
  have HG1 := Lib.hid hg1
  have HB : Hid (rangeB lo hi = rangeN lo (hi + 1 - lo)) := Lib.hid rfl
  have a0 : (0 : Int) ≤ (lo : Int) := by omega
  have a1 : (lo : Int) < 256 := by omega
  have a2 : (0 : Int) ≤ (hi : Int) := by omega
  have a3 : (hi : Int) < 256 := by omega
  clear oW hg0 hg1 hz
  go_enter Try.func103, Try.ntmps103
  go_wp2_with fail
  go_loopw [6] (fun ix wr => SpanRel w lo hi ix wr) (fun ix _ => 300 - (intOf ix).toNat)
  case atStart => exact ⟨0, rfl, Nat.zero_le _, HG0, HG1, OW⟩
  case round =>
    obtain ⟨k, rfl, hk, HA, HX, HO⟩ := hrel
    obtain ⟨x, hx⟩ : ∃ x, lo + k = x := ⟨_, rfl⟩
    rw [hx]
    have Hx := Lib.hid hx
    obtain ⟨c0, c1, c2, c3, f0, f1, f2, f3⟩ := setC_cells HX.out
    by_cases hlt : x ≤ hi
    · have hlt2 : (x : Int) ≤ (hi : Int) := by omega
      have x0 : (0 : Int) ≤ x := by omega
      have x1 : (x : Int) ≤ 255 := by omega
      have hyr : rangeN lo (k + 1) = withB (rangeN lo k) x := by rw [rangeN_succ, hx]
      have HY := Lib.hid hyr
      have hk1 : k + 1 ≤ hi + 1 - lo := by omega
      have HE : Hid (Value.int .i64 ((x : Int) + 1) = .int .i64 ((lo + (k + 1) : Nat) : Int)) := Lib.hid (by rw [← hx]; push_cast; rw [Int.add_assoc])
      have td : Int.tdiv (x : Int) 64 = ((x / 64 : Nat) : Int) := by rw [Int.tdiv_eq_ediv_of_nonneg (by omega)]; omega
      have tm : Int.tmod (x : Int) 64 = ((x % 64 : Nat) : Int) := by rw [Int.tmod_eq_emod_of_nonneg (by omega)]; omega
      have te : (x : Int) / 64 = ((x / 64 : Nat) : Int) := by omega
      have tn : (x : Int) % 64 = ((x % 64 : Nat) : Int) := by omega
      clear hx hyr
      have hq : x / 64 = 0 ∨ x / 64 = 1 ∨ x / 64 = 2 ∨ x / 64 = 3 := by omega
      have HQ : Hid (∀ q, x / 64 = q → (wr.setCell ⟨w.heap.size + 1, q, none⟩ (.int .u64 (bits BinOp.or IntKind.u64 ((setW (rangeN lo k) q : Nat) : Int) (IntKind.u64.wrap (2 ^ (x % 64)))))).drew.heap[w.heap.size + 1]? = some (setC (withB (rangeN lo k) x))) := Lib.hid (fun q hq => setC_with HX.out (by omega) hq)
      have HA2 : Hid (∀ q v, (wr.setCell ⟨w.heap.size + 1, q, none⟩ v).drew.heap[w.heap.size]? = some (setC 0)) := Lib.hid (fun q v => (heap_setCell_other wr ⟨w.heap.size + 1, q, none⟩ w.heap.size v (by simp)).trans HA.out)
      have HO2 : Hid (∀ q v, Old w (wr.setCell ⟨w.heap.size + 1, q, none⟩ v).drew) := Lib.hid (fun q v => (HO.out.setCell (p := ⟨w.heap.size + 1, q, none⟩) (by simp) v).drew)
      have w0 : IntKind.i64.wrap 0 = 0 := by decide
      have w1 : IntKind.i64.wrap 1 = 1 := by decide
      have w2 : IntKind.i64.wrap 2 = 2 := by decide
      have w3 : IntKind.i64.wrap 3 = 3 := by decide
      have hqq := Lib.hid hq
      obtain ⟨m, hm⟩ : ∃ m, x % 64 = m := ⟨_, rfl⟩
      rw [hm] at tm tn HQ
      have m0 : (0 : Int) ≤ (m : Int) := by omega
      have m1 : (m : Int) < 64 := by omega
      have wm : IntKind.i64.wrap (m : Int) = (m : Int) := IntWalk.i64_in _ (by omega)
      clear hm
      rcases hq with hq | hq | hq | hq
      all_goals
        rw [hq] at td te
        have HQ2 := Lib.hid (HQ.out _ hq)
        clear hq HQ hqq
        go_wp2_with fail
        go_region
        go_wp2_with fail
        go_roundw
        case rel => exact ⟨k + 1, HE.out, hk1, Lib.hid (HA2.out _ _), Lib.hid (by rw [HY.out]; exact HQ2.out), Lib.hid (HO2.out _ _)⟩
        case measure => simp [intOf]; omega
    · have hlt2 : ¬ (x : Int) ≤ (hi : Int) := by omega
      obtain rfl : k = hi + 1 - lo := by omega
      obtain ⟨d0, d1, d2, d3, g0, g1, g2, g3⟩ := setC_cells HA.out
      go_wp2_with fail
      rw [HB.out]
      refine bodyPost_ret (v := setA (rangeN lo (hi + 1 - lo))) (by simp [results, Try.results103, go_sem, d0, d1, d2, d3, setA]) rfl ⟨rfl, ?_⟩
      exact ((((HO.out.setCell (p := ⟨w.heap.size, 0, none⟩) (Nat.le_refl _) _).setCell (p := ⟨w.heap.size, 1, none⟩) (Nat.le_refl _) _).setCell (p := ⟨w.heap.size, 2, none⟩) (Nat.le_refl _) _).setCell (p := ⟨w.heap.size, 3, none⟩) (Nat.le_refl _) _)
end Go.Proofs.Ythadkjgadhbidaa
