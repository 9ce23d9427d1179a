/-
  The walks of the reference's sets of bytes.
-/
import Derived.Test.YthadkjgadhbidaaRxS
import Derived.Test.YthadkjgadhbidaaProg
import Derived.BigQuiet
import Derived.IntWalk
import Derived.WalkSpells
import Derived.WalkLawsBesides
import Derived.RegionTactic
import Derived.Deep.RegionHeld3
namespace Go.Proofs.Ythadkjgadhbidaa
open Go.RowKit
set_option linter.unusedVariables false

def setA (s : BSet) : Value := .agg #[.int .u64 (setW s 0), .int .u64 (setW s 1), .int .u64 (setW s 2), .int .u64 (setW s 3)]
def ValOld (v : Value) (w : World) (e : Ending) (w' : World) : Prop := e = .returned v ∧ Old w w'
theorem ret_bool' {a b : Bool} (h : a = b) : Ending.returned (.bool a) = .returned (.bool b) := by rw [h]
theorem pow_lt64 (b : Nat) : 2 ^ (b % 64) < 18446744073709551616 := by
  rw [show 18446744073709551616 = 2 ^ 64 by decide]
  exact Nat.pow_lt_pow_right (by decide) (Nat.mod_lt _ (by decide))
theorem word_or (s : BSet) (i b : Nat) : bits .or .u64 ((setW s i : Nat) : Int) (IntKind.u64.wrap (2 ^ (b % 64))) = ((setW s i ||| 2 ^ (b % 64) : Nat) : Int) := by
  have hp := pow_lt64 b
  have e : IntKind.u64.wrap (2 ^ (b % 64)) = ((2 ^ (b % 64) : Nat) : Int) := by
    rw [IntWalk.u64_in]
    · push_cast; rfl
    · have : ((2 ^ (b % 64) : Nat) : Int) < 18446744073709551616 := by omega
      push_cast at this
      have h0 : (0 : Int) ≤ 2 ^ (b % 64) := Int.pow_nonneg (by decide)
      omega
  rw [e, u64_or_nat _ _ (setW_lt s i) hp]
theorem word_has (s : BSet) (i b : Nat) (hb : b < 256) (hi : b / 64 = i) : (bits BinOp.and IntKind.u64 (((setW s i : Nat) : Int) / 2 ^ (b % 64)) 1 == 1) = hasB s b := by
  rw [hasB_word s b hb, hi]
  have e : ((setW s i : Nat) : Int) / 2 ^ (b % 64) = ((setW s i / 2 ^ (b % 64) : Nat) : Int) := by push_cast; rfl
  have hl := setW_lt s i
  have hd : setW s i / 2 ^ (b % 64) < 18446744073709551616 := Nat.lt_of_le_of_lt (Nat.div_le_self _ _) hl
  have h1 := u64_and_nat (setW s i / 2 ^ (b % 64)) 1 hd (by decide)
  rw [nat_mask1] at h1
  rw [e]
  have h2 : ((1 : Nat) : Int) = 1 := rfl
  rw [h2] at h1
  rw [h1]
  generalize setW s i / 2 ^ (b % 64) % 2 = q
  rw [Bool.eq_iff_iff]
  simp
  omega
set_option maxRecDepth 100000 in
theorem withC (s : BSet) (b : Nat) (hb : b < 256) (w : World) : Calls Try.prog 92 #[setA s, .int .u8 b] w (ValOld (setA (withB s b)) w) := by
  have hi0 : (0 : Int) ≤ b := by omega
  have hi1 : (b : Int) < 256 := by omega
  have h0 := setW_lt s 0
  have h1 := setW_lt s 1
  have h2 := setW_lt s 2
  have h3 := setW_lt s 3
  have HO := Lib.hid (fun i => word_or s i b)
  have HW := Lib.hid (setW_with s b)
  unfold setA
  have hq : (b : Int) / 64 = 0 ∨ (b : Int) / 64 = 1 ∨ (b : Int) / 64 = 2 ∨ (b : Int) / 64 = 3 := by omega
  rcases hq with hq | hq | hq | hq
  all_goals
    go_enter Try.func92, Try.ntmps92
    go_wp2_with fail
    refine bodyPost_ret (by simp [results, Try.results92, go_sem]; rfl) rfl ⟨?_, ((Old.refl w).alloc _).alloc _⟩
    rw [HO.out, HW.out 0, HW.out 1, HW.out 2, HW.out 3]
    first
      | rw [if_pos (show 0 = b / 64 by omega), if_neg (show ¬ 1 = b / 64 by omega), if_neg (show ¬ 2 = b / 64 by omega), if_neg (show ¬ 3 = b / 64 by omega)]
      | rw [if_neg (show ¬ 0 = b / 64 by omega), if_pos (show 1 = b / 64 by omega), if_neg (show ¬ 2 = b / 64 by omega), if_neg (show ¬ 3 = b / 64 by omega)]
      | rw [if_neg (show ¬ 0 = b / 64 by omega), if_neg (show ¬ 1 = b / 64 by omega), if_pos (show 2 = b / 64 by omega), if_neg (show ¬ 3 = b / 64 by omega)]
      | rw [if_neg (show ¬ 0 = b / 64 by omega), if_neg (show ¬ 1 = b / 64 by omega), if_neg (show ¬ 2 = b / 64 by omega), if_pos (show 3 = b / 64 by omega)]
set_option maxRecDepth 100000 in
theorem hasC (s : BSet) (b : Nat) (hb : b < 256) (w : World) : Calls Try.prog 44 #[setA s, .int .u8 b] w (ValOld (.bool (hasB s b)) w) := by
  have hi0 : (0 : Int) ≤ b := by omega
  have hi1 : (b : Int) < 256 := by omega
  have h0 := setW_lt s 0
  have h1 := setW_lt s 1
  have h2 := setW_lt s 2
  have h3 := setW_lt s 3
  have HH := Lib.hid (fun i hi => word_has s i b hb hi)
  unfold setA
  have hq : (b : Int) / 64 = 0 ∨ (b : Int) / 64 = 1 ∨ (b : Int) / 64 = 2 ∨ (b : Int) / 64 = 3 := by omega
  rcases hq with hq | hq | hq | hq
  all_goals
    go_enter Try.func44, Try.ntmps44
    go_wp2_with fail
    go_ret
    exact ⟨ret_bool' (HH.out _ (by omega)), (Old.refl w).alloc _⟩

/-- The block of a set. -/
def setC (s : BSet) : Obj := .cells #[.int .u64 (setW s 0), .int .u64 (setW s 1), .int .u64 (setW s 2), .int .u64 (setW s 3)] 40 (0, 0)
theorem setC_cells {w : World} {g : Nat} {s : BSet} (h : w.heap[g]? = some (setC s)) :
    w.cell? ⟨g, 0, none⟩ = some (.int .u64 (setW s 0)) ∧ w.cell? ⟨g, 1, none⟩ = some (.int .u64 (setW s 1)) ∧ w.cell? ⟨g, 2, none⟩ = some (.int .u64 (setW s 2)) ∧ w.cell? ⟨g, 3, none⟩ = some (.int .u64 (setW s 3)) ∧
    w.frozen? ⟨g, 0, none⟩ = false ∧ w.frozen? ⟨g, 1, none⟩ = false ∧ w.frozen? ⟨g, 2, none⟩ = false ∧ w.frozen? ⟨g, 3, none⟩ = false :=
  ⟨by rw [cell_of_row w g 0 _ _ _ h]; rfl, by rw [cell_of_row w g 1 _ _ _ h]; rfl, by rw [cell_of_row w g 2 _ _ _ h]; rfl, by rw [cell_of_row w g 3 _ _ _ h]; rfl,
    frozen_of_row w g 0 _ _ h, frozen_of_row w g 1 _ _ h, frozen_of_row w g 2 _ _ h, frozen_of_row w g 3 _ _ h⟩
theorem setC_store {w : World} {g : Nat} {s : BSet} (h : w.heap[g]? = some (setC s)) (t : BSet) :
    ((((w.setCell ⟨g, 0, none⟩ (.int .u64 (setW t 0))).setCell ⟨g, 1, none⟩ (.int .u64 (setW t 1))).setCell ⟨g, 2, none⟩ (.int .u64 (setW t 2))).setCell ⟨g, 3, none⟩ (.int .u64 (setW t 3))).heap[g]? = some (setC t) := by
  have q0 := heap_setCell_same w g 0 _ _ (.int .u64 (setW t 0)) h
  have q1 := heap_setCell_same _ g 1 _ _ (.int .u64 (setW t 1)) q0
  have q2 := heap_setCell_same _ g 2 _ _ (.int .u64 (setW t 2)) q1
  have q3 := heap_setCell_same _ g 3 _ _ (.int .u64 (setW t 3)) q2
  exact q3
theorem set4_other (w : World) (g k : Nat) (a b c d : Value) (hk : k ≠ g) :
    ((((w.setCell ⟨g, 0, none⟩ a).setCell ⟨g, 1, none⟩ b).setCell ⟨g, 2, none⟩ c).setCell ⟨g, 3, none⟩ d).heap[k]? = w.heap[k]? := by
  rw [heap_setCell_other _ ⟨g, 3, none⟩ k _ hk, heap_setCell_other _ ⟨g, 2, none⟩ k _ hk, heap_setCell_other _ ⟨g, 1, none⟩ k _ hk, heap_setCell_other _ ⟨g, 0, none⟩ k _ hk]
def rangeN (lo k : Nat) : BSet := (List.range k).foldl (fun s j => withB s (lo + j)) 0
theorem rangeN_succ (lo k : Nat) : rangeN lo (k + 1) = withB (rangeN lo k) (lo + k) := by
  unfold rangeN
  rw [List.range_succ, List.foldl_append]; rfl
set_option maxHeartbeats 1000000 in
set_option maxRecDepth 100000 in
theorem rangeC (lo hi : Nat) (hl : lo ≤ 256) (hb : hi < 256) (w : World) : Calls Try.prog 104 #[.int .i64 lo, .int .i64 hi] w (ValOld (setA (rangeB lo hi)) w) := by
  have hW := Lib.hid (fun s b hb w => withC s b hb w)
  have hz := setW_zero
  have oW : Old w ((w.alloc (.cells #[.int .u64 0, .int .u64 0, .int .u64 0, .int .u64 0] 40)).alloc (.cells #[.int .u64 0, .int .u64 0, .int .u64 0, .int .u64 0] 40)) := ((Old.refl w).alloc _).alloc _
  have hg1 : ((w.alloc (.cells #[.int .u64 0, .int .u64 0, .int .u64 0, .int .u64 0] 40)).alloc (.cells #[.int .u64 0, .int .u64 0, .int .u64 0, .int .u64 0] 40)).heap[w.heap.size + 1]? = some (setC 0) := by
    rw [show w.heap.size + 1 = (w.alloc (.cells #[.int .u64 0, .int .u64 0, .int .u64 0, .int .u64 0] 40)).heap.size by simp]
    exact heap_alloc_new _ _
  have hg0 : ((w.alloc (.cells #[.int .u64 0, .int .u64 0, .int .u64 0, .int .u64 0] 40)).alloc (.cells #[.int .u64 0, .int .u64 0, .int .u64 0, .int .u64 0] 40)).heap[w.heap.size]? = some (setC 0) :=
    ((Old.refl _).alloc _).block (heap_alloc_new w _)
  have OW := Lib.hid oW
  have HG0 := Lib.hid hg0
  have HG1 := Lib.hid hg1
  have HB : Hid (rangeB lo hi = rangeN lo (hi + 1 - lo)) := Lib.hid rfl
  clear oW hg0 hg1 hz
  go_enter Try.func104, Try.ntmps104
  go_wp2_with fail
  go_loopw [6] (fun ix wr => ∃ k : Nat, ix = .int .i64 ((lo + k : Nat) : Int) ∧ k ≤ hi + 1 - lo ∧ Hid (wr.heap[w.heap.size]? = some (setC 0)) ∧ Hid (wr.heap[w.heap.size + 1]? = some (setC (rangeN lo k))) ∧ Hid (Old w wr)) (fun ix _ => 300 - (intOf ix).toNat)
  case atStart => exact ⟨0, rfl, Nat.zero_le _, HG0, HG1, OW⟩
  case round =>
    obtain ⟨k, rfl, hk, HA, HX, HO⟩ := hrel
    obtain ⟨x, hx⟩ : ∃ x, lo + k = x := ⟨_, rfl⟩
    rw [hx]
    have Hx := Lib.hid hx
    obtain ⟨c0, c1, c2, c3, f0, f1, f2, f3⟩ := setC_cells HX.out
    by_cases hlt : x ≤ hi
    · have hlt2 : (x : Int) ≤ (hi : Int) := by omega
      have x0 : (0 : Int) ≤ x := by omega
      have x1 : (x : Int) ≤ 255 := by omega
      have hw := hW.out (rangeN lo k) x (by omega) wr
      obtain ⟨y, hy⟩ : ∃ y, withB (rangeN lo k) x = y := ⟨_, rfl⟩
      rw [hy] at hw
      have hyr : rangeN lo (k + 1) = y := by rw [rangeN_succ, hx, hy]
      have HY := Lib.hid hyr
      have Hw := Lib.hid hw
      have hk1 : k + 1 ≤ hi + 1 - lo := by omega
      have HE : Hid (Value.int .i64 ((x : Int) + 1) = .int .i64 ((lo + (k + 1) : Nat) : Int)) := Lib.hid (by rw [← hx]; push_cast; rw [Int.add_assoc])
      clear hw hx hy hyr
      go_wp2_with fail
      refine Hw.out.mono ?_
      rintro e w2 ⟨rfl, ho2⟩
      have hx2 := ho2.block HX.out
      obtain ⟨c0, c1, c2, c3, f0, f1, f2, f3⟩ := setC_cells hx2
      have hst := setC_store hx2 y
      have ha2 := (set4_other w2 (w.heap.size + 1) w.heap.size (.int .u64 (setW y 0)) (.int .u64 (setW y 1)) (.int .u64 (setW y 2)) (.int .u64 (setW y 3)) (by omega)).trans (ho2.block HA.out)
      have HA2 := Lib.hid ha2
      have HST := Lib.hid hst
      have ho3 := (((((HO.out.up ho2).setCell (p := ⟨w.heap.size + 1, 0, none⟩) (by simp) (.int .u64 (setW y 0))).setCell (p := ⟨w.heap.size + 1, 1, none⟩) (by simp) (.int .u64 (setW y 1))).setCell (p := ⟨w.heap.size + 1, 2, none⟩) (by simp) (.int .u64 (setW y 2))).setCell (p := ⟨w.heap.size + 1, 3, none⟩) (by simp) (.int .u64 (setW y 3)))
      have HO2 := Lib.hid ho3
      unfold setA
      clear hst hx2 ho2 ha2 ho3
      go_wp2_with fail
      go_roundw
      case rel => exact ⟨k + 1, HE.out, hk1, HA2, by rw [HY.out]; exact HST, HO2⟩
      case measure => simp [intOf]; omega
    · have hlt2 : ¬ (x : Int) ≤ (hi : Int) := by omega
      obtain rfl : k = hi + 1 - lo := by omega
      obtain ⟨d0, d1, d2, d3, g0, g1, g2, g3⟩ := setC_cells HA.out
      go_wp2_with fail
      rw [HB.out]
      refine bodyPost_ret (v := setA (rangeN lo (hi + 1 - lo))) (by simp [results, Try.results104, go_sem, d0, d1, d2, d3, setA]) rfl ⟨rfl, ?_⟩
      exact ((((HO.out.setCell (p := ⟨w.heap.size, 0, none⟩) (Nat.le_refl _) _).setCell (p := ⟨w.heap.size, 1, none⟩) (Nat.le_refl _) _).setCell (p := ⟨w.heap.size, 2, none⟩) (Nat.le_refl _) _).setCell (p := ⟨w.heap.size, 3, none⟩) (Nat.le_refl _) _)
end Go.Proofs.Ythadkjgadhbidaa
