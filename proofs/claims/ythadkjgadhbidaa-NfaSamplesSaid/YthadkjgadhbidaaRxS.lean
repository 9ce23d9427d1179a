/-
  Sets of bytes as four words. No program in sight.
-/
import Derived.Test.YthadkjgadhbidaaRxP
import Derived.Laws.BitsAllLaws
namespace Go.Proofs.Ythadkjgadhbidaa
open Go.RowKit
set_option linter.unusedVariables false

theorem setW_lt (s : BSet) (i : Nat) : setW s i < 18446744073709551616 := Nat.mod_lt _ (by decide)
theorem w64_pow (i : Nat) : w64 ^ i = 2 ^ (64 * i) := by rw [show w64 = 2 ^ 64 by decide, ← Nat.pow_mul]
theorem setW_bit (s : BSet) (i k : Nat) : (setW s i).testBit k = (decide (k < 64) && s.testBit (64 * i + k)) := by
  unfold setW
  rw [w64_pow, show w64 = 2 ^ 64 by decide, Nat.testBit_mod_two_pow, Nat.testBit_div_two_pow, Nat.add_comm]
theorem setW_or (s t : BSet) (i : Nat) : setW (s ||| t) i = setW s i ||| setW t i := by
  apply Nat.eq_of_testBit_eq
  intro k
  rw [Nat.testBit_or, setW_bit, setW_bit, setW_bit, Nat.testBit_or]
  cases decide (k < 64) <;> simp
theorem setW_with (s : BSet) (b i : Nat) : setW (withB s b) i = if i = b / 64 then setW s i ||| 2 ^ (b % 64) else setW s i := by
  have hp : setW (2 ^ b) i = if i = b / 64 then 2 ^ (b % 64) else 0 := by
    apply Nat.eq_of_testBit_eq
    intro k
    rw [setW_bit, Nat.testBit_two_pow]
    by_cases h : i = b / 64
    · rw [if_pos h, Nat.testBit_two_pow]
      by_cases hk : k < 64
      · rw [decide_eq_true hk, Bool.true_and]
        apply decide_eq_decide.2
        omega
      · rw [decide_eq_false hk, Bool.false_and]
        symm
        apply decide_eq_false
        omega
    · rw [if_neg h, Nat.zero_testBit]
      by_cases hk : k < 64
      · rw [decide_eq_true hk, Bool.true_and]
        apply decide_eq_false
        omega
      · rw [decide_eq_false hk, Bool.false_and]
  unfold withB
  rw [setW_or, hp]
  split
  · rfl
  · rw [Nat.or_zero]
theorem setW_not (s : BSet) (i : Nat) (hi : i < 4) : setW (notB s) i = 18446744073709551615 - setW s i := by
  have h1 : setW s i < 2 ^ 64 := setW_lt s i
  apply Nat.eq_of_testBit_eq
  intro k
  rw [show 18446744073709551615 - setW s i = 2 ^ 64 - (setW s i + 1) by omega, Nat.testBit_two_pow_sub_succ h1, setW_bit, setW_bit]
  unfold notB
  rw [Nat.testBit_xor, Nat.testBit_two_pow_sub_one]
  by_cases hk : k < 64
  · rw [decide_eq_true hk, Bool.true_and, Bool.true_and, Bool.true_and, decide_eq_true (show 64 * i + k < 256 by omega)]
    simp
  · rw [decide_eq_false hk]; simp
theorem setW_zero (i : Nat) : setW 0 i = 0 := by unfold setW; simp
theorem set_ext {s t : BSet} (hs : s < 2 ^ 256) (ht : t < 2 ^ 256) (h : ∀ i, i < 4 → setW s i = setW t i) : s = t := by
  apply Nat.eq_of_testBit_eq
  intro k
  by_cases hk : k < 256
  · have := congrArg (fun x => x.testBit (k % 64)) (h (k / 64) (by omega))
    simp only [setW_bit] at this
    rw [decide_eq_true (show k % 64 < 64 by omega), Bool.true_and, Bool.true_and, show 64 * (k / 64) + k % 64 = k by omega] at this
    exact this
  · rw [Nat.testBit_lt_two_pow (Nat.lt_of_lt_of_le hs (Nat.pow_le_pow_right (by decide) (by omega))), Nat.testBit_lt_two_pow (Nat.lt_of_lt_of_le ht (Nat.pow_le_pow_right (by decide) (by omega)))]
/-- The test that the code makes. -/
theorem hasB_word (s : BSet) (b : Nat) (hb : b < 256) : hasB s b = decide (setW s (b / 64) / 2 ^ (b % 64) % 2 = 1) := by
  have h := setW_bit s (b / 64) (b % 64)
  rw [decide_eq_true (show b % 64 < 64 by omega), Bool.true_and, show 64 * (b / 64) + b % 64 = b by omega] at h
  unfold hasB
  rw [← h, Nat.testBit_eq_decide_div_mod_eq]
/-- Sets that four words may hold. -/
def setOk (s : BSet) : Prop := s < 2 ^ 256
theorem setOk_zero : setOk 0 := by unfold setOk; decide
theorem setOk_or {s t : BSet} (hs : setOk s) (ht : setOk t) : setOk (s ||| t) := Nat.or_lt_two_pow hs ht
theorem setOk_with {s : BSet} {b : Nat} (hs : setOk s) (hb : b < 256) : setOk (withB s b) :=
  Nat.or_lt_two_pow hs (Nat.pow_lt_pow_right (by decide) hb)
theorem setOk_not {s : BSet} (hs : setOk s) : setOk (notB s) := Nat.xor_lt_two_pow hs (by decide)
/-- A set out of its words. -/
def setOf4 (a b c d : Nat) : BSet := a + w64 * (b + w64 * (c + w64 * d))
theorem setOf4_W {a b c d : Nat} (ha : a < w64) (hb : b < w64) (hc : c < w64) (hd : d < w64) : setW (setOf4 a b c d) 0 = a ∧ setW (setOf4 a b c d) 1 = b ∧ setW (setOf4 a b c d) 2 = c ∧ setW (setOf4 a b c d) 3 = d ∧ setOk (setOf4 a b c d) := by
  have hw : 0 < w64 := by decide
  have e1 : ∀ x y : Nat, x < w64 → (x + w64 * y) % w64 = x := fun x y hx => by rw [Nat.add_mul_mod_self_left, Nat.mod_eq_of_lt hx]
  have e2 : ∀ x y : Nat, x < w64 → (x + w64 * y) / w64 = y := fun x y hx => by rw [Nat.add_mul_div_left _ _ hw, Nat.div_eq_of_lt hx, Nat.zero_add]
  have p2 : w64 ^ 2 = w64 * w64 := by rw [Nat.pow_two]
  have p3 : w64 ^ 3 = w64 * w64 * w64 := by rw [Nat.pow_succ, Nat.pow_two]
  unfold setW setOf4 setOk
  refine ⟨?_, ?_, ?_, ?_, ?_⟩
  · rw [Nat.pow_zero, Nat.div_one, e1 _ _ ha]
  · rw [Nat.pow_one, e2 _ _ ha, e1 _ _ hb]
  · rw [p2, ← Nat.div_div_eq_div_mul, e2 _ _ ha, e2 _ _ hb, e1 _ _ hc]
  · rw [p3, ← Nat.div_div_eq_div_mul, ← Nat.div_div_eq_div_mul, e2 _ _ ha, e2 _ _ hb, e2 _ _ hc, Nat.mod_eq_of_lt hd]
  · have h1 : c + w64 * d < w64 * w64 := by
      have := Nat.mul_le_mul_left w64 (show d + 1 ≤ w64 from hd)
      rw [Nat.mul_add] at this; omega
    have h2 : b + w64 * (c + w64 * d) < w64 * (w64 * w64) := by
      have := Nat.mul_le_mul_left w64 (show c + w64 * d + 1 ≤ w64 * w64 from h1)
      rw [Nat.mul_add] at this; omega
    have h3 : a + w64 * (b + w64 * (c + w64 * d)) < w64 * (w64 * (w64 * w64)) := by
      have := Nat.mul_le_mul_left w64 (show b + w64 * (c + w64 * d) + 1 ≤ w64 * (w64 * w64) from h2)
      rw [Nat.mul_add] at this; omega
    rw [show w64 * (w64 * (w64 * w64)) = 2 ^ 256 by decide] at h3
    exact h3
def setV (s : BSet) : List Value := [.int .u64 (setW s 0), .int .u64 (setW s 1), .int .u64 (setW s 2), .int .u64 (setW s 3)]
end Go.Proofs.Ythadkjgadhbidaa
