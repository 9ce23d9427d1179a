/-
  The walk of mill.Mod: the remainder from 0 on.
-/
import Derived.Test.YtpknglclcdgfbaaProg
import Derived.WalkKit
import Derived.WalkSpells
import Derived.WalkLawsBesides
namespace Go.Proofs.Ytpknglclcdgfbaa
open Go.RowKit
set_option linter.unusedVariables false
theorem tmod_pos {v n : Int} (h : 0 ≤ v.tmod n) (hn : 1 ≤ n) : v.tmod n = v % n := by
  by_cases h0 : 0 ≤ v
  · exact Int.tmod_eq_emod_of_nonneg h0
  · have e := Int.neg_tmod (-v) n
    rw [Int.neg_neg, Int.tmod_eq_emod_of_nonneg (show 0 ≤ -v by omega)] at e
    have h1 := Int.emod_nonneg (-v) (show n ≠ 0 by omega)
    have h2 : (-v) % n = 0 := by omega
    rw [e, h2]
    have h3 : n ∣ -v := Int.dvd_of_emod_eq_zero h2
    have h4 : n ∣ v := by
      have := Int.dvd_neg.mpr h3
      rwa [Int.neg_neg] at this
    rw [Int.emod_eq_zero_of_dvd h4]; rfl
theorem tmod_neg {v n : Int} (h : v.tmod n < 0) (hn : 1 ≤ n) : v.tmod n + n = v % n ∧ -n < v.tmod n := by
  have h0 : ¬ 0 ≤ v := by
    intro h0
    rw [Int.tmod_eq_emod_of_nonneg h0] at h
    have := Int.emod_nonneg v (show n ≠ 0 by omega)
    omega
  have e := Int.neg_tmod (-v) n
  rw [Int.neg_neg, Int.tmod_eq_emod_of_nonneg (show 0 ≤ -v by omega)] at e
  have h1 := Int.emod_nonneg (-v) (show n ≠ 0 by omega)
  have h2 := Int.emod_lt_of_pos (-v) (show 0 < n by omega)
  rw [e] at h ⊢
  refine ⟨?_, by omega⟩
  have h3 : v = (n - (-v) % n) + n * (-((-v) / n) - 1) := by
    have h5 := Int.emod_add_mul_ediv (-v) n
    have h6 : n * (-((-v) / n) - 1) = -(n * ((-v) / n)) - n := by rw [Int.mul_sub, Int.mul_neg, Int.mul_one]
    rw [h6]
    generalize n * ((-v) / n) = X at *
    generalize (-v) % n = Y at *
    omega
  have h4 : v % n = (n - (-v) % n) % n := by
    conv => lhs; rw [h3]
    rw [Int.add_mul_emod_self_left]
  rw [h4]
  generalize (-v) % n = Y at *
  rw [Int.emod_eq_of_lt (by omega) (by omega)]
  omega
theorem mod_any (v n : Int) (hn : 1 ≤ n) (hn' : n ≤ 9223372036854775807) (w : World) :
    Calls Try.prog 12 #[.int .i64 v, .int .i64 n] w fun e w' => e = .returned (.int .i64 (v % n)) ∧ w = w' := by
  by_cases h : v.tmod n < 0
  · obtain ⟨e, hl⟩ := tmod_neg h hn
    have hb : (n == 0) = false := by simp; omega
    rw [← e]
    clear e
    go_enter Try.func12, Try.ntmps12
    go_wp2
    go_ret
    exact ⟨rfl, rfl⟩
  · have h' : 0 ≤ v.tmod n := by omega
    have e := tmod_pos h' hn
    have hb : (n == 0) = false := by simp; omega
    rw [← e]
    clear e h
    go_enter Try.func12, Try.ntmps12
    go_wp2
    go_ret
    exact ⟨rfl, rfl⟩
end Go.Proofs.Ytpknglclcdgfbaa
