/-
  The walks of the laws on ticks.
-/
import Derived.Test.YtfejefndcckdbaaTicksW
namespace Go.Proofs.Ytfejefndcckdbaa
open Go.RowKit Go.Shelf
set_option linter.unusedVariables false

theorem U_lit (x : Int) (h : decide (0 ≤ x) && decide (x ≤ 18446744073709551615)) : Tk.U x := by
  simp at h; exact h

theorem sane_any (w : World) : Calls Try.prog 22 #[] w fun e w' => e = .returned (.bool true) ∧ w = w' := by
  have c1 : ∀ W, Calls Try.prog 23 #[.int .u64 18446744073709551615, .int .u64 5] W fun e w' => e = .returned (.int .u64 18446744073709551615) ∧ W = w' := fun W => tAdd _ _ (U_lit _ (by decide)) (U_lit _ (by decide)) W
  have c2 : ∀ W, Calls Try.prog 29 #[.int .u64 100, .int .u64 1000, .int .i64 3, .int .u64 7] W fun e w' => e = .returned (.int .u64 807) ∧ W = w' := fun W => tDelay _ _ _ _ (U_lit _ (by decide)) (U_lit _ (by decide)) (U_lit _ (by decide)) W
  have c3 : ∀ W, Calls Try.prog 29 #[.int .u64 100, .int .u64 1000, .int .i64 4, .int .u64 7] W fun e w' => e = .returned (.int .u64 1007) ∧ W = w' := fun W => tDelay _ _ _ _ (U_lit _ (by decide)) (U_lit _ (by decide)) (U_lit _ (by decide)) W
  have c4 : ∀ W, Calls Try.prog 25 #[.int .u64 3, .int .u64 9] W fun e w' => e = .returned (.int .u64 0) ∧ W = w' := fun W => tSub _ _ (U_lit _ (by decide)) (U_lit _ (by decide)) W
  go_enter Try.func22, Try.ntmps22
  go_wp2_with fail
  refine (c1 _).mono ?_; rintro e w' ⟨rfl, rfl⟩
  go_wp2_with fail
  refine (c2 _).mono ?_; rintro e w' ⟨rfl, rfl⟩
  go_wp2_with fail
  refine (c3 _).mono ?_; rintro e w' ⟨rfl, rfl⟩
  go_wp2_with fail
  refine (c4 _).mono ?_; rintro e w' ⟨rfl, rfl⟩
  go_wp2_with fail
  go_ret
  exact ⟨rfl, rfl⟩

theorem sums_any (a b n : Int) (ha : Tk.U a) (hb : Tk.U b) (hn0 : -9223372036854775808 ≤ n) (hn : n ≤ 9223372036854775807) (w : World) :
    Calls Try.prog 6 #[.int .u64 a, .int .u64 b, .int .i64 n] w fun e w' => e = .returned (.bool true) ∧ w = w' := by
  have hm : n.tmod 70 ≤ 9223372036854775807 := by have := Int.tmod_lt_of_pos n (show (0 : Int) < 70 by omega); omega
  go_enter Try.func6, Try.ntmps6
  go_wp2_with fail
  refine (sane_any _).mono ?_; rintro e w' ⟨rfl, rfl⟩
  go_wp2_with fail
  refine (tAdd a b ha hb _).mono ?_; rintro e w' ⟨rfl, rfl⟩
  go_wp2_with fail
  refine (rAdd a b ha hb _).mono ?_; rintro e w' ⟨rfl, rfl⟩
  go_wp2_with fail
  refine (tSub a b ha hb _).mono ?_; rintro e w' ⟨rfl, rfl⟩
  go_wp2_with fail
  refine (rSub a b ha hb _).mono ?_; rintro e w' ⟨rfl, rfl⟩
  go_wp2_with fail
  refine (tDbl a n ha _).mono ?_; rintro e w' ⟨rfl, rfl⟩
  go_wp2_with fail
  refine (rDbl a n ha hn _).mono ?_; rintro e w' ⟨rfl, rfl⟩
  go_wp2_with fail
  refine (tDbl b (n.tmod 70) hb _).mono ?_; rintro e w' ⟨rfl, rfl⟩
  go_wp2_with fail
  refine (rDbl b (n.tmod 70) hb hm _).mono ?_; rintro e w' ⟨rfl, rfl⟩
  go_wp2_with fail
  go_ret
  exact ⟨rfl, rfl⟩

theorem U_tmod {a : Int} (h : Tk.U a) : Tk.U (a.tmod 1000) := by
  obtain ⟨h0, h1⟩ := h
  rw [Int.tmod_eq_emod_of_nonneg h0]
  exact ⟨by omega, by omega⟩
theorem U_emod {a : Int} (h : Tk.U a) : Tk.U (a % 1000) := by
  obtain ⟨h0, h1⟩ := h
  exact ⟨by omega, by omega⟩
theorem delays_any (base limit n jitter : Int) (hb : Tk.U base) (hl : Tk.U limit) (hn0 : -9223372036854775808 ≤ n) (hn : n ≤ 9223372036854775807) (hj : Tk.U jitter) (w : World) :
    Calls Try.prog 7 #[.int .u64 base, .int .u64 limit, .int .i64 n, .int .u64 jitter] w fun e w' => e = .returned (.bool true) ∧ w = w' := by
  have hm : n.tmod 80 ≤ 9223372036854775807 := by have := Int.tmod_lt_of_pos n (show (0 : Int) < 80 by omega); omega
  have b0 := hb.1
  have j0 := hj.1
  go_enter Try.func7, Try.ntmps7
  go_wp2_with fail
  refine (sane_any _).mono ?_; rintro e w' ⟨rfl, rfl⟩
  go_wp2_with fail
  refine (tDelay base limit n jitter hb hl hj _).mono ?_; rintro e w' ⟨rfl, rfl⟩
  go_wp2_with fail
  refine (rDelay base limit n jitter hb hl hj hn _).mono ?_; rintro e w' ⟨rfl, rfl⟩
  go_wp2_with fail
  refine (tDelay _ _ _ _ (U_emod hb) hl (U_emod hj) _).mono ?_; rintro e w' ⟨rfl, rfl⟩
  go_wp2_with fail
  refine (rDelay _ _ _ _ (U_emod hb) hl (U_emod hj) hm _).mono ?_; rintro e w' ⟨rfl, rfl⟩
  go_wp2_with fail
  go_ret
  exact ⟨rfl, rfl⟩

theorem U_max {a b : Int} (ha : Tk.U a) (hb : Tk.U b) : Tk.U (max a b) := by
  obtain ⟨_, _⟩ := ha; obtain ⟨_, _⟩ := hb; exact ⟨by omega, by omega⟩
theorem U_min {a b : Int} (ha : Tk.U a) (hb : Tk.U b) : Tk.U (min a b) := by
  obtain ⟨_, _⟩ := ha; obtain ⟨_, _⟩ := hb; exact ⟨by omega, by omega⟩
theorem ring_any (a b c : Int) (ha : Tk.U a) (hb : Tk.U b) (hc : Tk.U c) (w : World) :
    Calls Try.prog 8 #[.int .u64 a, .int .u64 b, .int .u64 c] w fun e w' => e = .returned (.bool true) ∧ w = w' := by
  have r1 : (Tk.add a b == Tk.add b a) = true := by unfold Tk.add; rw [beq_iff_eq, Int.add_comm]
  have r2 : (Tk.add (Tk.add a b) c == Tk.add a (Tk.add b c)) = true := by
    rw [beq_iff_eq]; obtain ⟨_, _⟩ := ha; obtain ⟨_, _⟩ := hb; obtain ⟨_, _⟩ := hc
    unfold Tk.add; repeat' split
    all_goals omega
  have r3 : (Tk.add (Tk.sub (max a b) (min a b)) (min a b) == max a b) = true := by
    rw [beq_iff_eq]; obtain ⟨_, _⟩ := ha; obtain ⟨_, _⟩ := hb
    unfold Tk.add Tk.sub; repeat' split
    all_goals omega
  have u1 := Tk.U_add ha hb
  have u2 := Tk.U_add hb hc
  have u3 := Tk.U_sub (U_max ha hb) (U_min ha hb)
  go_enter Try.func8, Try.ntmps8
  go_wp2_with fail
  refine (sane_any _).mono ?_; rintro e w' ⟨rfl, rfl⟩
  go_wp2_with fail
  refine (tAdd a b ha hb _).mono ?_; rintro e w' ⟨rfl, rfl⟩
  go_wp2_with fail
  refine (tAdd b a hb ha _).mono ?_; rintro e w' ⟨rfl, rfl⟩
  go_wp2_with fail
  refine (tAdd a b ha hb _).mono ?_; rintro e w' ⟨rfl, rfl⟩
  go_wp2_with fail
  refine (tAdd _ c u1 hc _).mono ?_; rintro e w' ⟨rfl, rfl⟩
  go_wp2_with fail
  refine (tAdd b c hb hc _).mono ?_; rintro e w' ⟨rfl, rfl⟩
  go_wp2_with fail
  refine (tAdd a _ ha u2 _).mono ?_; rintro e w' ⟨rfl, rfl⟩
  go_wp2_with fail
  refine (tSub _ _ (U_max ha hb) (U_min ha hb) _).mono ?_; rintro e w' ⟨rfl, rfl⟩
  go_wp2_with fail
  refine (tAdd _ _ u3 (U_min ha hb) _).mono ?_; rintro e w' ⟨rfl, rfl⟩
  go_wp2_with fail
  go_ret
  exact ⟨rfl, rfl⟩

theorem doubles_any (a n m : Int) (ha : Tk.U a) (hn0 : 0 ≤ n) (hn : n ≤ 255) (hm0 : 0 ≤ m) (hm : m ≤ 255) (w : World) :
    Calls Try.prog 10 #[.int .u64 a, .int .u8 n, .int .u8 m] w fun e w' => e = .returned (.bool true) ∧ w = w' := by
  have u1 := Tk.U_dbl n ha
  have r1 : (Tk.dbl (Tk.dbl a n) m == Tk.dbl a (n + m)) = true := by rw [beq_iff_eq]; exact Tk.dbl_twice hn0 hm0
  have d1 : ∀ W, Calls Try.prog 27 #[.int .u64 a, .int .i64 1] W fun e w' => e = .returned (.int .u64 (Tk.add a a)) ∧ W = w' := fun W => tDbl a 1 ha W
  have d0 : ∀ W, Calls Try.prog 27 #[.int .u64 a, .int .i64 0] W fun e w' => e = .returned (.int .u64 a) ∧ W = w' := fun W => tDbl a 0 ha W
  have D1 := Lib.hid d1
  have D0 := Lib.hid d0
  clear d1 d0
  go_enter Try.func10, Try.ntmps10
  go_wp2_with fail
  refine (sane_any _).mono ?_; rintro e w' ⟨rfl, rfl⟩
  go_wp2_with fail
  refine (tDbl a n ha _).mono ?_; rintro e w' ⟨rfl, rfl⟩
  go_wp2_with fail
  refine (tDbl _ m u1 _).mono ?_; rintro e w' ⟨rfl, rfl⟩
  go_wp2_with fail
  refine (tDbl a (n + m) ha _).mono ?_; rintro e w' ⟨rfl, rfl⟩
  go_wp2_with fail
  refine (D1.out _).mono ?_; rintro e w' ⟨rfl, rfl⟩
  go_wp2_with fail
  refine (tAdd a a ha ha _).mono ?_; rintro e w' ⟨rfl, rfl⟩
  go_wp2_with fail
  refine (D0.out _).mono ?_; rintro e w' ⟨rfl, rfl⟩
  go_wp2_with fail
  go_ret
  exact ⟨rfl, rfl⟩

set_option maxHeartbeats 2000000 in
theorem grows_any (base limit n jitter more k : Int) (hb : Tk.U base) (hl : Tk.U limit) (hn0 : -9223372036854775808 ≤ n) (hn : n ≤ 9223372036854775807) (hj : Tk.U jitter) (hm : Tk.U more) (hk0 : 0 ≤ k) (hk : k ≤ 255) (w : World) :
    Calls Try.prog 9 #[.int .u64 base, .int .u64 limit, .int .i64 n, .int .u64 jitter, .int .u64 more, .int .u8 k] w fun e w' => e = .returned (.bool true) ∧ w = w' := by
  have m1 : n.tmod 100 ≤ 99 := by have := Int.tmod_lt_of_pos n (show (0 : Int) < 100 by omega); omega
  have m0 : -99 ≤ n.tmod 100 := by
    by_cases h : 0 ≤ n
    · rw [Int.tmod_eq_emod_of_nonneg h]; omega
    · have e := Int.neg_tmod (-n) 100
      rw [Int.neg_neg, Int.tmod_eq_emod_of_nonneg (show 0 ≤ -n by omega)] at e
      omega
  have g1 : Tk.delay base limit (n.tmod 100) jitter ≤ Tk.delay (Tk.add base more) limit (n.tmod 100) jitter := Tk.delay_mono hb (Tk.le_add hb hm).1 (Int.le_refl _) (Int.le_refl _) (Int.le_refl _)
  have g2 : Tk.delay base limit (n.tmod 100) jitter ≤ Tk.delay base (Tk.add limit more) (n.tmod 100) jitter := Tk.delay_mono hb (Int.le_refl _) (Tk.le_add hl hm).1 (Int.le_refl _) (Int.le_refl _)
  have g3 : Tk.delay base limit (n.tmod 100) jitter ≤ Tk.delay base limit (n.tmod 100 + k) jitter := Tk.delay_mono hb (Int.le_refl _) (Int.le_refl _) (by omega) (Int.le_refl _)
  have g4 : Tk.delay base limit (n.tmod 100) jitter ≤ Tk.delay base limit (n.tmod 100) (Tk.add jitter more) := Tk.delay_mono hb (Int.le_refl _) (Int.le_refl _) (Int.le_refl _) (Tk.le_add hj hm).1
  obtain ⟨g5, g6⟩ := Tk.delay_least (n := n.tmod 100) hb hl hj
  have uB := Tk.U_add hb hm
  have uL := Tk.U_add hl hm
  have uJ := Tk.U_add hj hm
  by_cases hc : Tk.dbl base (n.tmod 100) < limit
  · go_enter Try.func9, Try.ntmps9
    go_wp2_with fail
    refine (sane_any _).mono ?_; rintro e w' ⟨rfl, rfl⟩
    go_wp2_with fail
    refine (tDelay base limit _ jitter hb hl hj _).mono ?_; rintro e w' ⟨rfl, rfl⟩
    go_wp2_with fail
    refine (rAdd base more hb hm _).mono ?_; rintro e w' ⟨rfl, rfl⟩
    go_wp2_with fail
    refine (tDelay _ limit _ jitter uB hl hj _).mono ?_; rintro e w' ⟨rfl, rfl⟩
    go_wp2_with fail
    refine (rAdd limit more hl hm _).mono ?_; rintro e w' ⟨rfl, rfl⟩
    go_wp2_with fail
    refine (tDelay base _ _ jitter hb uL hj _).mono ?_; rintro e w' ⟨rfl, rfl⟩
    go_wp2_with fail
    refine (tDelay base limit _ jitter hb hl hj _).mono ?_; rintro e w' ⟨rfl, rfl⟩
    go_wp2_with fail
    refine (rAdd jitter more hj hm _).mono ?_; rintro e w' ⟨rfl, rfl⟩
    go_wp2_with fail
    refine (tDelay base limit _ _ hb hl uJ _).mono ?_; rintro e w' ⟨rfl, rfl⟩
    go_wp2_with fail
    refine (tDbl base _ hb _).mono ?_; rintro e w' ⟨rfl, rfl⟩
    go_wp2_with fail
    go_ret
    exact ⟨rfl, rfl⟩
  · have g7 : (Tk.delay base limit (n.tmod 100 + k) jitter == Tk.add limit jitter) = true := by rw [beq_iff_eq]; exact Tk.delay_full hb (by omega) hc
    go_enter Try.func9, Try.ntmps9
    go_wp2_with fail
    refine (sane_any _).mono ?_; rintro e w' ⟨rfl, rfl⟩
    go_wp2_with fail
    refine (tDelay base limit _ jitter hb hl hj _).mono ?_; rintro e w' ⟨rfl, rfl⟩
    go_wp2_with fail
    refine (rAdd base more hb hm _).mono ?_; rintro e w' ⟨rfl, rfl⟩
    go_wp2_with fail
    refine (tDelay _ limit _ jitter uB hl hj _).mono ?_; rintro e w' ⟨rfl, rfl⟩
    go_wp2_with fail
    refine (rAdd limit more hl hm _).mono ?_; rintro e w' ⟨rfl, rfl⟩
    go_wp2_with fail
    refine (tDelay base _ _ jitter hb uL hj _).mono ?_; rintro e w' ⟨rfl, rfl⟩
    go_wp2_with fail
    refine (tDelay base limit _ jitter hb hl hj _).mono ?_; rintro e w' ⟨rfl, rfl⟩
    go_wp2_with fail
    refine (rAdd jitter more hj hm _).mono ?_; rintro e w' ⟨rfl, rfl⟩
    go_wp2_with fail
    refine (tDelay base limit _ _ hb hl uJ _).mono ?_; rintro e w' ⟨rfl, rfl⟩
    go_wp2_with fail
    refine (tDbl base _ hb _).mono ?_; rintro e w' ⟨rfl, rfl⟩
    go_wp2_with fail
    refine (tDelay base limit _ jitter hb hl hj _).mono ?_; rintro e w' ⟨rfl, rfl⟩
    go_wp2_with fail
    refine (rAdd limit jitter hl hj _).mono ?_; rintro e w' ⟨rfl, rfl⟩
    go_wp2_with fail
    go_ret
    exact ⟨rfl, rfl⟩
end Go.Proofs.Ytfejefndcckdbaa
