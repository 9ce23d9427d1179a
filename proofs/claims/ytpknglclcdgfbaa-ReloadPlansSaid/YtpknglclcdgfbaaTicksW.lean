/-
  The walks of package ticks and of its reference: each call returns what the plain functions of TicksP say, and leaves the world as it was. Arguments: numbers of their kinds.
-/
import Derived.Test.YtpknglclcdgfbaaShelf
import Derived.Test.YtpknglclcdgfbaaTicksP
import Derived.WalkKit
import Derived.WalkSpells
import Derived.Lib.Hide
import Derived.WalkLawsBesides
import Derived.Deep.QuietTactic
import Derived.BigQuiet
import Derived.Shelf.Spec.BitsCarry
namespace Go.Proofs.Ytpknglclcdgfbaa
open Go.RowKit Go.Shelf

/-! ### math/bits.Add64, Sub64: laws of the call -/
theorem run_add64_0 (x y : Int) (hx : 0 ≤ x) (hy : 0 ≤ y) (w : World) : (callFunc 58 #[.int .u64 x, .int .u64 y, .int .u64 0]).run Try.prog w =
    .ok (.value (.tuple #[.int .u64 ((x + y) % 18446744073709551616), .int .u64 ((x + y) / 18446744073709551616)])) w := by
  rw [run_callFunc_extern Try.func58 (by kernel_rfl) (by kernel_rfl) (by kernel_rfl) (e := add64Entry) (by kernel_rfl), run_add64 x y 0 hx hy (by omega) (by omega)]
  simp [Result.andThen]
theorem run_sub64_0 (x y : Int) (hx : 0 ≤ x) (hy : 0 ≤ y) (hy' : y < 18446744073709551616) (w : World) : (callFunc 70 #[.int .u64 x, .int .u64 y, .int .u64 0]).run Try.prog w =
    .ok (.value (.tuple #[.int .u64 ((x - y) % 18446744073709551616), .int .u64 (if x < y then 1 else 0)])) w := by
  obtain ⟨x, rfl⟩ := Int.eq_ofNat_of_zero_le hx
  obtain ⟨y, rfl⟩ := Int.eq_ofNat_of_zero_le hy
  have e1 : (((x + 18446744073709551616 - y - 0) % 18446744073709551616 : Nat) : Int) = ((x : Int) - y) % 18446744073709551616 := by omega
  have e2 : ((if x < y + 0 then 1 else 0 : Nat) : Int) = if (x : Int) < y then 1 else 0 := by split <;> split <;> omega
  have h := @run_sub64 Try.prog x y 0 (by omega) w
  rw [e1, e2] at h
  rw [run_callFunc_extern Try.func70 (by kernel_rfl) (by kernel_rfl) (by kernel_rfl) (e := sub64Entry) (by kernel_rfl)]
  exact (congrArg (fun r => r.andThen fun v w' => .ok (Next.value v) w') h)


/-! ### ticks.Add, Sub and the reference's -/
theorem ret_u64 {a b : Int} (h : a = b) : Ending.returned (.int .u64 a) = .returned (.int .u64 b) := by rw [h]

theorem tAdd (a b : Int) (ha : Tk.U a) (hb : Tk.U b) (w : World) :
    Calls Try.prog 72 #[.int .u64 a, .int .u64 b] w fun e w' => e = .returned (.int .u64 (Tk.add a b)) ∧ w = w' := by
  obtain ⟨a0, a1⟩ := ha; obtain ⟨b0, b1⟩ := hb
  have hs : ∀ W, _ := run_add64_0 a b a0 b0
  unfold Tk.add
  by_cases h : a + b ≤ 18446744073709551615
  · have h1 : (a + b) / 18446744073709551616 = 0 := by omega
    have h2 : (a + b) % 18446744073709551616 = a + b := by omega
    simp only [h1, h2] at hs
    rw [if_pos h]
    clear h1 h2
    go_enter Try.func72, Try.ntmps72
    go_wp2
    go_ret
    exact ⟨rfl, rfl⟩
  · have h1 : (a + b) / 18446744073709551616 = 1 := by omega
    simp only [h1] at hs
    rw [if_neg h]
    clear h1
    go_enter Try.func72, Try.ntmps72
    go_wp2
    go_ret
    exact ⟨rfl, rfl⟩

theorem rAdd (a b : Int) (ha : Tk.U a) (hb : Tk.U b) (w : World) :
    Calls Try.prog 26 #[.int .u64 a, .int .u64 b] w fun e w' => e = .returned (.int .u64 (Tk.add a b)) ∧ w = w' := by
  obtain ⟨a0, a1⟩ := ha; obtain ⟨b0, b1⟩ := hb
  have hs : ∀ W, _ := run_add64_0 a b a0 b0
  unfold Tk.add
  by_cases h : a + b ≤ 18446744073709551615
  · have h1 : (a + b) / 18446744073709551616 = 0 := by omega
    have h2 : (a + b) % 18446744073709551616 = a + b := by omega
    simp only [h1, h2] at hs
    rw [if_pos h]
    clear h1 h2
    go_enter Try.func26, Try.ntmps26
    go_wp2
    go_ret
    exact ⟨rfl, rfl⟩
  · have h1 : (a + b) / 18446744073709551616 = 1 := by omega
    simp only [h1] at hs
    rw [if_neg h]
    clear h1
    go_enter Try.func26, Try.ntmps26
    go_wp2
    go_ret
    exact ⟨rfl, rfl⟩

theorem tSub (a b : Int) (ha : Tk.U a) (hb : Tk.U b) (w : World) :
    Calls Try.prog 54 #[.int .u64 a, .int .u64 b] w fun e w' => e = .returned (.int .u64 (Tk.sub a b)) ∧ w = w' := by
  obtain ⟨a0, a1⟩ := ha; obtain ⟨b0, b1⟩ := hb
  have hs : ∀ W, _ := run_sub64_0 a b a0 b0 (by omega)
  unfold Tk.sub
  by_cases h : a < b
  · simp only [if_pos h] at hs
    rw [if_pos h]
    clear h
    go_enter Try.func54, Try.ntmps54
    go_wp2
    go_ret
    exact ⟨rfl, rfl⟩
  · have h2 : (a - b) % 18446744073709551616 = a - b := by omega
    simp only [if_neg h, h2] at hs
    rw [if_neg h]
    clear h h2
    go_enter Try.func54, Try.ntmps54
    go_wp2
    go_ret
    exact ⟨rfl, rfl⟩

theorem rSub (a b : Int) (ha : Tk.U a) (hb : Tk.U b) (w : World) :
    Calls Try.prog 84 #[.int .u64 a, .int .u64 b] w fun e w' => e = .returned (.int .u64 (Tk.sub a b)) ∧ w = w' := by
  obtain ⟨a0, a1⟩ := ha; obtain ⟨b0, b1⟩ := hb
  have e : Tk.sub a b = a - min a b := by unfold Tk.sub; split <;> omega
  rw [e]
  clear e
  go_enter Try.func84, Try.ntmps84
  go_wp2
  go_ret
  exact ⟨rfl, rfl⟩

/-! ### Double -/
theorem wrap_fit {x : Int} (h : Tk.U x) : IntKind.u64.wrap x = x := by
  obtain ⟨h0, h1⟩ := h
  simp [IntKind.wrap, IntKind.signed, IntKind.bits]; omega
theorem tDbl (a n : Int) (ha : Tk.U a) (w : World) :
    Calls Try.prog 81 #[.int .u64 a, .int .i64 n] w fun e w' => e = .returned (.int .u64 (Tk.dbl a n)) ∧ w = w' := by
  obtain ⟨a0, a1⟩ := ha
  by_cases h0 : a = 0
  · subst h0
    rw [Tk.dbl_zero]
    go_enter Try.func81, Try.ntmps81
    go_wp2
    go_ret
    exact ⟨rfl, rfl⟩
  · by_cases h1 : n ≤ 0
    · rw [Tk.dbl_low h1]
      go_enter Try.func81, Try.ntmps81
      go_wp2
      go_ret
      exact ⟨rfl, rfl⟩
    · go_enter Try.func81, Try.ntmps81
      go_wp2_with (go_at_call 87; refine (Try.bits_LeadingZeros64 a _ a0 a1).mono ?_; rintro e w' ⟨rfl, rfl⟩)
      · have hd := Tk.dbl_big ⟨a0, a1⟩ h0 (by assumption)
        go_ret
        exact ⟨ret_u64 hd.symm, rfl⟩
      · obtain ⟨hd, hu⟩ := Tk.dbl_fit ⟨a0, a1⟩ h0 (by omega) (by assumption)
        go_ret
        exact ⟨ret_u64 ((wrap_fit hu).trans hd), rfl⟩

theorem rDbl (a n : Int) (ha : Tk.U a) (hn : n ≤ 9223372036854775807) (w : World) :
    Calls Try.prog 59 #[.int .u64 a, .int .i64 n] w fun e w' => e = .returned (.int .u64 (Tk.dbl a n)) ∧ w = w' := by
  go_enter Try.func59, Try.ntmps59
  go_wp2
  go_loop [0, 5] (fun x i => ∃ k : Nat, (k : Int) ≤ max n 0 ∧ i = .int .i64 k ∧ x = .int .u64 (Tk.dblN k a)) (fun _ i => (max n 0 - intOf i).toNat)
  case atStart => exact ⟨0, by omega, rfl, rfl⟩
  case round =>
    obtain ⟨k, hk, rfl, rfl⟩ := hrel
    have hu := Tk.U_dblN k ha
    have hs := Lib.hid (Tk.dblN_succ k a)
    have e0 := Lib.hid (fun h => (Tk.dbl_end0 (a := a) (n := n) k hk h))
    have eM := Lib.hid (fun h => (Tk.dbl_endM (a := a) (n := n) k hk h))
    have eE := Lib.hid (fun h => (Tk.dbl_end (a := a) (n := n) k hk h))
    generalize Tk.dblN k a = x at *
    by_cases hlt : (k : Int) < n
    · by_cases h0 : x = 0
      · obtain rfl := h0
        go_wp2
        go_ret
        exact ⟨ret_u64 (e0.out (by trivial)).symm, rfl⟩
      · by_cases hm : x = 18446744073709551615
        · obtain rfl := hm
          go_wp2
          go_ret
          exact ⟨ret_u64 (eM.out (by trivial)).symm, rfl⟩
        · go_wp2_with (go_at_call 26; refine (rAdd x x hu hu _).mono ?_; rintro e w' ⟨rfl, rfl⟩)
          go_round
          case rel => exact ⟨k + 1, by omega, by go_num, by rw [hs.out]⟩
          case measure => simp [intOf]; omega
    · go_wp2
      go_ret
      exact ⟨ret_u64 (eE.out hlt), rfl⟩

/-! ### Delay -/
theorem U_low_min {a b : Int} : Tk.low a b = min a b := by unfold Tk.low; split <;> omega
theorem tDelay (base limit n jitter : Int) (hb : Tk.U base) (hl : Tk.U limit) (hj : Tk.U jitter) (w : World) :
    Calls Try.prog 73 #[.int .u64 base, .int .u64 limit, .int .i64 n, .int .u64 jitter] w fun e w' => e = .returned (.int .u64 (Tk.delay base limit n jitter)) ∧ w = w' := by
  unfold Tk.delay
  have hd := Tk.U_dbl n hb
  have hc : ∀ W, Calls Try.prog 81 _ W _ := fun W => tDbl base n hb W
  generalize Tk.dbl base n = d at *
  have hw := Tk.U_low hl hd
  rw [U_low_min] at *
  go_enter Try.func73, Try.ntmps73
  go_wp2_with (first | (go_at_call 81; refine (hc _).mono ?_; rintro e w' ⟨rfl, rfl⟩) | (go_at_call 72; refine (tAdd _ _ hw hj _).mono ?_; rintro e w' ⟨rfl, rfl⟩))
  go_ret
  exact ⟨rfl, rfl⟩
theorem rDelay (base limit n jitter : Int) (hb : Tk.U base) (hl : Tk.U limit) (hj : Tk.U jitter) (hn : n ≤ 9223372036854775807) (w : World) :
    Calls Try.prog 27 #[.int .u64 base, .int .u64 limit, .int .i64 n, .int .u64 jitter] w fun e w' => e = .returned (.int .u64 (Tk.delay base limit n jitter)) ∧ w = w' := by
  unfold Tk.delay
  have hd := Tk.U_dbl n hb
  have hc : ∀ W, Calls Try.prog 59 _ W _ := fun W => rDbl base n hb hn W
  generalize Tk.dbl base n = d at *
  have hw := Tk.U_low hl hd
  rw [U_low_min] at *
  go_enter Try.func27, Try.ntmps27
  go_wp2_with (first | (go_at_call 59; refine (hc _).mono ?_; rintro e w' ⟨rfl, rfl⟩) | (go_at_call 26; refine (rAdd _ _ hw hj _).mono ?_; rintro e w' ⟨rfl, rfl⟩))
  go_ret
  exact ⟨rfl, rfl⟩
end Go.Proofs.Ytpknglclcdgfbaa
