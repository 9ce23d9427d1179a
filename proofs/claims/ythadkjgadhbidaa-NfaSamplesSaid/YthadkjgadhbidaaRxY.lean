/-
  The walks of the reference's mark, only, Kids, shifted, leaf, named.
-/
import Derived.Test.YthadkjgadhbidaaRxX
namespace Go.Proofs.Ythadkjgadhbidaa
open Go.RowKit
set_option linter.unusedVariables false

set_option maxHeartbeats 4000000 in
set_option maxRecDepth 100000 in
theorem markC (b : Nat) (hb : b < 256) (w : World) : Calls Try.prog 105 #[.int .u8 b] w (ValOld (.bool (markB b)) w) := by
  have hc : (b < 33 ∧ markB b = false) ∨ (33 ≤ b ∧ b ≤ 47 ∧ markB b = true) ∨ (48 ≤ b ∧ b ≤ 57 ∧ markB b = false) ∨ (58 ≤ b ∧ b ≤ 64 ∧ markB b = true) ∨ (65 ≤ b ∧ b ≤ 90 ∧ markB b = false) ∨ (91 ≤ b ∧ b ≤ 96 ∧ markB b = true) ∨
      (97 ≤ b ∧ b ≤ 122 ∧ markB b = false) ∨ (123 ≤ b ∧ b ≤ 126 ∧ markB b = true) ∨ (127 ≤ b ∧ markB b = false) := by
    have : ∀ c : Fin 256, (c.val < 33 ∧ markB c.val = false) ∨ (33 ≤ c.val ∧ c.val ≤ 47 ∧ markB c.val = true) ∨ (48 ≤ c.val ∧ c.val ≤ 57 ∧ markB c.val = false) ∨ (58 ≤ c.val ∧ c.val ≤ 64 ∧ markB c.val = true) ∨ (65 ≤ c.val ∧ c.val ≤ 90 ∧ markB c.val = false) ∨ (91 ≤ c.val ∧ c.val ≤ 96 ∧ markB c.val = true) ∨
      (97 ≤ c.val ∧ c.val ≤ 122 ∧ markB c.val = false) ∨ (123 ≤ c.val ∧ c.val ≤ 126 ∧ markB c.val = true) ∨ (127 ≤ c.val ∧ markB c.val = false) := by decide +kernel
    exact this ⟨b, hb⟩
  have z0 : (0 : Int) ≤ b := by omega
  have z1 : (b : Int) ≤ 255 := by omega
  rcases hc with ⟨l2, hm⟩ | ⟨l1, l2, hm⟩ | ⟨l1, l2, hm⟩ | ⟨l1, l2, hm⟩ | ⟨l1, l2, hm⟩ | ⟨l1, l2, hm⟩ | ⟨l1, l2, hm⟩ | ⟨l1, l2, hm⟩ | ⟨l1, hm⟩
  all_goals
    rw [hm]
    clear hm
    try have m1 : (33 : Int) ≤ b := by omega
    try have m1' : (b : Int) < 33 := by omega
    try have m2 : (b : Int) ≤ 47 := by omega
    try have m2' : (47 : Int) < b := by omega
    try have m3 : (58 : Int) ≤ b := by omega
    try have m3' : (b : Int) < 58 := by omega
    try have m4 : (b : Int) ≤ 64 := by omega
    try have m4' : (64 : Int) < b := by omega
    try have m5 : (91 : Int) ≤ b := by omega
    try have m5' : (b : Int) < 91 := by omega
    try have m6 : (b : Int) ≤ 96 := by omega
    try have m6' : (96 : Int) < b := by omega
    try have m7 : (123 : Int) ≤ b := by omega
    try have m7' : (b : Int) < 123 := by omega
    try have m8 : (b : Int) ≤ 126 := by omega
    try have m8' : (126 : Int) < b := by omega
    go_enter Try.func105, Try.ntmps105
    go_wp2_with fail
    go_ret
    first | exact ⟨rfl, Old.refl w⟩ | exact ⟨ret_bool' (by simp; omega), Old.refl w⟩

theorem onlyFrom_step (s : BSet) (k : Nat) (hk : k < 256) : onlyFrom s (256 - k) k = if hasB s k = true then k else onlyFrom s (256 - (k + 1)) (k + 1) := by
  rw [show 256 - k = (256 - (k + 1)) + 1 by omega, onlyFrom]
theorem onlyFrom_le (s : BSet) : ∀ f b, f + b ≤ 256 → onlyFrom s f b < 256
  | 0, b, h => by simp [onlyFrom]
  | f + 1, b, h => by
    rw [onlyFrom]
    split
    · omega
    · exact onlyFrom_le s f (b + 1) (by omega)
theorem onlyB_lt (s : BSet) : onlyB s < 256 := onlyFrom_le s 256 0 (by omega)
set_option maxHeartbeats 1000000 in
set_option maxRecDepth 100000 in
theorem onlyC (s : BSet) (w : World) : Calls Try.prog 107 #[setA s] w (ValOld (.int .i64 (onlyB s)) w) := by
  have hH := Lib.hid (fun b hb w => hasC s b hb w)
  have OW := Lib.hid ((Old.refl w).alloc (.cells #[.int .u64 (setW s 0), .int .u64 (setW s 1), .int .u64 (setW s 2), .int .u64 (setW s 3)] 40))
  have HG : Hid ((w.alloc (.cells #[.int .u64 (setW s 0), .int .u64 (setW s 1), .int .u64 (setW s 2), .int .u64 (setW s 3)] 40)).heap[w.heap.size]? = some (setC s)) := Lib.hid (heap_alloc_new w _)
  unfold setA
  go_enter Try.func107, Try.ntmps107
  go_wp2_with fail
  go_loopw [3] (fun ix wr => ∃ k : Nat, ix = .int .i64 k ∧ k ≤ 256 ∧ Hid (onlyB s = onlyFrom s (256 - k) k) ∧ Hid (wr.heap[w.heap.size]? = some (setC s)) ∧ Hid (Old w wr)) (fun ix _ => 256 - (intOf ix).toNat)
  case atStart => exact ⟨0, rfl, Nat.zero_le _, rfl, HG, OW⟩
  case round =>
    obtain ⟨k, rfl, hk, HE, HB, HO⟩ := hrel
    obtain ⟨c0, c1, c2, c3, f0, f1, f2, f3⟩ := setC_cells HB.out
    by_cases hlt : k < 256
    · have k0 : (0 : Int) ≤ k := by omega
      have k1 : (k : Int) ≤ 255 := by omega
      have hst := onlyFrom_step s k hlt
      have hC := hH.out k hlt wr
      unfold setA at hC
      cases hh : hasB s k with
      | true =>
        rw [hh] at hC hst
        rw [if_pos rfl] at hst
        have HC := Lib.hid hC
        have HS := Lib.hid hst
        clear hC hst hh
        go_wp2_with fail
        refine HC.out.mono ?_
        rintro e w2 ⟨rfl, ho2⟩
        go_wp2_with fail
        go_ret
        rw [HE.out, HS.out]
        exact ⟨rfl, HO.out.up ho2⟩
      | false =>
        rw [hh] at hC hst
        rw [if_neg (by decide)] at hst
        have HC := Lib.hid hC
        have HS := Lib.hid hst
        clear hC hst hh
        go_wp2_with fail
        refine HC.out.mono ?_
        rintro e w2 ⟨rfl, ho2⟩
        have HB2 := Lib.hid (ho2.block HB.out)
        have HO2 := Lib.hid (HO.out.up ho2)
        clear ho2
        go_wp2_with fail
        go_roundw
        case rel => exact ⟨k + 1, by go_num, by omega, by rw [HE.out, HS.out]; rfl, HB2, HO2⟩
        case measure => simp [intOf]; omega
    · obtain rfl : k = 256 := by omega
      go_wp2_with fail
      go_ret
      rw [HE.out]
      exact ⟨rfl, HO.out⟩
def ValSame (v : Value) (w : World) (e : Ending) (w' : World) : Prop := e = .returned v ∧ w = w'
set_option maxRecDepth 100000 in
theorem kidsC (k : Int) (w : World) : Calls Try.prog 68 #[.int .i64 k] w (ValSame (.int .i64 (kidsN k)) w) := by
  have hk : k = 3 ∨ k = 4 ∨ k = 5 ∨ k = 6 ∨ k = 7 ∨ (k ≠ 3 ∧ k ≠ 4 ∧ k ≠ 5 ∧ k ≠ 6 ∧ k ≠ 7) := by omega
  rcases hk with rfl | rfl | rfl | rfl | rfl | ⟨n3, n4, n5, n6, n7⟩
  case inr.inr.inr.inr.inr =>
    have e : kidsN k = 0 := by unfold kidsN; rw [if_neg (by omega), if_neg (by omega)]
    rw [e]
    have b3 : (k == 3) = false := by simpa using n3
    have b4 : (k == 4) = false := by simpa using n4
    have b5 : (k == 5) = false := by simpa using n5
    have b6 : (k == 6) = false := by simpa using n6
    have b7 : (k == 7) = false := by simpa using n7
    clear e n3 n4 n5 n6 n7
    go_enter Try.func68, Try.ntmps68
    go_wp2_with fail
    go_ret
    exact ⟨rfl, rfl⟩
  all_goals
    go_enter Try.func68, Try.ntmps68
    go_wp2_with fail
    go_ret
    exact ⟨rfl, rfl⟩
set_option maxRecDepth 100000 in
theorem shiftC (k d p n : Int) (w : World) (hp : -1000000000 ≤ p ∧ p ≤ 1000000000000) (hn : 0 ≤ n ∧ n ≤ 1000000000000) : Calls Try.prog 86 #[.int .i64 k, .int .i64 d, .int .i64 p, .int .i64 n] w (ValSame (.int .i64 (shiftN k d p n)) w) := by
  have HK := Lib.hid (fun w => kidsC k w)
  obtain ⟨p1, p2⟩ := hp
  obtain ⟨n1, n2⟩ := hn
  by_cases h : d < kidsN k
  · have e : shiftN k d p n = p + n := if_pos h
    rw [e]
    have HE := Lib.hid e
    clear e
    generalize kidsN k = q at *
    go_enter Try.func86, Try.ntmps86
    go_wp2_with fail
    refine (HK.out _).mono ?_; rintro e w' ⟨rfl, rfl⟩
    go_wp2_with fail
    go_ret
    exact ⟨rfl, rfl⟩
  · have e : shiftN k d p n = 0 := if_neg h
    rw [e]
    have HE := Lib.hid e
    clear e
    generalize kidsN k = q at *
    go_enter Try.func86, Try.ntmps86
    go_wp2_with fail
    refine (HK.out _).mono ?_; rintro e w' ⟨rfl, rfl⟩
    go_wp2_with fail
    go_ret
    exact ⟨rfl, rfl⟩
end Go.Proofs.Ythadkjgadhbidaa
