/-
  The reference's least: the least byte of a set that ends no line; whether the line feed is in it.
-/
import Derived.Test.YthadkjgadhbidaaSqP
import Derived.Test.YthadkjgadhbidaaSpO
namespace Go.Proofs.Ythadkjgadhbidaa
open Go.RowKit
set_option linter.unusedVariables false

def LeRel (s : BSet) (w1 : World) (v : Value) (wr : World) : Prop := ∃ k : Nat, v = .int .i64 k ∧ k ≤ 256 ∧ Hid (leastM s = leastF s (256 - k) k) ∧ Hid (Old w1 wr)
theorem leastF_step {s k : Nat} (hk : k < 256) : leastF s (256 - k) k = if k ≠ 10 ∧ hasB s k = true then some k else leastF s (256 - (k + 1)) (k + 1) := by
  rw [show 256 - k = (256 - (k + 1)) + 1 by omega, leastF]
set_option maxHeartbeats 2000000 in
set_option maxRecDepth 100000 in
theorem rleastC (s : BSet) (w : World) : Calls Try.prog 74 #[setA s, .bool false] w fun e w' => e = .returned (.tuple #[.int .u8 (((leastM s).getD 0 : Nat) : Int), .bool (leastM s).isSome]) ∧ Old w w' := by
  have hb := heap_alloc_new w (setC s)
  have ho := (Old.refl w).alloc (setC s)
  have HPO : Hid (∀ r w', leastM s = r → Old w w' → Ending.returned (.tuple #[.int .u8 ((r.getD 0 : Nat) : Int), .bool r.isSome]) = .returned (.tuple #[.int .u8 (((leastM s).getD 0 : Nat) : Int), .bool (leastM s).isSome]) ∧ Old w w') := Lib.hid (fun r w' h1 h2 => ⟨by rw [h1], h2⟩)
  generalize (leastM s).isSome = q1 at *
  generalize (((leastM s).getD 0 : Nat) : Int) = q2 at *
  unfold setA
  unfold setC at hb ho
  go_enter Try.func74, Try.ntmps74
  go_upto_region 1 with fail
  generalize w.alloc (.cells #[.int .u64 (setW s 0), .int .u64 (setW s 1), .int .u64 (setW s 2), .int .u64 (setW s 3)] 40) = w1 at *
  generalize w.heap.size = kb at *
  have HB : Hid (w1.heap[kb]? = some (setC s)) := Lib.hid hb
  have HO := Lib.hid ho
  clear hb ho
  go_wp2_with fail
  go_loopw [6] (fun s4 wr => LeRel s w1 s4 wr) (fun s4 _ => 256 - (intOf s4).toNat)
  case atStart => exact ⟨0, rfl, by omega, Lib.hid rfl, Lib.hid (Old.refl _)⟩
  case round =>
    obtain ⟨k, rfl, hk, HN, HR⟩ := hrel
    obtain ⟨c0, c1, c2, c3, _⟩ := setC_cells (HR.out.block HB.out)
    by_cases hlt : k < 256
    · have i1 : (k : Int) < 256 := by omega
      have i0 : (0 : Int) ≤ (k : Int) := by omega
      have hn := HN.out
      rw [leastF_step hlt] at hn
      by_cases h10 : k = 10
      · rw [if_neg (fun h => h.1 h10)] at hn
        have HW : Hid (LeRel s w1 (.int .i64 ((k + 1 : Nat) : Int)) wr) := Lib.hid ⟨k + 1, rfl, by omega, Lib.hid hn, HR⟩
        clear HN hn
        subst h10
        go_wp2_with fail
        go_roundw
        case rel => exact HW.out
        case measure => simp [intOf]
      · have b10 : ((k : Int) != 10) = true := by simp; omega
        have hw8 : IntKind.u8.wrap (k : Int) = (k : Int) := IntWalk.u8_in _ (by omega)
        have hcn := hasC s k hlt wr
        unfold setA at hcn
        have HC := Lib.hid hcn
        clear hcn
        cases hh : hasB s k with
        | true =>
          rw [hh] at HC
          rw [if_pos ⟨h10, hh⟩] at hn
          have HNN := Lib.hid hn
          clear hh h10 HN hn
          go_wp2_with fail
          refine (HC.out).mono ?_; rintro e w2 ⟨rfl, hd2⟩
          have HX := Lib.hid (HPO.out _ w2 HNN.out (HO.out.up (HR.out.up hd2)))
          clear hd2 HC HPO HNN
          go_wp2_with fail
          go_ret2
          exact HX.out
        | false =>
          rw [hh] at HC
          rw [if_neg (fun h => by rw [hh] at h; cases h.2)] at hn
          have HNN := Lib.hid hn
          clear hh hn
          go_wp2_with fail
          refine (HC.out).mono ?_; rintro e w2 ⟨rfl, hd2⟩
          have HW : Hid (LeRel s w1 (.int .i64 ((k + 1 : Nat) : Int)) w2) := Lib.hid ⟨k + 1, rfl, by omega, HNN, Lib.hid (HR.out.up hd2)⟩
          clear hd2 HC HN HNN
          go_wp2_with fail
          go_roundw
          case rel => exact HW.out
          case measure => simp [intOf]; omega
    · obtain rfl : k = 256 := by omega
      have HX := Lib.hid (HPO.out none wr HN.out (HO.out.up HR.out))
      clear HPO HN
      go_wp2_with fail
      go_ret2
      exact HX.out
set_option maxHeartbeats 2000000 in
set_option maxRecDepth 100000 in
theorem rleastN (s : BSet) (w : World) : Calls Try.prog 74 #[setA s, .bool true] w fun e w' => e = .returned (.tuple #[.int .u8 10, .bool (hasB s 10)]) ∧ Old w w' := by
  have hb := heap_alloc_new w (setC s)
  have ho := (Old.refl w).alloc (setC s)
  have hcn := fun w' => hasC s 10 (by decide) w'
  unfold setA at hcn ⊢
  have HC := Lib.hid hcn
  clear hcn
  unfold setC at hb ho
  go_enter Try.func74, Try.ntmps74
  go_upto_region 1 with fail
  generalize w.alloc (.cells #[.int .u64 (setW s 0), .int .u64 (setW s 1), .int .u64 (setW s 2), .int .u64 (setW s 3)] 40) = w1 at *
  generalize w.heap.size = kb at *
  have HO := Lib.hid ho
  obtain ⟨c0, c1, c2, c3, _⟩ := setC_cells (s := s) hb
  clear hb ho
  go_wp2_with fail
  refine (HC.out _).mono ?_; rintro e w2 ⟨rfl, hd2⟩
  have HD := Lib.hid (HO.out.up hd2)
  clear hd2
  go_wp2_with fail
  go_ret2
  exact ⟨rfl, HD.out⟩
end Go.Proofs.Ythadkjgadhbidaa
