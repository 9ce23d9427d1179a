/-
  The search's other (nfa): the least byte of a set that is no line feed.
-/
import Derived.Test.YthadkjgadhbidaaNrT
import Derived.IntWalk
namespace Go.Proofs.Ythadkjgadhbidaa
open Go.RowKit
set_option linter.unusedVariables false

def OtherR (s : BSet) (r : Int) : Prop := (r = -1 ∧ ∀ c, c < 256 → c ≠ 10 → hasB s c = false) ∨ ∃ c : Nat, r = c ∧ c < 256 ∧ c ≠ 10 ∧ hasB s c = true
def OtRel (s : BSet) (w1 : World) (v : Value) (wr : World) : Prop := ∃ k : Nat, v = .int .i64 k ∧ k ≤ 256 ∧ Hid (∀ c, c < k → c ≠ 10 → hasB s c = false) ∧ Hid (Old w1 wr)
set_option maxHeartbeats 2000000 in
set_option maxRecDepth 100000 in
theorem sotherC (s : BSet) (w : World) : Calls Try.prog 73 #[setA s] w fun e w' => ∃ r, e = .returned (.int .i64 r) ∧ OtherR s r ∧ Old w w' := by
  have hb := heap_alloc_new w (setC s)
  have ho := (Old.refl w).alloc (setC s)
  have HPO : Hid (∀ r w', OtherR s r → Old w w' → ∃ r', Ending.returned (.int .i64 r) = .returned (.int .i64 r') ∧ OtherR s r' ∧ Old w w') := Lib.hid (fun r w' h1 h2 => ⟨r, rfl, h1, h2⟩)
  unfold setA
  unfold setC at hb ho
  go_enter Try.func73, Try.ntmps73
  go_upto_region 1 with fail
  generalize w.alloc (.cells #[.int .u64 (setW s 0), .int .u64 (setW s 1), .int .u64 (setW s 2), .int .u64 (setW s 3)] 40) = w1 at *
  generalize w.heap.size = kb at *
  have HB : Hid (w1.heap[kb]? = some (setC s)) := Lib.hid hb
  have HO := Lib.hid ho
  clear hb ho
  go_wp2_with fail
  go_loopw [4] (fun s4 wr => OtRel s w1 s4 wr) (fun s4 _ => 256 - (intOf s4).toNat)
  case atStart => exact ⟨0, rfl, by omega, Lib.hid (fun c hc => by omega), Lib.hid (Old.refl _)⟩
  case round =>
    obtain ⟨k, rfl, hk, HN, HR⟩ := hrel
    obtain ⟨c0, c1, c2, c3, _⟩ := setC_cells (HR.out.block HB.out)
    by_cases hlt : k < 256
    · have i1 : (k : Int) < 256 := by omega
      have i0 : (0 : Int) ≤ (k : Int) := by omega
      by_cases h10 : k = 10
      · subst h10
        have HW : Hid (OtRel s w1 (.int .i64 ((11 : Nat) : Int)) wr) := Lib.hid ⟨11, rfl, by omega, Lib.hid (fun c hc hne => HN.out c (by omega) hne), HR⟩
        clear HN
        go_wp2_with fail
        go_roundw
        case rel => exact HW.out
        case measure => simp [intOf]
      · have b10 : ((k : Int) != 10) = true := by simp; omega
        have hw8 : IntKind.u8.wrap (k : Int) = (k : Int) := IntWalk.u8_in _ (by omega)
        have hcn := nhasC s k hlt wr
        unfold setA at hcn
        have HC := Lib.hid hcn
        clear hcn
        cases hh : hasB s k with
        | true =>
          rw [hh] at HC
          have HR2 : Hid (OtherR s (k : Int)) := Lib.hid (Or.inr ⟨k, rfl, hlt, h10, hh⟩)
          clear hh h10 HN
          go_wp2_with fail
          refine (HC.out).mono ?_; rintro e w2 ⟨rfl, hd2⟩
          have HX := Lib.hid (HPO.out _ w2 HR2.out (HO.out.up (HR.out.up hd2)))
          clear hd2 HC HPO HR2
          go_wp2_with fail
          go_ret
          exact HX.out
        | false =>
          rw [hh] at HC
          have HHH := Lib.hid hh
          clear hh
          go_wp2_with fail
          refine (HC.out).mono ?_; rintro e w2 ⟨rfl, hd2⟩
          have HW : Hid (OtRel s w1 (.int .i64 ((k + 1 : Nat) : Int)) w2) := Lib.hid ⟨k + 1, rfl, by omega, Lib.hid (fun c hc hne => by
            by_cases e : c = k
            · subst e; exact HHH.out
            · exact HN.out c (by omega) hne), Lib.hid (HR.out.up hd2)⟩
          clear hd2 HC HN
          go_wp2_with fail
          go_roundw
          case rel => exact HW.out
          case measure => simp [intOf]; omega
    · obtain rfl : k = 256 := by omega
      have HX := Lib.hid (HPO.out (-1) wr (Or.inl ⟨rfl, HN.out⟩) (HO.out.up HR.out))
      clear HPO HN
      go_wp2_with fail
      go_ret
      exact HX.out
end Go.Proofs.Ythadkjgadhbidaa
