/-
  Helpers of the statements on lang: same, Patterns.
-/
import Derived.Test.YtaajgdhoffhdcaaLnF
import Derived.Test.YtaajgdhoffhdcaaMillC
import Derived.Test.YtaajgdhoffhdcaaRxQ
import Derived.Test.YtaajgdhoffhdcaaRxF
namespace Go.Proofs.Ytaajgdhoffhdcaa
open Go.RowKit
set_option linter.unusedVariables false

theorem int_bne (x y : Nat) : ((x : Int) != (y : Int)) = (x != y) := by
  rw [Bool.eq_iff_iff, bne_iff_ne, bne_iff_ne]; omega
def SameRel (w : World) (a b : List Nat) (ix : Value) (wr : World) : Prop :=
  ∃ k n : Nat, ix = .int .i64 k ∧ k ≤ a.length ∧ a.take k = b.take k ∧ wr = w.drewN n
set_option maxHeartbeats 2000000 in
set_option maxRecDepth 100000 in
theorem sameC (A : Option Addr) (ca : Nat) (a : List Nat) (B : Option Addr) (cb : Nat) (b : List Nat) (w : World) (hA : Rs w A (spz a)) (hB : Rs w B (spz b)) (ha : a.length ≤ maxLen) (hb : b.length ≤ maxLen) :
    Calls Try.prog 24 #[.slice A a.length ca, .slice B b.length cb] w (BDraw (decide (a = b)) w) := by
  unfold maxLen at ha hb
  by_cases hl : a.length = b.length
  · have HL := Lib.hid hl
    have hn : ((a.length : Int) != (b.length : Int)) = false := by rw [int_bne, hl]; simp
    have i9 : (a.length : Int) = (b.length : Int) := by omega
    rw [← hl]
    rw [← hl] at hn
    clear hl i9 hb
    go_enter Try.func24, Try.ntmps24
    go_wp2_with fail
    go_loopw [13] (fun s13 wr => SameRel w a b s13 wr) (fun s13 _ => a.length - (intOf s13).toNat)
    case atStart => exact ⟨0, 0, rfl, Nat.zero_le _, rfl, rfl⟩
    case round =>
      obtain ⟨k, n, rfl, hk, ht, rfl⟩ := hrel
      by_cases hlt : k < a.length
      · have hlb : k < b.length := by have := HL.out; omega
        obtain ⟨b1, o1, rfl, _, hc1⟩ := hA.at_ (by rw [spz_length]; omega)
        obtain ⟨b2, o2, rfl, _, hc2⟩ := hB.at_ (by rw [spz_length]; omega)
        have q1 := hc1 _ _ (spz_get a k hlt)
        have q2 := hc2 _ _ (spz_get b k hlb)
        clear hc1 hc2
        have HT := Lib.hid ht
        have hx : a[k]? = some (a.getD k 0) := by rw [List.getD_eq_getElem?_getD, List.getElem?_eq_getElem hlt]; rfl
        have hy : b[k]? = some (b.getD k 0) := by rw [List.getD_eq_getElem?_getD, List.getElem?_eq_getElem hlb]; rfl
        have HX := Lib.hid hx
        have HY := Lib.hid hy
        clear ht hx hy
        have i1 : (0 : Int) ≤ (k : Int) := by omega
        have i2 : (k : Int) < (a.length : Int) := by omega
        generalize a.getD k 0 = x at *
        generalize b.getD k 0 = y at *
        go_wp2_with fail
        go_quiet (fail)
        by_cases hxy : x = y
        · have e1 : ((x : Int) != (y : Int)) = false := by rw [int_bne, hxy]; simp
          have HN : Hid (a.take (k + 1) = b.take (k + 1)) := Lib.hid (by rw [List.take_add_one, List.take_add_one, HT.out, HX.out, HY.out, hxy])
          clear hxy
          go_wp2_with fail
          go_roundw
          case rel => exact ⟨k + 1, _, by go_num, by omega, HN.out, rfl⟩
          case measure => simp [intOf]; omega
        · have e1 : ((x : Int) != (y : Int)) = true := by rw [int_bne]; simpa using hxy
          have HN : Hid (decide (a = b) = false) := Lib.hid (by
            refine decide_eq_false (fun e => hxy ?_)
            have := HX.out
            rw [e, HY.out] at this
            exact (Option.some.inj this).symm)
          clear hxy
          go_wp2_with fail
          go_ret
          rw [HN.out]
          exact ⟨rfl, n + nq, World.drewN_drewN _ _ _⟩
      · have HN : Hid (decide (a = b) = true) := Lib.hid (by
          have h1 : a.take k = a := List.take_of_length_le (by omega)
          have h2 : b.take k = b := List.take_of_length_le (by have := HL.out; omega)
          rw [h1, h2] at ht
          exact decide_eq_true ht)
        clear ht
        go_wp2_with fail
        go_ret
        rw [HN.out]
        exact ⟨rfl, _, rfl⟩
  · have hn : ((a.length : Int) != (b.length : Int)) = true := by rw [int_bne]; simpa using hl
    have HN : Hid (decide (a = b) = false) := Lib.hid (decide_eq_false (fun e => hl (by rw [e])))
    clear hl
    go_enter Try.func24, Try.ntmps24
    go_wp2_with fail
    go_ret
    rw [HN.out]
    exact ⟨rfl, 0, rfl⟩
/-- The patterns of the statements. -/
def pats : List (List Nat) := [[111, 107], [], [114, 46, 42, 121, 36], [94, 117, 112, 124, 103, 111, 43], [91, 48, 45, 57, 93, 43, 120, 63], [40, 97, 98, 41, 42, 99], [94, 36]]
def patObj : Obj := .cells (pats.map fun b => Value.string (strOf b)).toArray 9
theorem patternsC (w : World) : Calls Try.prog 19 #[] w fun e w' => e = .returned (.slice (some ⟨w.heap.size, 0, none⟩) 7 7) ∧ w' = w.alloc patObj := by
  go_enter Try.func19, Try.ntmps19
  go_wp2_with fail
  go_ret
  exact ⟨rfl, rfl⟩
end Go.Proofs.Ytaajgdhoffhdcaa
