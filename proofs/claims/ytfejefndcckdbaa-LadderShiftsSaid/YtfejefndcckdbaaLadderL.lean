/-
  The walks of the laws on ladders.
-/
import Derived.Test.YtfejefndcckdbaaLadderS
import Derived.Test.YtfejefndcckdbaaMod
namespace Go.Proofs.Ytfejefndcckdbaa
open Go.RowKit Go.Shelf
set_option linter.unusedVariables false

theorem lsane_any (w : World) : Calls Try.prog 15 #[] w fun e w' => e = .returned (.bool true) ∧ Below w.heap.size w w' := by
  have hr : Rd (w.alloc (.cells #[.int .i64 15, .int .u64 5, .int .i64 2, .int .u64 2] 34)) (w.heap.size + 1) (some ⟨w.heap.size, 0, none⟩) (rungs [(15, 5), (2, 2)]) := by
    refine Or.inr ⟨_, _, rfl, by omega, fun j u hu => ?_⟩
    have := new_cells w [.int .i64 15, .int .u64 5, .int .i64 2, .int .u64 2] 34 j u hu
    unfold Addr.add at this
    split at this
    · next h0 => subst h0; exact this
    · simpa using this
  have hc := lSteps (w.heap.size + 1) (some ⟨w.heap.size, 0, none⟩) 2 [(15, 5), (2, 2)] 10 _ hr (by simp) (by simp) (Ld.ok_of (by simp [Tk.U])) ⟨by decide, by decide⟩
  have H := Lib.hid hc
  clear hc hr
  go_enter Try.func15, Try.ntmps15
  go_wp2_with fail
  refine H.out.mono ?_
  rintro e w1 ⟨v, rfl, hown, hb⟩
  obtain ⟨A, c, rfl, hr, _⟩ := own_shape hown
  obtain ⟨b, off, rfl, _, hcell⟩ := hr.at_ (by decide)
  have c2 := hcell 2 (.int .u64 15) rfl
  have c3 := hcell 3 (.int .i64 2) rfl
  have c4 := hcell 4 (.int .u64 17) rfl
  have c5 := hcell 5 (.int .i64 9) rfl
  have hb' : Below w.heap.size w w1 := ((Below.refl _ _).alloc (Nat.le_refl _) _).trans (hb.mono (by simp))
  clear hown hr hcell H hb
  go_wp2_with fail
  go_ret
  exact ⟨rfl, hb'⟩

theorem U_m {a : Int} (h : Tk.U a) : Tk.U (a % 1000) := by obtain ⟨h0, h1⟩ := h; exact ⟨by omega, by omega⟩
set_option maxHeartbeats 1000000 in
theorem lsteps_any (A : Option Addr) (c : Nat) (l : List (Int × Int)) (sent at_ : Int) (w : World) (hr : Rd w w.heap.size A (rungs l)) (hm : l.length ≤ maxLen) (hU : Ld.Ok l) (ha : Tk.U at_) :
    Calls Try.prog 3 #[.slice A l.length c, .int .i64 sent, .int .u64 at_] w fun e w' => e = .returned (.bool true) ∧ Below w.heap.size w w' := by
  have hm' := hm
  unfold maxLen at hm'
  by_cases hbig : 20 < l.length
  · go_enter Try.func3, Try.ntmps3
    go_wp2_with fail
    refine (lsane_any _).mono ?_
    rintro e w1 ⟨rfl, hb⟩
    go_wp2_with fail
    go_ret
    exact ⟨rfl, hb⟩
  · go_enter Try.func3, Try.ntmps3
    go_wp2_with fail
    refine (lsane_any _).mono ?_
    rintro e w1 ⟨rfl, hb⟩
    go_wp2_with fail
    refine (mod_any _ _ (by omega) (by omega) _).mono ?_; rintro e w2 ⟨rfl, rfl⟩
    have h0 := Int.emod_nonneg sent (show (l.length : Int) + 3 ≠ 0 by omega)
    have h1 := Int.emod_lt_of_pos sent (show 0 < (l.length : Int) + 3 by omega)
    generalize sent % ((l.length : Int) + 3) = M at *
    go_wp2_with fail
    have hb2 : Below w.heap.size w (w1.alloc (.cells #[.int .i64 sent, .int .i64 (M - 1)] 3)) := hb.alloc hb.size _
    have hcell : ∀ k : Nat, k < 2 → ∃ s, (w1.alloc (.cells #[.int .i64 sent, .int .i64 (M - 1)] 3)).cell? ⟨w1.heap.size, k, none⟩ = some (.int .i64 s) := by
      intro k hk
      rw [cell_of_row _ _ k _ _ _ (heap_alloc_new w1 _)]
      match k, hk with
      | 0, _ => exact ⟨_, rfl⟩
      | 1, _ => exact ⟨_, rfl⟩
    have hr2 := hr.below hb2
    generalize w1.alloc (.cells #[.int .i64 sent, .int .i64 (M - 1)] 3) = W2 at *
    have HC := Lib.hid hcell
    clear hcell h0 h1 hb hr
    go_loopw [29] (fun i wr => ∃ k m : Nat, k ≤ 2 ∧ i = .int .i64 k ∧ wr = W2.drewN m) (fun i _ => 2 - (intOf i).toNat)
    case atStart => exact ⟨0, 0, by omega, rfl, rfl⟩
    case round =>
      obtain ⟨k, m, hk, rfl, rfl⟩ := hrel
      by_cases hlt : k < 2
      · obtain ⟨s, hs⟩ := HC.out k hlt
        go_wp2_with fail
        refine (lNext_any _ A c l s at_ _ (hr2.drewN _) hm hU ha).mono ?_
        rintro e w' ⟨rfl, n, rfl⟩
        go_wp2_with fail
        refine (rNext_any _ A c l s at_ _ (hr2.drewN _) hm hU ha).mono ?_
        rintro e w' ⟨rfl, n', rfl⟩
        generalize Ld.next l s at_ = q at *
        obtain ⟨q1, q2, q3⟩ := q
        go_wp2_with fail
        go_roundw
        case rel => exact ⟨k + 1, _, by omega, by go_num, rfl⟩
        case measure => simp [intOf]; omega
      · go_wp2_with fail
        have hr3 := hr2.drewN m
        have hb3 := below_drewN hb2 m
        generalize W2.drewN m = W3 at *
        refine (lSteps _ A c l at_ _ hr3 hb3.size (by omega) hU ha).mono ?_
        rintro e w4 ⟨v, rfl, hown, hb4⟩
        obtain ⟨A4, c4, rfl, hr4, _⟩ := own_shape hown
        have ha4 := hr3.below (hb4.mono hb3.size)
        have hb5 := hb3.trans (hb4.mono hb3.size)
        clear hown hb4 hr3 hb3 hr2 hb2 HC
        go_wp2_with fail
        refine (rSteps _ A c l at_ _ ha4 hb5.size (by omega) hU ha).mono ?_
        rintro e w5 ⟨v, rfl, hown, hb4⟩
        obtain ⟨A5, c5, rfl, hr5, _⟩ := own_shape hown
        have hr4' := hr4.below hb4
        have ha5 := ha4.below (hb4.mono hb5.size)
        have hb6 := hb5.trans (hb4.mono hb5.size)
        have hs5 := hb4.size
        clear hown hb5 ha4 hr4
        have hS := fun h1 h2 h3 => same_true w5.heap.size A4 A5 c4 c5 (Ld.steps l at_) w5 h1 h2 h3
        rw [Ld.steps_len] at hS
        have HS := Lib.hid (hS (hr4'.mono hs5) hr5 (by unfold maxLen; omega))
        clear hS
        go_wp2_with fail
        refine HS.out.mono ?_
        rintro e w' ⟨rfl, n, rfl⟩
        have a0 := ha.1
        have ha6 := ha5.drewN n
        have hb7 := below_drewN hb6 n
        clear HS ha5 hb6 hr4' hr5
        generalize w5.drewN n = w6 at *
        have hu := U_m ha
        go_wp2_with fail
        refine (lSteps _ A c l (at_ % 1000) _ ha6 hb7.size (by omega) hU hu).mono ?_
        rintro e w7 ⟨v, rfl, hown, hb4⟩
        obtain ⟨A7, c7, rfl, hr7, _⟩ := own_shape hown
        have ha7 := ha6.below (hb4.mono hb7.size)
        have hb8 := hb7.trans (hb4.mono hb7.size)
        clear hown hb4 ha6 hb7
        go_wp2_with fail
        refine (rSteps _ A c l (at_ % 1000) _ ha7 hb8.size (by omega) hU hu).mono ?_
        rintro e w8 ⟨v, rfl, hown, hb4⟩
        obtain ⟨A8, c8, rfl, hr8, _⟩ := own_shape hown
        have hr7' := hr7.below hb4
        have hb9 := hb8.trans (hb4.mono hb8.size)
        have hs5 := hb4.size
        clear hown hb8 ha7 hr7
        have hS := fun h1 h2 h3 => same_true w8.heap.size A7 A8 c7 c8 (Ld.steps l (at_ % 1000)) w8 h1 h2 h3
        rw [Ld.steps_len] at hS
        have HS := Lib.hid (hS (hr7'.mono hs5) hr8 (by unfold maxLen; omega))
        clear hS
        go_wp2_with fail
        refine HS.out.mono ?_
        rintro e w' ⟨rfl, n, rfl⟩
        have hb10 := below_drewN hb9 n
        go_wp2_with fail
        go_ret
        exact ⟨rfl, hb10⟩
end Go.Proofs.Ytfejefndcckdbaa
