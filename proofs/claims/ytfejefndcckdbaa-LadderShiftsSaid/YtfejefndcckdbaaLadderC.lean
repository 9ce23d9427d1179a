/-
  The walk of the law LadderClimbs.
-/
import Derived.Test.YtfejefndcckdbaaLadderL
namespace Go.Proofs.Ytfejefndcckdbaa
open Go.RowKit Go.Shelf
set_option linter.unusedVariables false

theorem info_rung : (Try.prog.info? 34).map (fun i => (i.zero, i.size, i.bytes)) = some (some (.agg #[.int .i64 0, .int .u64 0]), 2, 16) := by kernel_rfl
theorem rungs_snoc (l : List (Int × Int)) (s t : Int) : rungs (l ++ [(s, t)]) = rungs l ++ [.int .i64 s, .int .u64 t] := by simp [rungs]
theorem take_snoc (l : List (Int × Int)) (k : Nat) (h : k < l.length) : l.take (k + 1) = l.take k ++ [((l.getD k (0, 0)).1, (l.getD k (0, 0)).2)] := by
  rw [List.take_succ_eq_append_getElem h, List.getD_eq_getElem?_getD, List.getElem?_eq_getElem h]; rfl

set_option maxRecDepth 100000 in
set_option maxHeartbeats 2000000 in
theorem lclimbs_any (A : Option Addr) (c : Nat) (l : List (Int × Int)) (at_ : Int) (w : World) (hr : Rd w w.heap.size A (rungs l)) (hm : l.length ≤ maxLen) (hU : Ld.Ok l) (ha : Tk.U at_) :
    Calls Try.prog 4 #[.slice A l.length c, .int .u64 at_] w fun e w' => e = .returned (.bool true) ∧ Below w.heap.size w w' := by
  have hm' := hm
  unfold maxLen at hm'
  obtain ⟨i0, hi, hz0, hz1, hz2⟩ := info_parts info_rung
  by_cases hbig : 20 < l.length
  · go_enter Try.func4, Try.ntmps4
    go_wp2_with fail
    refine (lsane_any _).mono ?_
    rintro e w1 ⟨rfl, hb⟩
    go_wp2_with fail
    go_ret
    exact ⟨rfl, hb⟩
  · have a0 := ha.1
    go_enter Try.func4, Try.ntmps4
    go_wp2_with fail
    refine (lsane_any _).mono ?_
    rintro e w1 ⟨rfl, hb⟩
    go_wp2_with fail
    have t0 : 0 ≤ at_ % 1099511627776 := by omega
    have t1 : at_ % 1099511627776 < 1099511627776 := by omega
    generalize at_ % 1099511627776 = t at *
    have hsum := fun k h => Ld.upTo_sum (Ld.cutw_small l) t0 (by omega) (by rw [Ld.cutw_len]; omega) k h
    rw [Ld.cutw_len] at hsum
    have HSUM := Lib.hid hsum
    clear hsum
    go_loopw [5, 6, 25] (fun x s i wr => ∃ k : Nat, k ≤ l.length ∧ i = .int .i64 k ∧ s = .int .u64 (Ld.upTo (Ld.cutw l) t k).2 ∧ wr.ownsRow w.heap.size 34 2 x k (rungs ((Ld.cutw l).take k)) ∧ Below w.heap.size w wr) (fun _ _ i _ => l.length - (intOf i).toNat)
    case atStart => exact ⟨0, Nat.zero_le _, rfl, rfl, World.ownsRow_nil _ _ _ _, hb⟩
    case round =>
      obtain ⟨k, hk, rfl, rfl, hown, hb1⟩ := hrel
      by_cases hlt : k < l.length
      · obtain ⟨b, off, rfl, hbb, hc⟩ := (hr.below hb1).at_ (by rw [rungs_length]; omega)
        obtain ⟨e1, e2⟩ := rungs_get l k hlt
        have c1 := hc _ _ e1
        have c2 := hc _ _ e2
        rw [← Nat.add_assoc] at c2
        have hu := hU k
        have hsz := hb1.size
        obtain ⟨s0, s1, s2⟩ := HSUM.out k (by omega)
        have S2 := Lib.hid (s2 hlt)
        have hts := Lib.hid (take_snoc (Ld.cutw l) k (by rw [Ld.cutw_len]; exact hlt))
        rw [Ld.cutw_get l k hlt] at S2 hts
        clear hc e1 e2 hr hb s2
        generalize l.getD k (0, 0) = p at *
        generalize (Ld.upTo (Ld.cutw l) t k).2 = S at *
        obtain ⟨p1, p2⟩ := p
        obtain ⟨u0, u1⟩ := hu
        simp only at u0 u1 S2 hts c1 c2
        go_wp2_with (at_builtin; refine wpList_append_own _ rfl _ _ 22 rfl w.heap.size 34 i0 _ 2 16 Try.underlying22 hi hz0 hz1 hz2 rfl (by decide) _ _ _ rfl ((hown.alloc _).alloc _) ⟨wr.heap.size + 1, 0, none⟩ 1 1 [.int .i64 p1, .int .u64 (p2 % 1099511627776)] rfl rfl ?c1 ?c2 ?c3 ?c4 ?c5 ?_)
        case c1 => exact new_cells_at (wr.alloc _) [.int .i64 p1, .int .u64 (p2 % 1099511627776)] _ _ (by simp)
        case c2 => intro u hu; simp at hu; rcases hu with rfl | rfl <;> rfl
        case c3 => unfold maxLen; omega
        case c4 => omega
        case c5 => simp; omega
        intro v' w2 hown2 hg2 _
        have hb2 := below_append2 hb1 (Nat.le_refl _) _ _ hown hg2
        have hw8 : w2.cell? ⟨wr.heap.size, 1, none⟩ = some (.int .u64 p2) := keep_new hown hg2 (Nat.le_refl _) (by simp [go_sem])
        rw [← rungs_snoc] at hown2
        clear hg2 c1 c2
        go_wp2_with fail
        go_roundw
        case rel => exact ⟨k + 1, by omega, by go_num, by rw [S2.out], by rw [hts.out]; exact hown2, hb2⟩
        case measure => simp [intOf] <;> omega
      · obtain rfl : k = l.length := by omega
        clear hr hb HSUM
        have hX := Ld.cutw_len l
        have hxs : (Ld.cutw l).take l.length = Ld.cutw l := List.take_of_length_le (by omega)
        rw [hxs] at hown
        have hUX := Ld.ok_small (Ld.cutw_small l)
        generalize Ld.cutw l = X at *
        obtain ⟨A5, c5, rfl, hr5, _⟩ := own_shape hown
        have hL := lSteps _ A5 c5 X t wr hr5 (Nat.le_refl _) (by omega) hUX ⟨t0, by omega⟩
        have hsig := Ld.steps_sig X t
        have hsg := fun i h => Ld.steps_get X t i h
        have hlen := Ld.steps_len X t
        rw [hX] at hL hsig hsg hlen
        have HL := Lib.hid hL
        clear hL hown hxs
        go_wp2_with fail
        refine HL.out.mono ?_
        rintro e w4 ⟨v, rfl, hown, hb4⟩
        have hb5 := hb1.trans (hb4.mono hb1.size)
        have hr5' := (hr5.below hb4).mono hb4.size
        obtain ⟨A9, c9, rfl, hr9, _⟩ := own_shape hown
        obtain ⟨b, off, rfl, hbb, hc⟩ := hr9.at_ (by rw [shots_length]; omega)
        have hg := shots_get (Ld.steps X t)
        rw [hlen] at hg
        have hcell : ∀ i, i ≤ l.length → w4.cell? ⟨b, off + i * 2, none⟩ = some (.int .u64 (Ld.upTo X t i).2) ∧ w4.cell? ⟨b, off + i * 2 + 1, none⟩ = some (.int .i64 (Ld.next X i (Ld.upTo X t i).2).1) := by
          intro i hi
          have h1 := hc _ _ (hg i (by omega)).1
          have h2 := hc _ _ (hg i (by omega)).2
          rw [hsg i hi] at h1 h2
          rw [← Nat.add_assoc] at h2
          exact ⟨h1, h2⟩
        have k1 := (hcell l.length (Nat.le_refl _)).1
        have k2 := (hcell l.length (Nat.le_refl _)).2
        have k3 : w4.cell? ⟨b, off, none⟩ = some (.int .u64 t) := by have := (hcell 0 (Nat.zero_le _)).1; rw [Nat.zero_mul, Nat.add_zero] at this; exact this
        rw [hsig] at k2
        have HC := Lib.hid hcell
        have hneq := fun k h => Ld.next_eq X t k h
        have hmono := fun k h => Ld.upTo_mono hUX (show Tk.U t from ⟨t0, by omega⟩) k h
        have hUU := fun k => Ld.U_upTo hUX (show Tk.U t from ⟨t0, by omega⟩) k
        have hNx := fun i a W => lNext_any w4.heap.size A5 c5 X i a W
        rw [hX] at hneq hmono hNx
        have HN := Lib.hid hneq
        have HM := Lib.hid hmono
        have HU := Lib.hid hUU
        have HX := Lib.hid hNx
        have HR := hr5'
        clear hcell hg hc hr9 hown hX hr5 hr5' hsig hsg hlen HL hb4 hb1 hneq hmono hUU hNx
        go_wp2_with fail
        clear k1 k2 k3
        go_loopw [73] (fun i wr => ∃ k : Nat, k ≤ l.length + 1 ∧ i = .int .i64 k ∧ Below w4.heap.size w4 wr) (fun i _ => l.length + 1 - (intOf i).toNat)
        case atStart => exact ⟨0, Nat.zero_le _, rfl, Below.refl _ _⟩
        case round =>
          obtain ⟨k, hk, rfl, hbw⟩ := hrel
          by_cases hlt : k < l.length + 1
          · have hk' : k ≤ l.length := by omega
            have c1 := (hbw.cell (p := ⟨b, off + k * 2, none⟩) hbb).trans (HC.out k hk').1
            have c2 := (hbw.cell (p := ⟨b, off + k * 2 + 1, none⟩) hbb).trans (HC.out k hk').2
            have hq := HX.out k (Ld.upTo X t k).2 _ ((HR.below hbw).alloc hbw.size (.cells #[.int .u64 (Ld.upTo X t k).2, .int .i64 (Ld.next X k (Ld.upTo X t k).2).1] 36)) hm hUX (HU.out k)
            rw [HN.out k hk'] at hq
            have HQ := Lib.hid hq
            clear hq
            have hbn : b < wr.heap.size := Nat.lt_of_lt_of_le hbb hbw.size
            by_cases hn : k < l.length
            · have c3 := (hbw.cell (p := ⟨b, off + (k + 1) * 2, none⟩) hbb).trans (HC.out (k + 1) (by omega)).1
              by_cases h0 : 0 < k
              · have c4 := (hbw.cell (p := ⟨b, off + (k - 1) * 2, none⟩) hbb).trans (HC.out (k - 1) (by omega)).1
                have hle := HM.out (k - 1) (by omega)
                rw [show k - 1 + 1 = k by omega] at hle
                clear HC HM HN HX HR hb5
                generalize (Ld.upTo X t (k - 1)).2 = sm at *
                generalize (Ld.next X k (Ld.upTo X t k).2).1 = sg at *
                generalize (Ld.upTo X t k).2 = s0 at *
                generalize (Ld.upTo X t (k + 1)).2 = s1 at *
                go_wp2_with fail
                refine HQ.out.mono ?_
                rintro e w' ⟨rfl, n, rfl⟩
                go_wp2_with fail
                go_quiet (fail)
                go_wp2_with fail
                go_roundw
                case rel => exact ⟨k + 1, by omega, by go_num, below_drewN (hbw.alloc hbw.size _) _⟩
                case measure => simp [intOf] <;> omega
              · clear HC HM HN HX HR hb5
                generalize (Ld.next X k (Ld.upTo X t k).2).1 = sg at *
                generalize (Ld.upTo X t k).2 = s0 at *
                generalize (Ld.upTo X t (k + 1)).2 = s1 at *
                go_wp2_with fail
                refine HQ.out.mono ?_
                rintro e w' ⟨rfl, n, rfl⟩
                go_wp2_with fail
                go_quiet (fail)
                go_wp2_with fail
                go_roundw
                case rel => exact ⟨k + 1, by omega, by go_num, below_drewN (hbw.alloc hbw.size _) _⟩
                case measure => simp [intOf] <;> omega
            · obtain rfl : k = l.length := by omega
              by_cases h0 : 0 < l.length
              · have c4 := (hbw.cell (p := ⟨b, off + (l.length - 1) * 2, none⟩) hbb).trans (HC.out (l.length - 1) (by omega)).1
                have hle := HM.out (l.length - 1) (by omega)
                rw [show l.length - 1 + 1 = l.length by omega] at hle
                clear HC HM HN HX HR hb5
                generalize (Ld.upTo X t (l.length - 1)).2 = sm at *
                generalize (Ld.next X l.length (Ld.upTo X t l.length).2).1 = sg at *
                generalize (Ld.upTo X t l.length).2 = s0 at *
                generalize (Ld.upTo X t (l.length + 1)).2 = s1 at *
                go_wp2_with fail
                refine HQ.out.mono ?_
                rintro e w' ⟨rfl, n, rfl⟩
                go_wp2_with fail
                go_quiet (fail)
                go_wp2_with fail
                go_roundw
                case rel => exact ⟨l.length + 1, by omega, by go_num, below_drewN (hbw.alloc hbw.size _) _⟩
                case measure => simp [intOf] <;> omega
              · clear HC HM HN HX HR hb5
                generalize (Ld.next X l.length (Ld.upTo X t l.length).2).1 = sg at *
                generalize (Ld.upTo X t l.length).2 = s0 at *
                generalize (Ld.upTo X t (l.length + 1)).2 = s1 at *
                go_wp2_with fail
                refine HQ.out.mono ?_
                rintro e w' ⟨rfl, n, rfl⟩
                go_wp2_with fail
                go_quiet (fail)
                go_wp2_with fail
                go_roundw
                case rel => exact ⟨l.length + 1, by omega, by go_num, below_drewN (hbw.alloc hbw.size _) _⟩
                case measure => simp [intOf] <;> omega
          · go_wp2_with fail
            go_ret
            exact ⟨rfl, hb5.trans (hbw.mono hb5.size)⟩
end Go.Proofs.Ytfejefndcckdbaa
