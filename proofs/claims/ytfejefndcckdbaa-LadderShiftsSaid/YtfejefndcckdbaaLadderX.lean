/-
  The walk of the law LadderShifts.
-/
import Derived.Test.YtfejefndcckdbaaLadderC
namespace Go.Proofs.Ytfejefndcckdbaa
open Go.RowKit Go.Shelf
set_option linter.unusedVariables false

set_option maxRecDepth 100000 in
set_option maxHeartbeats 2000000 in
theorem lshifts_any (A : Option Addr) (c : Nat) (l : List (Int × Int)) (at_ later cut : Int) (w : World) (hr : Rd w w.heap.size A (rungs l)) (hm : l.length ≤ maxLen) (hU : Ld.Ok l) (ha : Tk.U at_) (hla : Tk.U later) :
    Calls Try.prog 5 #[.slice A l.length c, .int .u64 at_, .int .u64 later, .int .i64 cut] w fun e w' => e = .returned (.bool true) ∧ Below w.heap.size w w' := by
  have hm' := hm
  unfold maxLen at hm'
  obtain ⟨i0, hi, hz0, hz1, hz2⟩ := info_parts info_rung
  by_cases hbig : 12 < l.length
  · go_enter Try.func5, Try.ntmps5
    go_wp2_with fail
    refine (lsane_any _).mono ?_
    rintro e w1 ⟨rfl, hb⟩
    go_wp2_with fail
    go_ret
    exact ⟨rfl, hb⟩
  · have a0 := ha.1
    have l0 := hla.1
    go_enter Try.func5, Try.ntmps5
    go_wp2_with fail
    refine (lsane_any _).mono ?_
    rintro e w1 ⟨rfl, hb⟩
    go_wp2_with fail
    go_loopw [9, 24] (fun x i wr => ∃ k : Nat, k ≤ l.length ∧ i = .int .i64 k ∧ wr.ownsRow w.heap.size 34 2 x k (rungs ((Ld.cutw l).take k)) ∧ Below w.heap.size w wr) (fun _ i _ => l.length - (intOf i).toNat)
    case atStart => exact ⟨0, Nat.zero_le _, rfl, World.ownsRow_nil _ _ _ _, hb⟩
    case round =>
      obtain ⟨k, hk, rfl, hown, hb1⟩ := hrel
      by_cases hlt : k < l.length
      · obtain ⟨b, off, rfl, hbb, hc⟩ := (hr.below hb1).at_ (by rw [rungs_length]; omega)
        obtain ⟨e1, e2⟩ := rungs_get l k hlt
        have c1 := hc _ _ e1
        have c2 := hc _ _ e2
        rw [← Nat.add_assoc] at c2
        have hu := hU k
        have hsz := hb1.size
        have hts := Lib.hid (take_snoc (Ld.cutw l) k (by rw [Ld.cutw_len]; exact hlt))
        rw [Ld.cutw_get l k hlt] at hts
        clear hc e1 e2 hr hb
        generalize l.getD k (0, 0) = p at *
        obtain ⟨p1, p2⟩ := p
        obtain ⟨u0, u1⟩ := hu
        simp only at u0 u1 hts c1 c2
        go_wp2_with (at_builtin; refine wpList_append_own _ rfl _ _ 22 rfl w.heap.size 34 i0 _ 2 16 Try.underlying22 hi hz0 hz1 hz2 rfl (by decide) _ _ _ rfl ((hown.alloc _).alloc _) ⟨wr.heap.size + 1, 0, none⟩ 1 1 [.int .i64 p1, .int .u64 (p2 % 1099511627776)] rfl rfl ?c1 ?c2 ?c3 ?c4 ?c5 ?_)
        case c1 => exact new_cells_at (wr.alloc _) [.int .i64 p1, .int .u64 (p2 % 1099511627776)] _ _ (by simp)
        case c2 => intro u hu; simp at hu; rcases hu with rfl | rfl <;> rfl
        case c3 => unfold maxLen; omega
        case c4 => omega
        case c5 => simp; omega
        intro v' w2 hown2 hg2 _
        have hb2 := below_append2 hb1 (Nat.le_refl _) _ _ hown hg2
        rw [← rungs_snoc] at hown2
        clear hg2 c1 c2
        go_wp2_with fail
        go_roundw
        case rel => exact ⟨k + 1, by omega, by go_num, by rw [hts.out]; exact hown2, hb2⟩
        case measure => simp [intOf] <;> omega
      · obtain rfl : k = l.length := by omega
        have hX := Ld.cutw_len l
        have hxs : (Ld.cutw l).take l.length = Ld.cutw l := List.take_of_length_le (by omega)
        rw [hxs] at hown
        have hsm := Ld.cutw_small l
        have hUX := Ld.ok_small hsm
        generalize Ld.cutw l = X at *
        obtain ⟨A5, c5, rfl, hr5, _, hnc, hcm⟩ := own_shape hown
        unfold maxLen at hcm
        clear hown hxs hr hb hU
        have hm0 := Int.emod_nonneg cut (show (l.length : Int) + 1 ≠ 0 by omega)
        have hm1 := Int.emod_lt_of_pos cut (show 0 < (l.length : Int) + 1 by omega)
        have HX := Lib.hid hX
        clear hX
        go_wp2_with fail
        have t0 : 0 ≤ at_ % 1099511627776 := by omega
        have t1 : at_ % 1099511627776 < 1099511627776 := by omega
        have d0 : 0 ≤ later % 1099511627776 := by omega
        have d1 : later % 1099511627776 < 1099511627776 := by omega
        generalize at_ % 1099511627776 = t at *
        generalize later % 1099511627776 = d at *
        have hL := fun (B : Nat) (W : World) (h1 : Rd W B A5 (rungs X)) h2 => lSteps B A5 c5 X t W h1 h2 (by have := HX.out; omega) hUX ⟨t0, by omega⟩
        have hM := fun (B : Nat) (W : World) (h1 : Rd W B A5 (rungs X)) h2 => lSteps B A5 c5 X (t + d) W h1 h2 (by have := HX.out; omega) hUX ⟨by omega, by omega⟩
        rw [HX.out] at hL hM
        have HL := Lib.hid hL
        have HM := Lib.hid hM
        clear hL hM
        refine (HL.out _ _ hr5 (Nat.le_refl _)).mono ?_
        rintro e w2 ⟨v, rfl, hown2, hb2⟩
        have hr5' := hr5.below hb2
        have hs2 := hb2.size
        obtain ⟨Aa, ca, rfl, hra, _, hca, hma⟩ := own_shape hown2
        unfold maxLen at hma
        clear hown2
        go_wp2_with fail
        refine (HM.out _ _ hr5' hs2).mono ?_
        rintro e w3 ⟨v3, rfl, hown3, hb3⟩
        have hr6 := hr5'.below (hb3.mono hs2)
        have hs3 := hb3.size
        have hra3 := hra.below hb3
        obtain ⟨Ab, cb, rfl, hrb, _, hcb, hmb⟩ := own_shape hown3
        clear hown3 hra hr5'
        go_wp2_with fail
        obtain ⟨m, hmm⟩ : ∃ m : Nat, cut % ((l.length : Int) + 1) = m := Int.eq_ofNat_of_zero_le hm0
        have hMo := fun W => mod_any cut ((l.length : Int) + 1) (by omega) (by omega) W
        rw [hmm] at hm0 hm1 hMo
        have HMO := Lib.hid hMo
        clear hmm hMo
        refine (HMO.out _).mono ?_
        rintro e w4 ⟨rfl, rfl⟩
        go_wp2_with fail
        have hml : (X.take m).length = m := by rw [List.length_take, HX.out]; omega
        have hC := fun (B : Nat) (W : World) (h1 : Rd W B A5 (rungs (X.take m))) h2 => lSteps B A5 c5 (X.take m) t W h1 h2 (by omega) (Ld.ok_take hUX m) ⟨t0, by omega⟩
        rw [hml] at hC
        refine (hC _ _ (by rw [rungs_take]; exact hr6.take _) (Nat.le_trans hs2 hs3)).mono ?_
        have HML := Lib.hid hml
        clear hC hml
        rintro e w5 ⟨v5, rfl, hown5, hb5⟩
        have hra5 := hra3.below (hb5.mono hs3)
        have hrb5 := hrb.below hb5
        obtain ⟨Ac, cc, rfl, hrc, _, hcc, hmc⟩ := own_shape hown5
        have hbel := ((hb1.trans (hb2.mono hb1.size)).trans (hb3.mono (Nat.le_trans hb1.size hs2))).trans (hb5.mono (Nat.le_trans hb1.size (Nat.le_trans hs2 hs3)))
        clear hown5 hra3 hrb hr6 HL HM hr5 hb2 hb3 hb1
        have hml : m ≤ l.length := by omega
        have hsum := fun k h => Ld.upTo_sum hsm t0 (by omega) (by have := HX.out; omega) k h
        have hshift := fun k h => Ld.upTo_shift hsm t0 t1 d0 d1 (by have := HX.out; omega) k h
        have e1 := Ld.upTo_prefix X t m (l.length + 1) (by omega)
        have e2 := Ld.upTo_prefix (X.take m) t m (m + 1) (by omega)
        have e3 := Ld.upTo_take X t m (by have := HX.out; omega) m (Nat.le_refl _)
        have hlenA := Ld.steps_len X t
        have hlenB := Ld.steps_len X (t + d)
        have hlenC := Ld.steps_len (X.take m) t
        rw [HML.out] at hlenC
        have hlU := Ld.upTo_len X t m
        rw [HX.out] at hsum hshift hlenA hlenB
        have dA : Rd w5 w5.heap.size Aa (shots (Ld.upTo X t m).1) := by
          have h := hra5.take (m * 2)
          rw [← shots_take] at h
          unfold Ld.steps at h
          rw [HX.out, e1] at h
          exact h.mono (Nat.le_trans (Nat.le_trans hs3 hb5.size) (Nat.le_refl _))
        have dC : Rd w5 w5.heap.size Ac (shots (Ld.upTo X t m).1) := by
          have h := hrc.take (m * 2)
          rw [← shots_take] at h
          unfold Ld.steps at h
          rw [HML.out, e2, e3] at h
          exact h
        have hga := shots_get (Ld.steps X t)
        have hgb := shots_get (Ld.steps X (t + d))
        have hgc := shots_get (Ld.steps (X.take m) t)
        obtain ⟨ba, oa, rfl, hba, hcA⟩ := hra5.at_ (by rw [shots_length]; omega)
        obtain ⟨bb, ob, rfl, hbb, hcB⟩ := hrb5.at_ (by rw [shots_length]; omega)
        obtain ⟨bc, oc, rfl, hbc, hcC⟩ := hrc.at_ (by rw [shots_length]; omega)
        have hcell : ∀ i, i ≤ l.length → w5.cell? ⟨ba, oa + i * 2, none⟩ = some (.int .u64 (Ld.upTo X t i).2) ∧ w5.cell? ⟨ba, oa + i * 2 + 1, none⟩ = some (.int .i64 (Ld.next X i (Ld.upTo X t i).2).1) ∧
            w5.cell? ⟨bb, ob + i * 2, none⟩ = some (.int .u64 ((Ld.upTo X t i).2 + d)) ∧ w5.cell? ⟨bb, ob + i * 2 + 1, none⟩ = some (.int .i64 (Ld.next X i (Ld.upTo X t i).2).1) ∧ 0 ≤ (Ld.upTo X t i).2 ∧ (Ld.upTo X t i).2 ≤ 109951162777600 := by
          intro i hi
          have h1 := hcA _ _ (hga i (by omega)).1
          have h2 := hcA _ _ (hga i (by omega)).2
          have h3 := hcB _ _ (hgb i (by omega)).1
          have h4 := hcB _ _ (hgb i (by omega)).2
          rw [Ld.steps_get X t i (by rw [HX.out]; exact hi)] at h1 h2
          rw [Ld.steps_get X (t + d) i (by rw [HX.out]; exact hi)] at h3 h4
          simp only at h1 h2 h3 h4
          rw [hshift i hi] at h3 h4
          rw [Ld.next_sig X i _ (Ld.upTo X t i).2] at h4
          rw [← Nat.add_assoc] at h2 h4
          obtain ⟨s0, s1, _⟩ := hsum i hi
          exact ⟨h1, h2, h3, h4, s0, by omega⟩
        have k3 : w5.cell? ⟨bc, oc + m * 2, none⟩ = some (.int .u64 (Ld.upTo X t m).2) := by
          have h1 := hcC _ _ (hgc m (by omega)).1
          rw [Ld.steps_get _ t m (by rw [HML.out]; exact Nat.le_refl _), e3] at h1
          exact h1
        have HC := Lib.hid hcell
        have K3 := Lib.hid k3
        have hS := fun B A A' c c' W h1 h2 => same_true B A A' c c' (Ld.upTo X t m).1 W h1 h2 (by unfold maxLen; omega)
        rw [hlU] at hS
        have HS := Lib.hid hS
        have hba' : ba < w5.heap.size := by have := hb5.size; omega
        have hbb' : bb < w5.heap.size := by have := hb5.size; omega
        clear hcell k3 hS hsum hshift e1 e2 e3 hlenA hlenB hlenC hlU hga hgb hgc hra5 hrb5 hrc hcA hcB hcC hUX hsm hb5 hs2 hs3
        go_wp2_with fail
        refine (HMO.out _).mono ?_
        rintro e w6 ⟨rfl, rfl⟩
        go_wp2_with fail
        go_loopw [85] (fun i wr => ∃ k : Nat, k ≤ l.length + 1 ∧ i = .int .i64 k ∧ Below w5.heap.size w5 wr) (fun i _ => l.length + 1 - (intOf i).toNat)
        case atStart => exact ⟨0, Nat.zero_le _, rfl, Below.refl _ _⟩
        case round =>
          obtain ⟨k, hk, rfl, hbw⟩ := hrel
          by_cases hlt : k < l.length + 1
          · obtain ⟨c1, c2, c3, c4, s0, s1⟩ := HC.out k (by omega)
            have c1 := (hbw.cell (p := ⟨ba, oa + k * 2, none⟩) hba').trans c1
            have c2 := (hbw.cell (p := ⟨ba, oa + k * 2 + 1, none⟩) hba').trans c2
            have c3 := (hbw.cell (p := ⟨bb, ob + k * 2, none⟩) hbb').trans c3
            have c4 := (hbw.cell (p := ⟨bb, ob + k * 2 + 1, none⟩) hbb').trans c4
            clear dA dC
            generalize (Ld.next X k (Ld.upTo X t k).2).1 = sg at *
            generalize (Ld.upTo X t k).2 = S at *
            have hw : IntKind.u64.wrap (S + d) = S + d := wrap_fit ⟨by omega, by omega⟩
            go_wp2_with fail
            go_quiet (fail)
            clear hw
            go_wp2_with fail
            go_roundw
            case rel => exact ⟨k + 1, by omega, by go_num, below_drewN hbw _⟩
            case measure => simp [intOf] <;> omega
          · obtain ⟨c1, c2, c3, c4, s0, s1⟩ := HC.out m (by omega)
            have c1 := (hbw.cell (p := ⟨ba, oa + m * 2, none⟩) hba').trans c1
            have c5 := (hbw.cell (p := ⟨bc, oc + m * 2, none⟩) hbc).trans K3.out
            have hsame := fun n => HS.out w5.heap.size _ _ ca cc (wr.drewN n) ((dA.below hbw).drewN n) ((dC.below hbw).drewN n)
            have HH := Lib.hid hsame
            clear dA dC hsame c2 c3 c4 HS HC
            generalize (Ld.upTo X t m).2 = S at *
            go_wp2_with fail
            go_quiet ((go_at_call 19; exact quiet_draws (HH.out _)))
            go_wp2_with fail
            go_ret
            exact ⟨rfl, hbel.trans (below_drewN (hbw.mono hbel.size) _)⟩
end Go.Proofs.Ytfejefndcckdbaa
