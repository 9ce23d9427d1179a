/-
  The walk of the law FrameSplits.
-/
import Derived.Test.YtlpaemlgmmmbmaaFrameL
import Derived.Deep.Cut
namespace Go.Proofs.Ytlpaemlgmmmbmaa
open Go.RowKit
set_option linter.unusedVariables false

/-- Five slices of bytes in a new block. -/
theorem five_lists (w : World) (e : TypeId) (m : Nat) (A1 A2 A3 A4 A5 : Option Addr) (c1 c2 c3 c4 c5 n1 n2 n3 n4 n5 : Nat) (x1 x2 x3 x4 x5 : List UInt8)
    (e1 : x1.length = n1) (e2 : x2.length = n2) (e3 : x3.length = n3) (e4 : x4.length = n4) (e5 : x5.length = n5)
    (r1 : Rs w A1 (bytes x1)) (r2 : Rs w A2 (bytes x2)) (r3 : Rs w A3 (bytes x3)) (r4 : Rs w A4 (bytes x4)) (r5 : Rs w A5 (bytes x5))
    (l1 : n1 ≤ m) (l2 : n2 ≤ m) (l3 : n3 ≤ m) (l4 : n4 ≤ m) (l5 : n5 ≤ m)
    (d1 : n1 ≤ c1 ∧ c1 ≤ maxLen) (d2 : n2 ≤ c2 ∧ c2 ≤ maxLen) (d3 : n3 ≤ c3 ∧ c3 ≤ maxLen) (d4 : n4 ≤ c4 ∧ c4 ≤ maxLen) (d5 : n5 ≤ c5 ∧ c5 ≤ maxLen) :
    ∀ i, i < 5 → ∃ A c x, x.length ≤ m ∧ x.length ≤ c ∧ c ≤ maxLen ∧ (w.alloc (.cells #[.slice A1 n1 c1, .slice A2 n2 c2, .slice A3 n3 c3, .slice A4 n4 c4, .slice A5 n5 c5] e)).cell? ⟨w.heap.size, i, none⟩ = some (.slice A x.length c) ∧
      Rs (w.alloc (.cells #[.slice A1 n1 c1, .slice A2 n2 c2, .slice A3 n3 c3, .slice A4 n4 c4, .slice A5 n5 c5] e)) A (bytes x) := by
  subst e1; subst e2; subst e3; subst e4; subst e5
  intro i hi
  match i, hi with
  | 0, _ => exact ⟨A1, c1, x1, l1, d1.1, d1.2, by rw [cell_of_row _ _ 0 _ _ _ (heap_alloc_new w _)]; rfl, r1.alloc _⟩
  | 1, _ => exact ⟨A2, c2, x2, l2, d2.1, d2.2, by rw [cell_of_row _ _ 1 _ _ _ (heap_alloc_new w _)]; rfl, r2.alloc _⟩
  | 2, _ => exact ⟨A3, c3, x3, l3, d3.1, d3.2, by rw [cell_of_row _ _ 2 _ _ _ (heap_alloc_new w _)]; rfl, r3.alloc _⟩
  | 3, _ => exact ⟨A4, c4, x4, l4, d4.1, d4.2, by rw [cell_of_row _ _ 3 _ _ _ (heap_alloc_new w _)]; rfl, r4.alloc _⟩
  | 4, _ => exact ⟨A5, c5, x5, l5, d5.1, d5.2, by rw [cell_of_row _ _ 4 _ _ _ (heap_alloc_new w _)]; rfl, r5.alloc _⟩

set_option maxRecDepth 100000 in
set_option maxHeartbeats 4000000 in
theorem fsplits_any (Al : Option Addr) (cl : Nat) (l : List Int) (A : Option Addr) (c : Nat) (raw : List UInt8) (at_ by_ : Int) (w : World) (hrl : Rs w Al (ints l)) (hml : l.length ≤ maxLen)
    (hr : Rs w A (bytes raw)) (hc1 : raw.length ≤ c) (hc2 : c ≤ maxLen) (hby : 0 ≤ by_ ∧ by_ ≤ 255) :
    Calls Try.prog 3 #[.slice Al l.length cl, .slice A raw.length c, .int .i64 at_, .int .u8 by_] w fun e w' => e = .returned (.bool true) ∧ Old w w' := by
  have hc2' := hc2
  unfold maxLen at hc2'
  by_cases hbig : 200 < raw.length
  · clear hr hrl
    go_enter Try.func3, Try.ntmps3
    go_wp2_with fail
    refine (fsane _).mono ?_; rintro e w1 ⟨rfl, hb⟩
    go_wp2_with fail
    go_ret
    exact ⟨rfl, hb⟩
  · go_enter Try.func3, Try.ntmps3
    go_wp2_with fail
    refine (fsane _).mono ?_; rintro e w1 ⟨rfl, hb⟩
    replace hr := hr.up hb
    replace hrl := hrl.up hb
    go_wp2_with fail
    refine (streamW Al cl l w1 hrl hml).mono ?_; rintro e w2 ⟨vp, cellsP, vb, rfl, _, _, hownb, hb2⟩
    replace hr := hr.up hb2
    replace hb := hb.up hb2
    have hfl := flat_len (outs_small (nx l 6).2 (nx l 6).1.toNat)
    rw [outs_len] at hfl
    have hk := nx_bd l (show (1 : Int) ≤ 6 by decide)
    have hbl : (flat (streamL l)).length ≤ 60 := by
      have : (flat (streamL l)).length ≤ 12 * (nx l 6).1.toNat := hfl
      omega
    clear hb2 hrl hfl hk
    generalize flat (streamL l) = b at *
    obtain ⟨Ab, cb, rfl, hrb, hcb1, hcb2⟩ := hownb.shape
    replace hrb := hrb.rs
    clear hownb
    have hown0 : Own (w2.alloc (.cells #[] 5)) w2.heap.size 5 1 (.slice (some ⟨w2.heap.size, 0, none⟩) 0 0) 0 [] := own_new w2 #[] 0 1 _ (by decide) rfl
    go_wp2_with (at_builtin; refine wpList_pushAll rfl _ _ 23 rfl _ 5 (.int .u8 0) 1 1 Try.underlying23 info_u8 rfl (by decide) (by decide) _ _ _ (by rfl) hown0 _ _ _ _ (by rfl) (hrb.alloc _) (by rw [bytes_length, Nat.mul_one]) (bytes_one _) ?pn1 (by simp) ?_)
    case pn1 => omega
    intro v3 w3 hown3 hg3 hd3
    have hb3 := hd3 w2 ((Old.refl w2).alloc _) (Nat.le_refl _)
    clear hown0 hg3 hd3
    by_cases h0 : 0 < b.length
    · obtain ⟨g, cc, rfl, hgB, _, hcc1, hcc2⟩ := hown3.form h0
      have hmo0 := Int.emod_nonneg at_ (show (b.length : Int) ≠ 0 by omega)
      have hmo1 := Int.emod_lt_of_pos at_ (show 0 < (b.length : Int) by omega)
      have hMod := fun W => mod_any at_ (b.length : Int) (by omega) (by omega) W
      obtain ⟨m0, hM⟩ := Int.eq_ofNat_of_zero_le hmo0
      rw [hM] at hMod hmo0 hmo1
      have HMOD := Lib.hid hMod
      clear hM hMod
      obtain ⟨c0, f0⟩ := hown3.cellAt (bytes_get b m0 (by omega))
      have hset := (hown3.set_ m0 (.int .u8 by_)).1
      have hbyte : by_ = ((UInt8.ofNat by_.toNat).toNat : Int) := by simp; omega
      have hxs : (bytes b).set m0 (.int .u8 by_) = bytes (b.set m0 (UInt8.ofNat by_.toNat)) := by rw [bytes_set, ← hbyte]
      rw [hxs] at hset
      have HXC := Lib.hid (show (b.set m0 (UInt8.ofNat by_.toNat)).length = b.length by simp)
      have HSET := Lib.hid hset
      have hb4 : Old w2 (w3.setCell ⟨g, m0, none⟩ (.int .u8 by_)) := hb3.setCell hgB _
      clear hset hbyte hxs hown3
      generalize b.set m0 (UInt8.ofNat by_.toNat) = xc at *
      go_wp2_with fail
      refine (HMOD.out _).mono ?_; rintro e w3' ⟨rfl, rfl⟩
      go_upto_region 9 with fail
      replace hrb := hrb.up hb4
      replace hr := hr.up hb4
      replace hb := hb.up hb4
      have hrc : Rs (w3.setCell ⟨g, m0, none⟩ (.int .u8 by_)) (some ⟨g, 0, none⟩) (bytes xc) := by
        obtain ⟨_, _, hv, h, _⟩ := HSET.out.shape
        simp only [Value.slice.injEq] at hv
        obtain ⟨rfl, _, rfl⟩ := hv
        exact h.rs
      clear c0 f0 HSET hb3 hb4 HMOD
      generalize w3.setCell ⟨g, m0, none⟩ (.int .u8 by_) = w4 at *
      generalize (some (⟨g, 0, none⟩ : Addr)) = Ac at *
      clear hmo0 hmo1
      have hmo0 := Int.emod_nonneg at_ (show (b.length : Int) + 1 ≠ 0 by omega)
      have hmo1 := Int.emod_lt_of_pos at_ (show 0 < (b.length : Int) + 1 by omega)
      have hMod := fun W => mod_any at_ ((b.length : Int) + 1) (by omega) (by omega) W
      obtain ⟨M, hM⟩ := Int.eq_ofNat_of_zero_le hmo0
      rw [hM] at hMod hmo0 hmo1
      have HMOD := Lib.hid hMod
      clear hM hMod
      have hown0 : Own (w4.alloc (.cells #[] 5)) w4.heap.size 5 1 (.slice (some ⟨w4.heap.size, 0, none⟩) 0 0) 0 [] := own_new w4 #[] 0 1 _ (by decide) rfl
      go_wp2_with (at_builtin; refine wpList_pushAll rfl _ _ 23 rfl _ 5 (.int .u8 0) 1 1 Try.underlying23 info_u8 rfl (by decide) (by decide) _ _ _ (by rfl) hown0 _ _ _ _ (by rfl) (hrb.alloc _) (by rw [bytes_length, Nat.mul_one]) (bytes_one _) ?pn2 (by simp) ?_)
      case pn2 => omega
      intro v5 w5 hown5 hg5 hd5
      have hb5 := hd5 w4 ((Old.refl w4).alloc _) (Nat.le_refl _)
      clear hown0 hg5 hd5
      go_wp2_with (at_builtin; refine wpList_pushAll rfl _ _ 23 rfl _ 5 (.int .u8 0) 1 1 Try.underlying23 info_u8 rfl (by decide) (by decide) _ _ _ (by rfl) hown5 _ _ _ _ (by rfl) (hr.up hb5) (by rw [bytes_length, Nat.mul_one]) (bytes_one _) ?pn3 hb5.size ?_)
      case pn3 => omega
      intro v6 w6 hown6 hg6 hd6
      have hb6 := hd6 w4 hb5 (Nat.le_refl _)
      obtain ⟨A6, c6, rfl, hr6, hn6, hm6⟩ := hown6.shape
      replace hr6 := hr6.rs
      replace hrb := hrb.up hb6
      replace hrc := hrc.up hb6
      replace hr := hr.up hb6
      replace hb := hb.up hb6
      have hslt := fun W => run_slice_to (P := Try.prog) (t := 23) (by kernel_rfl) (fun _ => rfl) Ab b.length cb M (M : Int) rfl (by omega) W
      clear hown5 hg6 hd6 hb5 hb6 hown6
      go_wp2_with fail
      refine (HMOD.out _).mono ?_; rintro e w6' ⟨rfl, rfl⟩
      have hfive := five_lists w6 23 300 Ab Ac A A6 Ab cb cc c c6 cb b.length b.length raw.length (b.length + raw.length) M b xc raw (b ++ raw) (b.take M) rfl HXC.out rfl List.length_append (by rw [List.length_take]; omega)
        hrb hrc hr (by rw [bytes_append]; exact hr6) (by rw [bytes_take]; exact hrb.take M) (by omega) (by omega) (by omega) (by omega) (by omega) ⟨hcb1, hcb2⟩ ⟨hcc1, hcc2⟩ ⟨hc1, hc2⟩ ⟨hn6, hm6⟩ ⟨by omega, hcb2⟩
      have H5 := Lib.hid hfive
      replace hb := hb.alloc (.cells #[.slice Ab b.length cb, .slice Ac b.length cc, .slice A raw.length c, .slice A6 (b.length + raw.length) c6, .slice Ab M cb] 23)
      replace hr := hr.alloc (.cells #[.slice Ab b.length cb, .slice Ac b.length cc, .slice A raw.length c, .slice A6 (b.length + raw.length) c6, .slice Ab M cb] 23)
      clear hfive hr6 hrb hrc
      go_wp2_with fail
      generalize w6.alloc (.cells #[.slice Ab b.length cb, .slice Ac b.length cc, .slice A raw.length c, .slice A6 (b.length + raw.length) c6, .slice Ab M cb] 23) = W at *
      clear hslt HMOD
      go_loopw [64] (fun i wr => ∃ k : Nat, k ≤ 5 ∧ i = .int .i64 k ∧ Old W wr) (fun i _ => 5 - (intOf i).toNat)
      case atStart => exact ⟨0, by omega, rfl, Old.refl _⟩
      case round =>
        obtain ⟨k, hk, rfl, hbw⟩ := hrel
        by_cases hlt : k < 5
        · obtain ⟨Ax, cx, x, hx1, hx2, hx3, hx4, hx5⟩ := H5.out k hlt
          have cx1 := hbw.cell hx4
          replace hx5 := hx5.up hbw
          have hd1 : decide ((k : Int) < 5) = true := by simp; omega
          have hfin : (Fr.fin x).1.length ≤ 300 := by
            have := Fr.st_len x x.length
            have h2 : (Fr.fin x).1.length ≤ x.length := this
            omega
          clear hx4
          go_wp2_with fail
          refine (fSplit Ax cx x wr hx5 hx2 hx3 (by omega)).mono ?_; rintro e w7 ⟨v7, cells7, rfl, hown7, hts7, hb7⟩
          obtain ⟨A7, c7, rfl, hr7, _, _⟩ := hown7.shape
          replace hx5 := hx5.up hb7
          replace hbw := hbw.up hb7
          clear hown7 hb7
          go_wp2_with fail
          refine (rSplit Ax cx x w7 hx5 hx2 hx3 (by omega)).mono ?_; rintro e w8 ⟨v8, cells8, rfl, hown8, hts8, hb8⟩
          obtain ⟨A8, c8, rfl, hr8, _, _⟩ := hown8.shape
          replace hr7 := (hr7.up hb8).rs
          replace hts7 := (hts7.up hb8).rs
          replace hbw := hbw.up hb8
          replace hr8 := hr8.rs
          replace hts8 := hts8.rs
          clear hown8 hb8 hx5 cx1
          generalize Fr.code x = D at *
          generalize Fr.fin x = F at *
          obtain ⟨P, U⟩ := F
          simp only at hfin hts7 hts8
          go_wp2_with fail
          refine (sameB A7 A8 c7 c8 P cells7 cells8 w8 hr7 hr8 hts7 hts8 (by omega)).mono ?_; rintro e w9 ⟨rfl, m, rfl⟩
          go_wp2_with fail
          go_roundw
          case rel => exact ⟨k + 1, by omega, by go_num, hbw.drewN m⟩
          case measure => simp [intOf]; omega
        · replace hr := hr.up hbw
          replace hb := hb.up hbw
          go_wp2_with fail
          refine (fEncode A c raw wr hr (by omega)).mono ?_; rintro e w7 ⟨v7, rfl, hown7, hb7⟩
          obtain ⟨A7, c7, rfl, hr7, _, _⟩ := hown7.shape
          replace hr := hr.up hb7
          replace hb := hb.up hb7
          clear hown7 hb7
          go_wp2_with fail
          refine (rEncode A c raw w7 hr (by omega)).mono ?_; rintro e w8 ⟨v8, rfl, hown8, hb8⟩
          obtain ⟨A8, c8, rfl, hr8, _, _⟩ := hown8.shape
          replace hr7 := (hr7.up hb8).rs
          replace hr8 := hr8.rs
          replace hb := hb.up hb8
          clear hown8 hb8
          generalize encB raw = E at *
          generalize ecode raw = C at *
          have k1 := run_str (P := Try.prog) w8 (src := 23) (dst := 9) A7 c7 E Try.underlying23 Try.underlying5 Try.underlying9 hr7
          have k2 := run_str (P := Try.prog) w8 (src := 23) (dst := 9) A8 c8 E Try.underlying23 Try.underlying5 Try.underlying9 hr8
          go_wp2_with fail
          go_ret
          exact ⟨rfl, hb⟩
    · obtain ⟨Ac, cc, rfl, hrc, hcc1, hcc2⟩ := hown3.shape
      have hrc := hrc.rs
      obtain ⟨xc, hxc0⟩ : ∃ xc, xc = b := ⟨_, rfl⟩
      have HXC := Lib.hid (show xc.length = b.length by rw [hxc0])
      rw [← hxc0] at hrc
      replace hrb := hrb.up hb3
      replace hr := hr.up hb3
      replace hb := hb.up hb3
      have hz : b.length = 0 := by omega
      clear hown3 hb3 hxc0
      have HZ := Lib.hid hz
      clear hz
      go_upto_region 9 with fail
      have hmo0 := Int.emod_nonneg at_ (show (b.length : Int) + 1 ≠ 0 by omega)
      have hmo1 := Int.emod_lt_of_pos at_ (show 0 < (b.length : Int) + 1 by omega)
      have hMod := fun W => mod_any at_ ((b.length : Int) + 1) (by omega) (by omega) W
      obtain ⟨M, hM⟩ := Int.eq_ofNat_of_zero_le hmo0
      rw [hM] at hMod hmo0 hmo1
      have HMOD := Lib.hid hMod
      clear hM hMod
      have hown0 : Own (w3.alloc (.cells #[] 5)) w3.heap.size 5 1 (.slice (some ⟨w3.heap.size, 0, none⟩) 0 0) 0 [] := own_new w3 #[] 0 1 _ (by decide) rfl
      go_wp2_with (at_builtin; refine wpList_pushAll rfl _ _ 23 rfl _ 5 (.int .u8 0) 1 1 Try.underlying23 info_u8 rfl (by decide) (by decide) _ _ _ (by rfl) hown0 _ _ _ _ (by rfl) (hrb.alloc _) (by rw [bytes_length, Nat.mul_one]) (bytes_one _) ?pn4 (by simp) ?_)
      case pn4 => omega
      intro v5 w5 hown5 hg5 hd5
      have hb5 := hd5 w3 ((Old.refl w3).alloc _) (Nat.le_refl _)
      clear hown0 hg5 hd5
      go_wp2_with (at_builtin; refine wpList_pushAll rfl _ _ 23 rfl _ 5 (.int .u8 0) 1 1 Try.underlying23 info_u8 rfl (by decide) (by decide) _ _ _ (by rfl) hown5 _ _ _ _ (by rfl) (hr.up hb5) (by rw [bytes_length, Nat.mul_one]) (bytes_one _) ?pn5 hb5.size ?_)
      case pn5 => omega
      intro v6 w6 hown6 hg6 hd6
      have hb6 := hd6 w3 hb5 (Nat.le_refl _)
      obtain ⟨A6, c6, rfl, hr6, hn6, hm6⟩ := hown6.shape
      replace hr6 := hr6.rs
      replace hrb := hrb.up hb6
      replace hrc := hrc.up hb6
      replace hr := hr.up hb6
      replace hb := hb.up hb6
      have hslt := fun W => run_slice_to (P := Try.prog) (t := 23) (by kernel_rfl) (fun _ => rfl) Ab b.length cb M (M : Int) rfl (by omega) W
      clear hown5 hg6 hd6 hb5 hb6 hown6
      go_wp2_with fail
      refine (HMOD.out _).mono ?_; rintro e w6' ⟨rfl, rfl⟩
      have hfive := five_lists w6 23 300 Ab Ac A A6 Ab cb cc c c6 cb b.length b.length raw.length (b.length + raw.length) M b xc raw (b ++ raw) (b.take M) rfl HXC.out rfl List.length_append (by rw [List.length_take]; omega)
        hrb hrc hr (by rw [bytes_append]; exact hr6) (by rw [bytes_take]; exact hrb.take M) (by omega) (by omega) (by omega) (by omega) (by omega) ⟨hcb1, hcb2⟩ ⟨hcc1, hcc2⟩ ⟨hc1, hc2⟩ ⟨hn6, hm6⟩ ⟨by omega, hcb2⟩
      have H5 := Lib.hid hfive
      replace hb := hb.alloc (.cells #[.slice Ab b.length cb, .slice Ac b.length cc, .slice A raw.length c, .slice A6 (b.length + raw.length) c6, .slice Ab M cb] 23)
      replace hr := hr.alloc (.cells #[.slice Ab b.length cb, .slice Ac b.length cc, .slice A raw.length c, .slice A6 (b.length + raw.length) c6, .slice Ab M cb] 23)
      clear hfive hr6 hrb hrc
      go_wp2_with fail
      generalize w6.alloc (.cells #[.slice Ab b.length cb, .slice Ac b.length cc, .slice A raw.length c, .slice A6 (b.length + raw.length) c6, .slice Ab M cb] 23) = W at *
      clear hslt HMOD
      go_loopw [64] (fun i wr => ∃ k : Nat, k ≤ 5 ∧ i = .int .i64 k ∧ Old W wr) (fun i _ => 5 - (intOf i).toNat)
      case atStart => exact ⟨0, by omega, rfl, Old.refl _⟩
      case round =>
        obtain ⟨k, hk, rfl, hbw⟩ := hrel
        by_cases hlt : k < 5
        · obtain ⟨Ax, cx, x, hx1, hx2, hx3, hx4, hx5⟩ := H5.out k hlt
          have cx1 := hbw.cell hx4
          replace hx5 := hx5.up hbw
          have hd1 : decide ((k : Int) < 5) = true := by simp; omega
          have hfin : (Fr.fin x).1.length ≤ 300 := by
            have := Fr.st_len x x.length
            have h2 : (Fr.fin x).1.length ≤ x.length := this
            omega
          clear hx4
          go_wp2_with fail
          refine (fSplit Ax cx x wr hx5 hx2 hx3 (by omega)).mono ?_; rintro e w7 ⟨v7, cells7, rfl, hown7, hts7, hb7⟩
          obtain ⟨A7, c7, rfl, hr7, _, _⟩ := hown7.shape
          replace hx5 := hx5.up hb7
          replace hbw := hbw.up hb7
          clear hown7 hb7
          go_wp2_with fail
          refine (rSplit Ax cx x w7 hx5 hx2 hx3 (by omega)).mono ?_; rintro e w8 ⟨v8, cells8, rfl, hown8, hts8, hb8⟩
          obtain ⟨A8, c8, rfl, hr8, _, _⟩ := hown8.shape
          replace hr7 := (hr7.up hb8).rs
          replace hts7 := (hts7.up hb8).rs
          replace hbw := hbw.up hb8
          replace hr8 := hr8.rs
          replace hts8 := hts8.rs
          clear hown8 hb8 hx5 cx1
          generalize Fr.code x = D at *
          generalize Fr.fin x = F at *
          obtain ⟨P, U⟩ := F
          simp only at hfin hts7 hts8
          go_wp2_with fail
          refine (sameB A7 A8 c7 c8 P cells7 cells8 w8 hr7 hr8 hts7 hts8 (by omega)).mono ?_; rintro e w9 ⟨rfl, m, rfl⟩
          go_wp2_with fail
          go_roundw
          case rel => exact ⟨k + 1, by omega, by go_num, hbw.drewN m⟩
          case measure => simp [intOf]; omega
        · replace hr := hr.up hbw
          replace hb := hb.up hbw
          go_wp2_with fail
          refine (fEncode A c raw wr hr (by omega)).mono ?_; rintro e w7 ⟨v7, rfl, hown7, hb7⟩
          obtain ⟨A7, c7, rfl, hr7, _, _⟩ := hown7.shape
          replace hr := hr.up hb7
          replace hb := hb.up hb7
          clear hown7 hb7
          go_wp2_with fail
          refine (rEncode A c raw w7 hr (by omega)).mono ?_; rintro e w8 ⟨v8, rfl, hown8, hb8⟩
          obtain ⟨A8, c8, rfl, hr8, _, _⟩ := hown8.shape
          replace hr7 := (hr7.up hb8).rs
          replace hr8 := hr8.rs
          replace hb := hb.up hb8
          clear hown8 hb8
          generalize encB raw = E at *
          generalize ecode raw = C at *
          have k1 := run_str (P := Try.prog) w8 (src := 23) (dst := 9) A7 c7 E Try.underlying23 Try.underlying5 Try.underlying9 hr7
          have k2 := run_str (P := Try.prog) w8 (src := 23) (dst := 9) A8 c8 E Try.underlying23 Try.underlying5 Try.underlying9 hr8
          go_wp2_with fail
          go_ret
          exact ⟨rfl, hb⟩
end Go.Proofs.Ytlpaemlgmmmbmaa
