/-
  The walks of the reference's Plan and SamePlan.
-/
import Derived.Test.YtpknglclcdgfbaaRlR
import Derived.Test.YtpknglclcdgfbaaRlT
namespace Go.Proofs.Ytpknglclcdgfbaa
open Go.RowKit Go.Shelf
set_option linter.unusedVariables false
set_option maxHeartbeats 8000000 in
set_option maxRecDepth 100000 in
theorem rplanC (A A' : Option Addr) (c c' : Nat) (old next : List Jd) (w : World) (ho : JL w A old) (hn : JL w A' next) (hs : old.length ≤ 1000000) (hs' : next.length ≤ 1000000) :
    Calls Try.prog 15 #[.slice A old.length c, .slice A' next.length c'] w (Made w 43 2 (planM old next).length (chgV (planM old next))) := by
  have HO := Lib.hid ho
  have HN := Lib.hid hn
  have HFN := Lib.hid (fun W nm (h : Old w W) => placeC A' c' next nm W (hn.up h))
  have HFO := Lib.hid (fun W nm (h : Old w W) => placeC A c old nm W (ho.up h))
  clear ho hn
  go_enter Try.func15, Try.ntmps15
  go_wp2_with fail
  go_loopw [5, 6] (fun v i wr => PoRel w old next v i wr) (fun _ i _ => old.length - (intOf i).toNat)
  case atStart => exact ⟨0, _, rfl, Nat.zero_le _, rfl, Lib.hid (Own.nil_ w _ _ _), Lib.hid (Old.refl _)⟩
  case round =>
    obtain ⟨k, v1, rfl, hk, rfl, HW, HD⟩ := hrel
    by_cases hlt : k < old.length
    · obtain ⟨b, off, rfl, hbl, hrow⟩ := (HO.out.up HD.out).row (by omega)
      have hrk := hrow k hlt
      have hjm := (HO.out.up HD.out).at_ hlt
      have HP := Lib.hid (pOld_succ old next k hlt)
      have HPL := Lib.hid (pOld_len old next k hk)
      clear hrow
      generalize old.getD k jd0 = x at *
      have HJM := Lib.hid hjm
      have HRK := Lib.hid hrk
      clear hjm hrk
      obtain ⟨c0, c1, c2, c3, c4, c5, c6, c7, c8, c9, c10, c11, c12, c13, c14⟩ := HRK.out
      have HD8 := HD
      have HW8 := HW
      have HJM8 := HJM
      obtain ⟨w8, hw8⟩ : ∃ w8, w8 = wr := ⟨_, rfl⟩
      clear hw8 w8
      go_wp2_with fail
      refine (HFN.out _ x.nm HD8.out).mono ?_; rintro e w1 ⟨r, rfl, hp, hd⟩
      have HKO := Lib.hid (kind_of hp)
      have HD1 := Lib.hid (HD8.out.up hd)
      have HW1 := Lib.hid (HW8.out.up hd)
      have HJM1 := Lib.hid (HJM8.out.up hd)
      have HRK1 : Hid (JCells w1 b (off + k * 15) x) := Lib.hid ⟨hd.cell c0, hd.cell c1, hd.cell c2, hd.cell c3, hd.cell c4, hd.cell c5, hd.cell c6, hd.cell c7, hd.cell c8, hd.cell c9, hd.cell c10, hd.cell c11, hd.cell c12, hd.cell c13, hd.cell c14⟩
      clear c0 c1 c2 c3 c4 c5 c6 c7 c8 c9 c10 c11 c12 c13 c14 hp hd HRK HD8 HW8 HJM8 HD HW HJM
      go_upto_if 24 with fail
      go_cut [8] (fun s wx => s = .int .i64 (kindJ next x) ∧ Old w1 wx)
      case first =>
        rcases HKO.out with ⟨rfl, hkk⟩ | ⟨k2, hk2, rfl, hkk⟩
        · have HK := Lib.hid hkk
          clear hkk
          go_wp2_with fail
          go_meet
          case rel => exact ⟨by rw [HK.out], Old.refl _⟩
        · have hd2 : decide ((k2 : Int) < 0) = false := by rw [decide_eq_false_iff_not]; omega
          obtain ⟨b2, off2, rfl, hbl2, hrow2⟩ := (HN.out.up HD1.out).row (by omega)
          have hrk2 := hrow2 k2 hk2
          have hs := fun W (h : Old w1 W) => rsameJ x (next.getD k2 jd0) W (HJM1.out.up h) (((HN.out.up HD1.out).at_ hk2).up h)
          clear hrow2
          generalize next.getD k2 jd0 = y at *
          unfold jdA at hs
          have HS := Lib.hid hs
          clear hs
          obtain ⟨d0, d1, d2, d3, d4, d5, d6, d7, d8, d9, d10, d11, d12, d13, d14⟩ := hrk2
          obtain ⟨c0, c1, c2, c3, c4, c5, c6, c7, c8, c9, c10, c11, c12, c13, c14⟩ := HRK1.out
          cases hs2 : sameJ x y
          · have HS' := Lib.hid (fun W (h : Old w1 W) => (HS.out W h).mono fun e w' q => (⟨by rw [q.1, hs2], h.up q.2⟩ : e = .returned (.bool false) ∧ Old w1 w'))
            rw [hs2] at hkk
            have HK := Lib.hid hkk
            clear hs2 hkk HS
            go_upto_region 9 with fail
            refine wp_region_still_tail 8 (by kernel_rfl) (by kernel_rfl) ?_
            simp only [List.take_succ_cons, List.take_zero, List.drop_succ_cons, List.drop_zero]
            refine still_open (fun S HSW HSS HSN => ?_)
            iterate 8 (refine HSW.out _ _ _ (by kernel_rfl) (fun K hK => ?_); go_simp; refine hK _ ?_; clear hK K)
            refine HSN.out _ ?_
            clear HSW HSS HSN
            go_wp2_with fail
            refine (HS'.out _ (by first | exact (Old.refl w1).drew | exact (Old.refl w1).drewN _ | exact Old.refl w1)).mono ?_; rintro e w2 ⟨rfl, hd⟩
            clear c0 c1 c2 c3 c4 c5 c6 c7 c8 c9 c10 c11 c12 c13 c14 d0 d1 d2 d3 d4 d5 d6 d7 d8 d9 d10 d11 d12 d13 d14
            go_wp2_with fail
            go_meet
            case rel => exact ⟨by rw [HK.out]; rfl, hd⟩
          · have HS' := Lib.hid (fun W (h : Old w1 W) => (HS.out W h).mono fun e w' q => (⟨by rw [q.1, hs2], h.up q.2⟩ : e = .returned (.bool true) ∧ Old w1 w'))
            rw [hs2] at hkk
            have HK := Lib.hid hkk
            clear hs2 hkk HS
            go_upto_region 9 with fail
            refine wp_region_still_tail 8 (by kernel_rfl) (by kernel_rfl) ?_
            simp only [List.take_succ_cons, List.take_zero, List.drop_succ_cons, List.drop_zero]
            refine still_open (fun S HSW HSS HSN => ?_)
            iterate 8 (refine HSW.out _ _ _ (by kernel_rfl) (fun K hK => ?_); go_simp; refine hK _ ?_; clear hK K)
            refine HSN.out _ ?_
            clear HSW HSS HSN
            go_wp2_with fail
            refine (HS'.out _ (by first | exact (Old.refl w1).drew | exact (Old.refl w1).drewN _ | exact Old.refl w1)).mono ?_; rintro e w2 ⟨rfl, hd⟩
            clear c0 c1 c2 c3 c4 c5 c6 c7 c8 c9 c10 c11 c12 c13 c14 d0 d1 d2 d3 d4 d5 d6 d7 d8 d9 d10 d11 d12 d13 d14
            go_wp2_with fail
            go_meet
            case rel => exact ⟨by rw [HK.out]; rfl, hd⟩
      case rest =>
        obtain ⟨rfl, hoc⟩ := hcut
        have HWc := Lib.hid (HW1.out.up hoc)
        have HDc := Lib.hid (HD1.out.up hoc)
        have hsz := HDc.out.size
        have hnn : (pOld old next k).length ≤ 1000000 := by rw [HPL.out]; omega
        obtain ⟨c0, c1, c2, c3, c4, c5, c6, c7, c8, c9, c10, c11, c12, c13, c14⟩ := HRK1.out
        have c0' := hoc.cell c0
        clear c0 c1 c2 c3 c4 c5 c6 c7 c8 c9 c10 c11 c12 c13 c14
        clear hoc HRK1 HW1 HD1 HJM1 HKO
        generalize kindJ next x = kd at *
        go_wp2_with (at_builtin; refine wpList_push (wr := wc) rfl _ _ 38 rfl _ 43 (.agg #[.string ⟨#[]⟩, .int .i64 0]) 2 24 Try.underlying38 info_chg rfl (by decide) (by decide) _ _ _ rfl HWc.out 1 1 [.string x.nm, .int .i64 kd] rfl rfl rfl rfl ?pn1 hsz ?_)
        case pn1 => omega
        intro v2 w2 ho2 hg2 hd2
        rw [chgV_snoc, ← HP.out] at ho2
        have HX : Hid (PoRel w old next v2 (.int .i64 ((k + 1 : Nat) : Int)) w2) := Lib.hid ⟨k + 1, _, rfl, by omega, rfl, Lib.hid (by rw [pOld_len old next (k + 1) (by omega)]; rw [HPL.out] at ho2; exact ho2), Lib.hid (hd2 _ HDc.out (Nat.le_refl _))⟩
        clear ho2 hg2 hd2 HWc HDc HP HPL c0'
        go_wp2_with fail
        go_roundw
        case rel => exact HX.out
        case measure => simp [intOf]; omega
    · obtain rfl : k = old.length := by omega
      have HW0 : Hid (PnRel w old next v1 (.int .i64 ((0 : Nat) : Int)) wr) := Lib.hid ⟨0, _, rfl, Nat.zero_le _, rfl, Lib.hid (by rw [← pOld_all]; exact HW.out), HD⟩
      clear HW HD hlt hk
      go_wp2_with fail
      go_loopw [5, 9] (fun v i wr => PnRel w old next v i wr) (fun _ i _ => next.length - (intOf i).toNat)
      case atStart => exact HW0.out
      case round =>
        clear HW0
        obtain ⟨k, v1, rfl, hk, rfl, HW, HD⟩ := hrel
        by_cases hlt : k < next.length
        · obtain ⟨b, off, rfl, hbl, hrow⟩ := (HN.out.up HD.out).row (by omega)
          have hrk := hrow k hlt
          have HPA := Lib.hid (pNew_add old next k hlt)
          have HPS := Lib.hid (pNew_same old next k hlt)
          have HPL := Lib.hid (pNew_len old next k hk)
          clear hrow
          generalize next.getD k jd0 = x at *
          have HRK := Lib.hid hrk
          clear hrk
          obtain ⟨c0, c1, c2, c3, c4, c5, c6, c7, c8, c9, c10, c11, c12, c13, c14⟩ := HRK.out
          have HD8 := HD
          have HW8 := HW
          go_wp2_with fail
          refine (HFO.out _ x.nm HD8.out).mono ?_; rintro e w1 ⟨r, rfl, hp, hd⟩
          have HKO := Lib.hid (lacks_of hp)
          have HD1 := Lib.hid (HD8.out.up hd)
          have HW1 := Lib.hid (HW8.out.up hd)
          have c0' := hd.cell c0
          clear c0 c1 c2 c3 c4 c5 c6 c7 c8 c9 c10 c11 c12 c13 c14 hp hd HRK HD8 HW8 HD HW
          have hsz := HD1.out.size
          have hnn : (pNew old next k).length ≤ 2000000 := by have := HPL.out; omega
          rcases HKO.out with ⟨rfl, hlk⟩ | ⟨k2, hk2, rfl, hlk⟩
          · have hpa := HPA.out hlk
            have HPB := Lib.hid hpa
            clear hpa hlk HPA HPS HPL HKO
            go_wp2_with (at_builtin; refine wpList_push (wr := w1) rfl _ _ 38 rfl _ 43 (.agg #[.string ⟨#[]⟩, .int .i64 0]) 2 24 Try.underlying38 info_chg rfl (by decide) (by decide) _ _ _ rfl HW1.out 1 1 [.string x.nm, .int .i64 4] rfl rfl rfl rfl ?pn2 hsz ?_)
            case pn2 => omega
            intro v2 w2 ho2 hg2 hd2
            rw [chgV_snoc, ← HPB.out] at ho2
            have HX : Hid (PnRel w old next v2 (.int .i64 ((k + 1 : Nat) : Int)) w2) := Lib.hid ⟨k + 1, _, rfl, by omega, rfl, Lib.hid (by rw [show (pNew old next (k + 1)).length = (pNew old next k).length + 1 by rw [HPB.out, List.length_append]; rfl]; exact ho2), Lib.hid (hd2 _ HD1.out (Nat.le_refl _))⟩
            clear ho2 hg2 hd2 HW1 HD1 HPB c0'
            go_wp2_with fail
            go_roundw
            case rel => exact HX.out
            case measure => simp [intOf]; omega
          · have hd2 : decide ((k2 : Int) < 0) = false := by rw [decide_eq_false_iff_not]; omega
            have hps := HPS.out hlk
            have HX : Hid (PnRel w old next v1 (.int .i64 ((k + 1 : Nat) : Int)) w1) := Lib.hid ⟨k + 1, _, rfl, by omega, rfl, Lib.hid (by rw [hps]; exact HW1.out), HD1⟩
            clear hps hlk HPA HPS HPL HKO c0'
            go_wp2_with fail
            go_roundw
            case rel => exact HX.out
            case measure => simp [intOf]; omega
        · obtain rfl : k = next.length := by omega
          have HX : Hid (Made w 43 2 (planM old next).length (chgV (planM old next)) (.returned v1) wr) := Lib.hid ⟨_, rfl, by rw [← pNew_all]; exact HW.out, HD.out⟩
          clear HW HD
          go_wp2_with fail
          go_ret
          exact HX.out
set_option maxHeartbeats 8000000 in
set_option maxRecDepth 100000 in
theorem samePlanC (A A' : Option Addr) (c c' : Nat) (l : List (ByteArray × Int)) (w : World) (hr : Rs w A (chgV l)) (hr' : Rs w A' (chgV l)) (hm : l.length ≤ 68719476736) :
    Calls Try.prog 13 #[.slice A l.length c, .slice A' l.length c'] w fun e w' => e = .returned (.bool true) ∧ Old w w' := by
  go_enter Try.func13, Try.ntmps13
  go_wp2_with fail
  go_loopw [5] (fun i wr => ∃ k m : Nat, k ≤ l.length ∧ i = .int .i64 k ∧ wr = w.drewN m) (fun i _ => l.length - (intOf i).toNat)
  case atStart => exact ⟨0, 0, Nat.zero_le _, rfl, rfl⟩
  case round =>
    obtain ⟨k, m, hk, rfl, rfl⟩ := hrel
    by_cases hlt : k < l.length
    · obtain ⟨b, off, rfl, _, hc⟩ := hr.at_ (by rw [chgV_length]; omega)
      obtain ⟨b', off', rfl, _, hc'⟩ := hr'.at_ (by rw [chgV_length]; omega)
      have c1 := hc _ _ (chgV_get l k hlt).1
      have c2 : w.cell? ⟨b, off + k * 2 + 1, none⟩ = _ := hc _ _ (chgV_get l k hlt).2
      have d1 := hc' _ _ (chgV_get l k hlt).1
      have d2 : w.cell? ⟨b', off' + k * 2 + 1, none⟩ = _ := hc' _ _ (chgV_get l k hlt).2
      clear hc hc' hr hr'
      generalize l.getD k (⟨#[]⟩, 0) = p at *
      obtain ⟨p1, p2⟩ := p
      simp only at c1 c2 d1 d2
      go_wp2_with fail
      go_quiet (fail)
      go_wp2_with fail
      go_roundw
      case rel => exact ⟨k + 1, m + nq, by omega, by go_num, by first | rfl | exact World.drewN_drewN ..⟩
      case measure => simp [intOf]; omega
    · go_wp2_with fail
      go_ret
      exact ⟨rfl, (Old.refl w).drewN m⟩
end Go.Proofs.Ytpknglclcdgfbaa
