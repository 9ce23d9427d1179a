/-
  The reference's relation of a node without kids.
-/
import Derived.Test.YthadkjgadhbidaaRnX
import Derived.Test.YthadkjgadhbidaaTxt
import Derived.Test.YthadkjgadhbidaaRxW
import Derived.Deep.CutBlock
namespace Go.Proofs.Ythadkjgadhbidaa
open Go.RowKit
set_option linter.unusedVariables false

theorem fill_same (F : Nat → Nat → Bool) (i i' k' : Nat) (h0 : ∀ k, F i k = false) : fillR F i 0 i' k' = fillR F (i + 1) 0 i' k' := by
  unfold fillR
  by_cases h2 : i' < i
  · rw [if_pos (Or.inl h2), if_pos (by omega)]
  · by_cases h3 : i' = i
    · subst h3
      rw [if_neg (by omega), if_pos (by omega), h0]
    · rw [if_neg (by omega), if_neg (by omega)]
theorem wrap_nat (i : Nat) (h : i < 1000000) : IntKind.i64.wrap (i : Int) = i := by
  simp [IntKind.wrap, IntKind.signed, IntKind.bits]
  omega
def ndB (x : Nd) : Value := .agg #[.int .i64 x.kind, .int .i64 x.left, .int .i64 x.right, .int .u64 (setW x.set 0), .int .u64 (setW x.set 1), .int .u64 (setW x.set 2), .int .u64 (setW x.set 3)]
set_option maxHeartbeats 8000000 in
set_option maxRecDepth 100000 in
theorem rleafC (x : Nd) (hso : setOk x.set) (At : Option Addr) (ct : Nat) (t : List Nat) (w : World) (ht : Rs w At (txt t)) (h8 : ∀ c ∈ t, c < 256) (hm : t.length ≤ 99999) :
    Calls Try.prog 67 #[ndB x, .slice At t.length ct] w (MatPost w (t.length + 1) (leafR x t)) := by
  unfold ndB
  have HT := Lib.hid ht
  have H8 := Lib.hid h8
  have HM := Lib.hid hm
  have HSO := Lib.hid hso
  obtain ⟨kd, lf, rt, st⟩ := x
  simp only at HSO ⊢
  clear ht h8 hm hso
  have hb5 := heap_alloc_new w (.cells #[.int .i64 kd, .int .i64 lf, .int .i64 rt, .int .u64 (setW st 0), .int .u64 (setW st 1), .int .u64 (setW st 2), .int .u64 (setW st 3)] 114)
  have HOW := Lib.hid ((Old.refl w).alloc (.cells #[.int .i64 kd, .int .i64 lf, .int .i64 rt, .int .u64 (setW st 0), .int .u64 (setW st 1), .int .u64 (setW st 2), .int .u64 (setW st 3)] 114))
  have HMM : Hid (t.length ≤ 99999) := HM
  go_enter Try.func67, Try.ntmps67
  go_upto_region 1 with fail
  generalize w.alloc (.cells #[.int .i64 kd, .int .i64 lf, .int .i64 rt, .int .u64 (setW st 0), .int .u64 (setW st 1), .int .u64 (setW st 2), .int .u64 (setW st 3)] 114) = W at *
  have HB5 := Lib.hid hb5
  clear hb5
  have HE := Lib.hid (emptyC (t.length + 1) (by omega) (by have := HMM.out; omega) W)
  have hmx : t.length ≤ 99999 := HMM.out
  go_wp2_with fail
  refine (HE.out).mono ?_; rintro e w1 ⟨_, rfl, ⟨g, cc, f, rfl, hb⟩, ho⟩
  clear hmx
  have HB := Lib.hid (hb.congr (fun i k _ _ => fill_none (leafR ⟨kd, lf, rt, st⟩ t) i k))
  have HO := Lib.hid ho
  clear hb ho HE
  go_wp2_with fail
  go_loopw [7] (fun s7 wr => FillRel W (t.length + 1) g cc f (leafR ⟨kd, lf, rt, st⟩ t) s7 wr) (fun s7 _ => t.length + 1 - (intOf s7).toNat)
  case atStart => exact ⟨0, rfl, Nat.zero_le _, HB, HO⟩
  case round =>
    clear HB HO
    obtain ⟨i, rfl, hi, HB, HO⟩ := hrel
    by_cases hlt : i < t.length + 1
    · have i1 : (i : Int) ≤ (t.length : Int) := by omega
      have i3 : (i : Int) < (t.length : Int) + 1 := by omega
      have i0 : (0 : Int) ≤ (i : Int) := by omega
      have hmx : t.length ≤ 99999 := HMM.out
      have q1 := HB.out.row hlt
      obtain ⟨q2, q3⟩ := HB.out.cell hlt hlt
      have hd0 := HO.out.block HB5.out
      have d0 : wr.cell? ⟨w.heap.size, 0, none⟩ = some (.int .i64 kd) := by rw [cell_of_row wr _ 0 _ _ _ hd0]; rfl
      have HD := Lib.hid hd0
      clear hd0
      have HST := Lib.hid (fun (c : Nat) (hc : c < t.length + 1) (v : Bool) (hv : leafR ⟨kd, lf, rt, st⟩ t i c = v) (h0 : ∀ k, k ≠ c → leafR ⟨kd, lf, rt, st⟩ t i k = false) =>
        (show FillRel W (t.length + 1) g cc f (leafR ⟨kd, lf, rt, st⟩ t) (.int .i64 ((i + 1 : Nat) : Int)) (wr.setCell ⟨f i, c, none⟩ (.bool v)) from
          ⟨i + 1, rfl, hlt, Lib.hid ((HB.out.set (k := c) hlt v).congr (fun i' k' _ _ => fill_one _ i c i' k' v hv h0)), Lib.hid (HB.out.old HO.out (Nat.le_refl _) hlt v)⟩))
      have HDR : Hid (∀ (v : Value) (wz : World), FillRel W (t.length + 1) g cc f (leafR ⟨kd, lf, rt, st⟩ t) v wz → FillRel W (t.length + 1) g cc f (leafR ⟨kd, lf, rt, st⟩ t) v wz.drew) := Lib.hid (by
        intro v wz ⟨k, h1, h2, h3, h4⟩
        exact ⟨k, h1, h2, Lib.hid (h3.out.up (Old.refl _).drew), Lib.hid h4.out.drew⟩)
      by_cases k1 : kd = 1
      · have hk1 : (kd == 1) = true := by simpa using k1
        have HW := Lib.hid (HST.out i hlt true (by unfold leafR; rw [if_pos k1]; simp) (fun k hk => by unfold leafR; rw [if_pos k1]; simp; omega))
        clear HB HO HST HDR k1
        go_wp2_with fail
        go_roundw
        case rel => exact HW.out
        case measure => simp [intOf]; omega
      have hk1 : (kd == 1) = false := by simpa using k1
      by_cases k8 : kd = 8
      · have hk8 : (kd == 8) = true := by simpa using k8
        have HW := Lib.hid (fun v (hv : bolT t i = v) => HDR.out _ _ (HST.out i hlt v (by unfold leafR; rw [if_neg k1, if_pos k8, hv]; simp) (fun k hk => by unfold leafR; rw [if_neg k1, if_pos k8]; simp; omega)))
        clear HB HDR k1 k8 HST
        go_upto_region 10 with fail
        refine wp_region_still_tail 16 (by kernel_rfl) (by kernel_rfl) ?_
        simp only [List.take_succ_cons, List.take_zero, List.drop_succ_cons, List.drop_zero]
        refine still_open (fun S HSW HSS HSN => ?_)
        rcases Nat.eq_zero_or_pos i with rfl | hip
        · clear HO
          iterate 8 (refine HSW.out _ _ _ (by kernel_rfl) (fun K hK => ?_); go_simp; refine hK _ ?_; clear hK K)
          iterate 6 (refine HSS.out _ _ _ (by kernel_rfl) (fun K hK => ?_); go_simp; refine hK _ ?_; clear hK K)
          iterate 2 (refine HSW.out _ _ _ (by kernel_rfl) (fun K hK => ?_); go_simp; refine hK _ ?_; clear hK K)
          refine HSN.out _ ?_
          clear HSW HSS HSN
          go_wp2_with fail
          go_roundw
          case rel => exact HW.out true rfl
          case measure => simp [intOf]
        · obtain ⟨i, rfl⟩ : ∃ j, i = j + 1 := ⟨i - 1, by omega⟩
          obtain ⟨b, off, rfl, hbl, hcl⟩ := (HT.out.up (HOW.out.up HO.out)).at_ (by rw [txt_length]; omega)
          have c0 := hcl _ _ (txt_get t i (by omega))
          have HVB : Hid (bolT t (i + 1) = (((t.getD i 0 : Nat) : Int) == 10)) := Lib.hid (by
            unfold bolT
            have e2 : ((((t.getD i 0 : Nat) : Int) == 10)) = (t.getD i 0 == 10) := by rw [Bool.eq_iff_iff, beq_iff_eq, beq_iff_eq]; omega
            rw [e2]; simp)
          have b0 : ((i : Int) + 1 == 0) = false := by simp; omega
          have hwr := wrap_nat i (by omega)
          have i4 : (0 : Int) ≤ (i : Int) := by omega
          have i6 : (0 : Int) ≤ (i : Int) + 1 := by omega
          have i5 : (i : Int) < (t.length : Int) := by omega
          clear hcl hbl HO
          generalize t.getD i 0 = ch at *
          iterate 16 (refine HSW.out _ _ _ (by kernel_rfl) (fun K hK => ?_); go_simp; refine hK _ ?_; clear hK K)
          refine HSN.out _ ?_
          clear HSW HSS HSN
          go_wp2_with fail
          go_roundw
          case rel => exact HW.out _ HVB.out
          case measure => simp [intOf]; omega
      have hk8 : (kd == 8) = false := by simpa using k8
      by_cases k9 : kd = 9
      · have hk9 : (kd == 9) = true := by simpa using k9
        have HW := Lib.hid (fun v (hv : eolT t i = v) => HDR.out _ _ (HST.out i hlt v (by unfold leafR; rw [if_neg k1, if_neg k8, if_pos k9, hv]; simp) (fun k hk => by unfold leafR; rw [if_neg k1, if_neg k8, if_pos k9]; simp; omega)))
        clear HB HDR k1 k8 k9 HST
        go_upto_region 12 with fail
        refine wp_region_still_tail 16 (by kernel_rfl) (by kernel_rfl) ?_
        simp only [List.take_succ_cons, List.take_zero, List.drop_succ_cons, List.drop_zero]
        refine still_open (fun S HSW HSS HSN => ?_)
        by_cases hit : i < t.length
        · obtain ⟨b, off, rfl, hbl, hcl⟩ := (HT.out.up (HOW.out.up HO.out)).at_ (by rw [txt_length]; omega)
          have c0 := hcl _ _ (txt_get t i (by omega))
          have HVB : Hid (eolT t i = (((t.getD i 0 : Nat) : Int) == 10)) := Lib.hid (by
            unfold eolT
            have e2 : ((((t.getD i 0 : Nat) : Int) == 10)) = (t.getD i 0 == 10) := by rw [Bool.eq_iff_iff, beq_iff_eq, beq_iff_eq]; omega
            rw [e2, decide_eq_true hit]; rfl)
          have i5 : (i : Int) < (t.length : Int) := by omega
          clear hcl hbl HO
          generalize t.getD i 0 = ch at *
          iterate 16 (refine HSW.out _ _ _ (by kernel_rfl) (fun K hK => ?_); go_simp; refine hK _ ?_; clear hK K)
          refine HSN.out _ ?_
          clear HSW HSS HSN
          go_wp2_with fail
          go_roundw
          case rel => exact HW.out _ HVB.out
          case measure => simp [intOf]; omega
        · have HVB : Hid (eolT t i = false) := Lib.hid (by unfold eolT; rw [decide_eq_false hit]; rfl)
          have i5 : ¬ (i : Int) < (t.length : Int) := by omega
          clear HO
          iterate 9 (refine HSW.out _ _ _ (by kernel_rfl) (fun K hK => ?_); go_simp; refine hK _ ?_; clear hK K)
          iterate 5 (refine HSS.out _ _ _ (by kernel_rfl) (fun K hK => ?_); go_simp; refine hK _ ?_; clear hK K)
          iterate 2 (refine HSW.out _ _ _ (by kernel_rfl) (fun K hK => ?_); go_simp; refine hK _ ?_; clear hK K)
          refine HSN.out _ ?_
          clear HSW HSS HSN
          go_wp2_with fail
          go_roundw
          case rel => exact HW.out _ HVB.out
          case measure => simp [intOf]; omega
      have hk9 : (kd == 9) = false := by simpa using k9
      by_cases k2 : kd = 2
      · have hk2 : (kd == 2) = true := by simpa using k2
        have d3 : wr.cell? ⟨w.heap.size, 3, none⟩ = some (.int .u64 (setW st 0)) := by rw [cell_of_row wr _ 3 _ _ _ HD.out]; rfl
        have d4 : wr.cell? ⟨w.heap.size, 4, none⟩ = some (.int .u64 (setW st 1)) := by rw [cell_of_row wr _ 4 _ _ _ HD.out]; rfl
        have d5 : wr.cell? ⟨w.heap.size, 5, none⟩ = some (.int .u64 (setW st 2)) := by rw [cell_of_row wr _ 5 _ _ _ HD.out]; rfl
        have d6 : wr.cell? ⟨w.heap.size, 6, none⟩ = some (.int .u64 (setW st 3)) := by rw [cell_of_row wr _ 6 _ _ _ HD.out]; rfl
        by_cases hit : i < t.length
        · obtain ⟨b, off, rfl, hbl, hcl⟩ := (HT.out.up (HOW.out.up HO.out)).at_ (by rw [txt_length]; omega)
          have c0 := hcl _ _ (txt_get t i (by omega))
          have i5 : (i : Int) < (t.length : Int) := by omega
          have HHC := Lib.hid (fun w' => hasC st (t.getD i 0) (H8.out _ (by rw [List.getD_eq_getElem?_getD, List.getElem?_eq_getElem hit]; exact List.getElem_mem hit)) w')
          have HLF : Hid (∀ k, leafR ⟨kd, lf, rt, st⟩ t i k = (hasB st (t.getD i 0) && (k == i + 1))) := Lib.hid (fun k => by unfold leafR; rw [if_neg k1, if_neg k8, if_neg k9, if_pos k2]; simp [hit])
          clear hcl hbl k1 k8 k9 k2 HST
          generalize hasB st (t.getD i 0) = hb at *
          generalize t.getD i 0 = ch at *
          go_upto_region 14 with fail
          refine wp_region_still_tail 10 (by kernel_rfl) (by kernel_rfl) ?_
          simp only [List.take_succ_cons, List.take_zero, List.drop_succ_cons, List.drop_zero]
          refine still_open (fun S HSW HSS HSN => ?_)
          iterate 10 (refine HSW.out _ _ _ (by kernel_rfl) (fun K hK => ?_); go_simp; refine hK _ ?_; clear hK K)
          refine HSN.out _ ?_
          clear HSW HSS HSN d0 d3 d4 d5 d6
          go_wp2_with fail
          refine (HHC.out _).mono ?_; rintro e w5 ⟨rfl, hd5⟩
          have HO5 := Lib.hid ((Old.refl wr).drew.up hd5)
          clear hd5 HHC
          cases hb with
          | false =>
            have HW : Hid (FillRel W (t.length + 1) g cc f (leafR ⟨kd, lf, rt, st⟩ t) (.int .i64 ((i + 1 : Nat) : Int)) w5) := Lib.hid ⟨i + 1, rfl, hlt, Lib.hid ((HB.out.up HO5.out).congr (fun i' k' _ _ => fill_same _ i i' k' (fun k => by rw [HLF.out]; rfl))), Lib.hid (HO.out.up HO5.out)⟩
            clear HB HO HDR HLF
            go_wp2_with fail
            go_roundw
            case rel => exact HW.out
            case measure => simp [intOf]; omega
          | true =>
            have hl2 : i + 1 < t.length + 1 := by omega
            obtain ⟨z2, z3⟩ := (HB.out.up HO5.out).cell hlt hl2
            have z1 := (HB.out.up HO5.out).row hlt
            have i6 : (0 : Int) ≤ (i : Int) + 1 := by omega
            have HW : Hid (FillRel W (t.length + 1) g cc f (leafR ⟨kd, lf, rt, st⟩ t) (.int .i64 ((i + 1 : Nat) : Int)) (w5.setCell ⟨f i, i + 1, none⟩ (.bool true))) := Lib.hid
              ⟨i + 1, rfl, hlt, Lib.hid (((HB.out.up HO5.out).set (k := i + 1) hlt true).congr (fun i' k' _ _ => fill_one _ i (i + 1) i' k' true (by rw [HLF.out]; simp) (fun k hk => by rw [HLF.out]; simp; omega))), Lib.hid ((HB.out.up HO5.out).old (HO.out.up HO5.out) (Nat.le_refl _) hlt true)⟩
            clear HB HO HDR HLF q1 q2 q3 c0
            go_wp2_with fail
            go_roundw
            case rel => exact HW.out
            case measure => simp [intOf]; omega
        · have i5 : ¬ (i : Int) < (t.length : Int) := by omega
          have HW : Hid (FillRel W (t.length + 1) g cc f (leafR ⟨kd, lf, rt, st⟩ t) (.int .i64 ((i + 1 : Nat) : Int)) wr.drew) := Lib.hid (HDR.out _ _ ⟨i + 1, rfl, hlt, Lib.hid (HB.out.congr (fun i' k' _ _ => fill_same _ i i' k' (fun k => by unfold leafR; rw [if_neg k1, if_neg k8, if_neg k9, if_pos k2]; simp [hit]))), HO⟩)
          clear HB HO HDR k1 k8 k9 k2 HST
          go_upto_region 14 with fail
          refine wp_region_still_tail 10 (by kernel_rfl) (by kernel_rfl) ?_
          simp only [List.take_succ_cons, List.take_zero, List.drop_succ_cons, List.drop_zero]
          refine still_open (fun S HSW HSS HSN => ?_)
          iterate 4 (refine HSW.out _ _ _ (by kernel_rfl) (fun K hK => ?_); go_simp; refine hK _ ?_; clear hK K)
          iterate 6 (refine HSS.out _ _ _ (by kernel_rfl) (fun K hK => ?_); go_simp; refine hK _ ?_; clear hK K)
          refine HSN.out _ ?_
          clear HSW HSS HSN
          go_wp2_with fail
          go_roundw
          case rel => exact HW.out
          case measure => simp [intOf]; omega
      · have hk2 : (kd == 2) = false := by simpa using k2
        have HW : Hid (FillRel W (t.length + 1) g cc f (leafR ⟨kd, lf, rt, st⟩ t) (.int .i64 ((i + 1 : Nat) : Int)) wr) := Lib.hid ⟨i + 1, rfl, hlt, Lib.hid (HB.out.congr (fun i' k' _ _ => fill_same _ i i' k' (fun k => by unfold leafR; rw [if_neg k1, if_neg k8, if_neg k9, if_neg k2]))), HO⟩
        clear HB HO HST HDR k1 k8 k9 k2
        go_wp2_with fail
        go_roundw
        case rel => exact HW.out
        case measure => simp [intOf]; omega
    · obtain rfl : i = t.length + 1 := by omega
      have HP : Hid (MatPost w (t.length + 1) (leafR ⟨kd, lf, rt, st⟩ t) (.returned (.slice (some ⟨g, 0, none⟩) (t.length + 1) cc)) wr) := Lib.hid ⟨_, rfl, ⟨g, cc, f, rfl, (HB.out.congr (fun i' k' hi' _ => fill_all _ _ i' k' hi')).base_ HOW.out.size⟩, HOW.out.up HO.out⟩
      have hmx : t.length ≤ 99999 := HMM.out
      clear HB HO
      go_wp2_with fail
      go_ret
      exact HP.out
end Go.Proofs.Ythadkjgadhbidaa
