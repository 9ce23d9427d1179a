/-
  The reference's relations: then, star.
-/
import Derived.Test.YthadkjgadhbidaaRnX
namespace Go.Proofs.Ythadkjgadhbidaa
open Go.RowKit
set_option linter.unusedVariables false

def thSt (m : Nat) (a b : Nat → Nat → Bool) (i j k : Nat) : Nat → Nat → Bool := fun i' k' =>
  if i' < i then thenR m a b i' k' else if i' = i then (midR a b i k' j || (decide (k' < k) && (a i j && b j k'))) else false
theorem th_none (m : Nat) (a b : Nat → Nat → Bool) (i' k' : Nat) : emptyR i' k' = thSt m a b 0 0 0 i' k' := by
  unfold thSt emptyR
  rw [if_neg (by omega)]
  split
  · rw [midR, decide_eq_false (by omega)]; rfl
  · rfl
theorem th_step (m : Nat) (a b : Nat → Nat → Bool) (i j k i' k' : Nat) (h : a i j = true) : (if i' = i ∧ k' = k then (thSt m a b i j k i k || b j k) else thSt m a b i j k i' k') = thSt m a b i j (k + 1) i' k' := by
  unfold thSt
  by_cases hc : i' = i ∧ k' = k
  · obtain ⟨rfl, rfl⟩ := hc
    rw [if_pos ⟨rfl, rfl⟩, if_neg (by omega), if_pos rfl, if_neg (by omega), if_pos rfl, decide_eq_false (by omega), decide_eq_true (by omega), h]
    simp
  · rw [if_neg hc]
    by_cases h1 : i' < i
    · rw [if_pos h1, if_pos h1]
    · rw [if_neg h1, if_neg h1]
      by_cases h2 : i' = i
      · rw [if_pos h2, if_pos h2]
        have : decide (k' < k) = decide (k' < k + 1) := by
          rw [Bool.eq_iff_iff, decide_eq_true_iff, decide_eq_true_iff]
          have : k' ≠ k := fun e => hc ⟨h2, e⟩
          omega
        rw [this]
      · rw [if_neg h2, if_neg h2]
theorem th_col (m : Nat) (a b : Nat → Nat → Bool) (i j k i' k' : Nat) (hk : k' < m) (h : k = m ∨ a i j = false) : thSt m a b i j k i' k' = thSt m a b i (j + 1) 0 i' k' := by
  unfold thSt
  by_cases h1 : i' < i
  · rw [if_pos h1, if_pos h1]
  · rw [if_neg h1, if_neg h1]
    by_cases h2 : i' = i
    · rw [if_pos h2, if_pos h2, midR]
      rcases h with rfl | h
      · rw [decide_eq_true hk, decide_eq_false (show ¬ k' < 0 by omega)]
        simp
      · rw [h]; simp
    · rw [if_neg h2, if_neg h2]
theorem th_row (m : Nat) (a b : Nat → Nat → Bool) (i i' k' : Nat) : thSt m a b i m 0 i' k' = thSt m a b (i + 1) 0 0 i' k' := by
  unfold thSt
  by_cases h1 : i' < i
  · rw [if_pos h1, if_pos (by omega)]
  · rw [if_neg h1]
    by_cases h2 : i' = i
    · rw [if_pos h2, if_pos (by omega), decide_eq_false (by omega), h2]
      simp [thenR]
    · rw [if_neg h2, if_neg (by omega)]
      by_cases h3 : i' = i + 1
      · rw [if_pos h3, midR, decide_eq_false (by omega)]; rfl
      · rw [if_neg h3]
theorem th_all (m : Nat) (a b : Nat → Nat → Bool) (i' k' : Nat) (hi : i' < m) : thSt m a b m 0 0 i' k' = thenR m a b i' k' := if_pos hi
/-- Row i of round j is under way. -/
def waSt (a : Nat → Nat → Bool) (j i k : Nat) : Nat → Nat → Bool := fun i' k' =>
  if i' < i then warR a (j + 1) i' k' else if i' = i then (warR a j i k' || (decide (k' < k) && (warR a j i j && warR a j j k'))) else warR a j i' k'
theorem wa_none (a : Nat → Nat → Bool) (i' k' : Nat) : bothR stayR a i' k' = waSt a 0 0 0 i' k' := by
  unfold waSt bothR stayR
  rw [if_neg (by omega)]
  split
  · rename_i h
    subst h
    rw [warR, decide_eq_false (show ¬ k' < 0 by omega)]; simp
  · rw [warR]
theorem wa_col (a : Nat → Nat → Bool) (j i k : Nat) : waSt a j i k i j = warR a j i j := by
  unfold waSt
  rw [if_neg (by omega), if_pos rfl]
  cases warR a j i j <;> simp
theorem wa_self (a : Nat → Nat → Bool) (j i k : Nat) : waSt a j i k i k = warR a j i k := by
  unfold waSt
  rw [if_neg (by omega), if_pos rfl, decide_eq_false (by omega)]
  simp
theorem wa_other (a : Nat → Nat → Bool) (j i k : Nat) : waSt a j i k j k = warR a j j k := by
  unfold waSt
  by_cases h1 : j < i
  · rw [if_pos h1, warR]; cases warR a j j k <;> simp
  · rw [if_neg h1]
    by_cases h2 : j = i
    · rw [if_pos h2, decide_eq_false (by omega), h2]; simp
    · rw [if_neg h2]
theorem wa_step (a : Nat → Nat → Bool) (j i k i' k' : Nat) (h : warR a j i j = true) : (if i' = i ∧ k' = k then (waSt a j i k i k || waSt a j i k j k) else waSt a j i k i' k') = waSt a j i (k + 1) i' k' := by
  rw [wa_self, wa_other]
  unfold waSt
  by_cases hc : i' = i ∧ k' = k
  · obtain ⟨rfl, rfl⟩ := hc
    rw [if_pos ⟨rfl, rfl⟩, if_neg (by omega), if_pos rfl, decide_eq_true (by omega), h]
    simp
  · rw [if_neg hc]
    by_cases h1 : i' < i
    · rw [if_pos h1, if_pos h1]
    · rw [if_neg h1, if_neg h1]
      by_cases h2 : i' = i
      · rw [if_pos h2, if_pos h2]
        have : decide (k' < k) = decide (k' < k + 1) := by
          rw [Bool.eq_iff_iff, decide_eq_true_iff, decide_eq_true_iff]
          have : k' ≠ k := fun e => hc ⟨h2, e⟩
          omega
        rw [this]
      · rw [if_neg h2, if_neg h2]
theorem wa_row (a : Nat → Nat → Bool) (m j i k i' k' : Nat) (hk : k' < m) (h : k = m ∨ warR a j i j = false) : waSt a j i k i' k' = waSt a j (i + 1) 0 i' k' := by
  unfold waSt
  by_cases h1 : i' < i
  · rw [if_pos h1, if_pos (by omega)]
  · rw [if_neg h1]
    by_cases h2 : i' = i
    · rw [if_pos h2, if_pos (by omega), h2, warR]
      rcases h with rfl | h
      · rw [decide_eq_true hk, Bool.true_and]
      · rw [h]; simp
    · rw [if_neg h2, if_neg (by omega)]
      by_cases h3 : i' = i + 1
      · rw [if_pos h3, decide_eq_false (show ¬ k' < 0 by omega), h3]; simp
      · rw [if_neg h3]
theorem wa_round (a : Nat → Nat → Bool) (m j i' k' : Nat) (hi : i' < m) : waSt a j m 0 i' k' = waSt a (j + 1) 0 0 i' k' := by
  unfold waSt
  rw [if_pos hi, if_neg (by omega)]
  by_cases h : i' = 0
  · rw [if_pos h, decide_eq_false (show ¬ k' < 0 by omega), h]; simp
  · rw [if_neg h]
theorem wa_all (a : Nat → Nat → Bool) (m i' k' : Nat) : waSt a m 0 0 i' k' = starR m a i' k' := by
  unfold waSt starR
  rw [if_neg (by omega)]
  by_cases h : i' = 0
  · rw [if_pos h, decide_eq_false (show ¬ k' < 0 by omega), h]; simp
  · rw [if_neg h]
def MxRel (w : World) (m g cc : Nat) (f : Nat → Nat) (F : Nat → Nat → Nat → Bool) (v : Value) (wr : World) : Prop :=
  ∃ i : Nat, v = .int .i64 i ∧ i ≤ m ∧ Hid (MatB wr w.heap.size g cc f m (F i)) ∧ Hid (Old w wr)
set_option maxHeartbeats 8000000 in
set_option maxRecDepth 100000 in
theorem thenC (m : Nat) (hm : 1 ≤ m) (hm2 : m ≤ 100000) (va vb : Value) (ba bb : Nat) (a b : Nat → Nat → Bool) (w : World) (ha : MatV w ba va m a) (hb : MatV w bb vb m b) :
    Calls Try.prog 63 #[va, vb] w (MatPost w m (thenR m a b)) := by
  obtain ⟨ga, ca, fa, rfl, hA⟩ := ha
  obtain ⟨gb, cb, fb, rfl, hB⟩ := hb
  have HE := Lib.hid (emptyC m hm hm2 w)
  have HM := Lib.hid hm
  have HM2 := Lib.hid hm2
  have HA := Lib.hid hA
  have HBB := Lib.hid hB
  clear hm hm2 hA hB
  go_enter Try.func63, Try.ntmps63
  go_wp2_with fail
  refine (HE.out).mono ?_; rintro e w1 ⟨_, rfl, ⟨g, cc, f, rfl, hb⟩, ho⟩
  have HB := Lib.hid (hb.congr (fun i k _ _ => th_none m a b i k))
  have HO := Lib.hid ho
  clear hb ho HE
  go_wp2_with fail
  go_loopw [6] (fun s6 wr => MxRel w m g cc f (fun i => thSt m a b i 0 0) s6 wr) (fun s6 _ => m - (intOf s6).toNat)
  case atStart => exact ⟨0, rfl, Nat.zero_le _, HB, HO⟩
  case round =>
    clear HB HO
    obtain ⟨i, rfl, hi, HB, HO⟩ := hrel
    by_cases hlt : i < m
    · have i1 : (i : Int) < (m : Int) := by omega
      have i0 : (0 : Int) ≤ (i : Int) := by omega
      go_wp2_with fail
      go_loopw [7] (fun s7 wr => MxRel w m g cc f (fun j => thSt m a b i j 0) s7 wr) (fun s7 _ => m - (intOf s7).toNat)
      case atStart => exact ⟨0, rfl, Nat.zero_le _, HB, HO⟩
      case round =>
        clear HB HO
        obtain ⟨j, rfl, hj, HB, HO⟩ := hrel
        by_cases hltj : j < m
        · have j1 : (j : Int) < (m : Int) := by omega
          have j0 : (0 : Int) ≤ (j : Int) := by omega
          go_wp2_with fail
          go_loopw [8] (fun s8 wr => MxRel w m g cc f (fun k => thSt m a b i j k) s8 wr) (fun s8 _ => m - (intOf s8).toNat)
          case atStart => exact ⟨0, rfl, Nat.zero_le _, HB, HO⟩
          case round =>
            clear HB HO
            obtain ⟨k, rfl, hk, HB, HO⟩ := hrel
            by_cases hltk : k < m
            · have k1 : (k : Int) < (m : Int) := by omega
              have k0 : (0 : Int) ≤ (k : Int) := by omega
              have r1 := (HA.out.up HO.out).row hlt
              have r2 := ((HA.out.up HO.out).cell hlt hltj).1
              by_cases haij : a i j = true
              · have q1 := HB.out.row hlt
                obtain ⟨q2, q3⟩ := HB.out.cell hlt hltk
                replace q2 : wr.cell? ⟨f i, k, none⟩ = some (.bool (thSt m a b i j k i k)) := q2
                have t1 := (HBB.out.up HO.out).row hltj
                have t2 := ((HBB.out.up HO.out).cell hltj hltk).1
                have HW : Hid (∀ v, v = (thSt m a b i j k i k || b j k) → MxRel w m g cc f (fun k => thSt m a b i j k) (.int .i64 ((k + 1 : Nat) : Int)) (wr.setCell ⟨f i, k, none⟩ (.bool v)).drew) := Lib.hid (by
                  rintro v rfl
                  exact ⟨k + 1, rfl, hltk, Lib.hid (((HB.out.set (k := k) hlt _).congr (fun i' k' _ _ => th_step m a b i j k i' k' haij)).up (Old.refl _).drew), Lib.hid (HB.out.old HO.out (Nat.le_refl _) hlt _).drew⟩)
                have hm2' := HM2.out
                rw [haij] at r2
                clear haij
                generalize b j k = y at *
                generalize thSt m a b i j k i k = x at *
                clear HB HO
                cases x
                · have HF : Hid (y = (false || y)) := Lib.hid (by simp)
                  go_upto_region 11 with fail
                  refine wp_region_still_tail 22 (by kernel_rfl) (by kernel_rfl) ?_
                  simp only [List.take_succ_cons, List.take_zero, List.drop_succ_cons, List.drop_zero]
                  refine still_open (fun S HSW HSS HSN => ?_)
                  iterate 22 (refine HSW.out _ _ _ (by kernel_rfl) (fun K hK => ?_); go_simp; refine hK _ ?_; clear hK K)
                  refine HSN.out _ ?_
                  clear HSW HSS HSN
                  go_wp2_with fail
                  go_roundw
                  case rel => exact HW.out _ HF.out
                  case measure => simp [intOf]; omega
                · have HF : Hid (true = (true || y)) := Lib.hid (by simp)
                  go_upto_region 11 with fail
                  refine wp_region_still_tail 22 (by kernel_rfl) (by kernel_rfl) ?_
                  simp only [List.take_succ_cons, List.take_zero, List.drop_succ_cons, List.drop_zero]
                  refine still_open (fun S HSW HSS HSN => ?_)
                  iterate 13 (refine HSW.out _ _ _ (by kernel_rfl) (fun K hK => ?_); go_simp; refine hK _ ?_; clear hK K)
                  iterate 7 (refine HSS.out _ _ _ (by kernel_rfl) (fun K hK => ?_); go_simp; refine hK _ ?_; clear hK K)
                  iterate 2 (refine HSW.out _ _ _ (by kernel_rfl) (fun K hK => ?_); go_simp; refine hK _ ?_; clear hK K)
                  refine HSN.out _ ?_
                  clear HSW HSS HSN
                  go_wp2_with fail
                  go_roundw
                  case rel => exact HW.out _ HF.out
                  case measure => simp [intOf]; omega
              · have hfa : a i j = false := by simpa using haij
                have HW : Hid (MxRel w m g cc f (fun j => thSt m a b i j 0) (.int .i64 ((j + 1 : Nat) : Int)) wr) := Lib.hid ⟨j + 1, rfl, hltj, Lib.hid (HB.out.congr (fun i' k' _ hk' => th_col m a b i j k i' k' hk' (Or.inr hfa))), HO⟩
                have hm2' := HM2.out
                rw [hfa] at r2
                clear HB HO haij hfa
                go_wp2_with fail
                go_roundw
                case rel => exact HW.out
                case measure => simp [intOf]; omega
            · obtain rfl : k = m := by omega
              have HW : Hid (MxRel w k g cc f (fun j => thSt k a b i j 0) (.int .i64 ((j + 1 : Nat) : Int)) wr) := Lib.hid ⟨j + 1, rfl, hltj, Lib.hid (HB.out.congr (fun i' k' _ hk' => th_col k a b i j k i' k' hk' (Or.inl rfl))), HO⟩
              have hm2' := HM2.out
              clear HB HO
              go_wp2_with fail
              go_roundw
              case rel => exact HW.out
              case measure => simp [intOf]; omega
        · obtain rfl : j = m := by omega
          have HW : Hid (MxRel w j g cc f (fun i => thSt j a b i 0 0) (.int .i64 ((i + 1 : Nat) : Int)) wr) := Lib.hid ⟨i + 1, rfl, hlt, Lib.hid (HB.out.congr (fun i' k' _ _ => th_row j a b i i' k')), HO⟩
          have hm2' := HM2.out
          clear HB HO
          go_wp2_with fail
          go_roundw
          case rel => exact HW.out
          case measure => simp [intOf]; omega
    · obtain rfl : i = m := by omega
      have HP : Hid (MatPost w i (thenR i a b) (.returned (.slice (some ⟨g, 0, none⟩) i cc)) wr) := Lib.hid ⟨_, rfl, ⟨g, cc, f, rfl, HB.out.congr (fun i' k' hi' _ => th_all i a b i' k' hi')⟩, HO.out⟩
      clear HB HO
      go_wp2_with fail
      go_ret
      exact HP.out
set_option maxHeartbeats 8000000 in
set_option maxRecDepth 100000 in
theorem starC (m : Nat) (hm : 1 ≤ m) (hm2 : m ≤ 100000) (va : Value) (ba : Nat) (a : Nat → Nat → Bool) (w : World) (ha : MatV w ba va m a) :
    Calls Try.prog 65 #[va] w (MatPost w m (starR m a)) := by
  have HV := Lib.hid ha
  obtain ⟨ga, ca, fa, rfl, hA⟩ := ha
  have HE := Lib.hid (stayC m hm hm2 w)
  have HBC := Lib.hid (fun vs bs w' h1 h2 => bothC m hm hm2 vs (.slice (some ⟨ga, 0, none⟩) m ca) bs ba stayR a w' h1 h2)
  have HM := Lib.hid hm
  have HM2 := Lib.hid hm2
  clear hm hm2 hA
  go_enter Try.func65, Try.ntmps65
  go_wp2_with fail
  refine (HE.out).mono ?_; rintro e w1 ⟨v1, rfl, hv1, ho1⟩
  have HC := Lib.hid (HBC.out v1 _ w1 hv1 (HV.out.up ho1))
  have HO1 := Lib.hid ho1
  clear hv1 ho1 HE HBC HV
  go_wp2_with fail
  refine (HC.out).mono ?_; rintro e w2 ⟨_, rfl, ⟨g, cc, f, rfl, hb⟩, ho⟩
  have HB := Lib.hid ((hb.base_ HO1.out.size).congr (fun i k _ _ => wa_none a i k))
  have HO := Lib.hid (HO1.out.up ho)
  clear hb ho HC HO1
  go_wp2_with fail
  go_loopw [4] (fun s6 wr => MxRel w m g cc f (fun j => waSt a j 0 0) s6 wr) (fun s6 _ => m - (intOf s6).toNat)
  case atStart => exact ⟨0, rfl, Nat.zero_le _, HB, HO⟩
  case round =>
    clear HB HO
    obtain ⟨j, rfl, hj, HB, HO⟩ := hrel
    by_cases hltj : j < m
    · have j1 : (j : Int) < (m : Int) := by omega
      have j0 : (0 : Int) ≤ (j : Int) := by omega
      go_wp2_with fail
      go_loopw [5] (fun s7 wr => MxRel w m g cc f (fun i => waSt a j i 0) s7 wr) (fun s7 _ => m - (intOf s7).toNat)
      case atStart => exact ⟨0, rfl, Nat.zero_le _, HB, HO⟩
      case round =>
        clear HB HO
        obtain ⟨i, rfl, hi, HB, HO⟩ := hrel
        by_cases hlt : i < m
        · have i1 : (i : Int) < (m : Int) := by omega
          have i0 : (0 : Int) ≤ (i : Int) := by omega
          go_wp2_with fail
          go_loopw [6] (fun s8 wr => MxRel w m g cc f (fun k => waSt a j i k) s8 wr) (fun s8 _ => m - (intOf s8).toNat)
          case atStart => exact ⟨0, rfl, Nat.zero_le _, HB, HO⟩
          case round =>
            clear HB HO
            obtain ⟨k, rfl, hk, HB, HO⟩ := hrel
            by_cases hltk : k < m
            · have k1 : (k : Int) < (m : Int) := by omega
              have k0 : (0 : Int) ≤ (k : Int) := by omega
              have q1 := HB.out.row hlt
              have r2 := (HB.out.cell hlt hltj).1
              replace r2 : wr.cell? ⟨f i, j, none⟩ = some (.bool (waSt a j i k i j)) := r2
              rw [wa_col] at r2
              by_cases haij : warR a j i j = true
              · obtain ⟨q2, q3⟩ := HB.out.cell hlt hltk
                have t1 := HB.out.row hltj
                have t2 := (HB.out.cell hltj hltk).1
                replace q2 : wr.cell? ⟨f i, k, none⟩ = some (.bool (waSt a j i k i k)) := q2
                replace t2 : wr.cell? ⟨f j, k, none⟩ = some (.bool (waSt a j i k j k)) := t2
                have HW : Hid (∀ v, v = (waSt a j i k i k || waSt a j i k j k) → MxRel w m g cc f (fun k => waSt a j i k) (.int .i64 ((k + 1 : Nat) : Int)) (wr.setCell ⟨f i, k, none⟩ (.bool v)).drew) := Lib.hid (by
                  rintro v rfl
                  exact ⟨k + 1, rfl, hltk, Lib.hid (((HB.out.set (k := k) hlt _).congr (fun i' k' _ _ => wa_step a j i k i' k' haij)).up (Old.refl _).drew), Lib.hid (HB.out.old HO.out (Nat.le_refl _) hlt _).drew⟩)
                have hm2' := HM2.out
                rw [haij] at r2
                rw [wa_self, wa_other] at HW
                rw [wa_self] at q2
                rw [wa_other] at t2
                clear haij
                generalize warR a j j k = y at *
                generalize warR a j i k = x at *
                clear HB HO
                cases x
                · have HF : Hid (y = (false || y)) := Lib.hid (by simp)
                  go_upto_region 11 with fail
                  refine wp_region_still_tail 22 (by kernel_rfl) (by kernel_rfl) ?_
                  simp only [List.take_succ_cons, List.take_zero, List.drop_succ_cons, List.drop_zero]
                  refine still_open (fun S HSW HSS HSN => ?_)
                  iterate 22 (refine HSW.out _ _ _ (by kernel_rfl) (fun K hK => ?_); go_simp; refine hK _ ?_; clear hK K)
                  refine HSN.out _ ?_
                  clear HSW HSS HSN
                  go_wp2_with fail
                  go_roundw
                  case rel => exact HW.out _ HF.out
                  case measure => simp [intOf]; omega
                · have HF : Hid (true = (true || y)) := Lib.hid (by simp)
                  go_upto_region 11 with fail
                  refine wp_region_still_tail 22 (by kernel_rfl) (by kernel_rfl) ?_
                  simp only [List.take_succ_cons, List.take_zero, List.drop_succ_cons, List.drop_zero]
                  refine still_open (fun S HSW HSS HSN => ?_)
                  iterate 13 (refine HSW.out _ _ _ (by kernel_rfl) (fun K hK => ?_); go_simp; refine hK _ ?_; clear hK K)
                  iterate 7 (refine HSS.out _ _ _ (by kernel_rfl) (fun K hK => ?_); go_simp; refine hK _ ?_; clear hK K)
                  iterate 2 (refine HSW.out _ _ _ (by kernel_rfl) (fun K hK => ?_); go_simp; refine hK _ ?_; clear hK K)
                  refine HSN.out _ ?_
                  clear HSW HSS HSN
                  go_wp2_with fail
                  go_roundw
                  case rel => exact HW.out _ HF.out
                  case measure => simp [intOf]; omega
              · have hfa : warR a j i j = false := by simpa using haij
                have HW : Hid (MxRel w m g cc f (fun i => waSt a j i 0) (.int .i64 ((i + 1 : Nat) : Int)) wr) := Lib.hid ⟨i + 1, rfl, hlt, Lib.hid (HB.out.congr (fun i' k' _ hk' => wa_row a m j i k i' k' hk' (Or.inr hfa))), HO⟩
                have hm2' := HM2.out
                rw [hfa] at r2
                clear HB HO haij hfa
                go_wp2_with fail
                go_roundw
                case rel => exact HW.out
                case measure => simp [intOf]; omega
            · obtain rfl : k = m := by omega
              have HW : Hid (MxRel w k g cc f (fun i => waSt a j i 0) (.int .i64 ((i + 1 : Nat) : Int)) wr) := Lib.hid ⟨i + 1, rfl, hlt, Lib.hid (HB.out.congr (fun i' k' _ hk' => wa_row a k j i k i' k' hk' (Or.inl rfl))), HO⟩
              have hm2' := HM2.out
              clear HB HO
              go_wp2_with fail
              go_roundw
              case rel => exact HW.out
              case measure => simp [intOf]; omega
        · obtain rfl : i = m := by omega
          have HW : Hid (MxRel w i g cc f (fun j => waSt a j 0 0) (.int .i64 ((j + 1 : Nat) : Int)) wr) := Lib.hid ⟨j + 1, rfl, hltj, Lib.hid (HB.out.congr (fun i' k' hi' _ => wa_round a i j i' k' hi')), HO⟩
          have hm2' := HM2.out
          clear HB HO
          go_wp2_with fail
          go_roundw
          case rel => exact HW.out
          case measure => simp [intOf]; omega
    · obtain rfl : j = m := by omega
      have HP : Hid (MatPost w j (starR j a) (.returned (.slice (some ⟨g, 0, none⟩) j cc)) wr) := Lib.hid ⟨_, rfl, ⟨g, cc, f, rfl, HB.out.congr (fun i' k' _ _ => wa_all a j i' k')⟩, HO.out⟩
      clear HB HO
      go_wp2_with fail
      go_ret
      exact HP.out
end Go.Proofs.Ythadkjgadhbidaa
