/-
  The reference's relations: both, stay.
-/
import Derived.Test.YthadkjgadhbidaaRnW
import Derived.Test.YthadkjgadhbidaaStill
namespace Go.Proofs.Ythadkjgadhbidaa
open Go.RowKit
set_option linter.unusedVariables false

/-- F in the cells ahead of (i, k), row by row; elsewhere false. -/
def fillR (F : Nat → Nat → Bool) (i k : Nat) : Nat → Nat → Bool := fun i' k' => if i' < i ∨ (i' = i ∧ k' < k) then F i' k' else false
theorem fill_step (F : Nat → Nat → Bool) (i k i' k' : Nat) : (if i' = i ∧ k' = k then F i k else fillR F i k i' k') = fillR F i (k + 1) i' k' := by
  unfold fillR
  by_cases h : i' = i ∧ k' = k
  · obtain ⟨rfl, rfl⟩ := h
    rw [if_pos ⟨rfl, rfl⟩, if_pos (Or.inr ⟨rfl, by omega⟩)]
  · rw [if_neg h]
    by_cases h2 : i' < i ∨ (i' = i ∧ k' < k)
    · rw [if_pos h2, if_pos (by omega)]
    · rw [if_neg h2, if_neg (by omega)]
theorem fill_row (F : Nat → Nat → Bool) (m i i' k' : Nat) (hk : k' < m) : fillR F i m i' k' = fillR F (i + 1) 0 i' k' := by
  unfold fillR
  by_cases h2 : i' < i + 1
  · rw [if_pos (by omega), if_pos (by omega)]
  · rw [if_neg (by omega), if_neg (by omega)]
theorem fill_all (F : Nat → Nat → Bool) (m i' k' : Nat) (hi : i' < m) : fillR F m 0 i' k' = F i' k' := if_pos (Or.inl hi)
theorem fill_none (F : Nat → Nat → Bool) (i' k' : Nat) : emptyR i' k' = fillR F 0 0 i' k' := by
  unfold fillR emptyR; rw [if_neg (by omega)]
/-- One cell of row i is set; the others stay false. -/
theorem fill_one (F : Nat → Nat → Bool) (i c i' k' : Nat) (v : Bool) (hv : F i c = v) (h0 : ∀ k, k ≠ c → F i k = false) : (if i' = i ∧ k' = c then v else fillR F i 0 i' k') = fillR F (i + 1) 0 i' k' := by
  unfold fillR
  by_cases h : i' = i ∧ k' = c
  · obtain ⟨rfl, rfl⟩ := h
    rw [if_pos ⟨rfl, rfl⟩, if_pos (by omega), hv]
  · rw [if_neg h]
    by_cases h2 : i' < i
    · rw [if_pos (Or.inl h2), if_pos (by omega)]
    · by_cases h3 : i' = i
      · subst h3
        rw [if_neg (by omega), if_pos (by omega), h0 k' (fun e => h ⟨rfl, e⟩)]
      · rw [if_neg (by omega), if_neg (by omega)]
def FillRel (w : World) (m g cc : Nat) (f : Nat → Nat) (F : Nat → Nat → Bool) (v : Value) (wr : World) : Prop :=
  ∃ i : Nat, v = .int .i64 i ∧ i ≤ m ∧ Hid (MatB wr w.heap.size g cc f m (fillR F i 0)) ∧ Hid (Old w wr)
def FillIn (w : World) (m g cc : Nat) (f : Nat → Nat) (F : Nat → Nat → Bool) (i : Nat) (v : Value) (wr : World) : Prop :=
  ∃ k : Nat, v = .int .i64 k ∧ k ≤ m ∧ Hid (MatB wr w.heap.size g cc f m (fillR F i k)) ∧ Hid (Old w wr)
set_option maxHeartbeats 4000000 in
set_option maxRecDepth 100000 in
theorem stayC (m : Nat) (hm : 1 ≤ m) (hm2 : m ≤ 100000) (w : World) : Calls Try.prog 66 #[.int .i64 m] w (MatPost w m stayR) := by
  have HE := Lib.hid (emptyC m hm hm2 w)
  have HM := Lib.hid hm
  have HM2 := Lib.hid hm2
  clear hm hm2
  go_enter Try.func66, Try.ntmps66
  go_wp2_with fail
  refine (HE.out).mono ?_; rintro e w1 ⟨_, rfl, ⟨g, cc, f, rfl, hb⟩, ho⟩
  have HB := Lib.hid (hb.congr (fun i k _ _ => fill_none stayR i k))
  have HO := Lib.hid ho
  clear hb ho HE
  go_wp2_with fail
  go_loopw [4] (fun s4 wr => FillRel w m g cc f stayR s4 wr) (fun s4 _ => m - (intOf s4).toNat)
  case atStart => exact ⟨0, rfl, Nat.zero_le _, HB, HO⟩
  case round =>
    clear HB HO
    obtain ⟨i, rfl, hi, HB, HO⟩ := hrel
    by_cases hlt : i < m
    · have i1 : (i : Int) < (m : Int) := by omega
      have i0 : (0 : Int) ≤ (i : Int) := by omega
      have q1 := HB.out.row hlt
      obtain ⟨q2, q3⟩ := HB.out.cell hlt hlt
      have HW : Hid (FillRel w m g cc f stayR (.int .i64 ((i + 1 : Nat) : Int)) (wr.setCell ⟨f i, i, none⟩ (.bool true))) := Lib.hid
        ⟨i + 1, rfl, hlt, Lib.hid ((HB.out.set (k := i) hlt true).congr (fun i' k' _ _ => fill_one stayR i i i' k' true (by simp [stayR]) (fun k hk => by simp [stayR]; omega))), Lib.hid (HB.out.old HO.out (Nat.le_refl _) hlt true)⟩
      have hm2' := HM2.out
      clear HB HO
      go_wp2_with fail
      go_roundw
      case rel => exact HW.out
      case measure => simp [intOf]; omega
    · obtain rfl : i = m := by omega
      have HP : Hid (MatPost w i stayR (.returned (.slice (some ⟨g, 0, none⟩) i cc)) wr) := Lib.hid ⟨_, rfl, ⟨g, cc, f, rfl, HB.out.congr (fun i' k' hi' _ => fill_all stayR i i' k' hi')⟩, HO.out⟩
      clear HB HO
      go_wp2_with fail
      go_ret
      exact HP.out
set_option maxHeartbeats 4000000 in
set_option maxRecDepth 100000 in
theorem bothC (m : Nat) (hm : 1 ≤ m) (hm2 : m ≤ 100000) (va vb : Value) (ba bb : Nat) (a b : Nat → Nat → Bool) (w : World) (ha : MatV w ba va m a) (hb : MatV w bb vb m b) :
    Calls Try.prog 64 #[va, vb] w (MatPost w m (bothR a b)) := by
  obtain ⟨ga, ca, fa, rfl, hA⟩ := ha
  obtain ⟨gb, cb, fb, rfl, hB⟩ := hb
  have HE := Lib.hid (emptyC m hm hm2 w)
  have HM := Lib.hid hm
  have HM2 := Lib.hid hm2
  have HA := Lib.hid hA
  have HBB := Lib.hid hB
  clear hm hm2 hA hB
  go_enter Try.func64, Try.ntmps64
  go_wp2_with fail
  refine (HE.out).mono ?_; rintro e w1 ⟨_, rfl, ⟨g, cc, f, rfl, hb⟩, ho⟩
  have HB := Lib.hid (hb.congr (fun i k _ _ => fill_none (bothR a b) i k))
  have HO := Lib.hid ho
  clear hb ho HE
  go_wp2_with fail
  go_loopw [6] (fun s6 wr => FillRel w m g cc f (bothR a b) s6 wr) (fun s6 _ => m - (intOf s6).toNat)
  case atStart => exact ⟨0, rfl, Nat.zero_le _, HB, HO⟩
  case round =>
    clear HB HO
    obtain ⟨i, rfl, hi, HB, HO⟩ := hrel
    by_cases hlt : i < m
    · have i1 : (i : Int) < (m : Int) := by omega
      have i0 : (0 : Int) ≤ (i : Int) := by omega
      go_wp2_with fail
      go_loopw [7] (fun s7 wr => FillIn w m g cc f (bothR a b) i s7 wr) (fun s7 _ => m - (intOf s7).toNat)
      case atStart => exact ⟨0, rfl, Nat.zero_le _, HB, HO⟩
      case round =>
        clear HB HO
        obtain ⟨k, rfl, hk, HB, HO⟩ := hrel
        by_cases hltk : k < m
        · have j1 : (k : Int) < (m : Int) := by omega
          have j0 : (0 : Int) ≤ (k : Int) := by omega
          have q1 := HB.out.row hlt
          obtain ⟨q2, q3⟩ := HB.out.cell hlt hltk
          have r1 := (HA.out.up HO.out).row hlt
          have r2 := ((HA.out.up HO.out).cell hlt hltk).1
          have t1 := (HBB.out.up HO.out).row hlt
          have t2 := ((HBB.out.up HO.out).cell hlt hltk).1
          have HW : Hid (∀ v, v = bothR a b i k → FillIn w m g cc f (bothR a b) i (.int .i64 ((k + 1 : Nat) : Int)) (wr.setCell ⟨f i, k, none⟩ (.bool v)).drew) := Lib.hid (by
            rintro v rfl
            exact ⟨k + 1, rfl, hltk, Lib.hid (((HB.out.set (k := k) hlt _).congr (fun i' k' _ _ => fill_step (bothR a b) i k i' k')).up (Old.refl _).drew), Lib.hid (HB.out.old HO.out (Nat.le_refl _) hlt _).drew⟩)
          have hm2' := HM2.out
          have HF : Hid (bothR a b i k = (a i k || b i k)) := Lib.hid rfl
          generalize a i k = x at *
          generalize b i k = y at *
          generalize bothR a b i k = z at *
          generalize fillR (bothR a b) i k i k = z0 at *
          clear HB HO
          cases x
          · go_upto_region 8 with fail
            refine wp_region_still_tail 22 (by kernel_rfl) (by kernel_rfl) ?_
            simp only [List.take_succ_cons, List.take_zero, List.drop_succ_cons, List.drop_zero]
            refine still_open (fun S HSW HSS HSN => ?_)
            iterate 22 (refine HSW.out _ _ _ (by kernel_rfl) (fun K hK => ?_); go_simp; refine hK _ ?_; clear hK K)
            refine HSN.out _ ?_
            clear HSW HSS HSN
            go_wp2_with fail
            go_roundw
            case rel => exact HW.out _ HF.out.symm
            case measure => simp [intOf]; omega
          · go_upto_region 8 with fail
            refine wp_region_still_tail 22 (by kernel_rfl) (by kernel_rfl) ?_
            simp only [List.take_succ_cons, List.take_zero, List.drop_succ_cons, List.drop_zero]
            refine still_open (fun S HSW HSS HSN => ?_)
            iterate 13 (refine HSW.out _ _ _ (by kernel_rfl) (fun K hK => ?_); go_simp; refine hK _ ?_; clear hK K)
            iterate 7 (refine HSS.out _ _ _ (by kernel_rfl) (fun K hK => ?_); go_simp; refine hK _ ?_; clear hK K)
            iterate 2 (refine HSW.out _ _ _ (by kernel_rfl) (fun K hK => ?_); go_simp; refine hK _ ?_; clear hK K)
            refine HSN.out _ ?_
            clear HSW HSS HSN
            go_wp2_with fail
            go_roundw
            case rel => exact HW.out _ HF.out.symm
            case measure => simp [intOf]; omega
        · obtain rfl : k = m := by omega
          have HW : Hid (FillRel w k g cc f (bothR a b) (.int .i64 ((i + 1 : Nat) : Int)) wr) := Lib.hid ⟨i + 1, rfl, hlt, Lib.hid (HB.out.congr (fun i' k' _ hk' => fill_row (bothR a b) k i i' k' hk')), HO⟩
          have hm2' := HM2.out
          clear HB HO
          go_wp2_with fail
          go_roundw
          case rel => exact HW.out
          case measure => simp [intOf]; omega
    · obtain rfl : i = m := by omega
      have HP : Hid (MatPost w i (bothR a b) (.returned (.slice (some ⟨g, 0, none⟩) i cc)) wr) := Lib.hid ⟨_, rfl, ⟨g, cc, f, rfl, HB.out.congr (fun i' k' hi' _ => fill_all (bothR a b) i i' k' hi')⟩, HO.out⟩
      clear HB HO
      go_wp2_with fail
      go_ret
      exact HP.out
end Go.Proofs.Ythadkjgadhbidaa
