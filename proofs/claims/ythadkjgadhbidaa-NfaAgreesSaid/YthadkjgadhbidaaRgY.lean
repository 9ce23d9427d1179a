/-
  The reference's test of a list of nodes: one tree.
-/
import Derived.Test.YthadkjgadhbidaaVlW
import Derived.Test.YthadkjgadhbidaaRxY
import Derived.Test.YthadkjgadhbidaaRxN
import Derived.Test.YthadkjgadhbidaaRvP
namespace Go.Proofs.Ythadkjgadhbidaa
open Go.RowKit
set_option linter.unusedVariables false

set_option maxRecDepth 100000 in
theorem tree_neg (A : Option Addr) (c n : Nat) (k : Int) (w : World) (h : k < 0) : Calls Try.prog 40 #[.slice A n c, .int .i64 k] w (ValOld (.int .i64 (-1)) w) := by
  go_enter Try.func40, Try.ntmps40
  go_wp2_with fail
  go_ret
  exact ⟨rfl, Old.refl _⟩
set_option maxHeartbeats 8000000 in
set_option maxRecDepth 100000 in
theorem treeC (A : Option Addr) (c : Nat) (l : List Nd) (hm : l.length ≤ maxLen) (hso : ∀ x ∈ l, setOk x.set) : ∀ (f : Nat) (k : Int) (w : World), Rs w A (ndsV l) → k < l.length → k + 1 ≤ f →
    Calls Try.prog 40 #[.slice A l.length c, .int .i64 k] w (ValOld (.int .i64 (treeF l f k)) w) := by
  intro f
  induction f with
  | zero =>
    intro k w hr hk hf
    rw [treeF_neg l 0 k (by omega)]
    exact tree_neg A c l.length k w (by omega)
  | succ f ih =>
  intro k w hr hk hf
  by_cases h0 : k < 0
  · rw [treeF_neg l _ k h0]
    exact tree_neg A c l.length k w h0
  obtain ⟨k, rfl⟩ : ∃ n : Nat, k = (n : Int) := ⟨k.toNat, by omega⟩
  have hT : treeF l (f + 1) (k : Int) = treeS (nd l k) k (treeF l f) := by rw [treeF, if_neg h0, Int.toNat_natCast]
  have hkl : k < l.length := by omega
  have hx : l[k]? = some (nd l k) := by unfold nd; rw [List.getD_eq_getElem?_getD, List.getElem?_eq_getElem hkl]; rfl
  have hg := ndsV_get l k _ hx
  have hst : setOk (nd l k).set := hso _ (List.mem_of_getElem? hx)
  have IH := Lib.hid ih
  have HRW := Lib.hid hr
  obtain ⟨b, off, rfl, hbl, hcl⟩ := hr.at_ (by rw [ndsV_length]; omega)
  have c0 := hcl _ _ (hg 0 (by omega))
  have c1 := hcl _ _ (hg 1 (by omega))
  have c2 := hcl _ _ (hg 2 (by omega))
  have c3 := hcl _ _ (hg 3 (by omega))
  have c4 := hcl _ _ (hg 4 (by omega))
  have c5 := hcl _ _ (hg 5 (by omega))
  have c6 := hcl _ _ (hg 6 (by omega))
  rw [← Nat.add_assoc] at c0 c1 c2 c3 c4 c5 c6
  rw [Nat.add_zero] at c0
  clear hx hg hcl hr ih hbl hso
  have HT := Lib.hid hT
  clear hT
  generalize nd l k = nx at *
  obtain ⟨kd, lf, rt, st⟩ := nx
  replace c0 : w.cell? ⟨b, off + k * 7, none⟩ = some (.int .i64 kd) := c0
  replace c1 : w.cell? ⟨b, off + k * 7 + 1, none⟩ = some (.int .i64 lf) := c1
  replace c2 : w.cell? ⟨b, off + k * 7 + 2, none⟩ = some (.int .i64 rt) := c2
  replace c3 : w.cell? ⟨b, off + k * 7 + 3, none⟩ = some (.int .u64 (setW st 0)) := c3
  replace c4 : w.cell? ⟨b, off + k * 7 + 4, none⟩ = some (.int .u64 (setW st 1)) := c4
  replace c5 : w.cell? ⟨b, off + k * 7 + 5, none⟩ = some (.int .u64 (setW st 2)) := c5
  replace c6 : w.cell? ⟨b, off + k * 7 + 6, none⟩ = some (.int .u64 (setW st 3)) := c6
  have i0 : (0 : Int) ≤ (k : Int) := by omega
  have i1 : (k : Int) < (l.length : Int) := by omega
  have HF := Lib.hid hf
  have HMX := Lib.hid hm
  clear hf hm h0
  go_enter Try.func40, Try.ntmps40
  go_upto_region 4 with fail
  have hb5 := heap_alloc_new w (.cells #[.int .i64 kd, .int .i64 lf, .int .i64 rt, .int .u64 (setW st 0), .int .u64 (setW st 1), .int .u64 (setW st 2), .int .u64 (setW st 3)] 114)
  have HOW := Lib.hid ((Old.refl w).alloc (.cells #[.int .i64 kd, .int .i64 lf, .int .i64 rt, .int .u64 (setW st 0), .int .u64 (setW st 1), .int .u64 (setW st 2), .int .u64 (setW st 3)] 114))
  generalize w.alloc (.cells #[.int .i64 kd, .int .i64 lf, .int .i64 rt, .int .u64 (setW st 0), .int .u64 (setW st 1), .int .u64 (setW st 2), .int .u64 (setW st 3)] 114) = W at *
  clear c0 c1 c2 c3 c4 c5 c6
  have d0 : W.cell? ⟨w.heap.size, 0, none⟩ = some (.int .i64 kd) := by rw [cell_of_row W _ 0 _ _ _ hb5]; rfl
  have d1 : W.cell? ⟨w.heap.size, 1, none⟩ = some (.int .i64 lf) := by rw [cell_of_row W _ 1 _ _ _ hb5]; rfl
  have d2 : W.cell? ⟨w.heap.size, 2, none⟩ = some (.int .i64 rt) := by rw [cell_of_row W _ 2 _ _ _ hb5]; rfl
  have d3 : W.cell? ⟨w.heap.size, 3, none⟩ = some (.int .u64 (setW st 0)) := by rw [cell_of_row W _ 3 _ _ _ hb5]; rfl
  have d4 : W.cell? ⟨w.heap.size, 4, none⟩ = some (.int .u64 (setW st 1)) := by rw [cell_of_row W _ 4 _ _ _ hb5]; rfl
  have d5 : W.cell? ⟨w.heap.size, 5, none⟩ = some (.int .u64 (setW st 2)) := by rw [cell_of_row W _ 5 _ _ _ hb5]; rfl
  have d6 : W.cell? ⟨w.heap.size, 6, none⟩ = some (.int .u64 (setW st 3)) := by rw [cell_of_row W _ 6 _ _ _ hb5]; rfl
  have HB5 := Lib.hid hb5
  clear hb5
  have hz := fun W => set_zero st hst W
  clear hst
  have i9 : (k : Int) < 9223372036854775807 := by have := HMX.out; unfold maxLen at this; omega
  by_cases b1 : kd < 1
  · have HN : Hid (treeF l (f + 1) (k : Int) = -1) := Lib.hid (by rw [HT.out]; unfold treeS; rw [if_pos (by simp only [badNd]; omega)])
    clear HT
    go_wp2_with fail
    go_ret
    rw [HN.out]
    exact ⟨rfl, HOW.out⟩
  by_cases b2 : 9 < kd
  · have HN : Hid (treeF l (f + 1) (k : Int) = -1) := Lib.hid (by rw [HT.out]; unfold treeS; rw [if_pos (by simp only [badNd]; omega)])
    clear HT
    go_wp2_with fail
    go_ret
    rw [HN.out]
    exact ⟨rfl, HOW.out⟩
  by_cases b3 : kd = 2
  · have b4 : (kd != 2) = false := by simp [b3]
    clear HB5
    have HK0 : Hid (¬ badNd ⟨kd, lf, rt, st⟩) := Lib.hid (by rintro (h | h | ⟨h, h'⟩) <;> first | exact b1 h | exact b2 h | exact h b3 | exact h' b5)
    have hk3 : kidsN kd = 0 ∨ kidsN kd = 1 ∨ kidsN kd = 2 := by have := kidsN_bd2 kd; omega
    have HKC := Lib.hid (kidsC kd)
    have HBN : Hid (bentNd ⟨kd, lf, rt, st⟩ ↔ ((kidsN kd < 2 ∧ rt ≠ 0) ∨ (kidsN kd < 1 ∧ lf ≠ 0))) := Lib.hid Iff.rfl
    have HTS : Hid (treeF l (f + 1) (k : Int) = if bentNd ⟨kd, lf, rt, st⟩ then -1 else if kidsN kd = 0 then (k : Int) else if kidsN kd = 2 then if rt ≠ k - 1 then -1 else if treeF l f (k - 1) - 1 < 0 ∨ lf ≠ treeF l f (k - 1) - 1 then -1 else treeF l f (treeF l f (k - 1) - 1) else if (k : Int) - 1 < 0 ∨ lf ≠ k - 1 then -1 else treeF l f (k - 1)) := Lib.hid (by
      rw [HT.out]
      unfold treeS
      simp only [HK0.out, false_or])
    clear HT HK0
    generalize kidsN kd = kk at *
    try clear b5
    clear b3
    rcases hk3 with rfl | rfl | rfl
    · by_cases b7 : rt = 0
      · by_cases b8 : lf = 0
        · have HN : Hid (treeF l (f + 1) (k : Int) = k) := Lib.hid (by rw [HTS.out, if_neg (by rw [HBN.out]; omega), if_pos rfl])
          have b9 : (rt != 0) = false := by simp [b7]
          have b10 : (lf != 0) = false := by simp [b8]
          clear HTS HBN b7 b8
          go_wp2_with fail
          refine (HKC.out _).mono ?_; rintro e W8 ⟨rfl, rfl⟩
          go_wp2_with fail
          go_ret
          rw [HN.out]
          exact ⟨rfl, HOW.out⟩
        · have HN : Hid (treeF l (f + 1) (k : Int) = -1) := Lib.hid (by rw [HTS.out, if_pos (by rw [HBN.out]; omega)])
          have b9 : (rt != 0) = false := by simp [b7]
          have b10 : (lf != 0) = true := by simpa using b8
          clear HTS HBN b7 b8
          go_wp2_with fail
          refine (HKC.out _).mono ?_; rintro e W8 ⟨rfl, rfl⟩
          go_wp2_with fail
          go_ret
          rw [HN.out]
          exact ⟨rfl, HOW.out⟩
      · have HN : Hid (treeF l (f + 1) (k : Int) = -1) := Lib.hid (by rw [HTS.out, if_pos (by rw [HBN.out]; omega)])
        have b9 : (rt != 0) = true := by simpa using b7
        clear HTS HBN b7
        go_wp2_with fail
        refine (HKC.out _).mono ?_; rintro e W8 ⟨rfl, rfl⟩
        go_wp2_with fail
        go_ret
        rw [HN.out]
        exact ⟨rfl, HOW.out⟩
    · by_cases b7 : rt = 0
      · have b9 : (rt != 0) = false := by simp [b7]
        by_cases b8 : (k : Int) - 1 < 0
        · have HN : Hid (treeF l (f + 1) (k : Int) = -1) := Lib.hid (by rw [HTS.out, if_neg (by rw [HBN.out]; omega), if_neg (by omega), if_neg (by omega), if_pos (Or.inl b8)])
          clear HTS HBN b7
          go_wp2_with fail
          refine (HKC.out _).mono ?_; rintro e W8 ⟨rfl, rfl⟩
          go_wp2_with fail
          go_ret
          rw [HN.out]
          exact ⟨rfl, HOW.out⟩
        · obtain ⟨n, rfl⟩ : ∃ n : Nat, k = n + 1 := ⟨k - 1, by omega⟩
          have e9 : ((n + 1 : Nat) : Int) - 1 = (n : Int) := by omega
          have HE9 := Lib.hid e9
          clear e9
          by_cases b11 : lf = (n : Int)
          · have HN : Hid (treeF l (f + 1) ((n + 1 : Nat) : Int) = treeF l f n) := Lib.hid (by
              rw [HTS.out, HE9.out, if_neg (by rw [HBN.out]; omega), if_neg (by omega), if_neg (by omega), if_neg (by omega)])
            have HI := Lib.hid (IH.out (n : Int) _ (HRW.out.up HOW.out) (by omega) (by have := HF.out; omega))
            clear HTS HBN IH b7 b8
            subst b11
            generalize treeF l (f + 1) ((n + 1 : Nat) : Int) = TT at *
            have jd : decide ((n : Int) < 0) = false := decide_eq_false (by omega)
            go_wp2_with fail
            refine (HKC.out _).mono ?_; rintro e W8 ⟨rfl, rfl⟩
            go_wp2_with fail
            refine (HI.out).mono ?_; rintro e W9 ⟨rfl, o9⟩
            have HO9 := Lib.hid (HOW.out.up o9)
            clear o9
            go_wp2_with fail
            go_ret
            rw [HN.out]
            exact ⟨rfl, HO9.out⟩
          · have HN : Hid (treeF l (f + 1) ((n + 1 : Nat) : Int) = -1) := Lib.hid (by
              rw [HTS.out, HE9.out, if_neg (by rw [HBN.out]; omega), if_neg (by omega), if_neg (by omega), if_pos (Or.inr b11)])
            have b12 : (lf != (n : Int)) = true := by simpa using b11
            clear HTS HBN IH b7 b8 b11
            generalize treeF l (f + 1) ((n + 1 : Nat) : Int) = TT at *
            have jd : decide ((n : Int) < 0) = false := decide_eq_false (by omega)
            go_wp2_with fail
            refine (HKC.out _).mono ?_; rintro e W8 ⟨rfl, rfl⟩
            go_wp2_with fail
            go_ret
            rw [HN.out]
            exact ⟨rfl, HOW.out⟩
      · have HN : Hid (treeF l (f + 1) (k : Int) = -1) := Lib.hid (by rw [HTS.out, if_pos (by rw [HBN.out]; omega)])
        have b9 : (rt != 0) = true := by simpa using b7
        clear HTS HBN b7
        go_wp2_with fail
        refine (HKC.out _).mono ?_; rintro e W8 ⟨rfl, rfl⟩
        go_wp2_with fail
        go_ret
        rw [HN.out]
        exact ⟨rfl, HOW.out⟩
    · by_cases b7 : rt = (k : Int) - 1
      · have htb := treeF_bd l f ((k : Int) - 1)
        have HI := Lib.hid (IH.out ((k : Int) - 1) _ (HRW.out.up HOW.out) (by omega) (by have := HF.out; omega))
        have HI2 := Lib.hid (fun (t : Int) W' o => IH.out t W' (HRW.out.up (HOW.out.up o)))
        have HTS2 : Hid (treeF l (f + 1) (k : Int) = if treeF l f (k - 1) - 1 < 0 ∨ lf ≠ treeF l f (k - 1) - 1 then -1 else treeF l f (treeF l f (k - 1) - 1)) := Lib.hid (by rw [HTS.out, if_neg (by rw [HBN.out]; omega), if_neg (by omega), if_pos rfl, if_neg (by omega)])
        clear HTS HBN IH
        subst b7
        generalize treeF l f ((k : Int) - 1) = T1 at *
        obtain ⟨t1, t2⟩ := htb
        have HT2 := Lib.hid t2
        have HT1 := Lib.hid t1
        clear t1 t2
        go_wp2_with fail
        refine (HKC.out _).mono ?_; rintro e W8 ⟨rfl, rfl⟩
        go_wp2_with fail
        refine (HI.out).mono ?_; rintro e W9 ⟨rfl, o9⟩
        have HO9 := Lib.hid (HOW.out.up o9)
        have HI3 := Lib.hid (fun t => HI2.out t W9 o9)
        replace d1 := o9.cell d1
        clear o9 HI HI2 d0 d2 d3 d4 d5 d6
        have hT1 : T1 = -1 ∨ T1 = 0 ∨ ∃ t : Nat, T1 = (t : Int) + 1 := by
          have := HT1.out
          rcases Int.lt_or_le T1 1 with h | h
          · omega
          · exact Or.inr (Or.inr ⟨(T1 - 1).toNat, by omega⟩)
        rcases hT1 with rfl | rfl | ⟨t, rfl⟩
        · have HN : Hid (treeF l (f + 1) (k : Int) = -1) := Lib.hid (by rw [HTS2.out, if_pos (by omega)])
          clear HTS2 HT1 HT2 HI3
          go_wp2_with fail
          go_ret
          rw [HN.out]
          exact ⟨rfl, HO9.out⟩
        · have HN : Hid (treeF l (f + 1) (k : Int) = -1) := Lib.hid (by rw [HTS2.out, if_pos (by omega)])
          clear HTS2 HT1 HT2 HI3
          go_wp2_with fail
          go_ret
          rw [HN.out]
          exact ⟨rfl, HO9.out⟩
        · have htk : (t : Int) + 1 ≤ k - 1 := HT2.out (by omega)
          have HTK := Lib.hid htk
          clear HT1 HT2
          have i10 : ((t + 1 : Nat) : Int) < 9223372036854775807 := by omega
          have i11 : (0 : Int) ≤ ((t + 1 : Nat) : Int) := by omega
          clear htk
          have e9 : (t : Int) + 1 - 1 = (t : Int) := by omega
          by_cases b8 : lf = (t : Int)
          · have HN : Hid (treeF l (f + 1) (k : Int) = treeF l f t) := Lib.hid (by rw [HTS2.out, e9, if_neg (by omega)])
            have HI4 := Lib.hid (HI3.out (t : Int) (by have := HTK.out; omega) (by have := HF.out; have := HTK.out; omega))
            clear HTS2 HI3 e9
            subst b8
            generalize treeF l (f + 1) (k : Int) = TT at *
            have jd : decide ((t : Int) < 0) = false := decide_eq_false (by omega)
            go_wp2_with fail
            refine (HI4.out).mono ?_; rintro e W10 ⟨rfl, o10⟩
            have HO10 := Lib.hid (HO9.out.up o10)
            clear o10
            go_wp2_with fail
            go_ret
            rw [HN.out]
            exact ⟨rfl, HO10.out⟩
          · have HN : Hid (treeF l (f + 1) (k : Int) = -1) := Lib.hid (by rw [HTS2.out, e9, if_pos (Or.inr b8)])
            have b12 : (lf != (t : Int)) = true := by simpa using b8
            clear HTS2 HI3 e9 b8
            generalize treeF l (f + 1) (k : Int) = TT at *
            have jd : decide ((t : Int) < 0) = false := decide_eq_false (by omega)
            go_wp2_with fail
            go_ret
            rw [HN.out]
            exact ⟨rfl, HO9.out⟩
      · have HN : Hid (treeF l (f + 1) (k : Int) = -1) := Lib.hid (by rw [HTS.out, if_neg (by rw [HBN.out]; omega), if_neg (by omega), if_pos rfl, if_pos b7])
        have b9 : (rt != (k : Int) - 1) = true := by simpa using b7
        clear HTS HBN b7
        go_wp2_with fail
        refine (HKC.out _).mono ?_; rintro e W8 ⟨rfl, rfl⟩
        go_wp2_with fail
        go_ret
        rw [HN.out]
        exact ⟨rfl, HOW.out⟩
  · have b4 : (kd != 2) = true := by simpa using b3
    by_cases b5 : st = 0
    · have b6 : decide (st = 0) = true := by simp [b5]
      simp only [b6] at hz
      clear b6
      clear HB5
      have HK0 : Hid (¬ badNd ⟨kd, lf, rt, st⟩) := Lib.hid (by rintro (h | h | ⟨h, h'⟩) <;> first | exact b1 h | exact b2 h | exact h b3 | exact h' b5)
      have hk3 : kidsN kd = 0 ∨ kidsN kd = 1 ∨ kidsN kd = 2 := by have := kidsN_bd2 kd; omega
      have HKC := Lib.hid (kidsC kd)
      have HBN : Hid (bentNd ⟨kd, lf, rt, st⟩ ↔ ((kidsN kd < 2 ∧ rt ≠ 0) ∨ (kidsN kd < 1 ∧ lf ≠ 0))) := Lib.hid Iff.rfl
      have HTS : Hid (treeF l (f + 1) (k : Int) = if bentNd ⟨kd, lf, rt, st⟩ then -1 else if kidsN kd = 0 then (k : Int) else if kidsN kd = 2 then if rt ≠ k - 1 then -1 else if treeF l f (k - 1) - 1 < 0 ∨ lf ≠ treeF l f (k - 1) - 1 then -1 else treeF l f (treeF l f (k - 1) - 1) else if (k : Int) - 1 < 0 ∨ lf ≠ k - 1 then -1 else treeF l f (k - 1)) := Lib.hid (by
        rw [HT.out]
        unfold treeS
        simp only [HK0.out, false_or])
      clear HT HK0
      generalize kidsN kd = kk at *
      try clear b5
      clear b3
      rcases hk3 with rfl | rfl | rfl
      · by_cases b7 : rt = 0
        · by_cases b8 : lf = 0
          · have HN : Hid (treeF l (f + 1) (k : Int) = k) := Lib.hid (by rw [HTS.out, if_neg (by rw [HBN.out]; omega), if_pos rfl])
            have b9 : (rt != 0) = false := by simp [b7]
            have b10 : (lf != 0) = false := by simp [b8]
            clear HTS HBN b7 b8
            go_wp2_with fail
            refine (HKC.out _).mono ?_; rintro e W8 ⟨rfl, rfl⟩
            go_wp2_with fail
            go_ret
            rw [HN.out]
            exact ⟨rfl, HOW.out⟩
          · have HN : Hid (treeF l (f + 1) (k : Int) = -1) := Lib.hid (by rw [HTS.out, if_pos (by rw [HBN.out]; omega)])
            have b9 : (rt != 0) = false := by simp [b7]
            have b10 : (lf != 0) = true := by simpa using b8
            clear HTS HBN b7 b8
            go_wp2_with fail
            refine (HKC.out _).mono ?_; rintro e W8 ⟨rfl, rfl⟩
            go_wp2_with fail
            go_ret
            rw [HN.out]
            exact ⟨rfl, HOW.out⟩
        · have HN : Hid (treeF l (f + 1) (k : Int) = -1) := Lib.hid (by rw [HTS.out, if_pos (by rw [HBN.out]; omega)])
          have b9 : (rt != 0) = true := by simpa using b7
          clear HTS HBN b7
          go_wp2_with fail
          refine (HKC.out _).mono ?_; rintro e W8 ⟨rfl, rfl⟩
          go_wp2_with fail
          go_ret
          rw [HN.out]
          exact ⟨rfl, HOW.out⟩
      · by_cases b7 : rt = 0
        · have b9 : (rt != 0) = false := by simp [b7]
          by_cases b8 : (k : Int) - 1 < 0
          · have HN : Hid (treeF l (f + 1) (k : Int) = -1) := Lib.hid (by rw [HTS.out, if_neg (by rw [HBN.out]; omega), if_neg (by omega), if_neg (by omega), if_pos (Or.inl b8)])
            clear HTS HBN b7
            go_wp2_with fail
            refine (HKC.out _).mono ?_; rintro e W8 ⟨rfl, rfl⟩
            go_wp2_with fail
            go_ret
            rw [HN.out]
            exact ⟨rfl, HOW.out⟩
          · obtain ⟨n, rfl⟩ : ∃ n : Nat, k = n + 1 := ⟨k - 1, by omega⟩
            have e9 : ((n + 1 : Nat) : Int) - 1 = (n : Int) := by omega
            have HE9 := Lib.hid e9
            clear e9
            by_cases b11 : lf = (n : Int)
            · have HN : Hid (treeF l (f + 1) ((n + 1 : Nat) : Int) = treeF l f n) := Lib.hid (by
                rw [HTS.out, HE9.out, if_neg (by rw [HBN.out]; omega), if_neg (by omega), if_neg (by omega), if_neg (by omega)])
              have HI := Lib.hid (IH.out (n : Int) _ (HRW.out.up HOW.out) (by omega) (by have := HF.out; omega))
              clear HTS HBN IH b7 b8
              subst b11
              generalize treeF l (f + 1) ((n + 1 : Nat) : Int) = TT at *
              have jd : decide ((n : Int) < 0) = false := decide_eq_false (by omega)
              go_wp2_with fail
              refine (HKC.out _).mono ?_; rintro e W8 ⟨rfl, rfl⟩
              go_wp2_with fail
              refine (HI.out).mono ?_; rintro e W9 ⟨rfl, o9⟩
              have HO9 := Lib.hid (HOW.out.up o9)
              clear o9
              go_wp2_with fail
              go_ret
              rw [HN.out]
              exact ⟨rfl, HO9.out⟩
            · have HN : Hid (treeF l (f + 1) ((n + 1 : Nat) : Int) = -1) := Lib.hid (by
                rw [HTS.out, HE9.out, if_neg (by rw [HBN.out]; omega), if_neg (by omega), if_neg (by omega), if_pos (Or.inr b11)])
              have b12 : (lf != (n : Int)) = true := by simpa using b11
              clear HTS HBN IH b7 b8 b11
              generalize treeF l (f + 1) ((n + 1 : Nat) : Int) = TT at *
              have jd : decide ((n : Int) < 0) = false := decide_eq_false (by omega)
              go_wp2_with fail
              refine (HKC.out _).mono ?_; rintro e W8 ⟨rfl, rfl⟩
              go_wp2_with fail
              go_ret
              rw [HN.out]
              exact ⟨rfl, HOW.out⟩
        · have HN : Hid (treeF l (f + 1) (k : Int) = -1) := Lib.hid (by rw [HTS.out, if_pos (by rw [HBN.out]; omega)])
          have b9 : (rt != 0) = true := by simpa using b7
          clear HTS HBN b7
          go_wp2_with fail
          refine (HKC.out _).mono ?_; rintro e W8 ⟨rfl, rfl⟩
          go_wp2_with fail
          go_ret
          rw [HN.out]
          exact ⟨rfl, HOW.out⟩
      · by_cases b7 : rt = (k : Int) - 1
        · have htb := treeF_bd l f ((k : Int) - 1)
          have HI := Lib.hid (IH.out ((k : Int) - 1) _ (HRW.out.up HOW.out) (by omega) (by have := HF.out; omega))
          have HI2 := Lib.hid (fun (t : Int) W' o => IH.out t W' (HRW.out.up (HOW.out.up o)))
          have HTS2 : Hid (treeF l (f + 1) (k : Int) = if treeF l f (k - 1) - 1 < 0 ∨ lf ≠ treeF l f (k - 1) - 1 then -1 else treeF l f (treeF l f (k - 1) - 1)) := Lib.hid (by rw [HTS.out, if_neg (by rw [HBN.out]; omega), if_neg (by omega), if_pos rfl, if_neg (by omega)])
          clear HTS HBN IH
          subst b7
          generalize treeF l f ((k : Int) - 1) = T1 at *
          obtain ⟨t1, t2⟩ := htb
          have HT2 := Lib.hid t2
          have HT1 := Lib.hid t1
          clear t1 t2
          go_wp2_with fail
          refine (HKC.out _).mono ?_; rintro e W8 ⟨rfl, rfl⟩
          go_wp2_with fail
          refine (HI.out).mono ?_; rintro e W9 ⟨rfl, o9⟩
          have HO9 := Lib.hid (HOW.out.up o9)
          have HI3 := Lib.hid (fun t => HI2.out t W9 o9)
          replace d1 := o9.cell d1
          clear o9 HI HI2 d0 d2 d3 d4 d5 d6
          have hT1 : T1 = -1 ∨ T1 = 0 ∨ ∃ t : Nat, T1 = (t : Int) + 1 := by
            have := HT1.out
            rcases Int.lt_or_le T1 1 with h | h
            · omega
            · exact Or.inr (Or.inr ⟨(T1 - 1).toNat, by omega⟩)
          rcases hT1 with rfl | rfl | ⟨t, rfl⟩
          · have HN : Hid (treeF l (f + 1) (k : Int) = -1) := Lib.hid (by rw [HTS2.out, if_pos (by omega)])
            clear HTS2 HT1 HT2 HI3
            go_wp2_with fail
            go_ret
            rw [HN.out]
            exact ⟨rfl, HO9.out⟩
          · have HN : Hid (treeF l (f + 1) (k : Int) = -1) := Lib.hid (by rw [HTS2.out, if_pos (by omega)])
            clear HTS2 HT1 HT2 HI3
            go_wp2_with fail
            go_ret
            rw [HN.out]
            exact ⟨rfl, HO9.out⟩
          · have htk : (t : Int) + 1 ≤ k - 1 := HT2.out (by omega)
            have HTK := Lib.hid htk
            clear HT1 HT2
            have i10 : ((t + 1 : Nat) : Int) < 9223372036854775807 := by omega
            have i11 : (0 : Int) ≤ ((t + 1 : Nat) : Int) := by omega
            clear htk
            have e9 : (t : Int) + 1 - 1 = (t : Int) := by omega
            by_cases b8 : lf = (t : Int)
            · have HN : Hid (treeF l (f + 1) (k : Int) = treeF l f t) := Lib.hid (by rw [HTS2.out, e9, if_neg (by omega)])
              have HI4 := Lib.hid (HI3.out (t : Int) (by have := HTK.out; omega) (by have := HF.out; have := HTK.out; omega))
              clear HTS2 HI3 e9
              subst b8
              generalize treeF l (f + 1) (k : Int) = TT at *
              have jd : decide ((t : Int) < 0) = false := decide_eq_false (by omega)
              go_wp2_with fail
              refine (HI4.out).mono ?_; rintro e W10 ⟨rfl, o10⟩
              have HO10 := Lib.hid (HO9.out.up o10)
              clear o10
              go_wp2_with fail
              go_ret
              rw [HN.out]
              exact ⟨rfl, HO10.out⟩
            · have HN : Hid (treeF l (f + 1) (k : Int) = -1) := Lib.hid (by rw [HTS2.out, e9, if_pos (Or.inr b8)])
              have b12 : (lf != (t : Int)) = true := by simpa using b8
              clear HTS2 HI3 e9 b8
              generalize treeF l (f + 1) (k : Int) = TT at *
              have jd : decide ((t : Int) < 0) = false := decide_eq_false (by omega)
              go_wp2_with fail
              go_ret
              rw [HN.out]
              exact ⟨rfl, HO9.out⟩
        · have HN : Hid (treeF l (f + 1) (k : Int) = -1) := Lib.hid (by rw [HTS.out, if_neg (by rw [HBN.out]; omega), if_neg (by omega), if_pos rfl, if_pos b7])
          have b9 : (rt != (k : Int) - 1) = true := by simpa using b7
          clear HTS HBN b7
          go_wp2_with fail
          refine (HKC.out _).mono ?_; rintro e W8 ⟨rfl, rfl⟩
          go_wp2_with fail
          go_ret
          rw [HN.out]
          exact ⟨rfl, HOW.out⟩
    · have b6 : decide (st = 0) = false := by simp [b5]
      simp only [b6] at hz
      clear b6
      have HN : Hid (treeF l (f + 1) (k : Int) = -1) := Lib.hid (by rw [HT.out]; unfold treeS; exact if_pos (Or.inl (Or.inr (Or.inr ⟨b3, b5⟩))))
      clear HT
      go_wp2_with fail
      go_ret
      rw [HN.out]
      exact ⟨rfl, HOW.out⟩
end Go.Proofs.Ythadkjgadhbidaa
