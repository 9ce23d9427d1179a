/-
  The walk of the reference's single.
-/
import Derived.Test.YthadkjgadhbidaaRxE
namespace Go.Proofs.Ythadkjgadhbidaa
open Go.RowKit
set_option linter.unusedVariables false

set_option maxHeartbeats 2000000 in
set_option maxRecDepth 100000 in
theorem singleC (g : Nat) (s : ByteArray) (p : Ps) (w : World) (h : w.heap[g]? = some (PzC s p)) (hs : s.size ≤ 1000000) (ha : p.at_ < s.size) : Calls Try.prog 106 #[.pointer (some ⟨g, 0, none⟩)] w (EPost w g s (singleP (bs s) p)) := by
  obtain ⟨a, d, e⟩ := p
  simp only at ha
  have hgl := lt_of_block h
  have oW := (Old.refl w).alloc (.cells #[.int .u64 0, .int .u64 0, .int .u64 0, .int .u64 0] 40)
  have hz : (w.alloc (.cells #[.int .u64 0, .int .u64 0, .int .u64 0, .int .u64 0] 40)).heap[w.heap.size]? = some (setC 0) := heap_alloc_new w _
  have hP := oW.block h
  have OW := Lib.hid oW
  have HZ := Lib.hid hz
  have HP := Lib.hid hP
  obtain ⟨c0, c1, c2, c3, f1, f2, f3⟩ := PzC_cells hP
  simp only at c0 c1 c2 c3
  clear h hz oW hP
  have i1 : (0 : Int) ≤ (a : Int) := by omega
  have i2 : (a : Int) < (s.size : Int) := by omega
  have hb := bs_get s a ha
  have hb2 := bs_lt s a
  rw [hb] at hb2
  have hbb : bAt (bs s) ⟨a, d, e⟩ = s[a].toNat := hb
  have hc : s[a].toNat = 92 ∨ s[a].toNat = 94 ∨ s[a].toNat = 45 ∨ s[a].toNat = 93 ∨ (s[a].toNat ≠ 92 ∧ s[a].toNat ≠ 94 ∧ s[a].toNat ≠ 45 ∧ s[a].toNat ≠ 93) := by omega
  have z0 : (0 : Int) ≤ (s[a].toNat : Int) := by omega
  have z1 : (s[a].toNat : Int) ≤ 255 := by omega
  rcases hc with hc | hc | hc | hc | hc
  · have b1 : ((s[a].toNat : Int) == 92) = true := by simp; omega
    have hE : singleP (bs s) ⟨a, d, e⟩ = escP (bs s) ⟨a + 1, d, e⟩ := by unfold singleP; rw [hbb, if_pos hc]; rfl
    have HE := Lib.hid hE
    clear hE hc hb hb2 hbb
    go_enter Try.func106, Try.ntmps106
    go_wp2_with fail
    go_quiet (fail)
    have O1 := Lib.hid (OW.out.drewN nq)
    have Z1 : Hid (((w.alloc (.cells #[.int .u64 0, .int .u64 0, .int .u64 0, .int .u64 0] 40)).drewN nq).heap[w.heap.size]? = some (setC 0)) := HZ
    have P1 : Hid (((w.alloc (.cells #[.int .u64 0, .int .u64 0, .int .u64 0, .int .u64 0] 40)).drewN nq).heap[g]? = some (PzC s ⟨a, d, e⟩)) := HP
    generalize (w.alloc (.cells #[.int .u64 0, .int .u64 0, .int .u64 0, .int .u64 0] 40)).drewN nq = W1 at *
    clear OW HZ HP c0 c1 c2 c3 f1 f2 f3
    obtain ⟨c0, c1, c2, c3, f1, f2, f3⟩ := PzC_cells P1.out
    simp only at c0 c1 c2 c3
    have hP2 := PzC_at P1.out (a + 1)
    have hZ2 := (c4_far W1 g w.heap.size 1 (.int .i64 ((a + 1 : Nat) : Int)) (by omega)).trans Z1.out
    have hG2 := grown_store (old_grown_ O1.out (grown_refl W1 (some g))) 1 (.int .i64 ((a + 1 : Nat) : Int))
    rw [show ((a + 1 : Nat) : Int) = (a : Int) + 1 by omega] at hP2 hZ2 hG2
    have HP2 := Lib.hid hP2
    have HZ2 := Lib.hid hZ2
    have HG2 := Lib.hid hG2
    clear hP2 hZ2 hG2 c0 c2 c3 f2 f3 P1 Z1 O1
    go_upto_region 3 with fail
    generalize W1.setCell ⟨g, 1, none⟩ (.int .i64 ((a : Int) + 1)) = W2 at *
    clear c1 f1
    have hC := escC g s ⟨a + 1, d, e⟩ W2 HP2.out hs (by simp only; omega)
    obtain ⟨⟨⟨z, one⟩, q⟩, hR⟩ : ∃ r, escP (bs s) ⟨a + 1, d, e⟩ = r := ⟨_, rfl⟩
    rw [hR] at hC HE
    unfold EPost setA at hC
    simp only at hC
    have HC := Lib.hid hC
    clear hC hR
    go_wp2_with fail
    refine (HC.out).mono ?_; rintro e X ⟨rfl, hp, hg2⟩
    have hz := (hg2.block w.heap.size (lt_of_block HZ2.out) (by intro h; injection h with h; omega)).trans HZ2.out
    have hgr := World.grownBy.trans HG2.out hg2
    clear hg2
    have HP2 := Lib.hid hp
    obtain ⟨r0, r1, r2, r3, y0, y1, y2, y3⟩ := setC_cells hz
    have q2 := setC_store hz z
    obtain ⟨v0, v1, v2, v3, _, _, _, _⟩ := setC_cells q2
    have HP3 := Lib.hid ((set4_other X w.heap.size g (.int .u64 (setW z 0)) (.int .u64 (setW z 1)) (.int .u64 (setW z 2)) (.int .u64 (setW z 3)) (by omega)).trans hp)
    have HG3 := Lib.hid (grown_new4 hgr z)
    clear q2 hz hgr hp
    go_wp2_with fail
    refine bodyPost_ret (v := .tuple #[setA z, .bool one]) (by simp [results, Try.results106, go_sem, v0, v1, v2, v3, setA]) rfl ?_
    rw [HE.out]
    exact ⟨rfl, HP3.out, HG3.out⟩
  · have b1 : ((s[a].toNat : Int) == 92) = false := by simp; omega
    have b2 : ((s[a].toNat : Int) == 94) = true := by simp; omega
    have hE : singleP (bs s) ⟨a, d, e⟩ = ((0, false), failP ⟨a + 1, d, e⟩ 80) := by unfold singleP; rw [hbb, if_neg (by omega), if_pos (by omega)]; rfl
    have HE := Lib.hid hE
    clear hE hc hb hb2 hbb
    go_enter Try.func106, Try.ntmps106
    go_wp2_with fail
    go_quiet (fail)
    have O1 := Lib.hid (OW.out.drewN nq)
    have Z1 : Hid (((w.alloc (.cells #[.int .u64 0, .int .u64 0, .int .u64 0, .int .u64 0] 40)).drewN nq).heap[w.heap.size]? = some (setC 0)) := HZ
    have P1 : Hid (((w.alloc (.cells #[.int .u64 0, .int .u64 0, .int .u64 0, .int .u64 0] 40)).drewN nq).heap[g]? = some (PzC s ⟨a, d, e⟩)) := HP
    generalize (w.alloc (.cells #[.int .u64 0, .int .u64 0, .int .u64 0, .int .u64 0] 40)).drewN nq = W1 at *
    clear OW HZ HP c0 c1 c2 c3 f1 f2 f3
    obtain ⟨c0, c1, c2, c3, f1, f2, f3⟩ := PzC_cells P1.out
    simp only at c0 c1 c2 c3
    have hP2 := PzC_at P1.out (a + 1)
    have hZ2 := (c4_far W1 g w.heap.size 1 (.int .i64 ((a + 1 : Nat) : Int)) (by omega)).trans Z1.out
    have hG2 := grown_store (old_grown_ O1.out (grown_refl W1 (some g))) 1 (.int .i64 ((a + 1 : Nat) : Int))
    rw [show ((a + 1 : Nat) : Int) = (a : Int) + 1 by omega] at hP2 hZ2 hG2
    have HP2 := Lib.hid hP2
    have HZ2 := Lib.hid hZ2
    have HG2 := Lib.hid hG2
    clear hP2 hZ2 hG2 c0 c2 c3 f2 f3 P1 Z1 O1
    go_upto_region 3 with fail
    generalize W1.setCell ⟨g, 1, none⟩ (.int .i64 ((a : Int) + 1)) = W2 at *
    clear c1 f1
    have HFL := Lib.hid (failC g s ⟨a + 1, d, e⟩ 80 W2 HP2.out)
    go_wp2_with fail
    refine (HFL.out).mono ?_; rintro e X ⟨rfl, hp, hg2⟩
    have hz := (hg2.block w.heap.size (lt_of_block HZ2.out) (by intro h; injection h with h; omega)).trans HZ2.out
    have hgr := World.grownBy.trans HG2.out hg2
    obtain ⟨r0, r1, r2, r3, y0, y1, y2, y3⟩ := setC_cells hz
    have HP3 := Lib.hid ((set4_other X w.heap.size g (.int .u64 0) (.int .u64 0) (.int .u64 0) (.int .u64 0) (by omega)).trans hp)
    have hg3 := grown_new4 hgr 0
    rw [setW_zero, setW_zero, setW_zero, setW_zero] at hg3
    have HG3 := Lib.hid hg3
    clear hg2 hz hgr hp hg3
    go_wp2_with fail
    refine bodyPost_ret (v := .tuple #[setA 0, .bool false]) (by simp [results, Try.results106, go_sem, r0, r1, r2, r3, setA, setW_zero]) rfl ?_
    rw [HE.out]
    exact ⟨rfl, HP3.out, HG3.out⟩
  · have b1 : ((s[a].toNat : Int) == 92) = false := by simp; omega
    have b2 : ((s[a].toNat : Int) == 94) = false := by simp; omega
    have b3 : ((s[a].toNat : Int) == 45) = true := by simp; omega
    have hE : singleP (bs s) ⟨a, d, e⟩ = ((0, false), failP ⟨a + 1, d, e⟩ 80) := by unfold singleP; rw [hbb, if_neg (by omega), if_pos (by omega)]; rfl
    have HE := Lib.hid hE
    clear hE hc hb hb2 hbb
    go_enter Try.func106, Try.ntmps106
    go_wp2_with fail
    go_quiet (fail)
    have O1 := Lib.hid (OW.out.drewN nq)
    have Z1 : Hid (((w.alloc (.cells #[.int .u64 0, .int .u64 0, .int .u64 0, .int .u64 0] 40)).drewN nq).heap[w.heap.size]? = some (setC 0)) := HZ
    have P1 : Hid (((w.alloc (.cells #[.int .u64 0, .int .u64 0, .int .u64 0, .int .u64 0] 40)).drewN nq).heap[g]? = some (PzC s ⟨a, d, e⟩)) := HP
    generalize (w.alloc (.cells #[.int .u64 0, .int .u64 0, .int .u64 0, .int .u64 0] 40)).drewN nq = W1 at *
    clear OW HZ HP c0 c1 c2 c3 f1 f2 f3
    obtain ⟨c0, c1, c2, c3, f1, f2, f3⟩ := PzC_cells P1.out
    simp only at c0 c1 c2 c3
    have hP2 := PzC_at P1.out (a + 1)
    have hZ2 := (c4_far W1 g w.heap.size 1 (.int .i64 ((a + 1 : Nat) : Int)) (by omega)).trans Z1.out
    have hG2 := grown_store (old_grown_ O1.out (grown_refl W1 (some g))) 1 (.int .i64 ((a + 1 : Nat) : Int))
    rw [show ((a + 1 : Nat) : Int) = (a : Int) + 1 by omega] at hP2 hZ2 hG2
    have HP2 := Lib.hid hP2
    have HZ2 := Lib.hid hZ2
    have HG2 := Lib.hid hG2
    clear hP2 hZ2 hG2 c0 c2 c3 f2 f3 P1 Z1 O1
    go_upto_region 3 with fail
    generalize W1.setCell ⟨g, 1, none⟩ (.int .i64 ((a : Int) + 1)) = W2 at *
    clear c1 f1
    have HFL := Lib.hid (failC g s ⟨a + 1, d, e⟩ 80 W2 HP2.out)
    go_wp2_with fail
    refine (HFL.out).mono ?_; rintro e X ⟨rfl, hp, hg2⟩
    have hz := (hg2.block w.heap.size (lt_of_block HZ2.out) (by intro h; injection h with h; omega)).trans HZ2.out
    have hgr := World.grownBy.trans HG2.out hg2
    obtain ⟨r0, r1, r2, r3, y0, y1, y2, y3⟩ := setC_cells hz
    have HP3 := Lib.hid ((set4_other X w.heap.size g (.int .u64 0) (.int .u64 0) (.int .u64 0) (.int .u64 0) (by omega)).trans hp)
    have hg3 := grown_new4 hgr 0
    rw [setW_zero, setW_zero, setW_zero, setW_zero] at hg3
    have HG3 := Lib.hid hg3
    clear hg2 hz hgr hp hg3
    go_wp2_with fail
    refine bodyPost_ret (v := .tuple #[setA 0, .bool false]) (by simp [results, Try.results106, go_sem, r0, r1, r2, r3, setA, setW_zero]) rfl ?_
    rw [HE.out]
    exact ⟨rfl, HP3.out, HG3.out⟩
  · have b1 : ((s[a].toNat : Int) == 92) = false := by simp; omega
    have b2 : ((s[a].toNat : Int) == 94) = false := by simp; omega
    have b3 : ((s[a].toNat : Int) == 45) = false := by simp; omega
    have b4 : ((s[a].toNat : Int) == 93) = true := by simp; omega
    have hE : singleP (bs s) ⟨a, d, e⟩ = ((0, false), failP ⟨a + 1, d, e⟩ 80) := by unfold singleP; rw [hbb, if_neg (by omega), if_pos (by omega)]; rfl
    have HE := Lib.hid hE
    clear hE hc hb hb2 hbb
    go_enter Try.func106, Try.ntmps106
    go_wp2_with fail
    go_quiet (fail)
    have O1 := Lib.hid (OW.out.drewN nq)
    have Z1 : Hid (((w.alloc (.cells #[.int .u64 0, .int .u64 0, .int .u64 0, .int .u64 0] 40)).drewN nq).heap[w.heap.size]? = some (setC 0)) := HZ
    have P1 : Hid (((w.alloc (.cells #[.int .u64 0, .int .u64 0, .int .u64 0, .int .u64 0] 40)).drewN nq).heap[g]? = some (PzC s ⟨a, d, e⟩)) := HP
    generalize (w.alloc (.cells #[.int .u64 0, .int .u64 0, .int .u64 0, .int .u64 0] 40)).drewN nq = W1 at *
    clear OW HZ HP c0 c1 c2 c3 f1 f2 f3
    obtain ⟨c0, c1, c2, c3, f1, f2, f3⟩ := PzC_cells P1.out
    simp only at c0 c1 c2 c3
    have hP2 := PzC_at P1.out (a + 1)
    have hZ2 := (c4_far W1 g w.heap.size 1 (.int .i64 ((a + 1 : Nat) : Int)) (by omega)).trans Z1.out
    have hG2 := grown_store (old_grown_ O1.out (grown_refl W1 (some g))) 1 (.int .i64 ((a + 1 : Nat) : Int))
    rw [show ((a + 1 : Nat) : Int) = (a : Int) + 1 by omega] at hP2 hZ2 hG2
    have HP2 := Lib.hid hP2
    have HZ2 := Lib.hid hZ2
    have HG2 := Lib.hid hG2
    clear hP2 hZ2 hG2 c0 c2 c3 f2 f3 P1 Z1 O1
    go_upto_region 3 with fail
    generalize W1.setCell ⟨g, 1, none⟩ (.int .i64 ((a : Int) + 1)) = W2 at *
    clear c1 f1
    have HFL := Lib.hid (failC g s ⟨a + 1, d, e⟩ 80 W2 HP2.out)
    go_wp2_with fail
    refine (HFL.out).mono ?_; rintro e X ⟨rfl, hp, hg2⟩
    have hz := (hg2.block w.heap.size (lt_of_block HZ2.out) (by intro h; injection h with h; omega)).trans HZ2.out
    have hgr := World.grownBy.trans HG2.out hg2
    obtain ⟨r0, r1, r2, r3, y0, y1, y2, y3⟩ := setC_cells hz
    have HP3 := Lib.hid ((set4_other X w.heap.size g (.int .u64 0) (.int .u64 0) (.int .u64 0) (.int .u64 0) (by omega)).trans hp)
    have hg3 := grown_new4 hgr 0
    rw [setW_zero, setW_zero, setW_zero, setW_zero] at hg3
    have HG3 := Lib.hid hg3
    clear hg2 hz hgr hp hg3
    go_wp2_with fail
    refine bodyPost_ret (v := .tuple #[setA 0, .bool false]) (by simp [results, Try.results106, go_sem, r0, r1, r2, r3, setA, setW_zero]) rfl ?_
    rw [HE.out]
    exact ⟨rfl, HP3.out, HG3.out⟩
  · have b1 : ((s[a].toNat : Int) == 92) = false := by simp; omega
    have b2 : ((s[a].toNat : Int) == 94) = false := by simp; omega
    have b3 : ((s[a].toNat : Int) == 45) = false := by simp; omega
    have b4 : ((s[a].toNat : Int) == 93) = false := by simp; omega
    have hE : singleP (bs s) ⟨a, d, e⟩ = ((withB 0 s[a].toNat, true), ⟨a + 1, d, e⟩) := by unfold singleP; rw [hbb, if_neg hc.1, if_neg (by omega)]; rfl
    have HE := Lib.hid hE
    have HB2 := Lib.hid hb2
    clear hE hc hb hb2 hbb
    go_enter Try.func106, Try.ntmps106
    go_wp2_with fail
    go_quiet (fail)
    have O1 := Lib.hid (OW.out.drewN nq)
    have Z1 : Hid (((w.alloc (.cells #[.int .u64 0, .int .u64 0, .int .u64 0, .int .u64 0] 40)).drewN nq).heap[w.heap.size]? = some (setC 0)) := HZ
    have P1 : Hid (((w.alloc (.cells #[.int .u64 0, .int .u64 0, .int .u64 0, .int .u64 0] 40)).drewN nq).heap[g]? = some (PzC s ⟨a, d, e⟩)) := HP
    generalize (w.alloc (.cells #[.int .u64 0, .int .u64 0, .int .u64 0, .int .u64 0] 40)).drewN nq = W1 at *
    clear OW HZ HP c0 c1 c2 c3 f1 f2 f3
    obtain ⟨c0, c1, c2, c3, f1, f2, f3⟩ := PzC_cells P1.out
    simp only at c0 c1 c2 c3
    have hP2 := PzC_at P1.out (a + 1)
    have hZ2 := (c4_far W1 g w.heap.size 1 (.int .i64 ((a + 1 : Nat) : Int)) (by omega)).trans Z1.out
    have hG2 := grown_store (old_grown_ O1.out (grown_refl W1 (some g))) 1 (.int .i64 ((a + 1 : Nat) : Int))
    rw [show ((a + 1 : Nat) : Int) = (a : Int) + 1 by omega] at hP2 hZ2 hG2
    have HP2 := Lib.hid hP2
    have HZ2 := Lib.hid hZ2
    have HG2 := Lib.hid hG2
    clear hP2 hZ2 hG2 c0 c2 c3 f2 f3 P1 Z1 O1
    go_upto_region 3 with fail
    generalize W1.setCell ⟨g, 1, none⟩ (.int .i64 ((a : Int) + 1)) = W2 at *
    clear c1 f1
    have hC := with0C s[a].toNat HB2.out W2
    generalize withB 0 s[a].toNat = z at *
    unfold ValOld setA at hC
    have HC := Lib.hid hC
    clear hC
    go_wp2_with fail
    refine (HC.out).mono ?_; rintro e X ⟨rfl, o2⟩
    have hp := o2.block HP2.out
    have hz := o2.block HZ2.out
    have hgr := grown_old_ HG2.out o2
    clear o2
    have HP2 := Lib.hid hp
    obtain ⟨r0, r1, r2, r3, y0, y1, y2, y3⟩ := setC_cells hz
    have q2 := setC_store hz z
    obtain ⟨v0, v1, v2, v3, _, _, _, _⟩ := setC_cells q2
    have HP3 := Lib.hid ((set4_other X w.heap.size g (.int .u64 (setW z 0)) (.int .u64 (setW z 1)) (.int .u64 (setW z 2)) (.int .u64 (setW z 3)) (by omega)).trans hp)
    have HG3 := Lib.hid (grown_new4 hgr z)
    clear q2 hz hgr hp
    go_wp2_with fail
    refine bodyPost_ret (v := .tuple #[setA z, .bool true]) (by simp [results, Try.results106, go_sem, v0, v1, v2, v3, setA]) rfl ?_
    rw [HE.out]
    exact ⟨rfl, HP3.out, HG3.out⟩
end Go.Proofs.Ythadkjgadhbidaa
