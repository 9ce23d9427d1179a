/-
  The program's reader of patterns: atom.
-/
import Derived.Test.YthadkjgadhbidaaRgH
namespace Go.Proofs.Ythadkjgadhbidaa
open Go.RowKit
set_option linter.unusedVariables false

theorem plc_leaf (N : List Nd) (k : Int) (z : BSet) : plc N (leafN k z) = (N.length : Int) := by unfold plc leafN; simp
theorem addZ (w0 : World) (B g : Nat) (s : ByteArray) (a d : Nat) (lv : Value) (N : List Nd) (w : World) (h : RP w0 w B g s a d lv N) (hn : N.length ≤ 100000) (k lf rt : Int) :
    Calls Try.prog 88 #[.pointer (some ⟨g, 0, none⟩), .agg #[.int .i64 k, .int .i64 lf, .int .i64 rt, .int .u64 0, .int .u64 0, .int .u64 0, .int .u64 0]] w (AddPost w0 B g s a d N ⟨k, lf, rt, 0⟩) := by
  have := addC w0 B g s a d lv N w h hn ⟨k, lf, rt, 0⟩
  unfold ndA at this
  simp only [setW_zero] at this
  exact this
theorem addS (w0 : World) (B g : Nat) (s : ByteArray) (a d : Nat) (lv : Value) (N : List Nd) (w : World) (h : RP w0 w B g s a d lv N) (hn : N.length ≤ 100000) (z : BSet) :
    Calls Try.prog 88 #[.pointer (some ⟨g, 0, none⟩), .agg #[.int .i64 2, .int .i64 0, .int .i64 0, .int .u64 (setW z 0), .int .u64 (setW z 1), .int .u64 (setW z 2), .int .u64 (setW z 3)]] w (AddPost w0 B g s a d N ⟨2, 0, 0, z⟩) := addC w0 B g s a d lv N w h hn ⟨2, 0, 0, z⟩
theorem leaf_post {w0 w : World} {B g : Nat} {s : ByteArray} {a d d' : Nat} {N : List Nd} {R : List Nd × Ps} {k : Int} {z : BSet} {lv : Value} (hE : R = (leafN k z, ⟨a, d', 0⟩)) (hk : kidsN k = 0) (h : RP w0 w B g s a d lv (N ++ [⟨k, 0, 0, z⟩])) :
    GPost w0 B g s d N R (.returned (.tuple #[.int .i64 (N.length : Int), .int .i64 0])) w := by
  subst hE
  refine ⟨fun _ => ⟨by rw [plc_leaf], lv, ?_⟩, fun e => absurd rfl e⟩
  show RP w0 w B g s a d lv (N ++ (leafN k z).map (shiftNd (N.length : Int)))
  rw [shift_leaf _ _ _ hk]
  exact h
set_option maxHeartbeats 8000000 in
set_option maxRecDepth 100000 in
theorem atomG (f : Nat) (hP : PatG f) : AtomG (f + 1) := by
  intro w0 B g s a d lv N w R h hs ha hd hN hR
  have HG := Lib.hid (groupG f hP w0 B g s a d lv N)
  rw [atomP] at hR
  simp only at hR
  rw [show bAt (bs s) ⟨a, d, 0⟩ = s[a].toNat from bs_get s a ha] at hR
  have HRR := Lib.hid hR
  have hb : s[a].toNat < 256 := s[a].toNat_lt
  have HP := Lib.hid h
  have HO := Lib.hid h.old
  have i0 : (0 : Int) ≤ (a : Int) := by omega
  have i1 : (a : Int) < (s.size : Int) := by omega
  have i2 : (s.size : Int) ≤ 10000 := by omega
  have HL := Lib.hid hN.len
  obtain ⟨c0, c1, c2, c3, f1, f2, f3⟩ := h.cells
  clear h hR c2 c3 f1 f2 f3
  go_enter Try.func95, Try.ntmps95
  go_wp2_with fail
  go_quiet (fail)
  have HPQ := Lib.hid (HP.out.drewN nq)
  have HOQ : Hid (Old w0 (w.drewN nq)) := Lib.hid HPQ.out.old
  generalize w.drewN nq = W2 at *
  clear HP HO c0 c1
  have HP := Lib.hid HPQ.out
  have HO := Lib.hid HOQ.out
  clear HPQ HOQ
  generalize s[a].toNat = b at *
  have b0 : (0 : Int) ≤ (b : Int) := by omega
  have b1 : (b : Int) < 256 := by omega
  have hcase : b = 42 ∨ b = 43 ∨ b = 63 ∨ b = 93 ∨ b = 40 ∨ b = 91 ∨ b = 92 ∨ b = 94 ∨ b = 36 ∨ b = 46 ∨ (b ≠ 42 ∧ b ≠ 43 ∧ b ≠ 63 ∧ b ≠ 93 ∧ b ≠ 40 ∧ b ≠ 91 ∧ b ≠ 92 ∧ b ≠ 94 ∧ b ≠ 36 ∧ b ≠ 46) := by omega
  rcases hcase with rfl | rfl | rfl | rfl | rfl | rfl | rfl | rfl | rfl | rfl | ⟨n1, n2, n3, n4, n5, n6, n7, n8, n9, n10⟩
  · have HE : Hid (R.2.e = 81) := Lib.hid (by
      have h := HRR.out
      rw [if_neg (by decide), if_neg (by decide), if_neg (by decide), if_neg (by decide), if_neg (by decide), if_neg (by decide), if_pos (by decide)] at h
      rw [← Option.some.inj h]
      rfl)
    clear b0 b1 hb
    go_wp2_with fail
    go_ret2
    exact ⟨fun e => absurd (HE.out.symm.trans e) (by decide), fun _ => ⟨0, by rw [HE.out]; rfl, HO.out⟩⟩
  · have HE : Hid (R.2.e = 81) := Lib.hid (by
      have h := HRR.out
      rw [if_neg (by decide), if_neg (by decide), if_neg (by decide), if_neg (by decide), if_neg (by decide), if_neg (by decide), if_pos (by decide)] at h
      rw [← Option.some.inj h]
      rfl)
    clear b0 b1 hb
    go_wp2_with fail
    go_ret2
    exact ⟨fun e => absurd (HE.out.symm.trans e) (by decide), fun _ => ⟨0, by rw [HE.out]; rfl, HO.out⟩⟩
  · have HE : Hid (R.2.e = 81) := Lib.hid (by
      have h := HRR.out
      rw [if_neg (by decide), if_neg (by decide), if_neg (by decide), if_neg (by decide), if_neg (by decide), if_neg (by decide), if_pos (by decide)] at h
      rw [← Option.some.inj h]
      rfl)
    clear b0 b1 hb
    go_wp2_with fail
    go_ret2
    exact ⟨fun e => absurd (HE.out.symm.trans e) (by decide), fun _ => ⟨0, by rw [HE.out]; rfl, HO.out⟩⟩
  · have HE : Hid (R.2.e = 80) := Lib.hid (by
      have h := HRR.out
      rw [if_neg (by decide), if_neg (by decide), if_neg (by decide), if_neg (by decide), if_neg (by decide), if_pos (by decide)] at h
      rw [← Option.some.inj h]
      rfl)
    clear b0 b1 hb
    go_wp2_with fail
    go_ret2
    exact ⟨fun e => absurd (HE.out.symm.trans e) (by decide), fun _ => ⟨0, by rw [HE.out]; rfl, HO.out⟩⟩
  · have HGR : Hid (grpR (bs s) f a d = some R) := Lib.hid (by
      have h := HRR.out
      rw [if_neg (by decide), if_neg (by decide), if_neg (by decide), if_neg (by decide), if_neg (by decide), if_neg (by decide), if_neg (by decide), if_pos (by decide)] at h
      exact h)
    have HC := Lib.hid (HG.out W2 R HP.out hs ha hd hN HGR.out)
    clear HG b0 b1 hb
    by_cases he : R.2.e = 0
    · have HC2 := Lib.hid (HC.out.mono fun e w' h => h.ok he)
      clear HC
      go_wp2_with fail
      refine (HC2.out).mono ?_; rintro e W3 ⟨rfl, lv3, hr⟩
      have HR3 := Lib.hid hr
      clear hr
      go_wp2_with fail
      go_ret2
      exact ⟨fun _ => ⟨rfl, lv3, HR3.out⟩, fun e => absurd he e⟩
    · have HC2 := Lib.hid (HC.out.mono fun e w' h => h.no he)
      clear HC
      go_wp2_with fail
      refine (HC2.out).mono ?_; rintro e W3 ⟨v3, rfl, ho⟩
      have HO3 := Lib.hid ho
      clear ho
      go_wp2_with fail
      go_ret2
      exact ⟨fun e => absurd e he, fun _ => ⟨v3, rfl, HO3.out⟩⟩
  · obtain ⟨⟨z, q⟩, hq⟩ : ∃ r, classP (bs s) f ⟨a + 1, d, 0⟩ = some r := by
      have h := HRR.out
      rw [if_neg (by decide), if_neg (by decide), if_neg (by decide), if_neg (by decide), if_pos (by decide)] at h
      cases hc : classP (bs s) f ⟨a + 1, d, 0⟩ with
      | none =>
        rw [show upP ⟨a, d, 0⟩ = (⟨a + 1, d, 0⟩ : Ps) from rfl, hc] at h
        cases h
      | some r => exact ⟨r, rfl⟩
    have HE : Hid (R = (leafN 2 z, q)) := Lib.hid (by
      have h := HRR.out
      rw [if_neg (by decide), if_neg (by decide), if_neg (by decide), if_neg (by decide), if_pos (by decide), show upP ⟨a, d, 0⟩ = (⟨a + 1, d, 0⟩ : Ps) from rfl, hq] at h
      exact (Option.some.inj h).symm)
    clear b0 b1 hb HG
    obtain ⟨c0, c1, c2, c3, f1, f2, f3⟩ := HP.out.cells
    clear c0 c2 c3 f2 f3
    have HP1 : Hid (RP w0 (W2.setCell ⟨g, 1, none⟩ (.int .i64 ((a : Int) + 1))) B g s (a + 1) d lv N) := Lib.hid (by
      have := HP.out.at_ (a + 1)
      rw [show ((a + 1 : Nat) : Int) = (a : Int) + 1 by omega] at this
      exact this)
    go_upto_region 13 with fail
    clear c1 f1 HP
    generalize W2.setCell ⟨g, 1, none⟩ (.int .i64 ((a : Int) + 1)) = W3 at *
    have HP := Lib.hid HP1.out
    clear HP1
    have HC := Lib.hid (classG w0 B g s (a + 1) d lv N W3 HP.out (by omega) (by omega) d f (z, q) hq)
    clear hq
    obtain ⟨a2, d2, e2⟩ := q
    by_cases he : e2 = 0
    · subst he
      have HC2 := Lib.hid (HC.out.mono fun e w' h => (h.ok rfl))
      clear HC
      go_wp2_with fail
      refine (HC2.out).mono ?_; rintro e W4 ⟨rfl, hr, _, _⟩
      have HR4 := Lib.hid hr
      clear hr HC2
      unfold setA
      go_upto_region 16 with fail
      have hb5 := heap_alloc_new W4 (.cells #[.int .u64 (setW z 0), .int .u64 (setW z 1), .int .u64 (setW z 2), .int .u64 (setW z 3)] 40)
      have HPB := Lib.hid (HR4.out.up ((Old.refl W4).alloc (.cells #[.int .u64 (setW z 0), .int .u64 (setW z 1), .int .u64 (setW z 2), .int .u64 (setW z 3)] 40)))
      generalize W4.alloc (.cells #[.int .u64 (setW z 0), .int .u64 (setW z 1), .int .u64 (setW z 2), .int .u64 (setW z 3)] 40) = W5 at *
      obtain ⟨x0, x1, x2, x3, _, _, _, _⟩ := setC_cells (show W5.heap[W4.heap.size]? = some (setC z) from hb5)
      clear hb5 HR4
      have HA := Lib.hid (addS w0 B g s _ d lv N W5 HPB.out HL.out z)
      go_wp2_with fail
      refine (HA.out).mono ?_; rintro e W9 ⟨rfl, lv9, hr⟩
      have HR9 := Lib.hid hr
      clear hr HA
      go_wp2_with fail
      go_ret2
      exact leaf_post HE.out (by decide) HR9.out
    · have HC2 := Lib.hid (HC.out.mono fun e w' h => (h.no he))
      have hne : (e2 != 0) = true := by simpa using he
      clear HC
      go_wp2_with fail
      refine (HC2.out).mono ?_; rintro e W4 ⟨z9, rfl, ho, _, _⟩
      have HO4 := Lib.hid ((ho.alloc (.cells #[.int .u64 (setW z9 0), .int .u64 (setW z9 1), .int .u64 (setW z9 2), .int .u64 (setW z9 3)] 40)))
      clear ho HC2
      unfold setA
      go_wp2_with fail
      go_ret2
      rw [HE.out]
      exact ⟨fun e => absurd e he, fun _ => ⟨0, rfl, HO4.out⟩⟩
  · have HE : Hid (R = (leafN 2 (escP (bs s) ⟨a + 1, d, 0⟩).1.1, (escP (bs s) ⟨a + 1, d, 0⟩).2)) := Lib.hid (by
      have h := HRR.out
      rw [if_neg (by decide), if_neg (by decide), if_neg (by decide), if_pos (by decide), show upP ⟨a, d, 0⟩ = (⟨a + 1, d, 0⟩ : Ps) from rfl] at h
      exact (Option.some.inj h).symm)
    have HC := Lib.hid (escapeC w0 B g s a d lv N W2 HP.out (by omega) ha d)
    clear b0 b1 hb HG
    generalize escP (bs s) ⟨a + 1, d, 0⟩ = E at *
    obtain ⟨⟨z, one⟩, ⟨a2, d2, e2⟩⟩ := E
    by_cases he : e2 = 0
    · subst he
      have HC2 := Lib.hid (HC.out.mono fun e w' h => (h.ok rfl))
      clear HC HP
      go_wp2_with fail
      refine (HC2.out).mono ?_; rintro e W4 ⟨rfl, hr, _, _⟩
      generalize oneV z one = vv at *
      have HR4 := Lib.hid hr
      clear hr HC2
      unfold setA
      go_upto_region 21 with fail
      have hb5 := heap_alloc_new W4 (.cells #[.int .u64 (setW z 0), .int .u64 (setW z 1), .int .u64 (setW z 2), .int .u64 (setW z 3)] 40)
      have HPB := Lib.hid (HR4.out.up ((Old.refl W4).alloc (.cells #[.int .u64 (setW z 0), .int .u64 (setW z 1), .int .u64 (setW z 2), .int .u64 (setW z 3)] 40)))
      generalize W4.alloc (.cells #[.int .u64 (setW z 0), .int .u64 (setW z 1), .int .u64 (setW z 2), .int .u64 (setW z 3)] 40) = W5 at *
      obtain ⟨x0, x1, x2, x3, _, _, _, _⟩ := setC_cells (show W5.heap[W4.heap.size]? = some (setC z) from hb5)
      clear hb5 HR4
      have HA := Lib.hid (addS w0 B g s _ d lv N W5 HPB.out HL.out z)
      go_wp2_with fail
      refine (HA.out).mono ?_; rintro e W9 ⟨rfl, lv9, hr⟩
      have HR9 := Lib.hid hr
      clear hr HA
      go_wp2_with fail
      go_ret2
      exact leaf_post HE.out (by decide) HR9.out
    · have HC2 := Lib.hid (HC.out.mono fun e w' h => (h.no he))
      have hne : (e2 != 0) = true := by simpa using he
      clear HC
      go_wp2_with fail
      refine (HC2.out).mono ?_; rintro e W4 ⟨v9, z9, rfl, ho, _, _⟩
      have HO4 := Lib.hid ((ho.alloc (.cells #[.int .u64 (setW z9 0), .int .u64 (setW z9 1), .int .u64 (setW z9 2), .int .u64 (setW z9 3)] 40)))
      clear ho HC2
      unfold setA
      go_wp2_with fail
      go_ret2
      rw [HE.out]
      exact ⟨fun e => absurd e he, fun _ => ⟨0, rfl, HO4.out⟩⟩
  · have HE : Hid (R = (leafN 8 0, ⟨a + 1, d, 0⟩)) := Lib.hid (by
      have h := HRR.out
      rw [if_neg (by decide), if_pos (by decide)] at h
      exact (Option.some.inj h).symm)
    clear b0 b1 hb
    obtain ⟨c0, c1, c2, c3, f1, f2, f3⟩ := HP.out.cells
    clear c0 c2 c3 f2 f3
    have HP1 : Hid (RP w0 (W2.setCell ⟨g, 1, none⟩ (.int .i64 ((a : Int) + 1))) B g s (a + 1) d lv N) := Lib.hid (by
      have := HP.out.at_ (a + 1)
      rw [show ((a + 1 : Nat) : Int) = (a : Int) + 1 by omega] at this
      exact this)
    go_upto_region 25 with fail
    clear c1 f1 HP
    generalize W2.setCell ⟨g, 1, none⟩ (.int .i64 ((a : Int) + 1)) = W3 at *
    have HP := Lib.hid HP1.out
    clear HP1
    have HA := Lib.hid (addZ w0 B g s (a + 1) d lv N W3 HP.out HL.out 8 0 0)
    go_wp2_with fail
    refine (HA.out).mono ?_; rintro e W9 ⟨rfl, lv9, hr⟩
    have HR9 := Lib.hid hr
    clear hr HA
    go_wp2_with fail
    go_ret2
    exact leaf_post HE.out (by decide) HR9.out
  · have HE : Hid (R = (leafN 9 0, ⟨a + 1, d, 0⟩)) := Lib.hid (by
      have h := HRR.out
      rw [if_neg (by decide), if_neg (by decide), if_pos (by decide)] at h
      exact (Option.some.inj h).symm)
    clear b0 b1 hb
    obtain ⟨c0, c1, c2, c3, f1, f2, f3⟩ := HP.out.cells
    clear c0 c2 c3 f2 f3
    have HP1 : Hid (RP w0 (W2.setCell ⟨g, 1, none⟩ (.int .i64 ((a : Int) + 1))) B g s (a + 1) d lv N) := Lib.hid (by
      have := HP.out.at_ (a + 1)
      rw [show ((a + 1 : Nat) : Int) = (a : Int) + 1 by omega] at this
      exact this)
    go_upto_region 27 with fail
    clear c1 f1 HP
    generalize W2.setCell ⟨g, 1, none⟩ (.int .i64 ((a : Int) + 1)) = W3 at *
    have HP := Lib.hid HP1.out
    clear HP1
    have HA := Lib.hid (addZ w0 B g s (a + 1) d lv N W3 HP.out HL.out 9 0 0)
    go_wp2_with fail
    refine (HA.out).mono ?_; rintro e W9 ⟨rfl, lv9, hr⟩
    have HR9 := Lib.hid hr
    clear hr HA
    go_wp2_with fail
    go_ret2
    exact leaf_post HE.out (by decide) HR9.out
  · have HE : Hid (R = (leafN 2 (notB (withB 0 10)), ⟨a + 1, d, 0⟩)) := Lib.hid (by
      have h := HRR.out
      rw [if_pos (by decide)] at h
      exact (Option.some.inj h).symm)
    clear b0 b1 hb HG
    obtain ⟨c0, c1, c2, c3, f1, f2, f3⟩ := HP.out.cells
    clear c0 c2 c3 f2 f3
    have HP1 : Hid (RP w0 (W2.setCell ⟨g, 1, none⟩ (.int .i64 ((a : Int) + 1))) B g s (a + 1) d lv N) := Lib.hid (by
      have := HP.out.at_ (a + 1)
      rw [show ((a + 1 : Nat) : Int) = (a : Int) + 1 by omega] at this
      exact this)
    go_upto_region 29 with fail
    clear c1 f1 HP
    generalize W2.setCell ⟨g, 1, none⟩ (.int .i64 ((a : Int) + 1)) = W3 at *
    have HP := Lib.hid HP1.out
    clear HP1
    go_wp2_with fail
    refine (spanC 10 10 (by decide) (by decide) _).mono ?_; rintro e W4 ⟨rfl, ho4⟩
    rw [rangeB_one]
    have HOC := Lib.hid (othersC (withB 0 10))
    go_wp2_with fail
    refine (HOC.out _).mono ?_; rintro e W5 ⟨rfl, ho5⟩
    have HP5 := Lib.hid ((HP.out.up ho4).up ho5)
    clear ho4 ho5 HP HOC
    generalize notB (withB 0 10) = z at *
    have HA := Lib.hid (addS w0 B g s (a + 1) d lv N W5 HP5.out HL.out z)
    unfold setA
    go_wp2_with fail
    refine (HA.out).mono ?_; rintro e W9 ⟨rfl, lv9, hr⟩
    have HR9 := Lib.hid hr
    clear hr HA
    go_wp2_with fail
    go_ret2
    exact leaf_post HE.out (by decide) HR9.out
  · have q1 : ((b : Int) == 42) = false := by simp; omega
    have q2 : ((b : Int) == 43) = false := by simp; omega
    have q3 : ((b : Int) == 63) = false := by simp; omega
    have q4 : ((b : Int) == 93) = false := by simp; omega
    have q5 : ((b : Int) == 40) = false := by simp; omega
    have q6 : ((b : Int) == 91) = false := by simp; omega
    have q7 : ((b : Int) == 92) = false := by simp; omega
    have q8 : ((b : Int) == 94) = false := by simp; omega
    have q9 : ((b : Int) == 36) = false := by simp; omega
    have q10 : ((b : Int) == 46) = false := by simp; omega
    have HE : Hid (R = (leafN 2 (withB 0 b), ⟨a + 1, d, 0⟩)) := Lib.hid (by
      have h := HRR.out
      rw [if_neg n10, if_neg n8, if_neg n9, if_neg n7, if_neg n6, if_neg n4, if_neg (by omega), if_neg n5] at h
      exact (Option.some.inj h).symm)
    have HSP := Lib.hid (spanC b b hb hb)
    clear n1 n2 n3 n4 n5 n6 n7 n8 n9 n10 HG
    obtain ⟨c0, c1, c2, c3, f1, f2, f3⟩ := HP.out.cells
    clear c0 c2 c3 f2 f3
    have HP1 : Hid (RP w0 (W2.setCell ⟨g, 1, none⟩ (.int .i64 ((a : Int) + 1))) B g s (a + 1) d lv N) := Lib.hid (by
      have := HP.out.at_ (a + 1)
      rw [show ((a + 1 : Nat) : Int) = (a : Int) + 1 by omega] at this
      exact this)
    go_upto_region 30 with fail
    clear c1 f1 HP
    generalize W2.setCell ⟨g, 1, none⟩ (.int .i64 ((a : Int) + 1)) = W3 at *
    have HP := Lib.hid HP1.out
    clear HP1
    go_wp2_with fail
    refine (HSP.out _).mono ?_; rintro e W4 ⟨rfl, ho4⟩
    rw [rangeB_one]
    have HP5 := Lib.hid (HP.out.up ho4)
    clear ho4 HP HSP
    generalize withB 0 b = z at *
    have HA := Lib.hid (addS w0 B g s (a + 1) d lv N W4 HP5.out HL.out z)
    unfold setA
    go_wp2_with fail
    refine (HA.out).mono ?_; rintro e W9 ⟨rfl, lv9, hr⟩
    have HR9 := Lib.hid hr
    clear hr HA
    go_wp2_with fail
    go_ret2
    exact leaf_post HE.out (by decide) HR9.out
end Go.Proofs.Ythadkjgadhbidaa
