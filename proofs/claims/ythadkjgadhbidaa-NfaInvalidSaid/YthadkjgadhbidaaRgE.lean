/-
  The walks of the program's reader of patterns: single.
-/
import Derived.Test.YthadkjgadhbidaaRgD
namespace Go.Proofs.Ythadkjgadhbidaa
open Go.RowKit
set_option linter.unusedVariables false

set_option maxHeartbeats 8000000 in
set_option maxRecDepth 100000 in
theorem singleG (w0 : World) (B g : Nat) (s : ByteArray) (a d : Nat) (lv : Value) (N : List Nd) (w : World) (h : RP w0 w B g s a d lv N) (hs : s.size ≤ 1000000) (ha : a < s.size) (dp : Nat) :
    Calls Try.prog 111 #[.pointer (some ⟨g, 0, none⟩)] w (SPost w0 w B g s d lv N (singleP (bs s) ⟨a, dp, 0⟩)) := by
  have HK := Lib.hid (RK.start h)
  have i0 : (0 : Int) ≤ (a : Int) := by omega
  have i1 : (a : Int) < (s.size : Int) := by omega
  have HR : Hid (singleP (bs s) ⟨a, dp, 0⟩ = if s[a].toNat = 92 then escP (bs s) ⟨a + 1, dp, 0⟩ else if s[a].toNat = 94 ∨ s[a].toNat = 45 ∨ s[a].toNat = 93 then ((0, false), ⟨a + 1, dp, 80⟩) else ((withB 0 s[a].toNat, true), ⟨a + 1, dp, 0⟩)) := Lib.hid (by
    unfold singleP bAt
    rw [show (bs s).getD (⟨a, dp, 0⟩ : Ps).at_ 0 = s[a].toNat from bs_get s a ha]
    rfl)
  obtain ⟨R, hR⟩ : ∃ R, singleP (bs s) ⟨a, dp, 0⟩ = R := ⟨_, rfl⟩
  rw [hR]
  have HRR := Lib.hid (hR.symm.trans HR.out)
  have hb : s[a].toNat < 256 := s[a].toNat_lt
  have HH := Lib.hid h
  clear HR hR h
  go_enter Try.func111, Try.ntmps111
  go_upto_region 1 with fail
  generalize w.alloc (.cells #[.int .u64 0, .int .u64 0, .int .u64 0, .int .u64 0] 40) = W1 at *
  generalize w.heap.size = k3 at *
  obtain ⟨c0, c1, c2, c3, f1, f2, f3⟩ := HK.out.rp.cells
  obtain ⟨z0, z1, z2, z3, y0, y1, y2, y3⟩ := setC_cells HK.out.blk
  clear c2 c3 f2 f3
  go_wp2_with fail
  go_quiet (fail)
  have HKQ := Lib.hid (HK.out.up ((Old.refl _).drewN nq))
  generalize W1.drewN nq = W2 at *
  clear HK
  have HK := Lib.hid HKQ.out
  clear HKQ
  clear c0 c1 z0 z1 z2 z3 y0 y1 y2 y3 f1
  generalize s[a].toNat = b at *
  have b0 : (0 : Int) ≤ (b : Int) := by omega
  have b1 : (b : Int) < 256 := by omega
  have hcase : b = 93 ∨ b = 94 ∨ b = 45 ∨ b = 92 ∨ (b ≠ 93 ∧ b ≠ 94 ∧ b ≠ 45 ∧ b ≠ 92) := by omega
  rcases hcase with rfl | rfl | rfl | rfl | ⟨n1, n2, n3, n4⟩
  · have HR : Hid (R = ((0, false), ⟨a + 1, dp, 80⟩)) := Lib.hid (by rw [HRR.out]; rfl)
    clear b0 b1 hb
    obtain ⟨z0, z1, z2, z3, y0, y1, y2, y3⟩ := setC_cells HK.out.blk
    have HF := Lib.hid HK.out.put0
    obtain ⟨v0, v1, v2, v3, _, _, _, _⟩ := setC_cells HF.out.blk
    go_wp2_with fail
    refine bodyPost_ret (v := .tuple #[.int .i64 0, setA 0, .int .i64 80]) (by simp [results, Try.results111, go_sem, v0, v1, v2, v3, setA]) rfl ?_
    rw [HR.out]
    exact ⟨fun e => absurd e (by simp), fun _ => ⟨_, _, rfl, HF.out.fin0⟩⟩
  · have HR : Hid (R = ((0, false), ⟨a + 1, dp, 80⟩)) := Lib.hid (by rw [HRR.out]; rfl)
    clear b0 b1 hb
    obtain ⟨z0, z1, z2, z3, y0, y1, y2, y3⟩ := setC_cells HK.out.blk
    have HF := Lib.hid HK.out.put0
    obtain ⟨v0, v1, v2, v3, _, _, _, _⟩ := setC_cells HF.out.blk
    go_wp2_with fail
    refine bodyPost_ret (v := .tuple #[.int .i64 0, setA 0, .int .i64 80]) (by simp [results, Try.results111, go_sem, v0, v1, v2, v3, setA]) rfl ?_
    rw [HR.out]
    exact ⟨fun e => absurd e (by simp), fun _ => ⟨_, _, rfl, HF.out.fin0⟩⟩
  · have HR : Hid (R = ((0, false), ⟨a + 1, dp, 80⟩)) := Lib.hid (by rw [HRR.out]; rfl)
    clear b0 b1 hb
    obtain ⟨z0, z1, z2, z3, y0, y1, y2, y3⟩ := setC_cells HK.out.blk
    have HF := Lib.hid HK.out.put0
    obtain ⟨v0, v1, v2, v3, _, _, _, _⟩ := setC_cells HF.out.blk
    go_wp2_with fail
    refine bodyPost_ret (v := .tuple #[.int .i64 0, setA 0, .int .i64 80]) (by simp [results, Try.results111, go_sem, v0, v1, v2, v3, setA]) rfl ?_
    rw [HR.out]
    exact ⟨fun e => absurd e (by simp), fun _ => ⟨_, _, rfl, HF.out.fin0⟩⟩
  · have HR : Hid (R = escP (bs s) ⟨a + 1, dp, 0⟩) := Lib.hid (by rw [HRR.out]; rfl)
    clear b0 b1 hb
    have HE := Lib.hid (escapeC w0 B g s a d lv N W2 HK.out.rp hs ha dp)
    generalize escP (bs s) ⟨a + 1, dp, 0⟩ = R1 at *
    obtain ⟨⟨z, one⟩, q⟩ := R1
    by_cases he : q.e = 0
    · have HE2 := Lib.hid (HE.out.mono fun e w' h => h.ok he)
      clear HE
      go_wp2_with fail
      refine (HE2.out).mono ?_; rintro e W3 ⟨rfl, hr⟩
      have HK2 := Lib.hid (HK.out.call hr)
      clear hr HK HE2
      have HK := Lib.hid HK2.out
      clear HK2
      have HV : Hid (R = ((z, one), q)) := Lib.hid HR.out
      generalize hvv : oneV z one = vv at *
      obtain ⟨z0, z1, z2, z3, y0, y1, y2, y3⟩ := setC_cells HK.out.blk
      have HF := Lib.hid (HK.out.put z)
      obtain ⟨v0, v1, v2, v3, _, _, _, _⟩ := setC_cells HF.out.blk
      try unfold setA
      go_wp2_with fail
      refine bodyPost_ret (v := .tuple #[.int .i64 vv, setA z, .int .i64 0]) (by simp [results, Try.results111, go_sem, v0, v1, v2, v3, setA]) rfl ?_
      rw [HV.out]
      exact ⟨fun _ => ⟨by rw [← hvv], HF.out.fin⟩, fun e => absurd he e⟩
    · have HE2 := Lib.hid (HE.out.mono fun e w' h => h.no he)
      clear HE
      go_wp2_with fail
      refine (HE2.out).mono ?_; rintro e W3 ⟨v9, z9, rfl, hr⟩
      have HK2 := Lib.hid (HK.out.bad hr)
      clear hr HK HE2
      have HK := Lib.hid HK2.out
      clear HK2
      obtain ⟨z0, z1, z2, z3, y0, y1, y2, y3⟩ := setC_cells HK.out.blk
      have HF := Lib.hid (HK.out.put z9)
      obtain ⟨v0, v1, v2, v3, _, _, _, _⟩ := setC_cells HF.out.blk
      try unfold setA
      go_wp2_with fail
      refine bodyPost_ret (v := .tuple #[.int .i64 v9, setA z9, .int .i64 q.e]) (by simp [results, Try.results111, go_sem, v0, v1, v2, v3, setA]) rfl ?_
      rw [HR.out]
      exact ⟨fun e => absurd e he, fun _ => ⟨_, _, rfl, HF.out.fin0⟩⟩
  · have q1 : ((b : Int) == 93) = false := by simp; omega
    have q2 : ((b : Int) == 94) = false := by simp; omega
    have q3 : ((b : Int) == 45) = false := by simp; omega
    have q4 : ((b : Int) == 92) = false := by simp; omega
    have HR : Hid (R = ((withB 0 b, true), ⟨a + 1, dp, 0⟩)) := Lib.hid (by rw [HRR.out, if_neg n4, if_neg (by omega)])
    have HSP := Lib.hid (spanC b b hb hb)
    have HO : Hid (rangeB b b = withB 0 b ∧ onlyB (rangeB b b) = b) := Lib.hid ⟨rangeB_one b, by rw [rangeB_one]; exact onlyB_one ⟨b, hb⟩⟩
    clear n1 n2 n3 n4
    obtain ⟨c0, c1, c2, c3, f1, f2, f3⟩ := HK.out.rp.cells
    obtain ⟨z0, z1, z2, z3, y0, y1, y2, y3⟩ := setC_cells HK.out.blk
    clear c2 c3 f2 f3
    clear z0 z1 z2 z3 y0 y1 y2 y3 c0
    have HK4 := Lib.hid (HK.out.plus 1)
    clear HK
    go_upto_region 10 with fail
    have HK : Hid (RK w0 w (W2.setCell ⟨g, 1, none⟩ (.int .i64 ((a : Int) + 1))) B g s (a + 1) d lv N k3 0) := Lib.hid HK4.out
    clear HK4 c1 f1
    generalize W2.setCell ⟨g, 1, none⟩ (.int .i64 ((a : Int) + 1)) = W4 at *
    go_wp2_with fail
    refine (HSP.out _).mono ?_; rintro e W6 ⟨rfl, hoN⟩
    have HKQ := Lib.hid (HK.out.up hoN)
    clear HK hoN
    have HK := Lib.hid HKQ.out
    clear HKQ
    generalize rangeB b b = zz at *
    obtain ⟨z0, z1, z2, z3, y0, y1, y2, y3⟩ := setC_cells HK.out.blk
    have HF := Lib.hid (HK.out.put zz)
    obtain ⟨v0, v1, v2, v3, _, _, _, _⟩ := setC_cells HF.out.blk
    try unfold setA
    go_wp2_with fail
    refine bodyPost_ret (v := .tuple #[.int .i64 (b : Int), setA zz, .int .i64 0]) (by simp [results, Try.results111, go_sem, v0, v1, v2, v3, setA]) rfl ?_
    rw [HR.out, ← HO.out.1]
    exact ⟨fun _ => ⟨by unfold oneV; simp [HO.out.2], HF.out.fin⟩, fun e => absurd rfl e⟩
end Go.Proofs.Ythadkjgadhbidaa
