/-
  The walks of the program's reader of patterns: element.
-/
import Derived.Test.YthadkjgadhbidaaRgE
namespace Go.Proofs.Ythadkjgadhbidaa
open Go.RowKit
set_option linter.unusedVariables false

structure ElPost (w0 wb : World) (B g : Nat) (s : ByteArray) (a d : Nat) (lv : Value) (N : List Nd) (se : Int) (R : BSet × Ps) (e : Ending) (w' : World) : Prop where
  ok : R.2.e = 0 → e = .returned (.tuple #[setA R.1, .int .i64 0]) ∧ RP w0 w' B g s R.2.at_ d lv N ∧ wb.heap.size ≤ w'.heap.size ∧ ∀ j, j < wb.heap.size → j ≠ g → w'.heap[j]? = wb.heap[j]?
  no : R.2.e ≠ 0 → (∃ z, e = .returned (.tuple #[setA z, .int .i64 R.2.e]) ∧ Old w0 w' ∧ wb.heap.size ≤ w'.heap.size ∧ ∀ j, j < wb.heap.size → j ≠ g → w'.heap[j]? = wb.heap[j]?) ∨
    (R.2.e = 80 ∧ se = 0 ∧ ∃ z a', e = .returned (.tuple #[setA z, .int .i64 0]) ∧ (RP w0 w' B g s a' d lv N ∧ wb.heap.size ≤ w'.heap.size ∧ ∀ j, j < wb.heap.size → j ≠ g → w'.heap[j]? = wb.heap[j]?) ∧ a < a' ∧ a' < s.size ∧ (bs s).getD a' 0 = 45)
set_option maxHeartbeats 8000000 in
set_option maxRecDepth 100000 in
theorem elementG (w0 : World) (B g : Nat) (s : ByteArray) (a d : Nat) (lv : Value) (N : List Nd) (w : World) (h : RP w0 w B g s a d lv N) (hs : s.size ≤ 1000000) (ha : a < s.size) (dp : Nat) :
    Calls Try.prog 108 #[.pointer (some ⟨g, 0, none⟩)] w (ElPost w0 w B g s a d lv N (singleP (bs s) ⟨a, dp, 0⟩).2.e (elemP (bs s) ⟨a, dp, 0⟩)) := by
  have HK := Lib.hid (RK.start h)
  obtain ⟨R, hR⟩ : ∃ R, elemP (bs s) ⟨a, dp, 0⟩ = R := ⟨_, rfl⟩
  rw [hR]
  have HRR : Hid (R = elemP (bs s) ⟨a, dp, 0⟩) := Lib.hid hR.symm
  unfold elemP at HRR
  have HBD := Lib.hid (singleP_bd (bs s) ⟨a, dp, 0⟩ (by rw [bs_length]; exact ha))
  clear hR h
  go_enter Try.func108, Try.ntmps108
  go_upto_region 1 with fail
  generalize w.alloc (.cells #[.int .u64 0, .int .u64 0, .int .u64 0, .int .u64 0] 40) = W1 at *
  generalize w.heap.size = k2 at *
  have HS := Lib.hid (singleG w0 B g s a d lv N W1 HK.out.rp hs ha dp)
  generalize singleP (bs s) ⟨a, dp, 0⟩ = R1 at *
  obtain ⟨⟨st1, one⟩, ⟨a1, d1, e1⟩⟩ := R1
  by_cases he : e1 = 0
  · subst he
    have HS2 := Lib.hid (HS.out.mono fun e w' h => h.ok rfl)
    clear HS
    go_wp2_with fail
    refine (HS2.out).mono ?_; rintro e W2 ⟨rfl, hr⟩
    have HK2 := Lib.hid (HK.out.call hr)
    clear hr HK HS2
    have HK := Lib.hid HK2.out
    clear HK2
    unfold setA
    go_upto_region 2 with fail
    have hb5 := heap_alloc_new W2 (.cells #[.int .u64 (setW st1 0), .int .u64 (setW st1 1), .int .u64 (setW st1 2), .int .u64 (setW st1 3)] 40)
    have HKB := Lib.hid (HK.out.up ((Old.refl W2).alloc (.cells #[.int .u64 (setW st1 0), .int .u64 (setW st1 1), .int .u64 (setW st1 2), .int .u64 (setW st1 3)] 40)))
    generalize W2.alloc (.cells #[.int .u64 (setW st1 0), .int .u64 (setW st1 1), .int .u64 (setW st1 2), .int .u64 (setW st1 3)] 40) = W3 at *
    have HB5 : Hid (W3.heap[W2.heap.size]? = some (setC st1)) := Lib.hid hb5
    clear HK hb5
    have HK := Lib.hid HKB.out
    clear HKB
    have hat : a1 ≤ s.size := by have := HBD.out.1; rwa [bs_length] at this
    have hfin := fun n => endedC w0 B g s a1 d lv N (W3.drewN n) (HK.out.rp.drewN n) (by omega)
    have HMO : Hid (moreP (bs s) ⟨a1, d1, 0⟩ = decide (a1 < s.size)) := Lib.hid (by unfold moreP; rw [bs_length]; rfl)
    cases one with
    | false =>
      have HOV : Hid (oneV st1 false = -1) := Lib.hid rfl
      have HEN := Lib.hid hfin
      clear hfin
      rw [HOV.out]
      obtain ⟨c0, c1, c2, c3, f1, f2, f3⟩ := HK.out.rp.cells
      obtain ⟨z0, z1, z2, z3, y0, y1, y2, y3⟩ := setC_cells HK.out.blk
      clear c2 c3 f2 f3
      clear z0 z1 z2 z3 y0 y1 y2 y3 f1
      go_wp2_with fail
      go_quiet ((go_at_call 79; exact Calls.quiet_of (HEN.out _)))
      clear c0 c1 HEN
      have HKQ := Lib.hid (HK.out.up ((Old.refl _).drewN nq))
      have HB6 : Hid ((W3.drewN nq).heap[W2.heap.size]? = some (setC st1)) := Lib.hid HB5.out
      generalize W3.drewN nq = W4 at *
      clear HK HB5
      have HK := Lib.hid HKQ.out
      clear HKQ
      obtain ⟨x0, x1, x2, x3, _, _, _, _⟩ := setC_cells HB6.out
      obtain ⟨z0, z1, z2, z3, y0, y1, y2, y3⟩ := setC_cells HK.out.blk
      have HF := Lib.hid (HK.out.put st1)
      obtain ⟨v0, v1, v2, v3, _, _, _, _⟩ := setC_cells HF.out.blk
      try unfold setA
      go_wp2_with fail
      refine bodyPost_ret (v := .tuple #[setA st1, .int .i64 0]) (by simp [results, Try.results108, go_sem, v0, v1, v2, v3, setA]) rfl ?_
      by_cases hm : a1 < s.size ∧ (bs s).getD a1 0 = 45
      · have HR2 : R = (st1, ⟨a1 + 1, d1, 80⟩) := by
          rw [HRR.out]; try simp only
          rw [if_pos ⟨by rw [HMO.out]; exact decide_eq_true hm.1, hm.2⟩, if_pos (Or.inl (by first | rfl | trivial))]
          rfl
        rw [HR2]
        exact ⟨fun e => absurd e (by simp), fun _ => Or.inr ⟨rfl, rfl, _, _, rfl, HF.out.fin, HBD.out.2.1, hm.1, hm.2⟩⟩
      · have HR2 : R = (st1, ⟨a1, d1, 0⟩) := by
          rw [HRR.out]; try simp only
          rw [if_neg (fun h => hm ⟨of_decide_eq_true (HMO.out.symm.trans h.1), h.2⟩)]
        rw [HR2]
        exact ⟨fun _ => ⟨rfl, HF.out.fin⟩, fun e => absurd rfl e⟩
    | true =>
      have HOV : Hid (oneV st1 true = (onlyB st1 : Int)) := Lib.hid rfl
      have hf := onlyB_lt_ st1
      rw [HOV.out]
      have HFF : Hid (onlyB st1 = onlyB st1) := Lib.hid rfl
      obtain ⟨f, hff⟩ : ∃ f, onlyB st1 = f := ⟨_, rfl⟩
      rw [hff] at hf ⊢
      have HFV := Lib.hid hff
      have g1 : decide ((f : Int) < 0) = false := decide_eq_false (by omega)
      have g2 : (0 : Int) ≤ (f : Int) := by omega
      have g3 : (f : Int) < 256 := by omega
      clear hff HFF
      by_cases hend : a1 = s.size
      · have HR2 : Hid (R = (st1, ⟨a1, d1, 0⟩)) := Lib.hid (by
          rw [HRR.out]; try simp only
          rw [if_neg (fun h => by have := of_decide_eq_true (HMO.out.symm.trans h.1); omega)])
        rw [decide_eq_true hend] at hfin
        have HEN := Lib.hid hfin
        clear hfin hend hat
        obtain ⟨c0, c1, c2, c3, f1, f2, f3⟩ := HK.out.rp.cells
        obtain ⟨z0, z1, z2, z3, y0, y1, y2, y3⟩ := setC_cells HK.out.blk
        clear c2 c3 f2 f3
        clear z0 z1 z2 z3 y0 y1 y2 y3 f1
        go_wp2_with fail
        go_quiet ((go_at_call 79; exact Calls.quiet_of (HEN.out _)))
        clear c0 c1 HEN
        have HKQ := Lib.hid (HK.out.up ((Old.refl _).drewN nq))
        have HB6 : Hid ((W3.drewN nq).heap[W2.heap.size]? = some (setC st1)) := Lib.hid HB5.out
        generalize W3.drewN nq = W4 at *
        clear HK HB5
        have HK := Lib.hid HKQ.out
        clear HKQ
        obtain ⟨x0, x1, x2, x3, _, _, _, _⟩ := setC_cells HB6.out
        obtain ⟨z0, z1, z2, z3, y0, y1, y2, y3⟩ := setC_cells HK.out.blk
        have HF := Lib.hid (HK.out.put st1)
        obtain ⟨v0, v1, v2, v3, _, _, _, _⟩ := setC_cells HF.out.blk
        try unfold setA
        go_wp2_with fail
        refine bodyPost_ret (v := .tuple #[setA st1, .int .i64 0]) (by simp [results, Try.results108, go_sem, v0, v1, v2, v3, setA]) rfl ?_
        rw [HR2.out]
        exact ⟨fun _ => ⟨rfl, HF.out.fin⟩, fun e => absurd rfl e⟩
      have hlt : a1 < s.size := by omega
      have hbb : (bs s).getD a1 0 = s[a1].toNat := bs_get s a1 hlt
      have i3 : (0 : Int) ≤ (a1 : Int) := by omega
      have i4 : (a1 : Int) < (s.size : Int) := by omega
      rw [decide_eq_false hend] at hfin
      have HEN := Lib.hid hfin
      clear hfin hend hat
      by_cases h45 : s[a1].toNat = 45
      · have hq : (((s[a1].toNat : Nat) : Int) != 45) = false := by simp; omega
        have HIF : Hid (moreP (bs s) ⟨a1, d1, 0⟩ = true ∧ bAt (bs s) ⟨a1, d1, 0⟩ = 45) := Lib.hid ⟨by rw [HMO.out]; exact decide_eq_true hlt, hbb.trans h45⟩
        have HRQ := Lib.hid HRR.out
        clear hbb h45
        obtain ⟨c0, c1, c2, c3, f1, f2, f3⟩ := HK.out.rp.cells
        obtain ⟨z0, z1, z2, z3, y0, y1, y2, y3⟩ := setC_cells HK.out.blk
        clear c2 c3 f2 f3
        clear z0 z1 z2 z3 y0 y1 y2 y3 f1
        go_wp2_with fail
        go_quiet ((go_at_call 79; exact Calls.quiet_of (HEN.out _)))
        clear c0 c1 HEN
        have HKQ := Lib.hid (HK.out.up ((Old.refl _).drewN nq))
        have HB6 : Hid ((W3.drewN nq).heap[W2.heap.size]? = some (setC st1)) := Lib.hid HB5.out
        generalize W3.drewN nq = W4 at *
        clear HK HB5
        have HK := Lib.hid HKQ.out
        clear HKQ
        obtain ⟨x0, x1, x2, x3, _, _, _, _⟩ := setC_cells HB6.out
        clear hq
        obtain ⟨c0, c1, c2, c3, f1, f2, f3⟩ := HK.out.rp.cells
        obtain ⟨z0, z1, z2, z3, y0, y1, y2, y3⟩ := setC_cells HK.out.blk
        clear c2 c3 f2 f3
        clear z0 z1 z2 z3 y0 y1 y2 y3 c0
        have HK4 := Lib.hid (HK.out.plus 1)
        clear HK x0 x1 x2 x3
        go_upto_region 5 with fail
        have HK : Hid (RK w0 w (W4.setCell ⟨g, 1, none⟩ (.int .i64 ((a1 : Int) + 1))) B g s (a1 + 1) d lv N k2 0) := Lib.hid HK4.out
        clear HK4 c1 f1 HB6
        generalize W4.setCell ⟨g, 1, none⟩ (.int .i64 ((a1 : Int) + 1)) = W5 at *
        have hfin := endedC w0 B g s (a1 + 1) d lv N W5 HK.out.rp (by omega)
        by_cases hend : a1 + 1 = s.size
        · have HR2 : Hid (R.2.e = 80) := Lib.hid (by
            rw [HRQ.out]; try simp only
            rw [if_pos HIF.out, if_pos (Or.inr (by rw [bs_length]; show s.size ≤ a1 + 1; omega))]
            rfl)
          rw [decide_eq_true hend] at hfin
          have HEN2 := Lib.hid hfin
          clear hfin hend
          go_wp2_with fail
          refine (HEN2.out).mono ?_; rintro e W6 ⟨rfl, n6, rfl⟩
          have HKQ := Lib.hid (HK.out.up ((Old.refl W5).drewN n6))
          generalize W5.drewN n6 = W6 at *
          clear HK HEN2
          have HK := Lib.hid HKQ.out
          clear HKQ
          obtain ⟨z0, z1, z2, z3, y0, y1, y2, y3⟩ := setC_cells HK.out.blk
          have HF := Lib.hid HK.out.put0
          obtain ⟨v0, v1, v2, v3, _, _, _, _⟩ := setC_cells HF.out.blk
          go_wp2_with fail
          refine bodyPost_ret (v := .tuple #[setA 0, .int .i64 80]) (by simp [results, Try.results108, go_sem, v0, v1, v2, v3, setA]) rfl ?_
          exact ⟨fun e => absurd (HR2.out.symm.trans e) (by decide), fun _ => Or.inl ⟨0, by rw [HR2.out], HF.out.fin0⟩⟩
        · have hlt2 : a1 + 1 < s.size := by omega
          rw [decide_eq_false hend] at hfin
          have HEN2 := Lib.hid hfin
          clear hfin
          go_wp2_with fail
          refine (HEN2.out).mono ?_; rintro e W6 ⟨rfl, n6, rfl⟩
          have HKQ := Lib.hid (HK.out.up ((Old.refl W5).drewN n6))
          generalize W5.drewN n6 = W6 at *
          clear HK HEN2
          have HK := Lib.hid HKQ.out
          clear HKQ
          have HS := Lib.hid (singleG w0 B g s (a1 + 1) d lv N W6 HK.out.rp hs hlt2 d1)
          have HRW : Hid (R = (rangeB (onlyB st1) (onlyB (singleP (bs s) ⟨a1 + 1, d1, 0⟩).1.1), if (singleP (bs s) ⟨a1 + 1, d1, 0⟩).2.e = 0 ∧ ((singleP (bs s) ⟨a1 + 1, d1, 0⟩).1.2 = false ∨ onlyB (singleP (bs s) ⟨a1 + 1, d1, 0⟩).1.1 < onlyB st1) then failP (singleP (bs s) ⟨a1 + 1, d1, 0⟩).2 80 else (singleP (bs s) ⟨a1 + 1, d1, 0⟩).2)) := Lib.hid (by
            rw [HRQ.out]; try simp only
            rw [if_pos HIF.out, if_neg (fun h => h.elim (fun h => absurd h (by decide)) (fun h => by rw [bs_length] at h; exact absurd (show s.size ≤ a1 + 1 from h) (by omega)))]
            rfl)
          rw [HFV.out] at HRW
          clear hend HRQ HRR
          generalize singleP (bs s) ⟨a1 + 1, d1, 0⟩ = R3 at *
          obtain ⟨⟨st2, two⟩, ⟨a2, d2, e2⟩⟩ := R3
          by_cases he2 : e2 = 0
          · subst he2
            have HS2 := Lib.hid (HS.out.mono fun e w' h => h.ok rfl)
            clear HS
            go_wp2_with fail
            refine (HS2.out).mono ?_; rintro e W7 ⟨rfl, hr⟩
            have HK2 := Lib.hid (HK.out.call hr)
            clear hr HK HS2
            have HK := Lib.hid HK2.out
            clear HK2
            unfold setA
            go_upto_region 8 with fail
            have hb5 := heap_alloc_new W7 (.cells #[.int .u64 (setW st2 0), .int .u64 (setW st2 1), .int .u64 (setW st2 2), .int .u64 (setW st2 3)] 40)
            have HKB := Lib.hid (HK.out.up ((Old.refl W7).alloc (.cells #[.int .u64 (setW st2 0), .int .u64 (setW st2 1), .int .u64 (setW st2 2), .int .u64 (setW st2 3)] 40)))
            generalize W7.alloc (.cells #[.int .u64 (setW st2 0), .int .u64 (setW st2 1), .int .u64 (setW st2 2), .int .u64 (setW st2 3)] 40) = W8 at *
            have HB5 : Hid (W8.heap[W7.heap.size]? = some (setC st2)) := Lib.hid hb5
            clear HK hb5
            have HK := Lib.hid HKB.out
            clear HKB
            cases two with
            | false =>
              have HOV2 : Hid (oneV st2 false = -1) := Lib.hid rfl
              rw [HOV2.out]
              have HR2 : Hid (R.2.e = 80) := Lib.hid (by rw [HRW.out]; rfl)
              have t1 : (-1 : Int) < (f : Int) := by omega
              obtain ⟨z0, z1, z2, z3, y0, y1, y2, y3⟩ := setC_cells HK.out.blk
              have HF := Lib.hid HK.out.put0
              obtain ⟨v0, v1, v2, v3, _, _, _, _⟩ := setC_cells HF.out.blk
              go_wp2_with fail
              refine bodyPost_ret (v := .tuple #[setA 0, .int .i64 80]) (by simp [results, Try.results108, go_sem, v0, v1, v2, v3, setA]) rfl ?_
              exact ⟨fun e => absurd (HR2.out.symm.trans e) (by decide), fun _ => Or.inl ⟨0, by rw [HR2.out], HF.out.fin0⟩⟩
            | true =>
              have HOV2 : Hid (oneV st2 true = (onlyB st2 : Int)) := Lib.hid rfl
              rw [HOV2.out]
              have hf2 := onlyB_lt_ st2
              generalize onlyB st2 = f2 at *
              have g5 : (0 : Int) ≤ (f2 : Int) := by omega
              have g6 : (f2 : Int) < 256 := by omega
              by_cases hff : f2 < f
              · have HR2 : Hid (R.2.e = 80) := Lib.hid (by rw [HRW.out]; (try simp only); rw [if_pos ⟨by first | rfl | trivial, Or.inr hff⟩]; rfl)
                have t1 : (f2 : Int) < (f : Int) := by omega
                obtain ⟨z0, z1, z2, z3, y0, y1, y2, y3⟩ := setC_cells HK.out.blk
                have HF := Lib.hid HK.out.put0
                obtain ⟨v0, v1, v2, v3, _, _, _, _⟩ := setC_cells HF.out.blk
                go_wp2_with fail
                refine bodyPost_ret (v := .tuple #[setA 0, .int .i64 80]) (by simp [results, Try.results108, go_sem, v0, v1, v2, v3, setA]) rfl ?_
                exact ⟨fun e => absurd (HR2.out.symm.trans e) (by decide), fun _ => Or.inl ⟨0, by rw [HR2.out], HF.out.fin0⟩⟩
              · have HR2 : Hid (R = (rangeB f f2, ⟨a2, d2, 0⟩)) := Lib.hid (by rw [HRW.out]; (try simp only); rw [if_neg (fun h => h.2.elim (fun h => absurd h (by decide)) hff)])
                have t1 : ¬ (f2 : Int) < (f : Int) := by omega
                have u1 : IntKind.u8.wrap (f : Int) = (f : Int) := IntWalk.u8_in _ (by omega)
                have u2 : IntKind.u8.wrap (f2 : Int) = (f2 : Int) := IntWalk.u8_in _ (by omega)
                have HSP := Lib.hid (spanC f f2 hf hf2)
                clear hff
                go_wp2_with fail
                refine (HSP.out _).mono ?_; rintro e W9 ⟨rfl, hoN⟩
                have HKQ := Lib.hid (HK.out.up hoN)
                clear HK hoN
                have HK := Lib.hid HKQ.out
                clear HKQ u1 u2
                generalize rangeB f f2 = zz at *
                obtain ⟨z0, z1, z2, z3, y0, y1, y2, y3⟩ := setC_cells HK.out.blk
                have HF := Lib.hid (HK.out.put zz)
                obtain ⟨v0, v1, v2, v3, _, _, _, _⟩ := setC_cells HF.out.blk
                try unfold setA
                go_wp2_with fail
                refine bodyPost_ret (v := .tuple #[setA zz, .int .i64 0]) (by simp [results, Try.results108, go_sem, v0, v1, v2, v3, setA]) rfl ?_
                rw [HR2.out]
                exact ⟨fun _ => ⟨rfl, HF.out.fin⟩, fun e => absurd rfl e⟩
          · have HS2 := Lib.hid (HS.out.mono fun e w' h => h.no he2)
            have HR2 : Hid (R.2.e = e2) := Lib.hid (by rw [HRW.out]; (try simp only); rw [if_neg (fun h => he2 h.1)])
            have hne : (e2 != 0) = true := by simpa using he2
            clear HS
            go_wp2_with fail
            refine (HS2.out).mono ?_; rintro e W7 ⟨v9, z9, rfl, hr⟩
            have HK2 := Lib.hid (HK.out.bad hr)
            clear hr HK HS2
            have HK := Lib.hid HK2.out
            clear HK2
            unfold setA
            go_upto_region 8 with fail
            have hb5 := heap_alloc_new W7 (.cells #[.int .u64 (setW z9 0), .int .u64 (setW z9 1), .int .u64 (setW z9 2), .int .u64 (setW z9 3)] 40)
            have HKB := Lib.hid (HK.out.up ((Old.refl W7).alloc (.cells #[.int .u64 (setW z9 0), .int .u64 (setW z9 1), .int .u64 (setW z9 2), .int .u64 (setW z9 3)] 40)))
            generalize W7.alloc (.cells #[.int .u64 (setW z9 0), .int .u64 (setW z9 1), .int .u64 (setW z9 2), .int .u64 (setW z9 3)] 40) = W8 at *
            have HB5 : Hid (W8.heap[W7.heap.size]? = some (setC z9)) := Lib.hid hb5
            clear HK hb5
            have HK := Lib.hid HKB.out
            clear HKB
            obtain ⟨z0, z1, z2, z3, y0, y1, y2, y3⟩ := setC_cells HK.out.blk
            have HF := Lib.hid HK.out.put0
            obtain ⟨v0, v1, v2, v3, _, _, _, _⟩ := setC_cells HF.out.blk
            go_wp2_with fail
            refine bodyPost_ret (v := .tuple #[setA 0, .int .i64 e2]) (by simp [results, Try.results108, go_sem, v0, v1, v2, v3, setA]) rfl ?_
            exact ⟨fun e => absurd (HR2.out.symm.trans e) he2, fun _ => Or.inl ⟨0, by rw [HR2.out], HF.out.fin0⟩⟩
      · have hq : (((s[a1].toNat : Nat) : Int) != 45) = true := by simp; omega
        have HR2 : Hid (R = (st1, ⟨a1, d1, 0⟩)) := Lib.hid (by
          rw [HRR.out]; try simp only
          rw [if_neg (fun h => h45 (hbb.symm.trans h.2))])
        clear hbb h45
        obtain ⟨c0, c1, c2, c3, f1, f2, f3⟩ := HK.out.rp.cells
        obtain ⟨z0, z1, z2, z3, y0, y1, y2, y3⟩ := setC_cells HK.out.blk
        clear c2 c3 f2 f3
        clear z0 z1 z2 z3 y0 y1 y2 y3 f1
        go_wp2_with fail
        go_quiet ((go_at_call 79; exact Calls.quiet_of (HEN.out _)))
        clear c0 c1 HEN
        have HKQ := Lib.hid (HK.out.up ((Old.refl _).drewN nq))
        have HB6 : Hid ((W3.drewN nq).heap[W2.heap.size]? = some (setC st1)) := Lib.hid HB5.out
        generalize W3.drewN nq = W4 at *
        clear HK HB5
        have HK := Lib.hid HKQ.out
        clear HKQ
        obtain ⟨x0, x1, x2, x3, _, _, _, _⟩ := setC_cells HB6.out
        obtain ⟨z0, z1, z2, z3, y0, y1, y2, y3⟩ := setC_cells HK.out.blk
        have HF := Lib.hid (HK.out.put st1)
        obtain ⟨v0, v1, v2, v3, _, _, _, _⟩ := setC_cells HF.out.blk
        try unfold setA
        go_wp2_with fail
        refine bodyPost_ret (v := .tuple #[setA st1, .int .i64 0]) (by simp [results, Try.results108, go_sem, v0, v1, v2, v3, setA]) rfl ?_
        rw [HR2.out]
        exact ⟨fun _ => ⟨rfl, HF.out.fin⟩, fun e => absurd rfl e⟩
  · have HS2 := Lib.hid (HS.out.mono fun e w' h => h.no he)
    have HR2 : Hid (R = (st1, ⟨a1, d1, e1⟩)) := Lib.hid (by
      rw [HRR.out]; try simp only
      rw [if_neg (fun h => he ((moreP_iff _ _).1 h.1).1)])
    have hne : (e1 != 0) = true := by simpa using he
    clear HS
    go_wp2_with fail
    refine (HS2.out).mono ?_; rintro e W2 ⟨v9, z9, rfl, hr⟩
    have HK2 := Lib.hid (HK.out.bad hr)
    clear hr HK HS2
    have HK := Lib.hid HK2.out
    clear HK2
    unfold setA
    go_upto_region 2 with fail
    have hb5 := heap_alloc_new W2 (.cells #[.int .u64 (setW z9 0), .int .u64 (setW z9 1), .int .u64 (setW z9 2), .int .u64 (setW z9 3)] 40)
    have HKB := Lib.hid (HK.out.up ((Old.refl W2).alloc (.cells #[.int .u64 (setW z9 0), .int .u64 (setW z9 1), .int .u64 (setW z9 2), .int .u64 (setW z9 3)] 40)))
    generalize W2.alloc (.cells #[.int .u64 (setW z9 0), .int .u64 (setW z9 1), .int .u64 (setW z9 2), .int .u64 (setW z9 3)] 40) = W3 at *
    have HB5 : Hid (W3.heap[W2.heap.size]? = some (setC z9)) := Lib.hid hb5
    clear HK hb5
    have HK := Lib.hid HKB.out
    clear HKB
    go_wp2_with fail
    go_quiet (fail)
    have HKQ := Lib.hid (HK.out.up ((Old.refl _).drewN nq))
    have HB6 : Hid ((W3.drewN nq).heap[W2.heap.size]? = some (setC z9)) := Lib.hid HB5.out
    generalize W3.drewN nq = W4 at *
    clear HK HB5
    have HK := Lib.hid HKQ.out
    clear HKQ
    obtain ⟨x0, x1, x2, x3, _, _, _, _⟩ := setC_cells HB6.out
    obtain ⟨z0, z1, z2, z3, y0, y1, y2, y3⟩ := setC_cells HK.out.blk
    have HF := Lib.hid (HK.out.put z9)
    obtain ⟨v0, v1, v2, v3, _, _, _, _⟩ := setC_cells HF.out.blk
    try unfold setA
    go_wp2_with fail
    refine bodyPost_ret (v := .tuple #[setA z9, .int .i64 e1]) (by simp [results, Try.results108, go_sem, v0, v1, v2, v3, setA]) rfl ?_
    rw [HR2.out]
    exact ⟨fun e => absurd e he, fun _ => Or.inl ⟨z9, rfl, HF.out.fin0⟩⟩
end Go.Proofs.Ythadkjgadhbidaa
