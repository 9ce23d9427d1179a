/-
  The walk of the reference's class.
-/
import Derived.Test.YthadkjgadhbidaaRxK
namespace Go.Proofs.Ythadkjgadhbidaa
open Go.RowKit
set_option linter.unusedVariables false

theorem failP_at (q : Ps) (c : Int) : (failP q c).at_ = q.at_ := by unfold failP; split <;> rfl
theorem elemP_at (B : List Nat) (p : Ps) (h : p.at_ < B.length) : (elemP B p).2.at_ ≤ B.length ∧ p.at_ < (elemP B p).2.at_ := by
  obtain ⟨h1, h2⟩ := singleP_at B p h
  unfold elemP
  simp only
  by_cases hm : moreP B (singleP B p).2 = true ∧ bAt B (singleP B p).2 = 45
  · rw [if_pos hm]
    have hm' : (singleP B p).2.at_ < B.length := by
      have := hm.1
      unfold moreP at this
      simp at this
      exact this.2
    have hu : (upP (singleP B p).2).at_ = (singleP B p).2.at_ + 1 := rfl
    by_cases hc : (singleP B p).1.2 = false ∨ B.length ≤ (upP (singleP B p).2).at_
    · rw [if_pos hc, failP_at, hu]; omega
    · rw [if_neg hc]
      obtain ⟨h3, h4⟩ := singleP_at B (upP (singleP B p).2) (by omega)
      simp only
      split
      · rw [failP_at]; omega
      · omega
  · rw [if_neg hm]; exact ⟨h1, h2⟩
def atOf (g : Nat) (w : World) : Nat := match w.cell? ⟨g, 1, none⟩ with
  | some (.int _ x) => x.toNat
  | _ => 0
theorem atOf_eq {w : World} {g : Nat} {s : ByteArray} {p : Ps} (h : w.heap[g]? = some (PzC s p)) : atOf g w = p.at_ := by
  unfold atOf
  rw [(PzC_cells h).2.1]
  simp
/-- The two boxes and the parser. -/
structure CB (w : World) (s : ByteArray) (g : Nat) (q : Ps) (z : BSet) (ww : World) : Prop where
  pz : ww.heap[g]? = some (PzC s q)
  z2 : ww.heap[w.heap.size]? = some (setC 0)
  z3 : ww.heap[w.heap.size + 1]? = some (setC z)
  gr : w.grownBy ww (some g)
theorem CB.old {w : World} {s : ByteArray} {g : Nat} {q : Ps} {z : BSet} {ww w2 : World} (h : CB w s g q z ww) (o : Old ww w2) : CB w s g q z w2 := ⟨o.block h.pz, o.block h.z2, o.block h.z3, grown_old_ h.gr o⟩
theorem CB.call {w : World} {s : ByteArray} {g : Nat} {q q' : Ps} {z : BSet} {ww w2 : World} (h : CB w s g q z ww) (hgl : g < w.heap.size) (hp : w2.heap[g]? = some (PzC s q')) (hg : ww.grownBy w2 (some g)) : CB w s g q' z w2 :=
  ⟨hp, (hg.block _ (lt_of_block h.z2) (by intro h; injection h with h; omega)).trans h.z2, (hg.block _ (lt_of_block h.z3) (by intro h; injection h with h; omega)).trans h.z3, World.grownBy.trans h.gr hg⟩
theorem CB.up {w : World} {s : ByteArray} {g : Nat} {q : Ps} {z : BSet} {ww : World} (h : CB w s g q z ww) (hgl : g < w.heap.size) : CB w s g (upP q) z (ww.setCell ⟨g, 1, none⟩ (.int .i64 ((q.at_ : Int) + 1))) := by
  have := PzC_at h.pz (q.at_ + 1)
  rw [show ((q.at_ + 1 : Nat) : Int) = (q.at_ : Int) + 1 by omega] at this
  exact h.call hgl this (grown_store (grown_refl ww _) 1 _)
theorem CB.drewN {w : World} {s : ByteArray} {g : Nat} {q : Ps} {z : BSet} {ww : World} (h : CB w s g q z ww) (n : Nat) : CB w s g q z (ww.drewN n) := ⟨h.pz, h.z2, h.z3, grown_drewN h.gr n⟩
theorem CB.put {w : World} {s : ByteArray} {g : Nat} {q : Ps} {z : BSet} {ww : World} (h : CB w s g q z ww) (hgl : g < w.heap.size) (y : BSet) :
    CB w s g q y ((((ww.setCell ⟨w.heap.size + 1, 0, none⟩ (.int .u64 (setW y 0))).setCell ⟨w.heap.size + 1, 1, none⟩ (.int .u64 (setW y 1))).setCell ⟨w.heap.size + 1, 2, none⟩ (.int .u64 (setW y 2))).setCell ⟨w.heap.size + 1, 3, none⟩ (.int .u64 (setW y 3))) := by
  refine ⟨(set4_other ww _ g _ _ _ _ (by omega)).trans h.pz, (set4_other ww _ _ _ _ _ _ (by omega)).trans h.z2, setC_store h.z3 y, h.gr.os, h.gr.tape, h.gr.output, by simpa using h.gr.size, fun k hk hne => ?_⟩
  rw [set4_other ww _ k _ _ _ _ (by omega)]
  exact h.gr.block k hk hne
def ClassPre (w : World) (s : ByteArray) (g f : Nat) (p : Ps) (v : Value) (wx : World) : Prop :=
  ∃ neg : Bool, v = .bool neg ∧ classP (bs s) f p = classLoop (bs s) neg f true 0 (if neg = true then upP p else p) ∧ (neg = true → p.at_ < s.size) ∧ CB w s g p 0 wx
def ClassMid (w : World) (s : ByteArray) (g f : Nat) (p : Ps) (neg : Bool) (wx : World) : Prop :=
  ∃ q, classP (bs s) f p = classLoop (bs s) neg f true 0 q ∧ q.at_ ≤ s.size ∧ CB w s g q 0 wx
def ClassRel (w : World) (s : ByteArray) (g : Nat) (neg : Bool) (R : BSet × Ps) (v : Value) (wr : World) : Prop :=
  ∃ (f k : Nat) (z : BSet) (q : Ps), v = .int .i64 k ∧ k ≤ q.at_ ∧ q.at_ ≤ s.size ∧ Hid (classLoop (bs s) neg f (decide (k = 0)) z q = some R) ∧ CB w s g q z wr
def KM (w : World) (s : ByteArray) (g : Nat) (q qe : Ps) (z ze zn : BSet) (s2 s4 s5 s6 s7 s8 s9 s10 s11 s12 s13 s14 s15 s16 s17 s18 s19 s20 s21 s22 s23 s24 s25 s26 s27 s28 s29 s30 s31 s32 s33 s34 s35 s36 s37 s38 s39 s40 s41 s42 s43 s44 s45 s46 s47 s48 s49 s50 s51 s52 s53 s54 s55 s56 s57 s58 s59 s60 s61 s62 s63 : Value) (listed : Array Bool) (aa : Act) (ww : World) : Prop :=
  ∃ (b0 b1 b2 b3 b4 : Bool) (dummy : Nat) (nov : Value), listed = #[b0, b1, b2, b3, b4] ∧
    aa = { tmps := #[.pointer (some ⟨g, 0, none⟩), undef, s2, .pointer (some ⟨w.heap.size + 1, 0, none⟩), s4, s5, s6, s7, s8, s9, s10, s11, s12, s13, s14, s15, s16, s17, s18, s19, s20, s21, s22, s23, s24, s25, s26, s27, s28, s29, s30, s31, s32, s33, s34, s35, s36, s37, s38, s39, s40, s41, s42, s43, s44, s45, s46, s47, s48, s49, s50, s51, s52, s53, s54, s55, s56, cond b0 (.agg #[.int .u64 (setW z 0), .int .u64 (setW z 1), .int .u64 (setW z 2), .int .u64 (setW z 3)]) (s57), cond b1 (.pointer (some ⟨g, 0, none⟩)) (s58), cond b2 (.agg #[.int .u64 (setW ze 0), .int .u64 (setW ze 1), .int .u64 (setW ze 2), .int .u64 (setW ze 3)]) (s59), cond b3 (.agg #[.int .u64 (setW zn 0), .int .u64 (setW zn 1), .int .u64 (setW zn 2), .int .u64 (setW zn 3)]) (s60), s61, s62, s63], defers := [] } ∧ CB w s g (cond b2 qe q) (cond b4 zn z) ww

set_option maxHeartbeats 3000000 in
set_option maxRecDepth 100000 in
theorem classC (g : Nat) (s : ByteArray) (f : Nat) (p : Ps) (R : BSet × Ps) (w : World) (h : w.heap[g]? = some (PzC s p)) (hs : s.size ≤ 1000000) (ha : p.at_ ≤ s.size) (hR : classP (bs s) f p = some R) :
    Calls Try.prog 94 #[.pointer (some ⟨g, 0, none⟩)] w (VPost w g s R) := by
  have hgl := lt_of_block h
  have HRR := Lib.hid hR
  have o1 := (Old.refl w).alloc (.cells #[.int .u64 0, .int .u64 0, .int .u64 0, .int .u64 0] 40)
  have b1 : (w.alloc (.cells #[.int .u64 0, .int .u64 0, .int .u64 0, .int .u64 0] 40)).heap[w.heap.size]? = some (setC 0) := heap_alloc_new w _
  have o2 := (Old.refl (w.alloc (.cells #[.int .u64 0, .int .u64 0, .int .u64 0, .int .u64 0] 40))).alloc (.cells #[.int .u64 0, .int .u64 0, .int .u64 0, .int .u64 0] 40)
  have b2 : ((w.alloc (.cells #[.int .u64 0, .int .u64 0, .int .u64 0, .int .u64 0] 40)).alloc (.cells #[.int .u64 0, .int .u64 0, .int .u64 0, .int .u64 0] 40)).heap[w.heap.size + 1]? = some (setC 0) := by
    rw [show w.heap.size + 1 = (w.alloc (.cells #[.int .u64 0, .int .u64 0, .int .u64 0, .int .u64 0] 40)).heap.size by simp]
    exact heap_alloc_new _ _
  have HB0 : CB w s g p 0 ((w.alloc (.cells #[.int .u64 0, .int .u64 0, .int .u64 0, .int .u64 0] 40)).alloc (.cells #[.int .u64 0, .int .u64 0, .int .u64 0, .int .u64 0] 40)) :=
    ⟨(o1.up o2).block h, o2.block b1, b2, old_grown_ (o1.up o2) (grown_refl _ _)⟩
  clear o1 o2 b1 b2 h hR
  go_enter Try.func94, Try.ntmps94
  go_upto_region 2 with fail
  generalize (w.alloc (.cells #[.int .u64 0, .int .u64 0, .int .u64 0, .int .u64 0] 40)).alloc (.cells #[.int .u64 0, .int .u64 0, .int .u64 0, .int .u64 0] 40) = W at *
  go_cut [4] (fun s4 wx => ClassPre w s g f p s4 wx)
  case first =>
    obtain ⟨a, d, e⟩ := p
    simp only at ha
    have hM := fun n => moreC g s ⟨a, d, e⟩ (W.drewN n) HB0.pz hs (by simp only; omega)
    unfold BDraw at hM
    by_cases hm : moreP (bs s) ⟨a, d, e⟩ = true
    · have hm' : a < s.size := by
        have := hm
        unfold moreP at this
        rw [bs_length] at this
        simp at this
        exact this.2
      rw [hm] at hM
      have HM := Lib.hid hM
      have hbb : bAt (bs s) ⟨a, d, e⟩ = s[a].toNat := bs_get s a hm'
      have i1 : (0 : Int) ≤ (a : Int) := by omega
      have i2 : (a : Int) < (s.size : Int) := by omega
      obtain ⟨c0, c1, c2, c3, f1, f2, f3⟩ := PzC_cells HB0.pz
      simp only at c0 c1 c2 c3
      clear c2 c3 f1 f2 f3
      by_cases hc : s[a].toNat = 94
      · have b1 : ((s[a].toNat : Int) == 94) = true := by simp; omega
        have hP : classP (bs s) f ⟨a, d, e⟩ = classLoop (bs s) true f true 0 (if true = true then upP ⟨a, d, e⟩ else ⟨a, d, e⟩) := by unfold classP; rw [if_pos ⟨hm, hbb.trans hc⟩]; rfl
        have HP := Lib.hid hP
        clear hP hM hc hbb hm
        go_quiet ((go_at_call 76; exact Calls.quiet_of (HM.out _)))
        clear c0 c1
        go_wp2_with fail
        go_meet
        exact ⟨true, rfl, HP.out, fun _ => hm', HB0.drewN _⟩
      · have b1 : ((s[a].toNat : Int) == 94) = false := by simp; omega
        have hP : classP (bs s) f ⟨a, d, e⟩ = classLoop (bs s) false f true 0 (if false = true then upP ⟨a, d, e⟩ else ⟨a, d, e⟩) := by unfold classP; rw [if_neg (fun h => hc (hbb.symm.trans h.2))]; rfl
        have HP := Lib.hid hP
        clear hP hM hc hbb hm
        go_quiet ((go_at_call 76; exact Calls.quiet_of (HM.out _)))
        clear c0 c1
        go_wp2_with fail
        go_meet
        exact ⟨false, rfl, HP.out, (fun h => by cases h), HB0.drewN _⟩
    · have hm2 : moreP (bs s) ⟨a, d, e⟩ = false := by simpa using hm
      have hP : classP (bs s) f ⟨a, d, e⟩ = classLoop (bs s) false f true 0 (if false = true then upP ⟨a, d, e⟩ else ⟨a, d, e⟩) := by unfold classP; rw [if_neg (fun h => hm h.1)]; rfl
      rw [hm2] at hM
      have HM := Lib.hid hM
      have HP := Lib.hid hP
      clear hP hM hm hm2
      go_quiet ((go_at_call 76; exact Calls.quiet_of (HM.out _)))
      go_wp2_with fail
      go_meet
      exact ⟨false, rfl, HP.out, (fun h => by cases h), HB0.drewN _⟩
  case rest =>
    obtain ⟨neg, rfl, hP, hlt, hB⟩ := hcut
    clear HB0
    go_upto_if 20 with fail
    have HP := Lib.hid hP
    have HLT := Lib.hid hlt
    clear hP hlt
    go_cut [] (fun wx => ClassMid w s g f p neg wx)
    case first =>
      cases neg with
      | true =>
        have hlt := HLT.out rfl
        obtain ⟨a, d, e⟩ := p
        simp only at hlt ha
        obtain ⟨c0, c1, c2, c3, f1, f2, f3⟩ := PzC_cells hB.pz
        simp only at c0 c1 c2 c3
        clear c0 c2 c3 f2 f3
        have hB2 := hB.up hgl
        simp only at hB2
        go_wp2_with fail
        go_meet
        exact ⟨_, HP.out, hlt, hB2⟩
      | false =>
        go_wp2_with fail
        go_meet
        exact ⟨_, HP.out, ha, hB⟩
    case rest =>
      obtain ⟨q0, hP0, hq0, hB0⟩ := hcut
      have HL0 : Hid (classLoop (bs s) neg f (decide (0 = 0)) 0 q0 = some R) := Lib.hid (by rw [show decide ((0 : Nat) = 0) = true from rfl, ← hP0]; exact HRR.out)
      clear hB HP HLT hP0 HRR ha
      go_wp2_with fail
      go_loopw [5] (fun s5 wr => ClassRel w s g neg R s5 wr) (fun _ wr => s.size + 1 - atOf g wr)
      case atStart => exact ⟨f, 0, 0, q0, rfl, Nat.zero_le _, hq0, HL0, hB0⟩
      case round =>
        clear HL0 hB0 hq0
        obtain ⟨f1, k, z, q, rfl, hk, hqs, HL, hB⟩ := hrel
        have HMEAS := Lib.hid (atOf_eq hB.pz)
        obtain ⟨a, d, e⟩ := q
        simp only at hk hqs
        cases f1 with
        | zero => exact absurd HL.out (by intro h; cases h)
        | succ f2 =>
        have hL : (if moreP (bs s) ⟨a, d, e⟩ = true then
            if bAt (bs s) ⟨a, d, e⟩ = 93 then some (if neg = true then notB z else z, upP (if decide (k = 0) = true then failP ⟨a, d, e⟩ 80 else ⟨a, d, e⟩))
            else classLoop (bs s) neg f2 false (z ||| (elemP (bs s) ⟨a, d, e⟩).1) (elemP (bs s) ⟨a, d, e⟩).2
          else some (z, failP ⟨a, d, e⟩ 80)) = some R := HL.out
        have hM := moreC g s ⟨a, d, e⟩ wr hB.pz hs (by simp only; omega)
        by_cases hm : moreP (bs s) ⟨a, d, e⟩ = true
        · rw [if_pos hm] at hL
          rw [hm] at hM
          have hlt : a < s.size := by
            have := hm
            unfold moreP at this
            rw [bs_length] at this
            simp at this
            exact this.2
          have HM := Lib.hid hM
          have hbb : bAt (bs s) ⟨a, d, e⟩ = s[a].toNat := bs_get s a hlt
          have i1 : (0 : Int) ≤ (a : Int) := by omega
          have i2 : (a : Int) < (s.size : Int) := by omega
          have HL2 := Lib.hid hL
          clear hM hL HL hm
          go_wp2_with fail
          refine (HM.out).mono ?_; rintro e w' ⟨rfl, n, rfl⟩
          have hB1 := hB.drewN n
          go_upto_region 8 with fail
          generalize wr.drewN n = V at *
          clear hB
          obtain ⟨c0, c1, c2, c3, f1, f2', f3⟩ := PzC_cells hB1.pz
          simp only at c0 c1 c2 c3
          clear c2 c3 f1 f2' f3
          by_cases hc : s[a].toNat = 93
          · have b1 : ((s[a].toNat : Int) == 93) = true := by simp; omega
            have hL := HL2.out
            rw [if_pos (hbb.trans hc)] at hL
            have HR := Lib.hid (Option.some.inj hL)
            clear hL HL2 hbb hc
            go_quiet (fail)
            have hB2 := hB1.drewN nq
            clear c0 c1 b1
            by_cases hk0 : k = 0
            · have hkb : ((k : Int) == 0) = true := by simp; omega
              have HR2 : Hid (R = (if neg = true then notB z else z, upP (failP ⟨a, d, e⟩ 80))) := Lib.hid (by rw [← HR.out, show decide (k = 0) = true by simpa using hk0]; rfl)
              have HFL := Lib.hid (failC g s ⟨a, d, e⟩ 80 _ hB2.pz)
              clear hk0 HR hB1
              go_wp2_with fail
              refine (HFL.out).mono ?_; rintro e X ⟨rfl, hp, hg2⟩
              have hB3 := hB2.call hgl hp hg2
              obtain ⟨d2, e2, hfe⟩ : ∃ d2 e2, failP ⟨a, d, e⟩ 80 = ⟨a, d2, e2⟩ := by unfold failP; split <;> exact ⟨_, _, rfl⟩
              rw [hfe] at hB3 HR2
              clear hB2 hp hg2 hfe HFL
              obtain ⟨c0, c1, c2, c3, f1, f2', f3⟩ := PzC_cells hB3.pz
              simp only at c0 c1 c2 c3
              clear c0 c2 c3 f2' f3
              have hB4 := hB3.up hgl
              simp only at hB4
              go_upto_region 12 with fail
              generalize X.setCell ⟨g, 1, none⟩ (.int .i64 ((a : Int) + 1)) = Y at *
              clear hB3 c1 f1
              cases neg with
              | true =>
                have HRT : Hid (R = (notB z, upP ⟨a, d2, e2⟩)) := HR2
                obtain ⟨m0, m1, m2, m3, _, _, _, _⟩ := setC_cells hB4.z3
                have hN := notC z Y
                unfold ValOld setA at hN
                have HN := Lib.hid hN
                clear hN HR2
                go_wp2_with fail
                refine (HN.out).mono ?_; rintro e X ⟨rfl, o2⟩
                have hB3 := hB4.old o2
                clear hB4 o2 m0 m1 m2 m3
                generalize notB z = zn at *
                obtain ⟨m0, m1, m2, m3, _, _, _, _⟩ := setC_cells hB3.z3
                obtain ⟨r0, r1, r2, r3, y0, y1, y2, y3⟩ := setC_cells hB3.z2
                have q2 := setC_store hB3.z2 zn
                obtain ⟨v0, v1, v2, v3, _, _, _, _⟩ := setC_cells q2
                have HP3 := Lib.hid ((set4_other X w.heap.size g (.int .u64 (setW zn 0)) (.int .u64 (setW zn 1)) (.int .u64 (setW zn 2)) (.int .u64 (setW zn 3)) (by omega)).trans hB3.pz)
                have HG3 := Lib.hid (grown_new4 hB3.gr zn)
                clear q2 hB3
                go_wp2_with fail
                refine bodyPost_ret (v := setA zn) (by simp [results, Try.results94, go_sem, v0, v1, v2, v3, setA]) rfl ?_
                rw [HRT.out]
                exact ⟨rfl, HP3.out, HG3.out⟩
              | false =>
                have HRT : Hid (R = (z, upP ⟨a, d2, e2⟩)) := HR2
                clear HR2
                have hB3 := hB4
                clear hB4
                generalize Y = X at *
                obtain ⟨m0, m1, m2, m3, _, _, _, _⟩ := setC_cells hB3.z3
                obtain ⟨r0, r1, r2, r3, y0, y1, y2, y3⟩ := setC_cells hB3.z2
                have q2 := setC_store hB3.z2 z
                obtain ⟨v0, v1, v2, v3, _, _, _, _⟩ := setC_cells q2
                have HP3 := Lib.hid ((set4_other X w.heap.size g (.int .u64 (setW z 0)) (.int .u64 (setW z 1)) (.int .u64 (setW z 2)) (.int .u64 (setW z 3)) (by omega)).trans hB3.pz)
                have HG3 := Lib.hid (grown_new4 hB3.gr z)
                clear q2 hB3
                go_wp2_with fail
                refine bodyPost_ret (v := setA z) (by simp [results, Try.results94, go_sem, v0, v1, v2, v3, setA]) rfl ?_
                rw [HRT.out]
                exact ⟨rfl, HP3.out, HG3.out⟩
            · have hkb : ((k : Int) == 0) = false := by simp; omega
              have HR2 : Hid (R = (if neg = true then notB z else z, upP ⟨a, d, e⟩)) := Lib.hid (by rw [← HR.out, show decide (k = 0) = false by simpa using hk0]; rfl)
              have hB3 := hB2
              clear hk0 HR hB1 hB2
              generalize V.drewN nq = X at *
              obtain ⟨c0, c1, c2, c3, f1, f2', f3⟩ := PzC_cells hB3.pz
              simp only at c0 c1 c2 c3
              clear c0 c2 c3 f2' f3
              have hB4 := hB3.up hgl
              simp only at hB4
              go_upto_region 12 with fail
              generalize X.setCell ⟨g, 1, none⟩ (.int .i64 ((a : Int) + 1)) = Y at *
              clear hB3 c1 f1
              cases neg with
              | true =>
                have HRT : Hid (R = (notB z, upP ⟨a, d, e⟩)) := HR2
                obtain ⟨m0, m1, m2, m3, _, _, _, _⟩ := setC_cells hB4.z3
                have hN := notC z Y
                unfold ValOld setA at hN
                have HN := Lib.hid hN
                clear hN HR2
                go_wp2_with fail
                refine (HN.out).mono ?_; rintro e X ⟨rfl, o2⟩
                have hB3 := hB4.old o2
                clear hB4 o2 m0 m1 m2 m3
                generalize notB z = zn at *
                obtain ⟨m0, m1, m2, m3, _, _, _, _⟩ := setC_cells hB3.z3
                obtain ⟨r0, r1, r2, r3, y0, y1, y2, y3⟩ := setC_cells hB3.z2
                have q2 := setC_store hB3.z2 zn
                obtain ⟨v0, v1, v2, v3, _, _, _, _⟩ := setC_cells q2
                have HP3 := Lib.hid ((set4_other X w.heap.size g (.int .u64 (setW zn 0)) (.int .u64 (setW zn 1)) (.int .u64 (setW zn 2)) (.int .u64 (setW zn 3)) (by omega)).trans hB3.pz)
                have HG3 := Lib.hid (grown_new4 hB3.gr zn)
                clear q2 hB3
                go_wp2_with fail
                refine bodyPost_ret (v := setA zn) (by simp [results, Try.results94, go_sem, v0, v1, v2, v3, setA]) rfl ?_
                rw [HRT.out]
                exact ⟨rfl, HP3.out, HG3.out⟩
              | false =>
                have HRT : Hid (R = (z, upP ⟨a, d, e⟩)) := HR2
                clear HR2
                have hB3 := hB4
                clear hB4
                generalize Y = X at *
                obtain ⟨m0, m1, m2, m3, _, _, _, _⟩ := setC_cells hB3.z3
                obtain ⟨r0, r1, r2, r3, y0, y1, y2, y3⟩ := setC_cells hB3.z2
                have q2 := setC_store hB3.z2 z
                obtain ⟨v0, v1, v2, v3, _, _, _, _⟩ := setC_cells q2
                have HP3 := Lib.hid ((set4_other X w.heap.size g (.int .u64 (setW z 0)) (.int .u64 (setW z 1)) (.int .u64 (setW z 2)) (.int .u64 (setW z 3)) (by omega)).trans hB3.pz)
                have HG3 := Lib.hid (grown_new4 hB3.gr z)
                clear q2 hB3
                go_wp2_with fail
                refine bodyPost_ret (v := setA z) (by simp [results, Try.results94, go_sem, v0, v1, v2, v3, setA]) rfl ?_
                rw [HRT.out]
                exact ⟨rfl, HP3.out, HG3.out⟩
          · have b1 : ((s[a].toNat : Int) == 93) = false := by simp; omega
            have hL := HL2.out
            rw [if_neg (fun h => hc (hbb.symm.trans h))] at hL
            have hat := elemP_at (bs s) ⟨a, d, e⟩ (by rw [bs_length]; exact hlt)
            rw [bs_length] at hat
            simp only at hat
            have hEl := fun (W2 : World) (h : W2.heap[g]? = some (PzC s ⟨a, d, e⟩)) => elemC g s ⟨a, d, e⟩ W2 h hs hlt
            obtain ⟨⟨ze, qe⟩, hE⟩ : ∃ r, elemP (bs s) ⟨a, d, e⟩ = r := ⟨_, rfl⟩
            rw [hE] at hL hat hEl
            simp only at hL hat
            unfold VPost setA at hEl
            simp only at hEl
            have HEL := Lib.hid hEl
            have HLN := Lib.hid hL
            obtain ⟨hat1, hat2⟩ := hat
            clear hL HL2 hbb hc hE hEl
            go_quiet (fail)
            have hB2 := hB1.drewN nq
            clear c0 c1 b1 hB1
            go_upto_region 15 with fail
            generalize V.drewN nq = X at *
            have HUN := Lib.hid (fun W2 => unionC z ze W2)
            unfold ValOld setA at HUN
            obtain ⟨zn, hzn⟩ : ∃ zn, z ||| ze = zn := ⟨_, rfl⟩
            rw [hzn] at HUN HLN
            have HZN := Lib.hid hzn
            clear hzn
            refine wp_region_steps2 (by kernel_rfl) (by kernel_rfl) (KM w s g ⟨a, d, e⟩ qe z ze zn (.pointer (some ⟨w.heap.size, 0, none⟩)) (.bool neg) (.int .i64 k) u6 u7 u8 u9 u10 u11 u12 u13 u14 u15 u16 u17 u18 u19 u20 u21 u22 u23 u24 u25 u26 u27 (.pointer (some ⟨g, 0, none⟩)) (.bool true) u30 u31 (.pointer (some ⟨g, 0, none⟩)) (.pointer (some ⟨g, 0, none⟩)) (.pointer (some ⟨g, 0, none⟩)) (.string s) (.pointer (some ⟨g, 0, none⟩)) (.pointer (some ⟨g, 0, none⟩)) (.pointer (some ⟨g, 1, none⟩)) (.int .i64 a) (.int .u8 s[a].toNat) (.bool false) u42 u43 u44 u45 u46 u47 u48 u49 u50 u51 u52 u53 u54 u55 u56 u57 u58 u59 u60 u61 u62 u63) ?_ ?_ ⟨?_, ?_, ?_, ?_, ?_, trivial⟩
            · exact ⟨false, false, false, false, false, 0, undef, rfl, rfl, hB2.drewN 1⟩
            · rintro a w1 ⟨b0, b1, b2, b3, b4, dummy, nov, hl, rfl, hF⟩
              have hl' := congrArg Array.toList hl
              simp at hl'
              obtain ⟨rfl, rfl, rfl, rfl, rfl⟩ := hl'
              clear hl
              have hB5 : CB w s g qe zn w1 := hF
              have hme := atOf_eq hB5.pz
              have HME := Lib.hid hme
              clear hF hme hB2
              go_wp2_with fail
              go_roundw
              case rel => exact ⟨f2, k + 1, zn, qe, by go_num, by omega, hat1, HLN, hB5⟩
              case measure => rw [HME.out, HMEAS.out]; omega
            · intro listed a w1 K hs hcl hf hall hI hK
              obtain ⟨b0, b1, b2, b3, b4, dummy, nov, rfl, rfl, hF⟩ := hI
              have hf' : b0 = false := hf
              subst hf'
              have hb3 : b3 = false := by
                cases b3
                · rfl
                · exact absurd (show false = true from hcl 3 _ rfl rfl ⟨0, .data⟩ (by first | exact .head _ | simp) rfl) (by decide)
              subst hb3
              have hb4 : b4 = false := by
                cases b4
                · rfl
                · exact absurd (show false = true from hcl 4 _ rfl rfl ⟨0, .phase⟩ (by first | exact .head _ | simp) rfl) (by decide)
              subst hb4
              clear hall hcl hs hf
              obtain ⟨m0, m1, m2, m3, _, _, _, _⟩ := setC_cells hF.z3
              go_simp
              exact hK _ _ ⟨true, b1, b2, false, false, dummy, nov, rfl, rfl, hF⟩
            · intro listed a w1 K hs hcl hf hall hI hK
              obtain ⟨b0, b1, b2, b3, b4, dummy, nov, rfl, rfl, hF⟩ := hI
              have hf' : b1 = false := hf
              subst hf'
              have hb2 : b2 = false := by
                cases b2
                · rfl
                · exact absurd (show false = true from hcl 2 _ rfl rfl ⟨1, .data⟩ (by first | exact .head _ | simp) rfl) (by decide)
              subst hb2
              have hb4 : b4 = false := by
                cases b4
                · rfl
                · exact absurd (show false = true from hcl 4 _ rfl rfl ⟨1, .phase⟩ (by first | exact .head _ | simp) rfl) (by decide)
              subst hb4
              have hb3 : b3 = false := by
                cases b3
                · rfl
                · exact absurd (show false = true from hcl 3 _ rfl rfl ⟨2, .data⟩ (by first | exact .head _ | simp) rfl) (by decide)
              subst hb3
              clear hall hcl hs hf
              go_simp
              exact hK _ _ ⟨b0, true, false, false, false, dummy, nov, rfl, rfl, hF⟩
            · intro listed a w1 K hs hcl hf hall hI hK
              obtain ⟨b0, b1, b2, b3, b4, dummy, nov, rfl, rfl, hF⟩ := hI
              have hf' : b2 = false := hf
              subst hf'
              have hq1 : b1 = true := hall ⟨1, .data⟩ (by first | exact .head _ | simp) rfl
              subst hq1
              have hb3 : b3 = false := by
                cases b3
                · rfl
                · exact absurd (show false = true from hcl 3 _ rfl rfl ⟨2, .data⟩ (by first | exact .head _ | simp) rfl) (by decide)
              subst hb3
              have hb4 : b4 = false := by
                cases b4
                · rfl
                · exact absurd (show false = true from hcl 4 _ rfl rfl ⟨2, .phase⟩ (by first | exact .head _ | simp) rfl) (by decide)
              subst hb4
              clear hall hcl hs hf
              have hc := HEL.out w1 hF.pz
              go_simp
              refine hc.mono ?_
              rintro e w2 ⟨rfl, hp, hg2⟩
              exact hK _ _ ⟨b0, true, true, false, false, dummy, nov, rfl, rfl, hF.call hgl hp hg2⟩
            · intro listed a w1 K hs hcl hf hall hI hK
              obtain ⟨b0, b1, b2, b3, b4, dummy, nov, rfl, rfl, hF⟩ := hI
              have hf' : b3 = false := hf
              subst hf'
              have hq0 : b0 = true := hall ⟨0, .data⟩ (by first | exact .head _ | simp) rfl
              subst hq0
              have hq2 : b2 = true := hall ⟨2, .data⟩ (by first | exact .head _ | simp) rfl
              subst hq2
              have hq1 : b1 = true := hcl 2 _ rfl rfl ⟨1, .data⟩ (by first | exact .head _ | simp) rfl
              subst hq1
              have hb4 : b4 = false := by
                cases b4
                · rfl
                · exact absurd (show false = true from hcl 4 _ rfl rfl ⟨3, .data⟩ (by first | exact .head _ | simp) rfl) (by decide)
              subst hb4
              clear hall hcl hs hf
              have hc := HUN.out w1
              go_simp
              refine hc.mono ?_
              rintro e w2 ⟨rfl, o2⟩
              exact hK _ _ ⟨true, true, true, true, false, dummy, nov, rfl, rfl, hF.old o2⟩
            · intro listed a w1 K hs hcl hf hall hI hK
              obtain ⟨b0, b1, b2, b3, b4, dummy, nov, rfl, rfl, hF⟩ := hI
              have hf' : b4 = false := hf
              subst hf'
              have hq3 : b3 = true := hall ⟨3, .data⟩ (by first | exact .head _ | simp) rfl
              subst hq3
              have hq0 : b0 = true := hall ⟨0, .phase⟩ (by first | exact .head _ | simp) rfl
              subst hq0
              have hq1 : b1 = true := hall ⟨1, .phase⟩ (by first | exact .head _ | simp) rfl
              subst hq1
              have hq2 : b2 = true := hall ⟨2, .phase⟩ (by first | exact .head _ | simp) rfl
              subst hq2
              clear hall hcl hs hf
              obtain ⟨m0, m1, m2, m3, y0, y1, y2, y3⟩ := setC_cells hF.z3
              have HF2 := Lib.hid (hF.put hgl zn)
              go_simp
              exact hK _ _ ⟨true, true, true, true, true, dummy, nov, rfl, rfl, HF2.out⟩
        · rw [if_neg hm] at hL
          have hm2 : moreP (bs s) ⟨a, d, e⟩ = false := by simpa using hm
          rw [hm2] at hM
          have HM := Lib.hid hM
          have HR := Lib.hid (Option.some.inj hL)
          clear hM hL hm hm2 HL
          go_wp2_with fail
          refine (HM.out).mono ?_; rintro e w' ⟨rfl, n, rfl⟩
          have hB1 := hB.drewN n
          have HFL := Lib.hid (failC g s ⟨a, d, e⟩ 80 _ hB1.pz)
          clear hB
          go_wp2_with fail
          refine (HFL.out).mono ?_; rintro e X ⟨rfl, hp, hg2⟩
          have hB3 := hB1.call hgl hp hg2
          clear hB1 hp hg2 HFL
          obtain ⟨m0, m1, m2, m3, _, _, _, _⟩ := setC_cells hB3.z3
          obtain ⟨r0, r1, r2, r3, y0, y1, y2, y3⟩ := setC_cells hB3.z2
          have q2 := setC_store hB3.z2 z
          obtain ⟨v0, v1, v2, v3, _, _, _, _⟩ := setC_cells q2
          have HP3 := Lib.hid ((set4_other X w.heap.size g (.int .u64 (setW z 0)) (.int .u64 (setW z 1)) (.int .u64 (setW z 2)) (.int .u64 (setW z 3)) (by omega)).trans hB3.pz)
          have HG3 := Lib.hid (grown_new4 hB3.gr z)
          clear q2 hB3
          go_wp2_with fail
          refine bodyPost_ret (v := setA z) (by simp [results, Try.results94, go_sem, v0, v1, v2, v3, setA]) rfl ?_
          rw [← HR.out]
          exact ⟨rfl, HP3.out, HG3.out⟩
end Go.Proofs.Ythadkjgadhbidaa
