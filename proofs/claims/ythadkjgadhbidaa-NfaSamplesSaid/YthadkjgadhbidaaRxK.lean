/-
  The walk of the reference's element.
-/
import Derived.Test.YthadkjgadhbidaaRxI
import Derived.Test.YthadkjgadhbidaaRegInvB
namespace Go.Proofs.Ythadkjgadhbidaa
open Go.RowKit
set_option linter.unusedVariables false

theorem singleP_at (B : List Nat) (p : Ps) (h : p.at_ < B.length) : (singleP B p).2.at_ ≤ B.length ∧ p.at_ < (singleP B p).2.at_ := by
  have hf : ∀ (q : Ps) (c : Int), (failP q c).at_ = q.at_ := by intro q c; unfold failP; split <;> rfl
  unfold singleP
  split
  · unfold escP
    split
    · rename_i h1 h2
      have hu : (upP p).at_ = p.at_ + 1 := rfl
      have key : ∀ (c : Bool), (upP (if c = true then upP p else failP (upP p) 82)).at_ = p.at_ + 2 := by
        intro c
        cases c
        · show (failP (upP p) 82).at_ + 1 = _
          rw [hf]; rfl
        · rfl
      rw [hu] at h2
      show (upP (if (namedB (bAt B (upP p))).2.2 = true then upP p else failP (upP p) 82)).at_ ≤ _ ∧ _ < (upP (if (namedB (bAt B (upP p))).2.2 = true then upP p else failP (upP p) 82)).at_
      rw [key]
      omega
    · rename_i h1 h2
      simp only [hf, upP] at h2 ⊢
      omega
  · split
    · simp only [hf, upP]; omega
    · simp only [upP]; omega
theorem set4_cell (w : World) (g k i : Nat) (a b c d : Value) (hk : k ≠ g) :
    ((((w.setCell ⟨g, 0, none⟩ a).setCell ⟨g, 1, none⟩ b).setCell ⟨g, 2, none⟩ c).setCell ⟨g, 3, none⟩ d).cell? ⟨k, i, none⟩ = w.cell? ⟨k, i, none⟩ := by
  have key : ∀ (W : World) (j : Nat) (u : Value), (W.setCell ⟨g, j, none⟩ u).cell? ⟨k, i, none⟩ = W.cell? ⟨k, i, none⟩ :=
    fun W j u => World.cell?_setCell_other _ _ _ _ (by intro h; injection h with h; exact hk h.symm)
  rw [key, key, key, key]
def ElemTest (w : World) (s : ByteArray) (g k3 k5 : Nat) (za zb z : BSet) (E : BSet × Ps) (v : Value) (wx : World) : Prop :=
  ∃ (b : Bool) (q : Ps), v = .bool b ∧ E = (z, if b = true then failP q 80 else q) ∧ wx.heap[g]? = some (PzC s q) ∧ wx.heap[w.heap.size]? = some (setC 0) ∧ wx.heap[k3]? = some (setC za) ∧ wx.heap[k5]? = some (setC zb) ∧ w.grownBy wx (some g)
/-- While the last set is made. -/
structure ER (w Y : World) (s : ByteArray) (g : Nat) (q : Ps) (zr : BSet) (st : Bool) (ww : World) : Prop where
  old : st = false → Old Y ww
  fin : st = true → ww.heap[w.heap.size]? = some (setC zr) ∧ ww.heap[g]? = some (PzC s q) ∧ w.grownBy ww (some g)
theorem ER.call {w Y : World} {s : ByteArray} {g : Nat} {q : Ps} {zr : BSet} {ww w2 : World} (h : ER w Y s g q zr false ww) (o : Old ww w2) : ER w Y s g q zr false w2 := ⟨fun _ => (h.old rfl).up o, (fun h => by cases h)⟩
def EM (w Y : World) (s : ByteArray) (g k3 k5 : Nat) (q : Ps) (za zb zr : BSet) (o3 o5 : Nat) (s0 s4 s6 s7 s8 s9 s10 s11 s12 s13 s14 s15 s16 s17 s18 s19 s20 s21 s22 s23 s24 s25 s26 s27 s28 s29 s30 s31 s32 s33 s34 s35 s36 s37 s38 s39 s40 s41 s42 s43 s44 s45 s46 s47 s48 s49 s50 s51 s52 s53 s54 s55 s56 s57 s58 s59 s60 s61 s62 s63 s64 s65 s66 s67 s68 s69 s70 s71 s72 s73 s74 s75 s76 s77 s78 s79 : Value) (listed : Array Bool) (aa : Act) (ww : World) : Prop :=
  ∃ (b0 b1 b2 b3 b4 b5 : Bool) (dummy : Nat) (nov : Value), listed = #[b0, b1, b2, b3, b4, b5] ∧
    aa = { tmps := #[s0, undef, .pointer (some ⟨w.heap.size, 0, none⟩), .pointer (some ⟨k3, 0, none⟩), s4, .pointer (some ⟨k5, 0, none⟩), s6, s7, s8, s9, s10, s11, s12, s13, s14, s15, s16, s17, s18, s19, s20, s21, s22, s23, s24, s25, s26, s27, s28, s29, s30, s31, s32, s33, s34, s35, s36, s37, s38, s39, s40, s41, s42, s43, s44, s45, s46, s47, s48, s49, s50, s51, s52, s53, s54, s55, s56, s57, s58, s59, s60, s61, s62, s63, s64, s65, s66, s67, s68, s69, s70, s71, s72, s73, s74, cond b0 (.agg #[.int .u64 (setW za 0), .int .u64 (setW za 1), .int .u64 (setW za 2), .int .u64 (setW za 3)]) (s75), cond b1 (.int .i64 o3) (s76), cond b2 (.agg #[.int .u64 (setW zb 0), .int .u64 (setW zb 1), .int .u64 (setW zb 2), .int .u64 (setW zb 3)]) (s77), cond b3 (.int .i64 o5) (s78), cond b4 (.agg #[.int .u64 (setW zr 0), .int .u64 (setW zr 1), .int .u64 (setW zr 2), .int .u64 (setW zr 3)]) (s79)], defers := [] } ∧ ER w Y s g q zr b5 ww

/-- Behind the test of the ends of a range. -/
def ElemCut (w : World) (s : ByteArray) (g k3 k5 : Nat) (za zb z : BSet) (E : BSet × Ps) (wx : World) : Prop :=
  ∃ q, E = (z, q) ∧ wx.heap[g]? = some (PzC s q) ∧ wx.heap[w.heap.size]? = some (setC 0) ∧ wx.heap[k3]? = some (setC za) ∧ wx.heap[k5]? = some (setC zb) ∧ w.grownBy wx (some g)
def VPost (w : World) (g : Nat) (s : ByteArray) (r : BSet × Ps) (e : Ending) (w' : World) : Prop := e = .returned (setA r.1) ∧ w'.heap[g]? = some (PzC s r.2) ∧ w.grownBy w' (some g)
set_option maxHeartbeats 2000000 in
set_option maxRecDepth 100000 in
theorem elemC (g : Nat) (s : ByteArray) (p : Ps) (w : World) (h : w.heap[g]? = some (PzC s p)) (hs : s.size ≤ 1000000) (ha : p.at_ < s.size) : Calls Try.prog 98 #[.pointer (some ⟨g, 0, none⟩)] w (VPost w g s (elemP (bs s) p)) := by
  have hgl := lt_of_block h
  have oW := (Old.refl w).alloc (.cells #[.int .u64 0, .int .u64 0, .int .u64 0, .int .u64 0] 40)
  have hz : (w.alloc (.cells #[.int .u64 0, .int .u64 0, .int .u64 0, .int .u64 0] 40)).heap[w.heap.size]? = some (setC 0) := heap_alloc_new w _
  have hC := singleC g s p _ (oW.block h) hs ha
  have hat := singleP_at (bs s) p (by rw [bs_length]; exact ha)
  obtain ⟨⟨⟨za, one⟩, q⟩, hR⟩ : ∃ r, singleP (bs s) p = r := ⟨_, rfl⟩
  obtain ⟨a, d, e⟩ := q
  rw [hR] at hC hat
  rw [bs_length] at hat
  simp only at hat
  obtain ⟨ha2, ha1⟩ := hat
  have hEl : elemP (bs s) p = (if moreP (bs s) ⟨a, d, e⟩ = true ∧ bAt (bs s) ⟨a, d, e⟩ = 45 then
      (if one = false ∨ s.size ≤ a + 1 then (za, failP ⟨a + 1, d, e⟩ 80)
      else (rangeB (onlyB za) (onlyB (singleP (bs s) ⟨a + 1, d, e⟩).1.1), if (singleP (bs s) ⟨a + 1, d, e⟩).2.e = 0 ∧ ((singleP (bs s) ⟨a + 1, d, e⟩).1.2 = false ∨ onlyB (singleP (bs s) ⟨a + 1, d, e⟩).1.1 < onlyB za) then failP (singleP (bs s) ⟨a + 1, d, e⟩).2 80 else (singleP (bs s) ⟨a + 1, d, e⟩).2))
    else (za, ⟨a, d, e⟩)) := by
    unfold elemP
    rw [hR, bs_length]; rfl
  have HEl := Lib.hid hEl
  unfold EPost setA at hC
  simp only at hC
  have HC := Lib.hid hC
  have OW := Lib.hid oW
  have HZ := Lib.hid hz
  clear hEl hC oW hz hR h
  go_enter Try.func98, Try.ntmps98
  go_wp2_with fail
  refine (HC.out).mono ?_; rintro e X ⟨rfl, hp, hg2⟩
  have hzx := (hg2.block w.heap.size (lt_of_block HZ.out) (by intro h; injection h with h; omega)).trans HZ.out
  have hgr := old_grown_ OW.out hg2
  have HP := Lib.hid hp
  have HZX := Lib.hid hzx
  have HG := Lib.hid hgr
  clear hp hzx hgr hg2
  go_upto_region 2 with fail
  have HK3 := Lib.hid (heap_alloc_new X (.cells #[.int .u64 (setW za 0), .int .u64 (setW za 1), .int .u64 (setW za 2), .int .u64 (setW za 3)] 40))
  have oX := (Old.refl X).alloc (.cells #[.int .u64 (setW za 0), .int .u64 (setW za 1), .int .u64 (setW za 2), .int .u64 (setW za 3)] 40)
  have HP1 := Lib.hid (oX.block HP.out)
  have HZ1 := Lib.hid (oX.block HZX.out)
  have HG1 := Lib.hid (grown_old_ HG.out oX)
  have hk3 : w.heap.size < X.heap.size := lt_of_block HZX.out
  have hw1 : X.heap.size < (X.alloc (.cells #[.int .u64 (setW za 0), .int .u64 (setW za 1), .int .u64 (setW za 2), .int .u64 (setW za 3)] 40)).heap.size := lt_of_block HK3.out
  clear oX
  generalize X.alloc (.cells #[.int .u64 (setW za 0), .int .u64 (setW za 1), .int .u64 (setW za 2), .int .u64 (setW za 3)] 40) = W at *
  generalize X.heap.size = k3 at *
  clear HP HZX HG OW HZ HC
  have hM := fun n => moreC g s ⟨a, d, e⟩ (W.drewN n) HP1.out hs (by simp only; omega)
  unfold BDraw at hM
  by_cases hm : moreP (bs s) ⟨a, d, e⟩ = true
  · have hm' : e = 0 ∧ a < s.size := by
      unfold moreP at hm
      rw [bs_length] at hm
      simpa using hm
    rw [hm] at hM
    have HM := Lib.hid hM
    obtain ⟨rfl, hlt⟩ := hm'
    have hbb : bAt (bs s) ⟨a, d, 0⟩ = s[a].toNat := bs_get s a hlt
    have i1 : (0 : Int) ≤ (a : Int) := by omega
    have i2 : (a : Int) < (s.size : Int) := by omega
    by_cases hc : s[a].toNat = 45
    · have b1 : ((s[a].toNat : Int) != 45) = false := by simp; omega
      have hE2 : elemP (bs s) p = _ := HEl.out.trans (if_pos ⟨hm, hbb.trans hc⟩)
      have HE2 := Lib.hid hE2
      clear hE2 hM hc hbb hm
      obtain ⟨c0, c1, c2, c3, f1, f2, f3⟩ := PzC_cells HP1.out
      simp only at c0 c1 c2 c3
      clear c2 c3 f2 f3
      go_quiet ((go_at_call 76; exact Calls.quiet_of (HM.out _)))
      have hp : (W.drewN nq).heap[g]? = some (PzC s ⟨a, d, 0⟩) := HP1.out
      have hz : (W.drewN nq).heap[w.heap.size]? = some (setC 0) := HZ1.out
      have h3 : (W.drewN nq).heap[k3]? = some (setC za) := HK3.out
      have hgr : w.grownBy (W.drewN nq) (some g) := grown_drewN HG1.out nq
      have hsz : k3 < (W.drewN nq).heap.size := hw1
      generalize W.drewN nq = Y at *
      clear c0 c1 HP1 HZ1 HG1 HM HK3 hw1
      obtain ⟨c0, c1, c2, c3, f1, f2, f3⟩ := PzC_cells hp
      simp only at c0 c1 c2 c3
      have hP2 := PzC_at hp (a + 1)
      have hZ2 := (c4_far Y g w.heap.size 1 (.int .i64 ((a + 1 : Nat) : Int)) (by omega)).trans hz
      have hB2 := (c4_far Y g k3 1 (.int .i64 ((a + 1 : Nat) : Int)) (by omega)).trans h3
      have hG2 := grown_store hgr 1 (.int .i64 ((a + 1 : Nat) : Int))
      rw [show ((a + 1 : Nat) : Int) = (a : Int) + 1 by omega] at hP2 hZ2 hB2 hG2
      have HP2 := Lib.hid hP2
      have HZ2 := Lib.hid hZ2
      have HB2 := Lib.hid hB2
      have HG2 := Lib.hid hG2
      clear hP2 hZ2 hB2 hG2 hp hz h3 hgr hsz c0 c2 c3 f2 f3
      go_upto_region 5 with fail
      generalize Y.setCell ⟨g, 1, none⟩ (.int .i64 ((a : Int) + 1)) = Y2 at *
      clear c1 f1 b1
      obtain ⟨c0, c1, c2, c3, f1, f2, f3⟩ := PzC_cells HP2.out
      simp only at c0 c1 c2 c3
      rw [show ((a + 1 : Nat) : Int) = (a : Int) + 1 by omega] at c1
      clear c2 c3 f1 f2 f3
      have HM := Lib.hid (fun n => (⟨HP2.out, HZ2.out, HB2.out, grown_drewN HG2.out n⟩ : (Y2.drewN n).heap[g]? = some (PzC s ⟨a + 1, d, 0⟩) ∧ (Y2.drewN n).heap[w.heap.size]? = some (setC 0) ∧ (Y2.drewN n).heap[k3]? = some (setC za) ∧ w.grownBy (Y2.drewN n) (some g)))
      cases one with
      | false =>
        have hE3 : elemP (bs s) p = (za, failP ⟨a + 1, d, 0⟩ 80) := HE2.out.trans (if_pos (Or.inl rfl))
        replace HE2 := Lib.hid hE3
        clear hE3 HEl HP2 HZ2 HB2 HG2
        go_quiet (fail)
        obtain ⟨hp1, hz1, h31, hgr1⟩ := HM.out nq
        generalize Y2.drewN nq = Y3 at *
        have HFL := Lib.hid (failC g s ⟨a + 1, d, 0⟩ 80 Y3 hp1)
        have HZ3 := Lib.hid hz1
        have HB3 := Lib.hid h31
        have HG3' := Lib.hid hgr1
        clear HM c0 c1 hp1 hz1 h31 hgr1
        go_wp2_with fail
        refine (HFL.out).mono ?_; rintro e Y ⟨rfl, hp, hg2⟩
        have hz := (hg2.block w.heap.size (lt_of_block HZ3.out) (by intro h; injection h with h; omega)).trans HZ3.out
        have h3 := (hg2.block k3 (lt_of_block HB3.out) (by intro h; injection h with h; omega)).trans HB3.out
        have hgr := World.grownBy.trans HG3'.out hg2
        clear hg2
        obtain ⟨d0, d1, d2, d3, _, _, _, _⟩ := setC_cells h3
        obtain ⟨r0, r1, r2, r3, y0, y1, y2, y3⟩ := setC_cells hz
        have q2 := setC_store hz za
        obtain ⟨v0, v1, v2, v3, _, _, _, _⟩ := setC_cells q2
        have HP3 := Lib.hid ((set4_other Y w.heap.size g (.int .u64 (setW za 0)) (.int .u64 (setW za 1)) (.int .u64 (setW za 2)) (.int .u64 (setW za 3)) (by omega)).trans hp)
        have HG3 := Lib.hid (grown_new4 hgr za)
        clear q2 hz hgr hp h3
        go_wp2_with fail
        refine bodyPost_ret (v := setA za) (by simp [results, Try.results98, go_sem, v0, v1, v2, v3, setA]) rfl ?_
        rw [HE2.out]
        exact ⟨rfl, HP3.out, HG3.out⟩
      | true =>
        by_cases hl2 : s.size ≤ a + 1
        · have hE3 : elemP (bs s) p = (za, failP ⟨a + 1, d, 0⟩ 80) := HE2.out.trans (if_pos (Or.inr hl2))
          have hd : decide ((s.size : Int) ≤ (a : Int) + 1) = true := by simp; omega
          replace HE2 := Lib.hid hE3
          clear hE3 HEl HP2 HZ2 HB2 HG2
          go_quiet (fail)
          obtain ⟨hp1, hz1, h31, hgr1⟩ := HM.out nq
          generalize Y2.drewN nq = Y3 at *
          have HFL := Lib.hid (failC g s ⟨a + 1, d, 0⟩ 80 Y3 hp1)
          have HZ3 := Lib.hid hz1
          have HB3 := Lib.hid h31
          have HG3' := Lib.hid hgr1
          clear HM c0 c1 hp1 hz1 h31 hgr1
          go_wp2_with fail
          refine (HFL.out).mono ?_; rintro e Y ⟨rfl, hp, hg2⟩
          have hz := (hg2.block w.heap.size (lt_of_block HZ3.out) (by intro h; injection h with h; omega)).trans HZ3.out
          have h3 := (hg2.block k3 (lt_of_block HB3.out) (by intro h; injection h with h; omega)).trans HB3.out
          have hgr := World.grownBy.trans HG3'.out hg2
          clear hg2
          obtain ⟨d0, d1, d2, d3, _, _, _, _⟩ := setC_cells h3
          obtain ⟨r0, r1, r2, r3, y0, y1, y2, y3⟩ := setC_cells hz
          have q2 := setC_store hz za
          obtain ⟨v0, v1, v2, v3, _, _, _, _⟩ := setC_cells q2
          have HP3 := Lib.hid ((set4_other Y w.heap.size g (.int .u64 (setW za 0)) (.int .u64 (setW za 1)) (.int .u64 (setW za 2)) (.int .u64 (setW za 3)) (by omega)).trans hp)
          have HG3 := Lib.hid (grown_new4 hgr za)
          clear q2 hz hgr hp h3
          go_wp2_with fail
          refine bodyPost_ret (v := setA za) (by simp [results, Try.results98, go_sem, v0, v1, v2, v3, setA]) rfl ?_
          rw [HE2.out]
          exact ⟨rfl, HP3.out, HG3.out⟩
        · have hE3 := HE2.out.trans (if_neg (by simp; omega))
          have hd : decide ((s.size : Int) ≤ (a : Int) + 1) = false := by simp; omega
          replace HE2 := Lib.hid hE3
          clear hE3 HEl HP2 HZ2 HB2 HG2
          go_quiet (fail)
          obtain ⟨hp, hz, h3, hgr⟩ := HM.out nq
          generalize Y2.drewN nq = Y3 at *
          clear HM c0 c1
          have hC2 := singleC g s ⟨a + 1, d, 0⟩ Y3 hp hs (by simp only; omega)
          obtain ⟨⟨⟨zb, two⟩, q2⟩, hR2⟩ : ∃ r, singleP (bs s) ⟨a + 1, d, 0⟩ = r := ⟨_, rfl⟩
          obtain ⟨a2, d2, e2⟩ := q2
          have hE4 := HE2.out
          rw [hR2] at hC2 hE4
          replace HE2 := Lib.hid hE4
          unfold EPost setA at hC2
          simp only at hC2
          have HC2 := Lib.hid hC2
          have HZ3 := Lib.hid hz
          have HB3 := Lib.hid h3
          have HG3 := Lib.hid hgr
          clear hE4 hC2 hR2 hp hz h3 hgr hd hl2
          go_wp2_with fail
          refine (HC2.out).mono ?_; rintro e X2 ⟨rfl, hp, hg2⟩
          have hz := (hg2.block w.heap.size (lt_of_block HZ3.out) (by intro h; injection h with h; omega)).trans HZ3.out
          have h3 := (hg2.block k3 (lt_of_block HB3.out) (by intro h; injection h with h; omega)).trans HB3.out
          have hgr := World.grownBy.trans HG3.out hg2
          have HP := Lib.hid hp
          have HZX := Lib.hid hz
          have HBX := Lib.hid h3
          have HG := Lib.hid hgr
          clear hp hz h3 hgr hg2 HZ3 HB3 HG3 HC2
          go_upto_region 9 with fail
          have HK5 := Lib.hid (heap_alloc_new X2 (.cells #[.int .u64 (setW zb 0), .int .u64 (setW zb 1), .int .u64 (setW zb 2), .int .u64 (setW zb 3)] 40))
          have oX := (Old.refl X2).alloc (.cells #[.int .u64 (setW zb 0), .int .u64 (setW zb 1), .int .u64 (setW zb 2), .int .u64 (setW zb 3)] 40)
          have HP1 := Lib.hid (oX.block HP.out)
          have HZ1 := Lib.hid (oX.block HZX.out)
          have HB1 := Lib.hid (oX.block HBX.out)
          have HG1 := Lib.hid (grown_old_ HG.out oX)
          have hk5 : w.heap.size < X2.heap.size := lt_of_block HZX.out
          have hk35 : k3 < X2.heap.size := lt_of_block HBX.out
          clear oX
          generalize X2.alloc (.cells #[.int .u64 (setW zb 0), .int .u64 (setW zb 1), .int .u64 (setW zb 2), .int .u64 (setW zb 3)] 40) = V at *
          generalize X2.heap.size = k5 at *
          clear HP HZX HBX HG
          obtain ⟨c0, c1, c2, c3, f1, f2, f3⟩ := PzC_cells HP1.out
          simp only at c0 c1 c2 c3
          clear c0 c1 c2 f1 f2 f3
          go_cut [72] (fun s72 wx => ElemTest w s g k3 k5 za zb (rangeB (onlyB za) (onlyB zb)) (elemP (bs s) p) s72 wx)
          case first =>
            by_cases he : e2 = 0
            · subst he
              cases two with
              | false =>
                have hE5 : elemP (bs s) p = (rangeB (onlyB za) (onlyB zb), failP ⟨a2, d2, 0⟩ 80) := by rw [HE2.out]; rw [if_pos ⟨rfl, Or.inl rfl⟩]
                replace HE2 := Lib.hid hE5
                clear hE5
                go_quiet (fail)
                have hp : (V.drewN nq).heap[g]? = some (PzC s ⟨a2, d2, 0⟩) := HP1.out
                have hz : (V.drewN nq).heap[w.heap.size]? = some (setC 0) := HZ1.out
                have h3 : (V.drewN nq).heap[k3]? = some (setC za) := HB1.out
                have h5 : (V.drewN nq).heap[k5]? = some (setC zb) := HK5.out
                have hgr := grown_drewN HG1.out nq
                clear c3 HP1 HZ1 HB1 HK5 HG1
                have HPX := Lib.hid (show _ ∧ _ ∧ _ ∧ _ ∧ _ from ⟨hp, hz, h3, h5, hgr⟩)
                clear hp hz h3 h5 hgr
                go_wp2_with fail
                go_meet
                exact ⟨true, ⟨a2, d2, 0⟩, rfl, HE2.out, HPX.out⟩
              | true =>
                have O3 := Lib.hid (fun W => onlyC za W)
                have O5 := Lib.hid (fun W => onlyC zb W)
                have hl3 := onlyB_lt za
                have hl5 := onlyB_lt zb
                obtain ⟨b0, b1, b2, b3, _, _, _, _⟩ := setC_cells HB1.out
                obtain ⟨t0, t1, t2, t3, _, _, _, _⟩ := setC_cells HK5.out
                by_cases hgt : onlyB zb < onlyB za
                · have hE5 : elemP (bs s) p = (rangeB (onlyB za) (onlyB zb), failP ⟨a2, d2, 0⟩ 80) := by rw [HE2.out]; rw [if_pos ⟨rfl, Or.inr hgt⟩]
                  replace HE2 := Lib.hid hE5
                  clear hE5
                  have hd2 : decide (onlyB zb < onlyB za) = true := decide_eq_true hgt
                  unfold setA at O3 O5
                  go_region_held3 (fun w' => w'.cell? ⟨g, 3, none⟩ = some (.int .i64 0) ∧ w'.cell? ⟨k3, 0, none⟩ = some (.int .u64 (setW za 0)) ∧ w'.cell? ⟨k3, 1, none⟩ = some (.int .u64 (setW za 1)) ∧ w'.cell? ⟨k3, 2, none⟩ = some (.int .u64 (setW za 2)) ∧ w'.cell? ⟨k3, 3, none⟩ = some (.int .u64 (setW za 3)) ∧ w'.cell? ⟨k5, 0, none⟩ = some (.int .u64 (setW zb 0)) ∧ w'.cell? ⟨k5, 1, none⟩ = some (.int .u64 (setW zb 1)) ∧ w'.cell? ⟨k5, 2, none⟩ = some (.int .u64 (setW zb 2)) ∧ w'.cell? ⟨k5, 3, none⟩ = some (.int .u64 (setW zb 3))) (refine ⟨Old.cell (w := V) ?_ c3, Old.cell (w := V) ?_ b0, Old.cell (w := V) ?_ b1, Old.cell (w := V) ?_ b2, Old.cell (w := V) ?_ b3, Old.cell (w := V) ?_ t0, Old.cell (w := V) ?_ t1, Old.cell (w := V) ?_ t2, Old.cell (w := V) ?_ t3⟩ <;> (repeat (first | exact Old.refl _ | exact (Old.refl _).drew | refine Old.up ?_ o4 | refine Old.up ?_ o2 | refine Old.drew ?_))) (first | (go_at_call_of 107 za; refine (O3.out _).mono ?_; rintro e w2 ⟨rfl, o2⟩) | (go_at_call_of 107 zb; refine (O5.out _).mono ?_; rintro e w4 ⟨rfl, o4⟩))
                  have oV : Old V w4 := (((Old.refl V).drew).up o2).up o4
                  have hp := oV.block HP1.out
                  have hz := oV.block HZ1.out
                  have h3 := oV.block HB1.out
                  have h5 := oV.block HK5.out
                  have hgr := grown_old_ HG1.out oV
                  clear oV o2 o4 c3 b0 b1 b2 b3 t0 t1 t2 t3 HP1 HZ1 HB1 HK5 HG1 hd2
                  generalize w4 = Y at *
                  have HPX := Lib.hid (show _ ∧ _ ∧ _ ∧ _ ∧ _ from ⟨hp, hz, h3, h5, hgr⟩)
                  clear hp hz h3 h5 hgr
                  go_wp2_with fail
                  go_meet
                  exact ⟨true, ⟨a2, d2, 0⟩, rfl, HE2.out, HPX.out⟩
                · have hE5 : elemP (bs s) p = (rangeB (onlyB za) (onlyB zb), ⟨a2, d2, 0⟩) := by rw [HE2.out]; rw [if_neg (by simp; omega)]
                  replace HE2 := Lib.hid hE5
                  clear hE5
                  have hd2 : decide (onlyB zb < onlyB za) = false := decide_eq_false hgt
                  unfold setA at O3 O5
                  go_region_held3 (fun w' => w'.cell? ⟨g, 3, none⟩ = some (.int .i64 0) ∧ w'.cell? ⟨k3, 0, none⟩ = some (.int .u64 (setW za 0)) ∧ w'.cell? ⟨k3, 1, none⟩ = some (.int .u64 (setW za 1)) ∧ w'.cell? ⟨k3, 2, none⟩ = some (.int .u64 (setW za 2)) ∧ w'.cell? ⟨k3, 3, none⟩ = some (.int .u64 (setW za 3)) ∧ w'.cell? ⟨k5, 0, none⟩ = some (.int .u64 (setW zb 0)) ∧ w'.cell? ⟨k5, 1, none⟩ = some (.int .u64 (setW zb 1)) ∧ w'.cell? ⟨k5, 2, none⟩ = some (.int .u64 (setW zb 2)) ∧ w'.cell? ⟨k5, 3, none⟩ = some (.int .u64 (setW zb 3))) (refine ⟨Old.cell (w := V) ?_ c3, Old.cell (w := V) ?_ b0, Old.cell (w := V) ?_ b1, Old.cell (w := V) ?_ b2, Old.cell (w := V) ?_ b3, Old.cell (w := V) ?_ t0, Old.cell (w := V) ?_ t1, Old.cell (w := V) ?_ t2, Old.cell (w := V) ?_ t3⟩ <;> (repeat (first | exact Old.refl _ | exact (Old.refl _).drew | refine Old.up ?_ o4 | refine Old.up ?_ o2 | refine Old.drew ?_))) (first | (go_at_call_of 107 za; refine (O3.out _).mono ?_; rintro e w2 ⟨rfl, o2⟩) | (go_at_call_of 107 zb; refine (O5.out _).mono ?_; rintro e w4 ⟨rfl, o4⟩))
                  have oV : Old V w4 := (((Old.refl V).drew).up o2).up o4
                  have hp := oV.block HP1.out
                  have hz := oV.block HZ1.out
                  have h3 := oV.block HB1.out
                  have h5 := oV.block HK5.out
                  have hgr := grown_old_ HG1.out oV
                  clear oV o2 o4 c3 b0 b1 b2 b3 t0 t1 t2 t3 HP1 HZ1 HB1 HK5 HG1 hd2
                  generalize w4 = Y at *
                  go_wp2_with fail
                  have HPX := Lib.hid (show _ ∧ _ ∧ _ ∧ _ ∧ _ from ⟨hp, hz, h3, h5, hgr⟩)
                  clear hp hz h3 h5 hgr
                  go_wp2_with fail
                  go_meet
                  exact ⟨false, ⟨a2, d2, 0⟩, rfl, HE2.out, HPX.out⟩
            · have hE5 : elemP (bs s) p = (rangeB (onlyB za) (onlyB zb), ⟨a2, d2, e2⟩) := by rw [HE2.out]; rw [if_neg (fun h => he h.1)]
              have hd2 : (e2 == 0) = false := by simpa using he
              replace HE2 := Lib.hid hE5
              clear hE5
              go_quiet (fail)
              have hp : (V.drewN nq).heap[g]? = some (PzC s ⟨a2, d2, e2⟩) := HP1.out
              have hz : (V.drewN nq).heap[w.heap.size]? = some (setC 0) := HZ1.out
              have h3 : (V.drewN nq).heap[k3]? = some (setC za) := HB1.out
              have h5 : (V.drewN nq).heap[k5]? = some (setC zb) := HK5.out
              have hgr := grown_drewN HG1.out nq
              generalize V.drewN nq = Y at *
              clear c3 HP1 HZ1 HB1 HK5 HG1
              go_wp2_with fail
              have HPX := Lib.hid (show _ ∧ _ ∧ _ ∧ _ ∧ _ from ⟨hp, hz, h3, h5, hgr⟩)
              clear hp hz h3 h5 hgr
              go_wp2_with fail
              go_meet
              exact ⟨false, ⟨a2, d2, e2⟩, rfl, HE2.out, HPX.out⟩
          case rest =>
            obtain ⟨bb, q, rfl, hE5, hp, hz, h3, h5, hgr⟩ := hcut
            clear HP1 HZ1 HB1 HK5 HG1 HE2 c3
            go_upto_if 72 with fail
            go_cut [] (fun wx => ElemCut w s g k3 k5 za zb (rangeB (onlyB za) (onlyB zb)) (elemP (bs s) p) wx)
            case first =>
              cases bb with
              | false =>
                have HE5 := Lib.hid hE5
                have HPX := Lib.hid (show _ ∧ _ ∧ _ ∧ _ ∧ _ from ⟨hp, hz, h3, h5, hgr⟩)
                clear hE5 hp hz h3 h5 hgr
                go_wp2_with fail
                go_meet
                exact ⟨q, HE5.out, HPX.out⟩
              | true =>
                have HE5 := Lib.hid hE5
                have HFL := Lib.hid (failC g s q 80 wc hp)
                have HZ3 := Lib.hid hz
                have HB3 := Lib.hid h3
                have HK3 := Lib.hid h5
                have HG3' := Lib.hid hgr
                clear hp hz h3 h5 hgr hE5
                go_wp2_with fail
                refine (HFL.out).mono ?_; rintro e Y ⟨rfl, hp, hg2⟩
                have hz := (hg2.block w.heap.size (lt_of_block HZ3.out) (by intro h; injection h with h; omega)).trans HZ3.out
                have h3 := (hg2.block k3 (lt_of_block HB3.out) (by intro h; injection h with h; omega)).trans HB3.out
                have h5 := (hg2.block k5 (lt_of_block HK3.out) (by intro h; injection h with h; omega)).trans HK3.out
                have hgr := World.grownBy.trans HG3'.out hg2
                have HPX := Lib.hid (show _ ∧ _ ∧ _ ∧ _ ∧ _ from ⟨hp, hz, h3, h5, hgr⟩)
                clear hg2 HZ3 HB3 HK3 HG3' hp hz h3 h5 hgr
                go_wp2_with fail
                go_meet
                exact ⟨_, HE5.out, HPX.out⟩
            case rest =>
              obtain ⟨q, hE6, hp, hz, h3, h5, hgr⟩ := hcut
              have HE2 := Lib.hid hE6
              clear hE6 hE5
              generalize wc = Y at *
              have O3 := Lib.hid (fun W => onlyC za W)
              have O5 := Lib.hid (fun W => onlyC zb W)
              have hl3 := onlyB_lt za
              have hl5 := onlyB_lt zb
              have hR := fun W => rangeC (onlyB za) (onlyB zb) (by omega) hl5 W
              obtain ⟨m0, m1, m2, m3, _, _, _, _⟩ := setC_cells h3
              obtain ⟨t0, t1, t2, t3, _, _, _, _⟩ := setC_cells h5
              have HP4 := Lib.hid hp
              have HZ4 := Lib.hid hz
              have HG4 := Lib.hid hgr
              clear hp hz h3 h5 hgr
              go_upto_region 11 with fail
              generalize onlyB za = o3 at *
              generalize onlyB zb = o5 at *
              generalize rangeB o3 o5 = zr at *
              unfold setA ValOld at O3 O5 hR
              have HR5 := Lib.hid hR
              clear hR
              refine wp_region_steps2 (by kernel_rfl) (by kernel_rfl) (EM w Y s g k3 k5 q za zb zr o3 o5 (.pointer (some ⟨g, 0, none⟩)) (.bool true) (.bool two) u7 u8 u9 u10 u11 u12 u13 u14 u15 u16 u17 u18 u19 u20 u21 u22 u23 u24 u25 u26 u27 u28 u29 u30 u31 u32 u33 u34 u35 u36 u37 u38 u39 u40 u41 u42 u43 u44 u45 u46 u47 u48 u49 u50 u51 u52 u53 u54 u55 u56 u57 u58 u59 u60 u61 u62 u63 u64 u65 u66 u67 u68 u69 u70 u71 u72 u73 u74 u75 u76 u77 u78 u79) ?_ ?_ ⟨?_, ?_, ?_, ?_, ?_, ?_, trivial⟩
              · exact ⟨false, false, false, false, false, false, 0, undef, rfl, rfl, ⟨fun _ => (Old.refl Y).drew, (fun h => by cases h)⟩⟩
              · rintro a w1 ⟨b0, b1, b2, b3, b4, b5, dummy, nov, hl, rfl, hF⟩
                have hl' := congrArg Array.toList hl
                simp at hl'
                obtain ⟨rfl, rfl, rfl, rfl, rfl, rfl⟩ := hl'
                clear hl
                have hfin := hF.fin rfl
                obtain ⟨v0, v1, v2, v3, _, _, _, _⟩ := setC_cells hfin.1
                have HFIN := Lib.hid hfin
                clear hF hfin m0 m1 m2 m3 t0 t1 t2 t3
                go_wp2_with fail
                refine bodyPost_ret (v := setA zr) (by simp [results, Try.results98, go_sem, v0, v1, v2, v3, setA]) rfl ?_
                rw [HE2.out]
                exact ⟨rfl, HFIN.out.2.1, HFIN.out.2.2⟩
              · intro listed a w1 K hs hcl hf hall hI hK
                obtain ⟨b0, b1, b2, b3, b4, b5, dummy, nov, rfl, rfl, hF⟩ := hI
                have hf' : b0 = false := hf
                subst hf'
                have hb1 : b1 = false := by
                  cases b1
                  · rfl
                  · exact absurd (show false = true from hcl 1 _ rfl rfl ⟨0, .data⟩ (by first | exact .head _ | simp) rfl) (by decide)
                subst hb1
                have hb5 : b5 = false := by
                  cases b5
                  · rfl
                  · exact absurd (show false = true from hcl 5 _ rfl rfl ⟨0, .phase⟩ (by first | exact .head _ | simp) rfl) (by decide)
                subst hb5
                have hb3 : b3 = false := by
                  cases b3
                  · rfl
                  · exact absurd (show false = true from hcl 3 _ rfl rfl ⟨1, .chain⟩ (by first | exact .head _ | simp) rfl) (by decide)
                subst hb3
                have hb4 : b4 = false := by
                  cases b4
                  · rfl
                  · exact absurd (show false = true from hcl 4 _ rfl rfl ⟨1, .data⟩ (by first | exact .head _ | simp) rfl) (by decide)
                subst hb4
                clear hall hcl hs hf
                have q0 := (hF.old rfl).cell m0
                have q1 := (hF.old rfl).cell m1
                have q2 := (hF.old rfl).cell m2
                have q3 := (hF.old rfl).cell m3
                go_simp
                exact hK _ _ ⟨true, false, b2, false, false, false, dummy, nov, rfl, rfl, hF⟩
              · intro listed a w1 K hs hcl hf hall hI hK
                obtain ⟨b0, b1, b2, b3, b4, b5, dummy, nov, rfl, rfl, hF⟩ := hI
                have hf' : b1 = false := hf
                subst hf'
                have hq0 : b0 = true := hall ⟨0, .data⟩ (by first | exact .head _ | simp) rfl
                subst hq0
                have hb3 : b3 = false := by
                  cases b3
                  · rfl
                  · exact absurd (show false = true from hcl 3 _ rfl rfl ⟨1, .chain⟩ (by first | exact .head _ | simp) rfl) (by decide)
                subst hb3
                have hb4 : b4 = false := by
                  cases b4
                  · rfl
                  · exact absurd (show false = true from hcl 4 _ rfl rfl ⟨1, .data⟩ (by first | exact .head _ | simp) rfl) (by decide)
                subst hb4
                have hb5 : b5 = false := by
                  cases b5
                  · rfl
                  · exact absurd (show false = true from hcl 5 _ rfl rfl ⟨1, .phase⟩ (by first | exact .head _ | simp) rfl) (by decide)
                subst hb5
                clear hall hcl hs hf
                have hc := O3.out w1
                go_simp
                refine hc.mono ?_
                rintro e w2 ⟨rfl, o2⟩
                exact hK _ _ ⟨true, true, b2, false, false, false, dummy, nov, rfl, rfl, hF.call o2⟩
              · intro listed a w1 K hs hcl hf hall hI hK
                obtain ⟨b0, b1, b2, b3, b4, b5, dummy, nov, rfl, rfl, hF⟩ := hI
                have hf' : b2 = false := hf
                subst hf'
                have hb3 : b3 = false := by
                  cases b3
                  · rfl
                  · exact absurd (show false = true from hcl 3 _ rfl rfl ⟨2, .data⟩ (by first | exact .head _ | simp) rfl) (by decide)
                subst hb3
                have hb5 : b5 = false := by
                  cases b5
                  · rfl
                  · exact absurd (show false = true from hcl 5 _ rfl rfl ⟨2, .phase⟩ (by first | exact .head _ | simp) rfl) (by decide)
                subst hb5
                have hb4 : b4 = false := by
                  cases b4
                  · rfl
                  · exact absurd (show false = true from hcl 4 _ rfl rfl ⟨3, .data⟩ (by first | exact .head _ | simp) rfl) (by decide)
                subst hb4
                clear hall hcl hs hf
                have q0 := (hF.old rfl).cell t0
                have q1 := (hF.old rfl).cell t1
                have q2 := (hF.old rfl).cell t2
                have q3 := (hF.old rfl).cell t3
                go_simp
                exact hK _ _ ⟨b0, b1, true, false, false, false, dummy, nov, rfl, rfl, hF⟩
              · intro listed a w1 K hs hcl hf hall hI hK
                obtain ⟨b0, b1, b2, b3, b4, b5, dummy, nov, rfl, rfl, hF⟩ := hI
                have hf' : b3 = false := hf
                subst hf'
                have hq2 : b2 = true := hall ⟨2, .data⟩ (by first | exact .head _ | simp) rfl
                subst hq2
                have hq1 : b1 = true := hall ⟨1, .chain⟩ (by first | exact .head _ | simp) rfl
                subst hq1
                have hq0 : b0 = true := hcl 1 _ rfl rfl ⟨0, .data⟩ (by first | exact .head _ | simp) rfl
                subst hq0
                have hb4 : b4 = false := by
                  cases b4
                  · rfl
                  · exact absurd (show false = true from hcl 4 _ rfl rfl ⟨3, .data⟩ (by first | exact .head _ | simp) rfl) (by decide)
                subst hb4
                have hb5 : b5 = false := by
                  cases b5
                  · rfl
                  · exact absurd (show false = true from hcl 5 _ rfl rfl ⟨3, .phase⟩ (by first | exact .head _ | simp) rfl) (by decide)
                subst hb5
                clear hall hcl hs hf
                have hc := O5.out w1
                go_simp
                refine hc.mono ?_
                rintro e w2 ⟨rfl, o2⟩
                exact hK _ _ ⟨true, true, true, true, false, false, dummy, nov, rfl, rfl, hF.call o2⟩
              · intro listed a w1 K hs hcl hf hall hI hK
                obtain ⟨b0, b1, b2, b3, b4, b5, dummy, nov, rfl, rfl, hF⟩ := hI
                have hf' : b4 = false := hf
                subst hf'
                have hq1 : b1 = true := hall ⟨1, .data⟩ (by first | exact .head _ | simp) rfl
                subst hq1
                have hq3 : b3 = true := hall ⟨3, .data⟩ (by first | exact .head _ | simp) rfl
                subst hq3
                have hq0 : b0 = true := hcl 1 _ rfl rfl ⟨0, .data⟩ (by first | exact .head _ | simp) rfl
                subst hq0
                have hq2 : b2 = true := hcl 3 _ rfl rfl ⟨2, .data⟩ (by first | exact .head _ | simp) rfl
                subst hq2
                have hb5 : b5 = false := by
                  cases b5
                  · rfl
                  · exact absurd (show false = true from hcl 5 _ rfl rfl ⟨4, .data⟩ (by first | exact .head _ | simp) rfl) (by decide)
                subst hb5
                clear hall hcl hs hf
                have hc := HR5.out w1
                go_simp
                refine hc.mono ?_
                rintro e w2 ⟨rfl, o2⟩
                exact hK _ _ ⟨true, true, true, true, true, false, dummy, nov, rfl, rfl, hF.call o2⟩
              · intro listed a w1 K hs hcl hf hall hI hK
                obtain ⟨b0, b1, b2, b3, b4, b5, dummy, nov, rfl, rfl, hF⟩ := hI
                have hf' : b5 = false := hf
                subst hf'
                have hq4 : b4 = true := hall ⟨4, .data⟩ (by first | exact .head _ | simp) rfl
                subst hq4
                have hq0 : b0 = true := hall ⟨0, .phase⟩ (by first | exact .head _ | simp) rfl
                subst hq0
                have hq1 : b1 = true := hall ⟨1, .phase⟩ (by first | exact .head _ | simp) rfl
                subst hq1
                have hq2 : b2 = true := hall ⟨2, .phase⟩ (by first | exact .head _ | simp) rfl
                subst hq2
                have hq3 : b3 = true := hall ⟨3, .phase⟩ (by first | exact .head _ | simp) rfl
                subst hq3
                clear hall hcl hs hf
                have oY := hF.old rfl
                have hzz := oY.block HZ4.out
                have hpp := oY.block HP4.out
                have hgg := grown_old_ HG4.out oY
                obtain ⟨r0, r1, r2, r3, y0, y1, y2, y3⟩ := setC_cells hzz
                have HF2 : Hid (ER w Y s g q zr true ((((w1.setCell ⟨w.heap.size, 0, none⟩ (.int .u64 (setW zr 0))).setCell ⟨w.heap.size, 1, none⟩ (.int .u64 (setW zr 1))).setCell ⟨w.heap.size, 2, none⟩ (.int .u64 (setW zr 2))).setCell ⟨w.heap.size, 3, none⟩ (.int .u64 (setW zr 3)))) := ⟨(fun h => by cases h), fun _ => ⟨setC_store hzz zr, (set4_other w1 w.heap.size g _ _ _ _ (by omega)).trans hpp, grown_new4 hgg zr⟩⟩
                clear oY hzz hpp hgg
                go_simp
                exact hK _ _ ⟨true, true, true, true, true, true, dummy, nov, rfl, rfl, HF2.out⟩
    · have b1 : ((s[a].toNat : Int) != 45) = true := by simp; omega
      have hE2 : elemP (bs s) p = (za, ⟨a, d, 0⟩) := HEl.out.trans (if_neg (fun h => hc (hbb.symm.trans h.2)))
      have HE2 := Lib.hid hE2
      clear hE2 hM hc hbb hm HEl
      obtain ⟨c0, c1, c2, c3, f1, f2, f3⟩ := PzC_cells HP1.out
      simp only at c0 c1 c2 c3
      clear c2 c3 f1 f2 f3
      go_quiet ((go_at_call 76; exact Calls.quiet_of (HM.out _)))
      have hp : (W.drewN nq).heap[g]? = some (PzC s ⟨a, d, 0⟩) := HP1.out
      have hz : (W.drewN nq).heap[w.heap.size]? = some (setC 0) := HZ1.out
      have h3 : (W.drewN nq).heap[k3]? = some (setC za) := HK3.out
      have hgr : w.grownBy (W.drewN nq) (some g) := grown_drewN HG1.out nq
      generalize W.drewN nq = Y at *
      clear c0 c1
      obtain ⟨d0, d1, d2, d3, _, _, _, _⟩ := setC_cells h3
      obtain ⟨r0, r1, r2, r3, y0, y1, y2, y3⟩ := setC_cells hz
      have q2 := setC_store hz za
      obtain ⟨v0, v1, v2, v3, _, _, _, _⟩ := setC_cells q2
      have HP3 := Lib.hid ((set4_other Y w.heap.size g (.int .u64 (setW za 0)) (.int .u64 (setW za 1)) (.int .u64 (setW za 2)) (.int .u64 (setW za 3)) (by omega)).trans hp)
      have HG3 := Lib.hid (grown_new4 hgr za)
      clear q2 hz hgr hp h3
      go_wp2_with fail
      refine bodyPost_ret (v := setA za) (by simp [results, Try.results98, go_sem, v0, v1, v2, v3, setA]) rfl ?_
      rw [HE2.out]
      exact ⟨rfl, HP3.out, HG3.out⟩
  · have hE2 : elemP (bs s) p = (za, ⟨a, d, e⟩) := HEl.out.trans (if_neg (fun h => hm h.1))
    have hm2 : moreP (bs s) ⟨a, d, e⟩ = false := by simpa using hm
    rw [hm2] at hM
    have HM := Lib.hid hM
    have HE2 := Lib.hid hE2
    clear hE2 hM hm hm2 HEl
    go_quiet ((go_at_call 76; exact Calls.quiet_of (HM.out _)))
    have hp : (W.drewN nq).heap[g]? = some (PzC s ⟨a, d, e⟩) := HP1.out
    have hz : (W.drewN nq).heap[w.heap.size]? = some (setC 0) := HZ1.out
    have h3 : (W.drewN nq).heap[k3]? = some (setC za) := HK3.out
    have hgr : w.grownBy (W.drewN nq) (some g) := grown_drewN HG1.out nq
    generalize W.drewN nq = Y at *
    obtain ⟨d0, d1, d2, d3, _, _, _, _⟩ := setC_cells h3
    obtain ⟨r0, r1, r2, r3, y0, y1, y2, y3⟩ := setC_cells hz
    have q2 := setC_store hz za
    obtain ⟨v0, v1, v2, v3, _, _, _, _⟩ := setC_cells q2
    have HP3 := Lib.hid ((set4_other Y w.heap.size g (.int .u64 (setW za 0)) (.int .u64 (setW za 1)) (.int .u64 (setW za 2)) (.int .u64 (setW za 3)) (by omega)).trans hp)
    have HG3 := Lib.hid (grown_new4 hgr za)
    clear q2 hz hgr hp h3
    go_wp2_with fail
    refine bodyPost_ret (v := setA za) (by simp [results, Try.results98, go_sem, v0, v1, v2, v3, setA]) rfl ?_
    rw [HE2.out]
    exact ⟨rfl, HP3.out, HG3.out⟩
end Go.Proofs.Ythadkjgadhbidaa
