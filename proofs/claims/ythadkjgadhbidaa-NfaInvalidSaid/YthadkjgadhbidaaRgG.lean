/-
  The walks of the program's reader of patterns: class.
-/
import Derived.Test.YthadkjgadhbidaaRgF
namespace Go.Proofs.Ythadkjgadhbidaa
open Go.RowKit
set_option linter.unusedVariables false

/-- The reader, the block for the result, and another block of the call's own. -/
structure R2 (w0 wb w : World) (B g : Nat) (s : ByteArray) (a d : Nat) (lv : Value) (N : List Nd) (k k4 : Nat) (z : BSet) : Prop where
  rk : RK w0 wb w B g s a d lv N k 0
  n4 : k4 ≠ g
  nk : k4 ≠ k
  l4 : some k4 ≠ lv.ownBlock
  w4 : w0.heap.size ≤ k4
  b4 : wb.heap.size ≤ k4
  blk4 : w.heap[k4]? = some (setC z)
theorem R2.start {w0 w : World} {B g : Nat} {s : ByteArray} {a d : Nat} {lv : Value} {N : List Nd} (h : RP w0 w B g s a d lv N) : R2 w0 w ((w.alloc (.cells #[.int .u64 0, .int .u64 0, .int .u64 0, .int .u64 0] 40)).alloc (.cells #[.int .u64 0, .int .u64 0, .int .u64 0, .int .u64 0] 40)) B g s a d lv N w.heap.size (w.heap.size + 1) 0 := by
  have h1 := RK.start h
  have e : (w.alloc (.cells #[.int .u64 0, .int .u64 0, .int .u64 0, .int .u64 0] 40)).heap.size = w.heap.size + 1 := by simp
  refine ⟨h1.up ((Old.refl _).alloc _), fun e' => absurd (lt_of_block h.blk) (by omega), by omega, fun e' => absurd (World.ownsRow.lt h.own _ e'.symm).2 (by omega), by have := h.old.size; omega, by omega, ?_⟩
  rw [← e]
  exact heap_alloc_new _ _
theorem R2.up {w0 wb w w' : World} {B g : Nat} {s : ByteArray} {a d : Nat} {lv : Value} {N : List Nd} {k k4 : Nat} {z : BSet} (h : R2 w0 wb w B g s a d lv N k k4 z) (ho : Old w w') : R2 w0 wb w' B g s a d lv N k k4 z := ⟨h.rk.up ho, h.n4, h.nk, h.l4, h.w4, h.b4, ho.block h.blk4⟩
theorem R2.plus {w0 wb w : World} {B g : Nat} {s : ByteArray} {a d : Nat} {lv : Value} {N : List Nd} {k k4 : Nat} {z : BSet} (h : R2 w0 wb w B g s a d lv N k k4 z) (m : Nat) : R2 w0 wb (w.setCell ⟨g, 1, none⟩ (.int .i64 ((a : Int) + (m : Int)))) B g s (a + m) d lv N k k4 z :=
  ⟨h.rk.plus m, h.n4, h.nk, h.l4, h.w4, h.b4, (heap_setCell_other w ⟨g, 1, none⟩ k4 _ h.n4).trans h.blk4⟩
theorem R2.call {w0 wb w w' : World} {B g : Nat} {s : ByteArray} {a a' d : Nat} {lv : Value} {N : List Nd} {k k4 : Nat} {z : BSet} (h : R2 w0 wb w B g s a d lv N k k4 z) (hr : RP w0 w' B g s a' d lv N ∧ w.heap.size ≤ w'.heap.size ∧ ∀ j, j < w.heap.size → j ≠ g → w'.heap[j]? = w.heap[j]?) : R2 w0 wb w' B g s a' d lv N k k4 z :=
  ⟨h.rk.call hr, h.n4, h.nk, h.l4, h.w4, h.b4, (hr.2.2 k4 (lt_of_block h.blk4) h.n4).trans h.blk4⟩
theorem R2.put {w0 wb w : World} {B g : Nat} {s : ByteArray} {a d : Nat} {lv : Value} {N : List Nd} {k k4 : Nat} {z : BSet} (h : R2 w0 wb w B g s a d lv N k k4 z) (t : BSet) :
    R2 w0 wb ((((w.setCell ⟨k4, 0, none⟩ (.int .u64 (setW t 0))).setCell ⟨k4, 1, none⟩ (.int .u64 (setW t 1))).setCell ⟨k4, 2, none⟩ (.int .u64 (setW t 2))).setCell ⟨k4, 3, none⟩ (.int .u64 (setW t 3))) B g s a d lv N k k4 t :=
  ⟨⟨(((h.rk.rp.far h.n4 h.l4 h.w4 0 _).far h.n4 h.l4 h.w4 1 _).far h.n4 h.l4 h.w4 2 _).far h.n4 h.l4 h.w4 3 _, h.rk.ng, h.rk.nl, h.rk.k0, (set4_other w k4 k _ _ _ _ (Ne.symm h.nk)).trans h.rk.blk, h.rk.kb,
    fun j hj hg => (set4_other w k4 j _ _ _ _ (fun e => by have := h.b4; omega)).trans (h.rk.kp j hj hg), by simpa using h.rk.sz⟩, h.n4, h.nk, h.l4, h.w4, h.b4, setC_store h.blk4 t⟩
structure CPost2 (w0 wb : World) (B g : Nat) (s : ByteArray) (d : Nat) (lv : Value) (N : List Nd) (R : BSet × Ps) (e : Ending) (w' : World) : Prop where
  ok : R.2.e = 0 → e = .returned (.tuple #[setA R.1, .int .i64 0]) ∧ RP w0 w' B g s R.2.at_ d lv N ∧ wb.heap.size ≤ w'.heap.size ∧ ∀ j, j < wb.heap.size → j ≠ g → w'.heap[j]? = wb.heap[j]?
  no : R.2.e ≠ 0 → ∃ z, e = .returned (.tuple #[setA z, .int .i64 R.2.e]) ∧ Old w0 w' ∧ wb.heap.size ≤ w'.heap.size ∧ ∀ j, j < wb.heap.size → j ≠ g → w'.heap[j]? = wb.heap[j]?
theorem classLoop_bad {B : List Nat} {neg : Bool} {f : Nat} {b : Bool} {z : BSet} {q : Ps} {R : BSet × Ps} (h : classLoop B neg f b z q = some R) (he : q.e ≠ 0) : R.2.e = q.e := by
  cases f with
  | zero => simp [classLoop] at h
  | succ f =>
    rw [classLoop, if_neg (fun h => he ((moreP_iff _ _).1 h).1)] at h
    injection h with h
    subst h
    unfold failP
    rw [if_neg he]
/-- At a mark that ends an element, there is none. -/
theorem elem_mark {B : List Nat} {a dp : Nat} (h : B.getD a 0 = 93 ∨ B.getD a 0 = 45) : (singleP B ⟨a, dp, 0⟩).2.e = 80 ∧ (elemP B ⟨a, dp, 0⟩).2.e = 80 := by
  have h1 : singleP B ⟨a, dp, 0⟩ = ((0, false), ⟨a + 1, dp, 80⟩) := by
    unfold singleP bAt
    rw [if_neg (by show ¬ B.getD a 0 = 92; omega), if_pos (by show B.getD a 0 = 94 ∨ B.getD a 0 = 45 ∨ B.getD a 0 = 93; omega)]
    rfl
  refine ⟨by rw [h1], ?_⟩
  unfold elemP
  rw [h1]
  simp only
  rw [if_neg (fun h => absurd ((moreP_iff _ _).1 h.1).1 (show ¬ (80 : Int) = 0 by decide))]
def ClRel (w0 w : World) (B g : Nat) (s : ByteArray) (d : Nat) (lv : Value) (N : List Nd) (k2 k4 dp : Nat) (neg : Bool) (R : BSet × Ps) (s6 : Value) (wr : World) : Prop :=
  ∃ (c f aa : Nat) (z : BSet), s6 = .int .i64 c ∧ c ≤ aa ∧ aa ≤ s.size ∧ Hid (R2 w0 w wr B g s aa d lv N k2 k4 z) ∧
    Hid (classLoop (bs s) neg f (decide (c = 0)) z ⟨aa, dp, 0⟩ = some R ∨ (0 < c ∧ aa < s.size ∧ (bs s).getD aa 0 = 45 ∧ R.2.e = 80))
set_option maxHeartbeats 8000000 in
set_option maxRecDepth 100000 in
theorem classG (w0 : World) (B g : Nat) (s : ByteArray) (a d : Nat) (lv : Value) (N : List Nd) (w : World) (h : RP w0 w B g s a d lv N) (hs : s.size ≤ 1000000) (ha : a ≤ s.size) (dp f : Nat) (R : BSet × Ps) (hR : classP (bs s) f ⟨a, dp, 0⟩ = some R) :
    Calls Try.prog 100 #[.pointer (some ⟨g, 0, none⟩)] w (CPost2 w0 w B g s d lv N R) := by
  have HR2 := Lib.hid (R2.start h)
  have hen := fun (W : World) (ho : Old w W) (n : Nat) => endedC w0 B g s a d lv N (W.drewN n) ((h.up ho).drewN n) (by omega)
  have HOO := Lib.hid (((Old.refl w).alloc (.cells #[.int .u64 0, .int .u64 0, .int .u64 0, .int .u64 0] 40)).alloc (.cells #[.int .u64 0, .int .u64 0, .int .u64 0, .int .u64 0] 40))
  have i0 : (0 : Int) ≤ (a : Int) := by omega
  clear h
  by_cases hend : a = s.size
  · have HM : Hid (classLoop (bs s) false f true 0 ⟨a, dp, 0⟩ = some R) := Lib.hid (by
      unfold classP at hR
      rw [if_neg (fun h => by have h2 := ((moreP_iff _ _).1 h.1).2; rw [bs_length] at h2; simp only at h2; omega)] at hR
      exact hR)
    rw [decide_eq_true hend] at hen
    have HEN := Lib.hid hen
    clear hen hend hR
    go_enter Try.func100, Try.ntmps100
    go_upto_region 2 with fail
    generalize (w.alloc (.cells #[.int .u64 0, .int .u64 0, .int .u64 0, .int .u64 0] 40)).alloc (.cells #[.int .u64 0, .int .u64 0, .int .u64 0, .int .u64 0] 40) = W1 at *
    generalize hk2 : w.heap.size = k2 at *
    obtain ⟨k4, hk4⟩ : ∃ k4, k2 + 1 = k4 := ⟨_, rfl⟩
    rw [hk4] at HR2
    try rw [hk4]
    clear hk2
    go_wp2_with fail
    go_quiet ((go_at_call 79; exact Calls.quiet_of (HEN.out _ HOO.out _)))
    have HRQ := Lib.hid (HR2.out.up ((Old.refl _).drewN nq))
    generalize W1.drewN nq = W2 at *
    clear HR2
    have HR2 := Lib.hid HRQ.out
    clear HRQ
    clear HEN HOO
    go_wp2_with fail
    go_loopw [6] (fun s6 wr => ClRel w0 w B g s d lv N k2 k4 dp false R s6 wr) (fun s6 _ => s.size + 1 - (intOf s6).toNat)
    case atStart => exact ⟨0, _, a, 0, rfl, Nat.zero_le _, by omega, HR2, Lib.hid (Or.inl HM.out)⟩
    case round =>
      clear HM HR2
      obtain ⟨c, f, aa, z, rfl, hc, haa, HR2, HM⟩ := hrel
      have hen := endedC w0 B g s aa d lv N wr HR2.out.rk.rp (by omega)
      by_cases hend : aa = s.size
      · have HE : Hid (R.2.e = 80) := Lib.hid (by
          rcases HM.out with h | h
          · cases f with
            | zero => simp [classLoop] at h
            | succ f =>
              rw [classLoop, if_neg (fun h => by have h2 := ((moreP_iff _ _).1 h).2; rw [bs_length] at h2; simp only at h2; omega)] at h
              injection h with h
              rw [← h]
              rfl
          · omega)
        rw [decide_eq_true hend] at hen
        have HEN := Lib.hid hen
        clear hen hend
        go_wp2_with fail
        refine (HEN.out).mono ?_; rintro e W5 ⟨rfl, n5, rfl⟩
        have HK := Lib.hid (HR2.out.rk.up ((Old.refl wr).drewN n5))
        generalize wr.drewN n5 = W6 at *
        clear HR2 HEN
        obtain ⟨z0, z1, z2, z3, y0, y1, y2, y3⟩ := setC_cells HK.out.blk
        have HF := Lib.hid HK.out.put0
        obtain ⟨v0, v1, v2, v3, _, _, _, _⟩ := setC_cells HF.out.blk
        go_wp2_with fail
        refine bodyPost_ret (v := .tuple #[setA 0, .int .i64 80]) (by simp [results, Try.results100, go_sem, v0, v1, v2, v3, setA]) rfl ?_
        exact ⟨fun e => absurd (HE.out.symm.trans e) (by decide), fun _ => ⟨0, by rw [HE.out], HF.out.fin0⟩⟩
      · have hlt : aa < s.size := by omega
        have hbb : (bs s).getD aa 0 = s[aa].toNat := bs_get s aa hlt
        have i3 : (0 : Int) ≤ (aa : Int) := by omega
        have i4 : (aa : Int) < (s.size : Int) := by omega
        rw [decide_eq_false hend] at hen
        have HEN := Lib.hid hen
        have HBB := Lib.hid hbb
        clear hen hend hbb
        go_wp2_with fail
        refine (HEN.out).mono ?_; rintro e W5 ⟨rfl, n5, rfl⟩
        have ho5 := (Old.refl wr).drewN n5
        generalize wr.drewN n5 = W6 at *
        have HRQ := Lib.hid (HR2.out.up ho5)
        clear HR2 ho5
        have HR2 := Lib.hid HRQ.out
        clear HRQ
        clear HEN
        by_cases h93 : s[aa].toNat = 93 ∧ 0 < c
        · have e1 : (((s[aa].toNat : Nat) : Int) == 93) = true := by simp; omega
          have e2 : decide ((0 : Int) < (c : Int)) = true := decide_eq_true (by omega)
          have e3 : 0 < c := h93.2
          have e4 : decide (0 < c) = true := decide_eq_true h93.2
          have HE : Hid (R = (if false = true then notB z else z, ⟨aa + 1, dp, 0⟩)) := Lib.hid (by
            rcases HM.out with h | h
            · cases f with
              | zero => simp [classLoop] at h
              | succ f =>
                rw [classLoop, if_pos ((moreP_iff _ _).2 ⟨rfl, by rw [bs_length]; exact hlt⟩), if_pos (show bAt (bs s) ⟨aa, dp, 0⟩ = 93 from HBB.out.trans h93.1), if_neg (show ¬ decide (c = 0) = true by simp; omega)] at h
                injection h with h
                exact h.symm
            · have := HBB.out; omega)
          clear h93 HM
          obtain ⟨c0, c1, c2, c3, f1, f2, f3⟩ := HR2.out.rk.rp.cells
          clear c2 c3 f2 f3
          go_wp2_with fail
          go_quiet (fail)
          have HRQ := Lib.hid (HR2.out.up ((Old.refl _).drewN nq))
          generalize W6.drewN nq = W7 at *
          clear HR2
          have HR2 := Lib.hid HRQ.out
          clear HRQ
          clear c0 c1 f1 e1
          obtain ⟨c0, c1, c2, c3, f1, f2, f3⟩ := HR2.out.rk.rp.cells
          clear c2 c3 f2 f3
          clear c0
          have HRP := Lib.hid (HR2.out.plus 1)
          clear HR2
          go_upto_region 10 with fail
          have HR2 : Hid (R2 w0 w (W7.setCell ⟨g, 1, none⟩ (.int .i64 ((aa : Int) + 1))) B g s (aa + 1) d lv N k2 k4 z) := Lib.hid HRP.out
          clear HRP c1 f1
          generalize W7.setCell ⟨g, 1, none⟩ (.int .i64 ((aa : Int) + 1)) = W8 at *
          obtain ⟨t0, t1, t2, t3, r0, r1, r2, r3⟩ := setC_cells HR2.out.blk4
          have HK := Lib.hid HR2.out.rk
          obtain ⟨z0, z1, z2, z3, y0, y1, y2, y3⟩ := setC_cells HK.out.blk
          have HF := Lib.hid (HK.out.put z)
          obtain ⟨v0, v1, v2, v3, _, _, _, _⟩ := setC_cells HF.out.blk
          try unfold setA
          go_wp2_with fail
          refine bodyPost_ret (v := .tuple #[setA z, .int .i64 0]) (by simp [results, Try.results100, go_sem, v0, v1, v2, v3, setA]) rfl ?_
          rw [HE.out]
          exact ⟨fun _ => ⟨rfl, HF.out.fin⟩, fun e => absurd rfl e⟩
        · have HEL := Lib.hid (fun (W : World) (hr : RP w0 W B g s aa d lv N) => elementG w0 B g s aa d lv N W hr hs hlt dp)
          have hbd := elemP_bd (bs s) ⟨aa, dp, 0⟩ (by rw [bs_length]; exact hlt)
          rw [bs_length] at hbd
          have hmk : s[aa].toNat = 93 ∨ s[aa].toNat = 45 → (singleP (bs s) ⟨aa, dp, 0⟩).2.e = 80 ∧ (elemP (bs s) ⟨aa, dp, 0⟩).2.e = 80 := fun h => elem_mark (by rw [HBB.out]; exact h)
          have hmo : moreP (bs s) ⟨aa, dp, 0⟩ = true := (moreP_iff _ _).2 ⟨rfl, by rw [bs_length]; exact hlt⟩
          have HSTEP : Hid ((elemP (bs s) ⟨aa, dp, 0⟩).2.e = 0 → ∃ f', classLoop (bs s) false f' false (z ||| (elemP (bs s) ⟨aa, dp, 0⟩).1) (elemP (bs s) ⟨aa, dp, 0⟩).2 = some R) := Lib.hid (fun he0 => by
            have hn93 : ¬ (s[aa].toNat = 93 ∨ s[aa].toNat = 45) := fun h => by have := (hmk h).2; omega
            rcases HM.out with h | h
            · cases f with
              | zero => simp [classLoop] at h
              | succ f =>
                rw [classLoop, if_pos hmo, if_neg (show ¬ bAt (bs s) ⟨aa, dp, 0⟩ = 93 from fun e => hn93 (Or.inl (HBB.out.symm.trans e)))] at h
                exact ⟨f, h⟩
            · exact absurd (Or.inr (HBB.out.symm.trans h.2.2.1)) hn93)
          have HBAD : Hid ((elemP (bs s) ⟨aa, dp, 0⟩).2.e ≠ 0 → R.2.e = (elemP (bs s) ⟨aa, dp, 0⟩).2.e) := Lib.hid (fun he0 => by
            rcases HM.out with h | h
            · cases f with
              | zero => simp [classLoop] at h
              | succ f =>
                by_cases e93 : s[aa].toNat = 93
                · have hc0 : decide (c = 0) = true := decide_eq_true (by omega)
                  rw [classLoop, if_pos hmo, if_pos (show bAt (bs s) ⟨aa, dp, 0⟩ = 93 from HBB.out.trans e93), hc0] at h
                  injection h with h
                  rw [← h, (hmk (Or.inl e93)).2]
                  rfl
                · rw [classLoop, if_pos hmo, if_neg (show ¬ bAt (bs s) ⟨aa, dp, 0⟩ = 93 from fun e => e93 (HBB.out.symm.trans e))] at h
                  exact classLoop_bad h he0
            · rw [h.2.2.2, (hmk (Or.inr (HBB.out.symm.trans h.2.2.1))).2])
          have HSE : Hid (s[aa].toNat = 93 → (elemP (bs s) ⟨aa, dp, 0⟩).2.e = 80 ∧ (singleP (bs s) ⟨aa, dp, 0⟩).2.e = 80) := Lib.hid (fun h => ⟨(hmk (Or.inl h)).2, (hmk (Or.inl h)).1⟩)
          clear HM hmk hmo
          generalize singleP (bs s) ⟨aa, dp, 0⟩ = SS at *
          generalize elemP (bs s) ⟨aa, dp, 0⟩ = E at *
          obtain ⟨ze, ⟨a2, d2, e2⟩⟩ := E
          obtain ⟨q1, q2, q3⟩ : a2 ≤ s.size ∧ aa < a2 ∧ d2 = dp := hbd
          subst q3
          by_cases hb93 : s[aa].toNat = 93
          · have he2 : e2 ≠ 0 := fun h => by have := (HSE.out hb93).1; simp only at this; omega
            have g1 : (((s[aa].toNat : Nat) : Int) == 93) = true := by simp; omega
            obtain rfl : c = 0 := by omega
            clear h93 hb93 HSE
            obtain ⟨c0, c1, c2, c3, f1, f2, f3⟩ := HR2.out.rk.rp.cells
            clear c2 c3 f2 f3
            go_wp2_with fail
            go_quiet (fail)
            have HRQ := Lib.hid (HR2.out.up ((Old.refl _).drewN nq))
            generalize W6.drewN nq = W5 at *
            clear HR2
            have HR2 := Lib.hid HRQ.out
            clear HRQ
            clear c0 c1 f1 g1
            have hre := HBAD.out he2
            have HRE := Lib.hid hre
            have HE2 := Lib.hid ((HEL.out W5 HR2.out.rk.rp).mono fun e w' h => h.no he2)
            clear HEL HSTEP HBAD hre
            go_wp2_with fail
            refine HE2.out.mono ?_
            rintro e W9 (⟨ze2, rfl, hr⟩ | ⟨h80, hse, ze2, a3, rfl, hr, h1, h2, h3⟩)
            · have HK := Lib.hid (HR2.out.rk.bad hr)
              have hne : (e2 != 0) = true := by simpa using he2
              clear hr HE2 HR2
              unfold setA
              go_upto_region 14 with fail
              have ho7 := (Old.refl W9).alloc (.cells #[.int .u64 (setW ze2 0), .int .u64 (setW ze2 1), .int .u64 (setW ze2 2), .int .u64 (setW ze2 3)] 40)
              generalize W9.alloc (.cells #[.int .u64 (setW ze2 0), .int .u64 (setW ze2 1), .int .u64 (setW ze2 2), .int .u64 (setW ze2 3)] 40) = W7 at *
              have HK7 := Lib.hid (HK.out.up ho7)
              clear HK ho7
              have HK := Lib.hid HK7.out
              clear HK7
              obtain ⟨z0, z1, z2, z3, y0, y1, y2, y3⟩ := setC_cells HK.out.blk
              have HF := Lib.hid HK.out.put0
              obtain ⟨v0, v1, v2, v3, _, _, _, _⟩ := setC_cells HF.out.blk
              go_wp2_with fail
              refine bodyPost_ret (v := .tuple #[setA 0, .int .i64 e2]) (by simp [results, Try.results100, go_sem, v0, v1, v2, v3, setA]) rfl ?_
              exact ⟨fun e => absurd (HRE.out.symm.trans e) he2, fun _ => ⟨0, by rw [HRE.out], HF.out.fin0⟩⟩
            · have HRN := Lib.hid (HR2.out.call hr)
              have H3 := Lib.hid (show R.2.e = 80 by rw [HRE.out]; exact h80)
              have HB3 := Lib.hid h3
              clear hr HR2 HE2 h3 h80 hse HRE
              have HR2 := Lib.hid HRN.out
              clear HRN he2
              unfold setA
              go_upto_region 14 with fail
              -- the element's set in its box, united with what there was
              have hb7 := heap_alloc_new W9 (.cells #[.int .u64 (setW ze2 0), .int .u64 (setW ze2 1), .int .u64 (setW ze2 2), .int .u64 (setW ze2 3)] 40)
              have ho7 := (Old.refl W9).alloc (.cells #[.int .u64 (setW ze2 0), .int .u64 (setW ze2 1), .int .u64 (setW ze2 2), .int .u64 (setW ze2 3)] 40)
              generalize W9.alloc (.cells #[.int .u64 (setW ze2 0), .int .u64 (setW ze2 1), .int .u64 (setW ze2 2), .int .u64 (setW ze2 3)] 40) = W7 at *
              have HB7 : Hid (W7.heap[W9.heap.size]? = some (setC ze2)) := Lib.hid hb7
              clear hb7
              have HRQ := Lib.hid (HR2.out.up ho7)
              clear HR2 ho7
              have HR2 := Lib.hid HRQ.out
              clear HRQ
              generalize W9.heap.size = k7 at *
              obtain ⟨x0, x1, x2, x3, _, _, _, _⟩ := setC_cells HB7.out
              obtain ⟨t0, t1, t2, t3, _, _, _, _⟩ := setC_cells HR2.out.blk4
              have HUC := Lib.hid (union2C z ze2)
              unfold setA at HUC
              go_wp2_with fail
              refine (HUC.out _).mono ?_; rintro e W8 ⟨rfl, ho8⟩
              clear HB7 HUC x0 x1 x2 x3 t0 t1 t2 t3
              have HRQ := Lib.hid (HR2.out.up ho8)
              clear HR2 ho8
              have HR2 := Lib.hid HRQ.out
              clear HRQ
              obtain ⟨t0, t1, t2, t3, r0, r1, r2, r3⟩ := setC_cells HR2.out.blk4
              have HRN := Lib.hid (HR2.out.put (z ||| ze2))
              clear HR2
              go_wp2_with fail
              go_roundw
              case rel => exact ⟨0 + 1, 0, a3, z ||| ze2, by go_num, by omega, by omega, HRN, Lib.hid (Or.inr ⟨by omega, h2, HB3.out, H3.out⟩)⟩
              case measure => (first | (simp [intOf]; done) | (simp [intOf]; omega))
          · have g1 : (((s[aa].toNat : Nat) : Int) == 93) = false := by simp; omega
            clear h93 hb93 HSE
            obtain ⟨c0, c1, c2, c3, f1, f2, f3⟩ := HR2.out.rk.rp.cells
            clear c2 c3 f2 f3
            go_wp2_with fail
            go_quiet (fail)
            have HRQ := Lib.hid (HR2.out.up ((Old.refl _).drewN nq))
            generalize W6.drewN nq = W5 at *
            clear HR2
            have HR2 := Lib.hid HRQ.out
            clear HRQ
            clear c0 c1 f1 g1
            by_cases he2 : e2 = 0
            · subst he2
              obtain ⟨f', hf'⟩ := HSTEP.out rfl
              have HNX := Lib.hid hf'
              have HE2 := Lib.hid ((HEL.out W5 HR2.out.rk.rp).mono fun e w' h => h.ok rfl)
              clear HEL HSTEP HBAD
              go_wp2_with fail
              refine (HE2.out).mono ?_; rintro e W9 ⟨rfl, hr⟩
              have HRN := Lib.hid (HR2.out.call hr)
              clear hr HR2 HE2
              have HR2 := Lib.hid HRN.out
              clear HRN
              unfold setA
              go_upto_region 14 with fail
              -- the element's set in its box, united with what there was
              have hb7 := heap_alloc_new W9 (.cells #[.int .u64 (setW ze 0), .int .u64 (setW ze 1), .int .u64 (setW ze 2), .int .u64 (setW ze 3)] 40)
              have ho7 := (Old.refl W9).alloc (.cells #[.int .u64 (setW ze 0), .int .u64 (setW ze 1), .int .u64 (setW ze 2), .int .u64 (setW ze 3)] 40)
              generalize W9.alloc (.cells #[.int .u64 (setW ze 0), .int .u64 (setW ze 1), .int .u64 (setW ze 2), .int .u64 (setW ze 3)] 40) = W7 at *
              have HB7 : Hid (W7.heap[W9.heap.size]? = some (setC ze)) := Lib.hid hb7
              clear hb7
              have HRQ := Lib.hid (HR2.out.up ho7)
              clear HR2 ho7
              have HR2 := Lib.hid HRQ.out
              clear HRQ
              generalize W9.heap.size = k7 at *
              obtain ⟨x0, x1, x2, x3, _, _, _, _⟩ := setC_cells HB7.out
              obtain ⟨t0, t1, t2, t3, _, _, _, _⟩ := setC_cells HR2.out.blk4
              have HUC := Lib.hid (union2C z ze)
              unfold setA at HUC
              go_wp2_with fail
              refine (HUC.out _).mono ?_; rintro e W8 ⟨rfl, ho8⟩
              clear HB7 HUC x0 x1 x2 x3 t0 t1 t2 t3
              have HRQ := Lib.hid (HR2.out.up ho8)
              clear HR2 ho8
              have HR2 := Lib.hid HRQ.out
              clear HRQ
              obtain ⟨t0, t1, t2, t3, r0, r1, r2, r3⟩ := setC_cells HR2.out.blk4
              have HRN := Lib.hid (HR2.out.put (z ||| ze))
              clear HR2
              go_wp2_with fail
              go_roundw
              case rel => exact ⟨c + 1, f', a2, z ||| ze, by go_num, by omega, q1, HRN, Lib.hid (Or.inl (by rw [show decide (c + 1 = 0) = false by simp]; exact HNX.out))⟩
              case measure => simp [intOf]; omega
            · have hre := HBAD.out he2
              have HRE := Lib.hid hre
              have HE2 := Lib.hid ((HEL.out W5 HR2.out.rk.rp).mono fun e w' h => h.no he2)
              clear HEL HSTEP HBAD hre
              go_wp2_with fail
              refine HE2.out.mono ?_
              rintro e W9 (⟨ze2, rfl, hr⟩ | ⟨h80, hse, ze2, a3, rfl, hr, h1, h2, h3⟩)
              · have HK := Lib.hid (HR2.out.rk.bad hr)
                have hne : (e2 != 0) = true := by simpa using he2
                clear hr HE2 HR2
                unfold setA
                go_upto_region 14 with fail
                have ho7 := (Old.refl W9).alloc (.cells #[.int .u64 (setW ze2 0), .int .u64 (setW ze2 1), .int .u64 (setW ze2 2), .int .u64 (setW ze2 3)] 40)
                generalize W9.alloc (.cells #[.int .u64 (setW ze2 0), .int .u64 (setW ze2 1), .int .u64 (setW ze2 2), .int .u64 (setW ze2 3)] 40) = W7 at *
                have HK7 := Lib.hid (HK.out.up ho7)
                clear HK ho7
                have HK := Lib.hid HK7.out
                clear HK7
                obtain ⟨z0, z1, z2, z3, y0, y1, y2, y3⟩ := setC_cells HK.out.blk
                have HF := Lib.hid HK.out.put0
                obtain ⟨v0, v1, v2, v3, _, _, _, _⟩ := setC_cells HF.out.blk
                go_wp2_with fail
                refine bodyPost_ret (v := .tuple #[setA 0, .int .i64 e2]) (by simp [results, Try.results100, go_sem, v0, v1, v2, v3, setA]) rfl ?_
                exact ⟨fun e => absurd (HRE.out.symm.trans e) he2, fun _ => ⟨0, by rw [HRE.out], HF.out.fin0⟩⟩
              · have HRN := Lib.hid (HR2.out.call hr)
                have H3 := Lib.hid (show R.2.e = 80 by rw [HRE.out]; exact h80)
                have HB3 := Lib.hid h3
                clear hr HR2 HE2 h3 h80 hse HRE
                have HR2 := Lib.hid HRN.out
                clear HRN he2
                unfold setA
                go_upto_region 14 with fail
                -- the element's set in its box, united with what there was
                have hb7 := heap_alloc_new W9 (.cells #[.int .u64 (setW ze2 0), .int .u64 (setW ze2 1), .int .u64 (setW ze2 2), .int .u64 (setW ze2 3)] 40)
                have ho7 := (Old.refl W9).alloc (.cells #[.int .u64 (setW ze2 0), .int .u64 (setW ze2 1), .int .u64 (setW ze2 2), .int .u64 (setW ze2 3)] 40)
                generalize W9.alloc (.cells #[.int .u64 (setW ze2 0), .int .u64 (setW ze2 1), .int .u64 (setW ze2 2), .int .u64 (setW ze2 3)] 40) = W7 at *
                have HB7 : Hid (W7.heap[W9.heap.size]? = some (setC ze2)) := Lib.hid hb7
                clear hb7
                have HRQ := Lib.hid (HR2.out.up ho7)
                clear HR2 ho7
                have HR2 := Lib.hid HRQ.out
                clear HRQ
                generalize W9.heap.size = k7 at *
                obtain ⟨x0, x1, x2, x3, _, _, _, _⟩ := setC_cells HB7.out
                obtain ⟨t0, t1, t2, t3, _, _, _, _⟩ := setC_cells HR2.out.blk4
                have HUC := Lib.hid (union2C z ze2)
                unfold setA at HUC
                go_wp2_with fail
                refine (HUC.out _).mono ?_; rintro e W8 ⟨rfl, ho8⟩
                clear HB7 HUC x0 x1 x2 x3 t0 t1 t2 t3
                have HRQ := Lib.hid (HR2.out.up ho8)
                clear HR2 ho8
                have HR2 := Lib.hid HRQ.out
                clear HRQ
                obtain ⟨t0, t1, t2, t3, r0, r1, r2, r3⟩ := setC_cells HR2.out.blk4
                have HRN := Lib.hid (HR2.out.put (z ||| ze2))
                clear HR2
                go_wp2_with fail
                go_roundw
                case rel => exact ⟨c + 1, 0, a3, z ||| ze2, by go_num, by omega, by omega, HRN, Lib.hid (Or.inr ⟨by omega, h2, HB3.out, H3.out⟩)⟩
                case measure => (first | (simp [intOf]; done) | (simp [intOf]; omega))
  · have hlt : a < s.size := by omega
    have hbb : (bs s).getD a 0 = s[a].toNat := bs_get s a hlt
    have i1 : (a : Int) < (s.size : Int) := by omega
    rw [decide_eq_false hend] at hen
    have HEN := Lib.hid hen
    clear hen hend
    by_cases h94 : s[a].toNat = 94
    · have HM : Hid (classLoop (bs s) true f true 0 ⟨a + 1, dp, 0⟩ = some R) := Lib.hid (by
        unfold classP at hR
        rw [if_pos ⟨(moreP_iff _ _).2 ⟨rfl, by rw [bs_length]; exact hlt⟩, hbb.trans h94⟩] at hR
        exact hR)
      have g1 : (((s[a].toNat : Nat) : Int) == 94) = true := by simp; omega
      clear h94 hR hbb
      go_enter Try.func100, Try.ntmps100
      go_upto_region 2 with fail
      generalize (w.alloc (.cells #[.int .u64 0, .int .u64 0, .int .u64 0, .int .u64 0] 40)).alloc (.cells #[.int .u64 0, .int .u64 0, .int .u64 0, .int .u64 0] 40) = W1 at *
      generalize hk2 : w.heap.size = k2 at *
      obtain ⟨k4, hk4⟩ : ∃ k4, k2 + 1 = k4 := ⟨_, rfl⟩
      rw [hk4] at HR2
      try rw [hk4]
      clear hk2
      obtain ⟨c0, c1, c2, c3, f1, f2, f3⟩ := HR2.out.rk.rp.cells
      clear c2 c3 f2 f3
      go_wp2_with fail
      go_quiet ((go_at_call 79; exact Calls.quiet_of (HEN.out _ HOO.out _)))
      have HRQ := Lib.hid (HR2.out.up ((Old.refl _).drewN nq))
      generalize W1.drewN nq = W2 at *
      clear HR2
      have HR2 := Lib.hid HRQ.out
      clear HRQ
      clear HEN HOO c0 c1 f1 g1
      obtain ⟨c0, c1, c2, c3, f1, f2, f3⟩ := HR2.out.rk.rp.cells
      clear c2 c3 f2 f3
      clear c0
      have HRP := Lib.hid (HR2.out.plus 1)
      clear HR2
      go_upto_region 5 with fail
      have HR2 : Hid (R2 w0 w (W2.setCell ⟨g, 1, none⟩ (.int .i64 ((a : Int) + 1))) B g s (a + 1) d lv N k2 k4 0) := Lib.hid HRP.out
      clear HRP c1 f1
      generalize W2.setCell ⟨g, 1, none⟩ (.int .i64 ((a : Int) + 1)) = W3 at *
      go_wp2_with fail
      go_loopw [6] (fun s6 wr => ClRel w0 w B g s d lv N k2 k4 dp true R s6 wr) (fun s6 _ => s.size + 1 - (intOf s6).toNat)
      case atStart => exact ⟨0, _, (a + 1), 0, rfl, Nat.zero_le _, by omega, HR2, Lib.hid (Or.inl HM.out)⟩
      case round =>
        clear HM HR2
        obtain ⟨c, f, aa, z, rfl, hc, haa, HR2, HM⟩ := hrel
        have hen := endedC w0 B g s aa d lv N wr HR2.out.rk.rp (by omega)
        by_cases hend : aa = s.size
        · have HE : Hid (R.2.e = 80) := Lib.hid (by
            rcases HM.out with h | h
            · cases f with
              | zero => simp [classLoop] at h
              | succ f =>
                rw [classLoop, if_neg (fun h => by have h2 := ((moreP_iff _ _).1 h).2; rw [bs_length] at h2; simp only at h2; omega)] at h
                injection h with h
                rw [← h]
                rfl
            · omega)
          rw [decide_eq_true hend] at hen
          have HEN := Lib.hid hen
          clear hen hend
          go_wp2_with fail
          refine (HEN.out).mono ?_; rintro e W5 ⟨rfl, n5, rfl⟩
          have HK := Lib.hid (HR2.out.rk.up ((Old.refl wr).drewN n5))
          generalize wr.drewN n5 = W6 at *
          clear HR2 HEN
          obtain ⟨z0, z1, z2, z3, y0, y1, y2, y3⟩ := setC_cells HK.out.blk
          have HF := Lib.hid HK.out.put0
          obtain ⟨v0, v1, v2, v3, _, _, _, _⟩ := setC_cells HF.out.blk
          go_wp2_with fail
          refine bodyPost_ret (v := .tuple #[setA 0, .int .i64 80]) (by simp [results, Try.results100, go_sem, v0, v1, v2, v3, setA]) rfl ?_
          exact ⟨fun e => absurd (HE.out.symm.trans e) (by decide), fun _ => ⟨0, by rw [HE.out], HF.out.fin0⟩⟩
        · have hlt : aa < s.size := by omega
          have hbb : (bs s).getD aa 0 = s[aa].toNat := bs_get s aa hlt
          have i3 : (0 : Int) ≤ (aa : Int) := by omega
          have i4 : (aa : Int) < (s.size : Int) := by omega
          rw [decide_eq_false hend] at hen
          have HEN := Lib.hid hen
          have HBB := Lib.hid hbb
          clear hen hend hbb
          go_wp2_with fail
          refine (HEN.out).mono ?_; rintro e W5 ⟨rfl, n5, rfl⟩
          have ho5 := (Old.refl wr).drewN n5
          generalize wr.drewN n5 = W6 at *
          have HRQ := Lib.hid (HR2.out.up ho5)
          clear HR2 ho5
          have HR2 := Lib.hid HRQ.out
          clear HRQ
          clear HEN
          by_cases h93 : s[aa].toNat = 93 ∧ 0 < c
          · have e1 : (((s[aa].toNat : Nat) : Int) == 93) = true := by simp; omega
            have e2 : decide ((0 : Int) < (c : Int)) = true := decide_eq_true (by omega)
            have e3 : 0 < c := h93.2
            have e4 : decide (0 < c) = true := decide_eq_true h93.2
            have HE : Hid (R = (if true = true then notB z else z, ⟨aa + 1, dp, 0⟩)) := Lib.hid (by
              rcases HM.out with h | h
              · cases f with
                | zero => simp [classLoop] at h
                | succ f =>
                  rw [classLoop, if_pos ((moreP_iff _ _).2 ⟨rfl, by rw [bs_length]; exact hlt⟩), if_pos (show bAt (bs s) ⟨aa, dp, 0⟩ = 93 from HBB.out.trans h93.1), if_neg (show ¬ decide (c = 0) = true by simp; omega)] at h
                  injection h with h
                  exact h.symm
              · have := HBB.out; omega)
            clear h93 HM
            obtain ⟨c0, c1, c2, c3, f1, f2, f3⟩ := HR2.out.rk.rp.cells
            clear c2 c3 f2 f3
            go_wp2_with fail
            go_quiet (fail)
            have HRQ := Lib.hid (HR2.out.up ((Old.refl _).drewN nq))
            generalize W6.drewN nq = W7 at *
            clear HR2
            have HR2 := Lib.hid HRQ.out
            clear HRQ
            clear c0 c1 f1 e1
            obtain ⟨c0, c1, c2, c3, f1, f2, f3⟩ := HR2.out.rk.rp.cells
            clear c2 c3 f2 f3
            clear c0
            have HRP := Lib.hid (HR2.out.plus 1)
            clear HR2
            go_upto_region 10 with fail
            have HR2 : Hid (R2 w0 w (W7.setCell ⟨g, 1, none⟩ (.int .i64 ((aa : Int) + 1))) B g s (aa + 1) d lv N k2 k4 z) := Lib.hid HRP.out
            clear HRP c1 f1
            generalize W7.setCell ⟨g, 1, none⟩ (.int .i64 ((aa : Int) + 1)) = W8 at *
            obtain ⟨t0, t1, t2, t3, r0, r1, r2, r3⟩ := setC_cells HR2.out.blk4
            have HOC := Lib.hid (othersC z)
            unfold setA at HOC
            go_wp2_with fail
            refine (HOC.out _).mono ?_; rintro e W9 ⟨rfl, ho9⟩
            clear HOC t0 t1 t2 t3 r0 r1 r2 r3
            have HRQ := Lib.hid (HR2.out.up ho9)
            clear HR2 ho9
            have HR2 := Lib.hid HRQ.out
            clear HRQ
            obtain ⟨t0, t1, t2, t3, r0, r1, r2, r3⟩ := setC_cells HR2.out.blk4
            have HRN := Lib.hid (HR2.out.put (notB z))
            clear HR2
            go_upto_region 12 with fail
            clear t0 t1 t2 t3 r0 r1 r2 r3
            have HE' : Hid (R = (notB z, ⟨aa + 1, dp, 0⟩)) := Lib.hid (by rw [HE.out]; rfl)
            clear HE
            generalize notB z = zn at *
            generalize ((((W9.setCell ⟨k4, 0, none⟩ (.int .u64 (setW zn 0))).setCell ⟨k4, 1, none⟩ (.int .u64 (setW zn 1))).setCell ⟨k4, 2, none⟩ (.int .u64 (setW zn 2))).setCell ⟨k4, 3, none⟩ (.int .u64 (setW zn 3))) = W10 at *
            obtain ⟨t0, t1, t2, t3, _, _, _, _⟩ := setC_cells HRN.out.blk4
            have HK := Lib.hid HRN.out.rk
            clear HRN
            obtain ⟨z0, z1, z2, z3, y0, y1, y2, y3⟩ := setC_cells HK.out.blk
            have HF := Lib.hid (HK.out.put zn)
            obtain ⟨v0, v1, v2, v3, _, _, _, _⟩ := setC_cells HF.out.blk
            try unfold setA
            go_wp2_with fail
            refine bodyPost_ret (v := .tuple #[setA zn, .int .i64 0]) (by simp [results, Try.results100, go_sem, v0, v1, v2, v3, setA]) rfl ?_
            rw [HE'.out]
            exact ⟨fun _ => ⟨rfl, HF.out.fin⟩, fun e => absurd rfl e⟩
          · have HEL := Lib.hid (fun (W : World) (hr : RP w0 W B g s aa d lv N) => elementG w0 B g s aa d lv N W hr hs hlt dp)
            have hbd := elemP_bd (bs s) ⟨aa, dp, 0⟩ (by rw [bs_length]; exact hlt)
            rw [bs_length] at hbd
            have hmk : s[aa].toNat = 93 ∨ s[aa].toNat = 45 → (singleP (bs s) ⟨aa, dp, 0⟩).2.e = 80 ∧ (elemP (bs s) ⟨aa, dp, 0⟩).2.e = 80 := fun h => elem_mark (by rw [HBB.out]; exact h)
            have hmo : moreP (bs s) ⟨aa, dp, 0⟩ = true := (moreP_iff _ _).2 ⟨rfl, by rw [bs_length]; exact hlt⟩
            have HSTEP : Hid ((elemP (bs s) ⟨aa, dp, 0⟩).2.e = 0 → ∃ f', classLoop (bs s) true f' false (z ||| (elemP (bs s) ⟨aa, dp, 0⟩).1) (elemP (bs s) ⟨aa, dp, 0⟩).2 = some R) := Lib.hid (fun he0 => by
              have hn93 : ¬ (s[aa].toNat = 93 ∨ s[aa].toNat = 45) := fun h => by have := (hmk h).2; omega
              rcases HM.out with h | h
              · cases f with
                | zero => simp [classLoop] at h
                | succ f =>
                  rw [classLoop, if_pos hmo, if_neg (show ¬ bAt (bs s) ⟨aa, dp, 0⟩ = 93 from fun e => hn93 (Or.inl (HBB.out.symm.trans e)))] at h
                  exact ⟨f, h⟩
              · exact absurd (Or.inr (HBB.out.symm.trans h.2.2.1)) hn93)
            have HBAD : Hid ((elemP (bs s) ⟨aa, dp, 0⟩).2.e ≠ 0 → R.2.e = (elemP (bs s) ⟨aa, dp, 0⟩).2.e) := Lib.hid (fun he0 => by
              rcases HM.out with h | h
              · cases f with
                | zero => simp [classLoop] at h
                | succ f =>
                  by_cases e93 : s[aa].toNat = 93
                  · have hc0 : decide (c = 0) = true := decide_eq_true (by omega)
                    rw [classLoop, if_pos hmo, if_pos (show bAt (bs s) ⟨aa, dp, 0⟩ = 93 from HBB.out.trans e93), hc0] at h
                    injection h with h
                    rw [← h, (hmk (Or.inl e93)).2]
                    rfl
                  · rw [classLoop, if_pos hmo, if_neg (show ¬ bAt (bs s) ⟨aa, dp, 0⟩ = 93 from fun e => e93 (HBB.out.symm.trans e))] at h
                    exact classLoop_bad h he0
              · rw [h.2.2.2, (hmk (Or.inr (HBB.out.symm.trans h.2.2.1))).2])
            have HSE : Hid (s[aa].toNat = 93 → (elemP (bs s) ⟨aa, dp, 0⟩).2.e = 80 ∧ (singleP (bs s) ⟨aa, dp, 0⟩).2.e = 80) := Lib.hid (fun h => ⟨(hmk (Or.inl h)).2, (hmk (Or.inl h)).1⟩)
            clear HM hmk hmo
            generalize singleP (bs s) ⟨aa, dp, 0⟩ = SS at *
            generalize elemP (bs s) ⟨aa, dp, 0⟩ = E at *
            obtain ⟨ze, ⟨a2, d2, e2⟩⟩ := E
            obtain ⟨q1, q2, q3⟩ : a2 ≤ s.size ∧ aa < a2 ∧ d2 = dp := hbd
            subst q3
            by_cases hb93 : s[aa].toNat = 93
            · have he2 : e2 ≠ 0 := fun h => by have := (HSE.out hb93).1; simp only at this; omega
              have g1 : (((s[aa].toNat : Nat) : Int) == 93) = true := by simp; omega
              obtain rfl : c = 0 := by omega
              clear h93 hb93 HSE
              obtain ⟨c0, c1, c2, c3, f1, f2, f3⟩ := HR2.out.rk.rp.cells
              clear c2 c3 f2 f3
              go_wp2_with fail
              go_quiet (fail)
              have HRQ := Lib.hid (HR2.out.up ((Old.refl _).drewN nq))
              generalize W6.drewN nq = W5 at *
              clear HR2
              have HR2 := Lib.hid HRQ.out
              clear HRQ
              clear c0 c1 f1 g1
              have hre := HBAD.out he2
              have HRE := Lib.hid hre
              have HE2 := Lib.hid ((HEL.out W5 HR2.out.rk.rp).mono fun e w' h => h.no he2)
              clear HEL HSTEP HBAD hre
              go_wp2_with fail
              refine HE2.out.mono ?_
              rintro e W9 (⟨ze2, rfl, hr⟩ | ⟨h80, hse, ze2, a3, rfl, hr, h1, h2, h3⟩)
              · have HK := Lib.hid (HR2.out.rk.bad hr)
                have hne : (e2 != 0) = true := by simpa using he2
                clear hr HE2 HR2
                unfold setA
                go_upto_region 14 with fail
                have ho7 := (Old.refl W9).alloc (.cells #[.int .u64 (setW ze2 0), .int .u64 (setW ze2 1), .int .u64 (setW ze2 2), .int .u64 (setW ze2 3)] 40)
                generalize W9.alloc (.cells #[.int .u64 (setW ze2 0), .int .u64 (setW ze2 1), .int .u64 (setW ze2 2), .int .u64 (setW ze2 3)] 40) = W7 at *
                have HK7 := Lib.hid (HK.out.up ho7)
                clear HK ho7
                have HK := Lib.hid HK7.out
                clear HK7
                obtain ⟨z0, z1, z2, z3, y0, y1, y2, y3⟩ := setC_cells HK.out.blk
                have HF := Lib.hid HK.out.put0
                obtain ⟨v0, v1, v2, v3, _, _, _, _⟩ := setC_cells HF.out.blk
                go_wp2_with fail
                refine bodyPost_ret (v := .tuple #[setA 0, .int .i64 e2]) (by simp [results, Try.results100, go_sem, v0, v1, v2, v3, setA]) rfl ?_
                exact ⟨fun e => absurd (HRE.out.symm.trans e) he2, fun _ => ⟨0, by rw [HRE.out], HF.out.fin0⟩⟩
              · have HRN := Lib.hid (HR2.out.call hr)
                have H3 := Lib.hid (show R.2.e = 80 by rw [HRE.out]; exact h80)
                have HB3 := Lib.hid h3
                clear hr HR2 HE2 h3 h80 hse HRE
                have HR2 := Lib.hid HRN.out
                clear HRN he2
                unfold setA
                go_upto_region 14 with fail
                -- the element's set in its box, united with what there was
                have hb7 := heap_alloc_new W9 (.cells #[.int .u64 (setW ze2 0), .int .u64 (setW ze2 1), .int .u64 (setW ze2 2), .int .u64 (setW ze2 3)] 40)
                have ho7 := (Old.refl W9).alloc (.cells #[.int .u64 (setW ze2 0), .int .u64 (setW ze2 1), .int .u64 (setW ze2 2), .int .u64 (setW ze2 3)] 40)
                generalize W9.alloc (.cells #[.int .u64 (setW ze2 0), .int .u64 (setW ze2 1), .int .u64 (setW ze2 2), .int .u64 (setW ze2 3)] 40) = W7 at *
                have HB7 : Hid (W7.heap[W9.heap.size]? = some (setC ze2)) := Lib.hid hb7
                clear hb7
                have HRQ := Lib.hid (HR2.out.up ho7)
                clear HR2 ho7
                have HR2 := Lib.hid HRQ.out
                clear HRQ
                generalize W9.heap.size = k7 at *
                obtain ⟨x0, x1, x2, x3, _, _, _, _⟩ := setC_cells HB7.out
                obtain ⟨t0, t1, t2, t3, _, _, _, _⟩ := setC_cells HR2.out.blk4
                have HUC := Lib.hid (union2C z ze2)
                unfold setA at HUC
                go_wp2_with fail
                refine (HUC.out _).mono ?_; rintro e W8 ⟨rfl, ho8⟩
                clear HB7 HUC x0 x1 x2 x3 t0 t1 t2 t3
                have HRQ := Lib.hid (HR2.out.up ho8)
                clear HR2 ho8
                have HR2 := Lib.hid HRQ.out
                clear HRQ
                obtain ⟨t0, t1, t2, t3, r0, r1, r2, r3⟩ := setC_cells HR2.out.blk4
                have HRN := Lib.hid (HR2.out.put (z ||| ze2))
                clear HR2
                go_wp2_with fail
                go_roundw
                case rel => exact ⟨0 + 1, 0, a3, z ||| ze2, by go_num, by omega, by omega, HRN, Lib.hid (Or.inr ⟨by omega, h2, HB3.out, H3.out⟩)⟩
                case measure => (first | (simp [intOf]; done) | (simp [intOf]; omega))
            · have g1 : (((s[aa].toNat : Nat) : Int) == 93) = false := by simp; omega
              clear h93 hb93 HSE
              obtain ⟨c0, c1, c2, c3, f1, f2, f3⟩ := HR2.out.rk.rp.cells
              clear c2 c3 f2 f3
              go_wp2_with fail
              go_quiet (fail)
              have HRQ := Lib.hid (HR2.out.up ((Old.refl _).drewN nq))
              generalize W6.drewN nq = W5 at *
              clear HR2
              have HR2 := Lib.hid HRQ.out
              clear HRQ
              clear c0 c1 f1 g1
              by_cases he2 : e2 = 0
              · subst he2
                obtain ⟨f', hf'⟩ := HSTEP.out rfl
                have HNX := Lib.hid hf'
                have HE2 := Lib.hid ((HEL.out W5 HR2.out.rk.rp).mono fun e w' h => h.ok rfl)
                clear HEL HSTEP HBAD
                go_wp2_with fail
                refine (HE2.out).mono ?_; rintro e W9 ⟨rfl, hr⟩
                have HRN := Lib.hid (HR2.out.call hr)
                clear hr HR2 HE2
                have HR2 := Lib.hid HRN.out
                clear HRN
                unfold setA
                go_upto_region 14 with fail
                -- the element's set in its box, united with what there was
                have hb7 := heap_alloc_new W9 (.cells #[.int .u64 (setW ze 0), .int .u64 (setW ze 1), .int .u64 (setW ze 2), .int .u64 (setW ze 3)] 40)
                have ho7 := (Old.refl W9).alloc (.cells #[.int .u64 (setW ze 0), .int .u64 (setW ze 1), .int .u64 (setW ze 2), .int .u64 (setW ze 3)] 40)
                generalize W9.alloc (.cells #[.int .u64 (setW ze 0), .int .u64 (setW ze 1), .int .u64 (setW ze 2), .int .u64 (setW ze 3)] 40) = W7 at *
                have HB7 : Hid (W7.heap[W9.heap.size]? = some (setC ze)) := Lib.hid hb7
                clear hb7
                have HRQ := Lib.hid (HR2.out.up ho7)
                clear HR2 ho7
                have HR2 := Lib.hid HRQ.out
                clear HRQ
                generalize W9.heap.size = k7 at *
                obtain ⟨x0, x1, x2, x3, _, _, _, _⟩ := setC_cells HB7.out
                obtain ⟨t0, t1, t2, t3, _, _, _, _⟩ := setC_cells HR2.out.blk4
                have HUC := Lib.hid (union2C z ze)
                unfold setA at HUC
                go_wp2_with fail
                refine (HUC.out _).mono ?_; rintro e W8 ⟨rfl, ho8⟩
                clear HB7 HUC x0 x1 x2 x3 t0 t1 t2 t3
                have HRQ := Lib.hid (HR2.out.up ho8)
                clear HR2 ho8
                have HR2 := Lib.hid HRQ.out
                clear HRQ
                obtain ⟨t0, t1, t2, t3, r0, r1, r2, r3⟩ := setC_cells HR2.out.blk4
                have HRN := Lib.hid (HR2.out.put (z ||| ze))
                clear HR2
                go_wp2_with fail
                go_roundw
                case rel => exact ⟨c + 1, f', a2, z ||| ze, by go_num, by omega, q1, HRN, Lib.hid (Or.inl (by rw [show decide (c + 1 = 0) = false by simp]; exact HNX.out))⟩
                case measure => simp [intOf]; omega
              · have hre := HBAD.out he2
                have HRE := Lib.hid hre
                have HE2 := Lib.hid ((HEL.out W5 HR2.out.rk.rp).mono fun e w' h => h.no he2)
                clear HEL HSTEP HBAD hre
                go_wp2_with fail
                refine HE2.out.mono ?_
                rintro e W9 (⟨ze2, rfl, hr⟩ | ⟨h80, hse, ze2, a3, rfl, hr, h1, h2, h3⟩)
                · have HK := Lib.hid (HR2.out.rk.bad hr)
                  have hne : (e2 != 0) = true := by simpa using he2
                  clear hr HE2 HR2
                  unfold setA
                  go_upto_region 14 with fail
                  have ho7 := (Old.refl W9).alloc (.cells #[.int .u64 (setW ze2 0), .int .u64 (setW ze2 1), .int .u64 (setW ze2 2), .int .u64 (setW ze2 3)] 40)
                  generalize W9.alloc (.cells #[.int .u64 (setW ze2 0), .int .u64 (setW ze2 1), .int .u64 (setW ze2 2), .int .u64 (setW ze2 3)] 40) = W7 at *
                  have HK7 := Lib.hid (HK.out.up ho7)
                  clear HK ho7
                  have HK := Lib.hid HK7.out
                  clear HK7
                  obtain ⟨z0, z1, z2, z3, y0, y1, y2, y3⟩ := setC_cells HK.out.blk
                  have HF := Lib.hid HK.out.put0
                  obtain ⟨v0, v1, v2, v3, _, _, _, _⟩ := setC_cells HF.out.blk
                  go_wp2_with fail
                  refine bodyPost_ret (v := .tuple #[setA 0, .int .i64 e2]) (by simp [results, Try.results100, go_sem, v0, v1, v2, v3, setA]) rfl ?_
                  exact ⟨fun e => absurd (HRE.out.symm.trans e) he2, fun _ => ⟨0, by rw [HRE.out], HF.out.fin0⟩⟩
                · have HRN := Lib.hid (HR2.out.call hr)
                  have H3 := Lib.hid (show R.2.e = 80 by rw [HRE.out]; exact h80)
                  have HB3 := Lib.hid h3
                  clear hr HR2 HE2 h3 h80 hse HRE
                  have HR2 := Lib.hid HRN.out
                  clear HRN he2
                  unfold setA
                  go_upto_region 14 with fail
                  -- the element's set in its box, united with what there was
                  have hb7 := heap_alloc_new W9 (.cells #[.int .u64 (setW ze2 0), .int .u64 (setW ze2 1), .int .u64 (setW ze2 2), .int .u64 (setW ze2 3)] 40)
                  have ho7 := (Old.refl W9).alloc (.cells #[.int .u64 (setW ze2 0), .int .u64 (setW ze2 1), .int .u64 (setW ze2 2), .int .u64 (setW ze2 3)] 40)
                  generalize W9.alloc (.cells #[.int .u64 (setW ze2 0), .int .u64 (setW ze2 1), .int .u64 (setW ze2 2), .int .u64 (setW ze2 3)] 40) = W7 at *
                  have HB7 : Hid (W7.heap[W9.heap.size]? = some (setC ze2)) := Lib.hid hb7
                  clear hb7
                  have HRQ := Lib.hid (HR2.out.up ho7)
                  clear HR2 ho7
                  have HR2 := Lib.hid HRQ.out
                  clear HRQ
                  generalize W9.heap.size = k7 at *
                  obtain ⟨x0, x1, x2, x3, _, _, _, _⟩ := setC_cells HB7.out
                  obtain ⟨t0, t1, t2, t3, _, _, _, _⟩ := setC_cells HR2.out.blk4
                  have HUC := Lib.hid (union2C z ze2)
                  unfold setA at HUC
                  go_wp2_with fail
                  refine (HUC.out _).mono ?_; rintro e W8 ⟨rfl, ho8⟩
                  clear HB7 HUC x0 x1 x2 x3 t0 t1 t2 t3
                  have HRQ := Lib.hid (HR2.out.up ho8)
                  clear HR2 ho8
                  have HR2 := Lib.hid HRQ.out
                  clear HRQ
                  obtain ⟨t0, t1, t2, t3, r0, r1, r2, r3⟩ := setC_cells HR2.out.blk4
                  have HRN := Lib.hid (HR2.out.put (z ||| ze2))
                  clear HR2
                  go_wp2_with fail
                  go_roundw
                  case rel => exact ⟨c + 1, 0, a3, z ||| ze2, by go_num, by omega, by omega, HRN, Lib.hid (Or.inr ⟨by omega, h2, HB3.out, H3.out⟩)⟩
                  case measure => (first | (simp [intOf]; done) | (simp [intOf]; omega))
    · have HM : Hid (classLoop (bs s) false f true 0 ⟨a, dp, 0⟩ = some R) := Lib.hid (by
        unfold classP at hR
        rw [if_neg (fun h => h94 (hbb.symm.trans h.2))] at hR
        exact hR)
      have g1 : (((s[a].toNat : Nat) : Int) == 94) = false := by simp; omega
      clear h94 hR hbb
      go_enter Try.func100, Try.ntmps100
      go_upto_region 2 with fail
      generalize (w.alloc (.cells #[.int .u64 0, .int .u64 0, .int .u64 0, .int .u64 0] 40)).alloc (.cells #[.int .u64 0, .int .u64 0, .int .u64 0, .int .u64 0] 40) = W1 at *
      generalize hk2 : w.heap.size = k2 at *
      obtain ⟨k4, hk4⟩ : ∃ k4, k2 + 1 = k4 := ⟨_, rfl⟩
      rw [hk4] at HR2
      try rw [hk4]
      clear hk2
      obtain ⟨c0, c1, c2, c3, f1, f2, f3⟩ := HR2.out.rk.rp.cells
      clear c2 c3 f2 f3
      go_wp2_with fail
      go_quiet ((go_at_call 79; exact Calls.quiet_of (HEN.out _ HOO.out _)))
      have HRQ := Lib.hid (HR2.out.up ((Old.refl _).drewN nq))
      generalize W1.drewN nq = W2 at *
      clear HR2
      have HR2 := Lib.hid HRQ.out
      clear HRQ
      clear HEN HOO c0 c1 f1 g1
      go_wp2_with fail
      go_loopw [6] (fun s6 wr => ClRel w0 w B g s d lv N k2 k4 dp false R s6 wr) (fun s6 _ => s.size + 1 - (intOf s6).toNat)
      case atStart => exact ⟨0, _, a, 0, rfl, Nat.zero_le _, by omega, HR2, Lib.hid (Or.inl HM.out)⟩
      case round =>
        clear HM HR2
        obtain ⟨c, f, aa, z, rfl, hc, haa, HR2, HM⟩ := hrel
        have hen := endedC w0 B g s aa d lv N wr HR2.out.rk.rp (by omega)
        by_cases hend : aa = s.size
        · have HE : Hid (R.2.e = 80) := Lib.hid (by
            rcases HM.out with h | h
            · cases f with
              | zero => simp [classLoop] at h
              | succ f =>
                rw [classLoop, if_neg (fun h => by have h2 := ((moreP_iff _ _).1 h).2; rw [bs_length] at h2; simp only at h2; omega)] at h
                injection h with h
                rw [← h]
                rfl
            · omega)
          rw [decide_eq_true hend] at hen
          have HEN := Lib.hid hen
          clear hen hend
          go_wp2_with fail
          refine (HEN.out).mono ?_; rintro e W5 ⟨rfl, n5, rfl⟩
          have HK := Lib.hid (HR2.out.rk.up ((Old.refl wr).drewN n5))
          generalize wr.drewN n5 = W6 at *
          clear HR2 HEN
          obtain ⟨z0, z1, z2, z3, y0, y1, y2, y3⟩ := setC_cells HK.out.blk
          have HF := Lib.hid HK.out.put0
          obtain ⟨v0, v1, v2, v3, _, _, _, _⟩ := setC_cells HF.out.blk
          go_wp2_with fail
          refine bodyPost_ret (v := .tuple #[setA 0, .int .i64 80]) (by simp [results, Try.results100, go_sem, v0, v1, v2, v3, setA]) rfl ?_
          exact ⟨fun e => absurd (HE.out.symm.trans e) (by decide), fun _ => ⟨0, by rw [HE.out], HF.out.fin0⟩⟩
        · have hlt : aa < s.size := by omega
          have hbb : (bs s).getD aa 0 = s[aa].toNat := bs_get s aa hlt
          have i3 : (0 : Int) ≤ (aa : Int) := by omega
          have i4 : (aa : Int) < (s.size : Int) := by omega
          rw [decide_eq_false hend] at hen
          have HEN := Lib.hid hen
          have HBB := Lib.hid hbb
          clear hen hend hbb
          go_wp2_with fail
          refine (HEN.out).mono ?_; rintro e W5 ⟨rfl, n5, rfl⟩
          have ho5 := (Old.refl wr).drewN n5
          generalize wr.drewN n5 = W6 at *
          have HRQ := Lib.hid (HR2.out.up ho5)
          clear HR2 ho5
          have HR2 := Lib.hid HRQ.out
          clear HRQ
          clear HEN
          by_cases h93 : s[aa].toNat = 93 ∧ 0 < c
          · have e1 : (((s[aa].toNat : Nat) : Int) == 93) = true := by simp; omega
            have e2 : decide ((0 : Int) < (c : Int)) = true := decide_eq_true (by omega)
            have e3 : 0 < c := h93.2
            have e4 : decide (0 < c) = true := decide_eq_true h93.2
            have HE : Hid (R = (if false = true then notB z else z, ⟨aa + 1, dp, 0⟩)) := Lib.hid (by
              rcases HM.out with h | h
              · cases f with
                | zero => simp [classLoop] at h
                | succ f =>
                  rw [classLoop, if_pos ((moreP_iff _ _).2 ⟨rfl, by rw [bs_length]; exact hlt⟩), if_pos (show bAt (bs s) ⟨aa, dp, 0⟩ = 93 from HBB.out.trans h93.1), if_neg (show ¬ decide (c = 0) = true by simp; omega)] at h
                  injection h with h
                  exact h.symm
              · have := HBB.out; omega)
            clear h93 HM
            obtain ⟨c0, c1, c2, c3, f1, f2, f3⟩ := HR2.out.rk.rp.cells
            clear c2 c3 f2 f3
            go_wp2_with fail
            go_quiet (fail)
            have HRQ := Lib.hid (HR2.out.up ((Old.refl _).drewN nq))
            generalize W6.drewN nq = W7 at *
            clear HR2
            have HR2 := Lib.hid HRQ.out
            clear HRQ
            clear c0 c1 f1 e1
            obtain ⟨c0, c1, c2, c3, f1, f2, f3⟩ := HR2.out.rk.rp.cells
            clear c2 c3 f2 f3
            clear c0
            have HRP := Lib.hid (HR2.out.plus 1)
            clear HR2
            go_upto_region 10 with fail
            have HR2 : Hid (R2 w0 w (W7.setCell ⟨g, 1, none⟩ (.int .i64 ((aa : Int) + 1))) B g s (aa + 1) d lv N k2 k4 z) := Lib.hid HRP.out
            clear HRP c1 f1
            generalize W7.setCell ⟨g, 1, none⟩ (.int .i64 ((aa : Int) + 1)) = W8 at *
            obtain ⟨t0, t1, t2, t3, r0, r1, r2, r3⟩ := setC_cells HR2.out.blk4
            have HK := Lib.hid HR2.out.rk
            obtain ⟨z0, z1, z2, z3, y0, y1, y2, y3⟩ := setC_cells HK.out.blk
            have HF := Lib.hid (HK.out.put z)
            obtain ⟨v0, v1, v2, v3, _, _, _, _⟩ := setC_cells HF.out.blk
            try unfold setA
            go_wp2_with fail
            refine bodyPost_ret (v := .tuple #[setA z, .int .i64 0]) (by simp [results, Try.results100, go_sem, v0, v1, v2, v3, setA]) rfl ?_
            rw [HE.out]
            exact ⟨fun _ => ⟨rfl, HF.out.fin⟩, fun e => absurd rfl e⟩
          · have HEL := Lib.hid (fun (W : World) (hr : RP w0 W B g s aa d lv N) => elementG w0 B g s aa d lv N W hr hs hlt dp)
            have hbd := elemP_bd (bs s) ⟨aa, dp, 0⟩ (by rw [bs_length]; exact hlt)
            rw [bs_length] at hbd
            have hmk : s[aa].toNat = 93 ∨ s[aa].toNat = 45 → (singleP (bs s) ⟨aa, dp, 0⟩).2.e = 80 ∧ (elemP (bs s) ⟨aa, dp, 0⟩).2.e = 80 := fun h => elem_mark (by rw [HBB.out]; exact h)
            have hmo : moreP (bs s) ⟨aa, dp, 0⟩ = true := (moreP_iff _ _).2 ⟨rfl, by rw [bs_length]; exact hlt⟩
            have HSTEP : Hid ((elemP (bs s) ⟨aa, dp, 0⟩).2.e = 0 → ∃ f', classLoop (bs s) false f' false (z ||| (elemP (bs s) ⟨aa, dp, 0⟩).1) (elemP (bs s) ⟨aa, dp, 0⟩).2 = some R) := Lib.hid (fun he0 => by
              have hn93 : ¬ (s[aa].toNat = 93 ∨ s[aa].toNat = 45) := fun h => by have := (hmk h).2; omega
              rcases HM.out with h | h
              · cases f with
                | zero => simp [classLoop] at h
                | succ f =>
                  rw [classLoop, if_pos hmo, if_neg (show ¬ bAt (bs s) ⟨aa, dp, 0⟩ = 93 from fun e => hn93 (Or.inl (HBB.out.symm.trans e)))] at h
                  exact ⟨f, h⟩
              · exact absurd (Or.inr (HBB.out.symm.trans h.2.2.1)) hn93)
            have HBAD : Hid ((elemP (bs s) ⟨aa, dp, 0⟩).2.e ≠ 0 → R.2.e = (elemP (bs s) ⟨aa, dp, 0⟩).2.e) := Lib.hid (fun he0 => by
              rcases HM.out with h | h
              · cases f with
                | zero => simp [classLoop] at h
                | succ f =>
                  by_cases e93 : s[aa].toNat = 93
                  · have hc0 : decide (c = 0) = true := decide_eq_true (by omega)
                    rw [classLoop, if_pos hmo, if_pos (show bAt (bs s) ⟨aa, dp, 0⟩ = 93 from HBB.out.trans e93), hc0] at h
                    injection h with h
                    rw [← h, (hmk (Or.inl e93)).2]
                    rfl
                  · rw [classLoop, if_pos hmo, if_neg (show ¬ bAt (bs s) ⟨aa, dp, 0⟩ = 93 from fun e => e93 (HBB.out.symm.trans e))] at h
                    exact classLoop_bad h he0
              · rw [h.2.2.2, (hmk (Or.inr (HBB.out.symm.trans h.2.2.1))).2])
            have HSE : Hid (s[aa].toNat = 93 → (elemP (bs s) ⟨aa, dp, 0⟩).2.e = 80 ∧ (singleP (bs s) ⟨aa, dp, 0⟩).2.e = 80) := Lib.hid (fun h => ⟨(hmk (Or.inl h)).2, (hmk (Or.inl h)).1⟩)
            clear HM hmk hmo
            generalize singleP (bs s) ⟨aa, dp, 0⟩ = SS at *
            generalize elemP (bs s) ⟨aa, dp, 0⟩ = E at *
            obtain ⟨ze, ⟨a2, d2, e2⟩⟩ := E
            obtain ⟨q1, q2, q3⟩ : a2 ≤ s.size ∧ aa < a2 ∧ d2 = dp := hbd
            subst q3
            by_cases hb93 : s[aa].toNat = 93
            · have he2 : e2 ≠ 0 := fun h => by have := (HSE.out hb93).1; simp only at this; omega
              have g1 : (((s[aa].toNat : Nat) : Int) == 93) = true := by simp; omega
              obtain rfl : c = 0 := by omega
              clear h93 hb93 HSE
              obtain ⟨c0, c1, c2, c3, f1, f2, f3⟩ := HR2.out.rk.rp.cells
              clear c2 c3 f2 f3
              go_wp2_with fail
              go_quiet (fail)
              have HRQ := Lib.hid (HR2.out.up ((Old.refl _).drewN nq))
              generalize W6.drewN nq = W5 at *
              clear HR2
              have HR2 := Lib.hid HRQ.out
              clear HRQ
              clear c0 c1 f1 g1
              have hre := HBAD.out he2
              have HRE := Lib.hid hre
              have HE2 := Lib.hid ((HEL.out W5 HR2.out.rk.rp).mono fun e w' h => h.no he2)
              clear HEL HSTEP HBAD hre
              go_wp2_with fail
              refine HE2.out.mono ?_
              rintro e W9 (⟨ze2, rfl, hr⟩ | ⟨h80, hse, ze2, a3, rfl, hr, h1, h2, h3⟩)
              · have HK := Lib.hid (HR2.out.rk.bad hr)
                have hne : (e2 != 0) = true := by simpa using he2
                clear hr HE2 HR2
                unfold setA
                go_upto_region 14 with fail
                have ho7 := (Old.refl W9).alloc (.cells #[.int .u64 (setW ze2 0), .int .u64 (setW ze2 1), .int .u64 (setW ze2 2), .int .u64 (setW ze2 3)] 40)
                generalize W9.alloc (.cells #[.int .u64 (setW ze2 0), .int .u64 (setW ze2 1), .int .u64 (setW ze2 2), .int .u64 (setW ze2 3)] 40) = W7 at *
                have HK7 := Lib.hid (HK.out.up ho7)
                clear HK ho7
                have HK := Lib.hid HK7.out
                clear HK7
                obtain ⟨z0, z1, z2, z3, y0, y1, y2, y3⟩ := setC_cells HK.out.blk
                have HF := Lib.hid HK.out.put0
                obtain ⟨v0, v1, v2, v3, _, _, _, _⟩ := setC_cells HF.out.blk
                go_wp2_with fail
                refine bodyPost_ret (v := .tuple #[setA 0, .int .i64 e2]) (by simp [results, Try.results100, go_sem, v0, v1, v2, v3, setA]) rfl ?_
                exact ⟨fun e => absurd (HRE.out.symm.trans e) he2, fun _ => ⟨0, by rw [HRE.out], HF.out.fin0⟩⟩
              · have HRN := Lib.hid (HR2.out.call hr)
                have H3 := Lib.hid (show R.2.e = 80 by rw [HRE.out]; exact h80)
                have HB3 := Lib.hid h3
                clear hr HR2 HE2 h3 h80 hse HRE
                have HR2 := Lib.hid HRN.out
                clear HRN he2
                unfold setA
                go_upto_region 14 with fail
                -- the element's set in its box, united with what there was
                have hb7 := heap_alloc_new W9 (.cells #[.int .u64 (setW ze2 0), .int .u64 (setW ze2 1), .int .u64 (setW ze2 2), .int .u64 (setW ze2 3)] 40)
                have ho7 := (Old.refl W9).alloc (.cells #[.int .u64 (setW ze2 0), .int .u64 (setW ze2 1), .int .u64 (setW ze2 2), .int .u64 (setW ze2 3)] 40)
                generalize W9.alloc (.cells #[.int .u64 (setW ze2 0), .int .u64 (setW ze2 1), .int .u64 (setW ze2 2), .int .u64 (setW ze2 3)] 40) = W7 at *
                have HB7 : Hid (W7.heap[W9.heap.size]? = some (setC ze2)) := Lib.hid hb7
                clear hb7
                have HRQ := Lib.hid (HR2.out.up ho7)
                clear HR2 ho7
                have HR2 := Lib.hid HRQ.out
                clear HRQ
                generalize W9.heap.size = k7 at *
                obtain ⟨x0, x1, x2, x3, _, _, _, _⟩ := setC_cells HB7.out
                obtain ⟨t0, t1, t2, t3, _, _, _, _⟩ := setC_cells HR2.out.blk4
                have HUC := Lib.hid (union2C z ze2)
                unfold setA at HUC
                go_wp2_with fail
                refine (HUC.out _).mono ?_; rintro e W8 ⟨rfl, ho8⟩
                clear HB7 HUC x0 x1 x2 x3 t0 t1 t2 t3
                have HRQ := Lib.hid (HR2.out.up ho8)
                clear HR2 ho8
                have HR2 := Lib.hid HRQ.out
                clear HRQ
                obtain ⟨t0, t1, t2, t3, r0, r1, r2, r3⟩ := setC_cells HR2.out.blk4
                have HRN := Lib.hid (HR2.out.put (z ||| ze2))
                clear HR2
                go_wp2_with fail
                go_roundw
                case rel => exact ⟨0 + 1, 0, a3, z ||| ze2, by go_num, by omega, by omega, HRN, Lib.hid (Or.inr ⟨by omega, h2, HB3.out, H3.out⟩)⟩
                case measure => (first | (simp [intOf]; done) | (simp [intOf]; omega))
            · have g1 : (((s[aa].toNat : Nat) : Int) == 93) = false := by simp; omega
              clear h93 hb93 HSE
              obtain ⟨c0, c1, c2, c3, f1, f2, f3⟩ := HR2.out.rk.rp.cells
              clear c2 c3 f2 f3
              go_wp2_with fail
              go_quiet (fail)
              have HRQ := Lib.hid (HR2.out.up ((Old.refl _).drewN nq))
              generalize W6.drewN nq = W5 at *
              clear HR2
              have HR2 := Lib.hid HRQ.out
              clear HRQ
              clear c0 c1 f1 g1
              by_cases he2 : e2 = 0
              · subst he2
                obtain ⟨f', hf'⟩ := HSTEP.out rfl
                have HNX := Lib.hid hf'
                have HE2 := Lib.hid ((HEL.out W5 HR2.out.rk.rp).mono fun e w' h => h.ok rfl)
                clear HEL HSTEP HBAD
                go_wp2_with fail
                refine (HE2.out).mono ?_; rintro e W9 ⟨rfl, hr⟩
                have HRN := Lib.hid (HR2.out.call hr)
                clear hr HR2 HE2
                have HR2 := Lib.hid HRN.out
                clear HRN
                unfold setA
                go_upto_region 14 with fail
                -- the element's set in its box, united with what there was
                have hb7 := heap_alloc_new W9 (.cells #[.int .u64 (setW ze 0), .int .u64 (setW ze 1), .int .u64 (setW ze 2), .int .u64 (setW ze 3)] 40)
                have ho7 := (Old.refl W9).alloc (.cells #[.int .u64 (setW ze 0), .int .u64 (setW ze 1), .int .u64 (setW ze 2), .int .u64 (setW ze 3)] 40)
                generalize W9.alloc (.cells #[.int .u64 (setW ze 0), .int .u64 (setW ze 1), .int .u64 (setW ze 2), .int .u64 (setW ze 3)] 40) = W7 at *
                have HB7 : Hid (W7.heap[W9.heap.size]? = some (setC ze)) := Lib.hid hb7
                clear hb7
                have HRQ := Lib.hid (HR2.out.up ho7)
                clear HR2 ho7
                have HR2 := Lib.hid HRQ.out
                clear HRQ
                generalize W9.heap.size = k7 at *
                obtain ⟨x0, x1, x2, x3, _, _, _, _⟩ := setC_cells HB7.out
                obtain ⟨t0, t1, t2, t3, _, _, _, _⟩ := setC_cells HR2.out.blk4
                have HUC := Lib.hid (union2C z ze)
                unfold setA at HUC
                go_wp2_with fail
                refine (HUC.out _).mono ?_; rintro e W8 ⟨rfl, ho8⟩
                clear HB7 HUC x0 x1 x2 x3 t0 t1 t2 t3
                have HRQ := Lib.hid (HR2.out.up ho8)
                clear HR2 ho8
                have HR2 := Lib.hid HRQ.out
                clear HRQ
                obtain ⟨t0, t1, t2, t3, r0, r1, r2, r3⟩ := setC_cells HR2.out.blk4
                have HRN := Lib.hid (HR2.out.put (z ||| ze))
                clear HR2
                go_wp2_with fail
                go_roundw
                case rel => exact ⟨c + 1, f', a2, z ||| ze, by go_num, by omega, q1, HRN, Lib.hid (Or.inl (by rw [show decide (c + 1 = 0) = false by simp]; exact HNX.out))⟩
                case measure => simp [intOf]; omega
              · have hre := HBAD.out he2
                have HRE := Lib.hid hre
                have HE2 := Lib.hid ((HEL.out W5 HR2.out.rk.rp).mono fun e w' h => h.no he2)
                clear HEL HSTEP HBAD hre
                go_wp2_with fail
                refine HE2.out.mono ?_
                rintro e W9 (⟨ze2, rfl, hr⟩ | ⟨h80, hse, ze2, a3, rfl, hr, h1, h2, h3⟩)
                · have HK := Lib.hid (HR2.out.rk.bad hr)
                  have hne : (e2 != 0) = true := by simpa using he2
                  clear hr HE2 HR2
                  unfold setA
                  go_upto_region 14 with fail
                  have ho7 := (Old.refl W9).alloc (.cells #[.int .u64 (setW ze2 0), .int .u64 (setW ze2 1), .int .u64 (setW ze2 2), .int .u64 (setW ze2 3)] 40)
                  generalize W9.alloc (.cells #[.int .u64 (setW ze2 0), .int .u64 (setW ze2 1), .int .u64 (setW ze2 2), .int .u64 (setW ze2 3)] 40) = W7 at *
                  have HK7 := Lib.hid (HK.out.up ho7)
                  clear HK ho7
                  have HK := Lib.hid HK7.out
                  clear HK7
                  obtain ⟨z0, z1, z2, z3, y0, y1, y2, y3⟩ := setC_cells HK.out.blk
                  have HF := Lib.hid HK.out.put0
                  obtain ⟨v0, v1, v2, v3, _, _, _, _⟩ := setC_cells HF.out.blk
                  go_wp2_with fail
                  refine bodyPost_ret (v := .tuple #[setA 0, .int .i64 e2]) (by simp [results, Try.results100, go_sem, v0, v1, v2, v3, setA]) rfl ?_
                  exact ⟨fun e => absurd (HRE.out.symm.trans e) he2, fun _ => ⟨0, by rw [HRE.out], HF.out.fin0⟩⟩
                · have HRN := Lib.hid (HR2.out.call hr)
                  have H3 := Lib.hid (show R.2.e = 80 by rw [HRE.out]; exact h80)
                  have HB3 := Lib.hid h3
                  clear hr HR2 HE2 h3 h80 hse HRE
                  have HR2 := Lib.hid HRN.out
                  clear HRN he2
                  unfold setA
                  go_upto_region 14 with fail
                  -- the element's set in its box, united with what there was
                  have hb7 := heap_alloc_new W9 (.cells #[.int .u64 (setW ze2 0), .int .u64 (setW ze2 1), .int .u64 (setW ze2 2), .int .u64 (setW ze2 3)] 40)
                  have ho7 := (Old.refl W9).alloc (.cells #[.int .u64 (setW ze2 0), .int .u64 (setW ze2 1), .int .u64 (setW ze2 2), .int .u64 (setW ze2 3)] 40)
                  generalize W9.alloc (.cells #[.int .u64 (setW ze2 0), .int .u64 (setW ze2 1), .int .u64 (setW ze2 2), .int .u64 (setW ze2 3)] 40) = W7 at *
                  have HB7 : Hid (W7.heap[W9.heap.size]? = some (setC ze2)) := Lib.hid hb7
                  clear hb7
                  have HRQ := Lib.hid (HR2.out.up ho7)
                  clear HR2 ho7
                  have HR2 := Lib.hid HRQ.out
                  clear HRQ
                  generalize W9.heap.size = k7 at *
                  obtain ⟨x0, x1, x2, x3, _, _, _, _⟩ := setC_cells HB7.out
                  obtain ⟨t0, t1, t2, t3, _, _, _, _⟩ := setC_cells HR2.out.blk4
                  have HUC := Lib.hid (union2C z ze2)
                  unfold setA at HUC
                  go_wp2_with fail
                  refine (HUC.out _).mono ?_; rintro e W8 ⟨rfl, ho8⟩
                  clear HB7 HUC x0 x1 x2 x3 t0 t1 t2 t3
                  have HRQ := Lib.hid (HR2.out.up ho8)
                  clear HR2 ho8
                  have HR2 := Lib.hid HRQ.out
                  clear HRQ
                  obtain ⟨t0, t1, t2, t3, r0, r1, r2, r3⟩ := setC_cells HR2.out.blk4
                  have HRN := Lib.hid (HR2.out.put (z ||| ze2))
                  clear HR2
                  go_wp2_with fail
                  go_roundw
                  case rel => exact ⟨c + 1, 0, a3, z ||| ze2, by go_num, by omega, by omega, HRN, Lib.hid (Or.inr ⟨by omega, h2, HB3.out, H3.out⟩)⟩
                  case measure => (first | (simp [intOf]; done) | (simp [intOf]; omega))
end Go.Proofs.Ythadkjgadhbidaa
