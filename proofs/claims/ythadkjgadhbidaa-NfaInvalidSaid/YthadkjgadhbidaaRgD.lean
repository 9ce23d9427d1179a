/-
  The walks of the program's reader of patterns: escape.
-/
import Derived.Test.YthadkjgadhbidaaRgC
namespace Go.Proofs.Ythadkjgadhbidaa
open Go.RowKit
set_option linter.unusedVariables false

theorem onlyB_one : ∀ b : Fin 256, onlyB (withB 0 b.val) = b.val := by decide +kernel
theorem rangeB_one (b : Nat) : rangeB b b = withB 0 b := by
  unfold rangeB
  rw [show b + 1 - b = 1 by omega]
  rfl
/-- The reader, and a block of the call's own for the result; what was there ahead of the call is as it was. -/
structure RK (w0 wb w : World) (B g : Nat) (s : ByteArray) (a d : Nat) (lv : Value) (N : List Nd) (k : Nat) (z : BSet) : Prop where
  rp : RP w0 w B g s a d lv N
  ng : k ≠ g
  nl : some k ≠ lv.ownBlock
  k0 : w0.heap.size ≤ k
  blk : w.heap[k]? = some (setC z)
  kb : wb.heap.size ≤ k
  kp : ∀ j, j < wb.heap.size → j ≠ g → w.heap[j]? = wb.heap[j]?
  sz : wb.heap.size ≤ w.heap.size
theorem RK.start {w0 w : World} {B g : Nat} {s : ByteArray} {a d : Nat} {lv : Value} {N : List Nd} (h : RP w0 w B g s a d lv N) : RK w0 w (w.alloc (.cells #[.int .u64 0, .int .u64 0, .int .u64 0, .int .u64 0] 40)) B g s a d lv N w.heap.size 0 :=
  ⟨h.up ((Old.refl w).alloc _), fun e => absurd (lt_of_block h.blk) (by omega), fun e => absurd (World.ownsRow.lt h.own _ e.symm).2 (by omega), h.old.size, heap_alloc_new w _, Nat.le_refl _, fun j hj _ => ((Old.refl w).alloc _).out.block j hj, by simp⟩
theorem RK.up {w0 wb w w' : World} {B g : Nat} {s : ByteArray} {a d : Nat} {lv : Value} {N : List Nd} {k : Nat} {z : BSet} (h : RK w0 wb w B g s a d lv N k z) (ho : Old w w') : RK w0 wb w' B g s a d lv N k z :=
  ⟨h.rp.up ho, h.ng, h.nl, h.k0, ho.block h.blk, h.kb, fun j hj hg => (ho.out.block j (Nat.lt_of_lt_of_le hj h.sz)).trans (h.kp j hj hg), Nat.le_trans h.sz ho.size⟩
theorem RK.at_ {w0 wb w : World} {B g : Nat} {s : ByteArray} {a d : Nat} {lv : Value} {N : List Nd} {k : Nat} {z : BSet} (h : RK w0 wb w B g s a d lv N k z) (a' : Nat) : RK w0 wb (w.setCell ⟨g, 1, none⟩ (.int .i64 (a' : Int))) B g s a' d lv N k z :=
  ⟨h.rp.at_ a', h.ng, h.nl, h.k0, (heap_setCell_other w ⟨g, 1, none⟩ k _ h.ng).trans h.blk, h.kb, fun j hj hg => (heap_setCell_other w ⟨g, 1, none⟩ j _ hg).trans (h.kp j hj hg), by simpa using h.sz⟩
theorem RK.plus {w0 wb w : World} {B g : Nat} {s : ByteArray} {a d : Nat} {lv : Value} {N : List Nd} {k : Nat} {z : BSet} (h : RK w0 wb w B g s a d lv N k z) (m : Nat) : RK w0 wb (w.setCell ⟨g, 1, none⟩ (.int .i64 ((a : Int) + (m : Int)))) B g s (a + m) d lv N k z := by
  have := h.at_ (a + m)
  rw [show ((a + m : Nat) : Int) = (a : Int) + (m : Int) by omega] at this
  exact this
theorem RP.far {w0 w : World} {B g : Nat} {s : ByteArray} {a d : Nat} {lv : Value} {N : List Nd} (h : RP w0 w B g s a d lv N) {k : Nat} (ng : k ≠ g) (nl : some k ≠ lv.ownBlock) (k0 : w0.heap.size ≤ k) (i : Nat) (v : Value) : RP w0 (w.setCell ⟨k, i, none⟩ v) B g s a d lv N :=
  ⟨h.old.setCell k0 _, (heap_setCell_other w ⟨k, i, none⟩ g _ (Ne.symm ng)).trans h.blk, World.ownsRow.kept h.own (set_gr w k i v) (Or.inr (fun e => nl e.symm)), h.bg, h.lg, by simpa using h.lB⟩
theorem RK.put {w0 wb w : World} {B g : Nat} {s : ByteArray} {a d : Nat} {lv : Value} {N : List Nd} {k : Nat} {z : BSet} (h : RK w0 wb w B g s a d lv N k z) (t : BSet) :
    RK w0 wb ((((w.setCell ⟨k, 0, none⟩ (.int .u64 (setW t 0))).setCell ⟨k, 1, none⟩ (.int .u64 (setW t 1))).setCell ⟨k, 2, none⟩ (.int .u64 (setW t 2))).setCell ⟨k, 3, none⟩ (.int .u64 (setW t 3))) B g s a d lv N k t :=
  ⟨(((h.rp.far h.ng h.nl h.k0 0 _).far h.ng h.nl h.k0 1 _).far h.ng h.nl h.k0 2 _).far h.ng h.nl h.k0 3 _, h.ng, h.nl, h.k0, setC_store h.blk t, h.kb,
    fun j hj hg => (set4_other w k j _ _ _ _ (fun e => by have := h.kb; omega)).trans (h.kp j hj hg), by simpa using h.sz⟩
theorem RK.put0 {w0 wb w : World} {B g : Nat} {s : ByteArray} {a d : Nat} {lv : Value} {N : List Nd} {k : Nat} {z : BSet} (h : RK w0 wb w B g s a d lv N k z) :
    RK w0 wb ((((w.setCell ⟨k, 0, none⟩ (.int .u64 0)).setCell ⟨k, 1, none⟩ (.int .u64 0)).setCell ⟨k, 2, none⟩ (.int .u64 0)).setCell ⟨k, 3, none⟩ (.int .u64 0)) B g s a d lv N k 0 := h.put 0
/-- What escape and single return: the byte for which they stand, or -1; the set; no error. -/
def oneV (z : BSet) (one : Bool) : Int := if one = true then (onlyB z : Int) else -1
structure SPost (w0 wb : World) (B g : Nat) (s : ByteArray) (d : Nat) (lv : Value) (N : List Nd) (r : (BSet × Bool) × Ps) (e : Ending) (w' : World) : Prop where
  ok : r.2.e = 0 → e = .returned (.tuple #[.int .i64 (oneV r.1.1 r.1.2), setA r.1.1, .int .i64 0]) ∧ RP w0 w' B g s r.2.at_ d lv N ∧ wb.heap.size ≤ w'.heap.size ∧ ∀ j, j < wb.heap.size → j ≠ g → w'.heap[j]? = wb.heap[j]?
  no : r.2.e ≠ 0 → ∃ v z, e = .returned (.tuple #[.int .i64 v, setA z, .int .i64 r.2.e]) ∧ Old w0 w' ∧ wb.heap.size ≤ w'.heap.size ∧ ∀ j, j < wb.heap.size → j ≠ g → w'.heap[j]? = wb.heap[j]?
theorem RK.fin {w0 wb w : World} {B g : Nat} {s : ByteArray} {a d : Nat} {lv : Value} {N : List Nd} {k : Nat} {z : BSet} (h : RK w0 wb w B g s a d lv N k z) : RP w0 w B g s a d lv N ∧ wb.heap.size ≤ w.heap.size ∧ ∀ j, j < wb.heap.size → j ≠ g → w.heap[j]? = wb.heap[j]? := ⟨h.rp, h.sz, h.kp⟩
theorem RK.fin0 {w0 wb w : World} {B g : Nat} {s : ByteArray} {a d : Nat} {lv : Value} {N : List Nd} {k : Nat} {z : BSet} (h : RK w0 wb w B g s a d lv N k z) : Old w0 w ∧ wb.heap.size ≤ w.heap.size ∧ ∀ j, j < wb.heap.size → j ≠ g → w.heap[j]? = wb.heap[j]? := ⟨h.rp.old, h.sz, h.kp⟩
/-- Behind a call that went well. -/
theorem RK.call {w0 wb w w' : World} {B g : Nat} {s : ByteArray} {a a' d : Nat} {lv : Value} {N : List Nd} {k : Nat} {z : BSet} (h : RK w0 wb w B g s a d lv N k z) (hr : RP w0 w' B g s a' d lv N ∧ w.heap.size ≤ w'.heap.size ∧ ∀ j, j < w.heap.size → j ≠ g → w'.heap[j]? = w.heap[j]?) : RK w0 wb w' B g s a' d lv N k z :=
  ⟨hr.1, h.ng, h.nl, h.k0, (hr.2.2 k (lt_of_block h.blk) h.ng).trans h.blk, h.kb, fun j hj hg => (hr.2.2 j (Nat.lt_of_lt_of_le hj h.sz) hg).trans (h.kp j hj hg), Nat.le_trans h.sz hr.2.1⟩
/-- The block for the result alone, behind an error. -/
structure EK (w0 wb w : World) (g k : Nat) (z : BSet) : Prop where
  old : Old w0 w
  ng : k ≠ g
  k0 : w0.heap.size ≤ k
  blk : w.heap[k]? = some (setC z)
  kb : wb.heap.size ≤ k
  kp : ∀ j, j < wb.heap.size → j ≠ g → w.heap[j]? = wb.heap[j]?
  sz : wb.heap.size ≤ w.heap.size
theorem RK.bad {w0 wb w w' : World} {B g : Nat} {s : ByteArray} {a d : Nat} {lv : Value} {N : List Nd} {k : Nat} {z : BSet} (h : RK w0 wb w B g s a d lv N k z) (hr : Old w0 w' ∧ w.heap.size ≤ w'.heap.size ∧ ∀ j, j < w.heap.size → j ≠ g → w'.heap[j]? = w.heap[j]?) : EK w0 wb w' g k z :=
  ⟨hr.1, h.ng, h.k0, (hr.2.2 k (lt_of_block h.blk) h.ng).trans h.blk, h.kb, fun j hj hg => (hr.2.2 j (Nat.lt_of_lt_of_le hj h.sz) hg).trans (h.kp j hj hg), Nat.le_trans h.sz hr.2.1⟩
theorem EK.put {w0 wb w : World} {g k : Nat} {z : BSet} (h : EK w0 wb w g k z) (t : BSet) :
    EK w0 wb ((((w.setCell ⟨k, 0, none⟩ (.int .u64 (setW t 0))).setCell ⟨k, 1, none⟩ (.int .u64 (setW t 1))).setCell ⟨k, 2, none⟩ (.int .u64 (setW t 2))).setCell ⟨k, 3, none⟩ (.int .u64 (setW t 3))) g k t :=
  ⟨(((h.old.setCell h.k0 _).setCell h.k0 _).setCell h.k0 _).setCell h.k0 _, h.ng, h.k0, setC_store h.blk t, h.kb, fun j hj hg => (set4_other w k j _ _ _ _ (fun e => by have := h.kb; omega)).trans (h.kp j hj hg), by simpa using h.sz⟩
theorem EK.put0 {w0 wb w : World} {g k : Nat} {z : BSet} (h : EK w0 wb w g k z) :
    EK w0 wb ((((w.setCell ⟨k, 0, none⟩ (.int .u64 0)).setCell ⟨k, 1, none⟩ (.int .u64 0)).setCell ⟨k, 2, none⟩ (.int .u64 0)).setCell ⟨k, 3, none⟩ (.int .u64 0)) g k 0 := h.put 0
theorem EK.up {w0 wb w w' : World} {g k : Nat} {z : BSet} (h : EK w0 wb w g k z) (ho : Old w w') : EK w0 wb w' g k z :=
  ⟨h.old.up ho, h.ng, h.k0, ho.block h.blk, h.kb, fun j hj hg => (ho.out.block j (Nat.lt_of_lt_of_le hj h.sz)).trans (h.kp j hj hg), Nat.le_trans h.sz ho.size⟩
theorem EK.fin0 {w0 wb w : World} {g k : Nat} {z : BSet} (h : EK w0 wb w g k z) : Old w0 w ∧ wb.heap.size ≤ w.heap.size ∧ ∀ j, j < wb.heap.size → j ≠ g → w.heap[j]? = wb.heap[j]? := ⟨h.old, h.sz, h.kp⟩
set_option maxHeartbeats 8000000 in
set_option maxRecDepth 100000 in
theorem escapeC (w0 : World) (B g : Nat) (s : ByteArray) (a d : Nat) (lv : Value) (N : List Nd) (w : World) (h : RP w0 w B g s a d lv N) (hs : s.size ≤ 1000000) (ha : a < s.size) (dp : Nat) :
    Calls Try.prog 101 #[.pointer (some ⟨g, 0, none⟩)] w (SPost w0 w B g s d lv N (escP (bs s) ⟨a + 1, dp, 0⟩)) := by
  have HK := Lib.hid (RK.start h)
  have hz := setW_zero
  have wa : IntKind.i64.wrap ((a : Int) + 1) = (a : Int) + 1 := IntWalk.i64_in _ (by omega)
  have i0 : (0 : Int) ≤ (a : Int) := by omega
  have HB := Lib.hid (bs_lt s (a + 1))
  clear h
  by_cases he : a + 1 = s.size
  · have e1 : ((a : Int) + 1 == (s.size : Int)) = true := by simp; omega
    have HR : Hid (escP (bs s) ⟨a + 1, dp, 0⟩ = ((0, false), ⟨a + 1, dp, 82⟩)) := Lib.hid (by unfold escP; rw [if_neg (by rw [bs_length]; simp only; omega)]; rfl)
    rw [HR.out]
    clear he
    go_enter Try.func101, Try.ntmps101
    go_upto_region 1 with fail
    generalize w.alloc (.cells #[.int .u64 0, .int .u64 0, .int .u64 0, .int .u64 0] 40) = W1 at *
    generalize w.heap.size = k3 at *
    obtain ⟨c0, c1, c2, c3, f1, f2, f3⟩ := HK.out.rp.cells
    obtain ⟨z0, z1, z2, z3, y0, y1, y2, y3⟩ := setC_cells HK.out.blk
    clear c2 c3 f2 f3
    go_wp2_with fail
    go_quiet (fail)
    have HKQ := Lib.hid (HK.out.up ((Old.refl _).drewN nq))
    generalize W1.drewN nq = W2 at *
    clear HK
    have HK := Lib.hid HKQ.out
    clear HKQ
    clear c0 c1 z0 z1 z2 z3 y0 y1 y2 y3 f1
    obtain ⟨z0, z1, z2, z3, y0, y1, y2, y3⟩ := setC_cells HK.out.blk
    have HF := Lib.hid HK.out.put0
    obtain ⟨v0, v1, v2, v3, _, _, _, _⟩ := setC_cells HF.out.blk
    go_wp2_with fail
    refine bodyPost_ret (v := .tuple #[.int .i64 0, setA 0, .int .i64 82]) (by simp [results, Try.results101, go_sem, v0, v1, v2, v3, setA]) rfl ?_
    exact ⟨fun e => absurd e (by simp only; decide), fun _ => ⟨_, _, rfl, HF.out.fin0⟩⟩
  · have e1 : ((a : Int) + 1 == (s.size : Int)) = false := by simp; omega
    have hlt : a + 1 < s.size := by omega
    have i1 : (a : Int) + 1 < (s.size : Int) := by omega
    have i2 : (0 : Int) ≤ (a : Int) + 1 := by omega
    have i3 : ((a : Int) + 1).toNat = a + 1 := by omega
    have HR : Hid (escP (bs s) ⟨a + 1, dp, 0⟩ = (((namedB s[a + 1].toNat).1, (namedB s[a + 1].toNat).2.1), if (namedB s[a + 1].toNat).2.2 = true then ⟨a + 2, dp, 0⟩ else ⟨a + 2, dp, 82⟩)) := Lib.hid (by
      unfold escP
      rw [if_pos (by rw [bs_length]; exact hlt)]
      unfold bAt
      rw [bs_get s (a + 1) hlt]
      simp only
      split <;> rfl)
    obtain ⟨R, hR⟩ : ∃ R, escP (bs s) ⟨a + 1, dp, 0⟩ = R := ⟨_, rfl⟩
    rw [hR]
    have HRR := Lib.hid (hR.symm.trans HR.out)
    have hb : s[a + 1].toNat < 256 := s[a + 1].toNat_lt
    clear he HR HB hR
    go_enter Try.func101, Try.ntmps101
    go_upto_region 1 with fail
    generalize w.alloc (.cells #[.int .u64 0, .int .u64 0, .int .u64 0, .int .u64 0] 40) = W1 at *
    generalize w.heap.size = k3 at *
    obtain ⟨c0, c1, c2, c3, f1, f2, f3⟩ := HK.out.rp.cells
    obtain ⟨z0, z1, z2, z3, y0, y1, y2, y3⟩ := setC_cells HK.out.blk
    clear c2 c3 f2 f3
    go_wp2_with fail
    go_quiet (fail)
    have HKQ := Lib.hid (HK.out.up ((Old.refl _).drewN nq))
    generalize W1.drewN nq = W2 at *
    clear HK
    have HK := Lib.hid HKQ.out
    clear HKQ
    clear c0 c1 z0 z1 z2 z3 y0 y1 y2 y3 f1
    obtain ⟨c0, c1, c2, c3, f1, f2, f3⟩ := HK.out.rp.cells
    obtain ⟨z0, z1, z2, z3, y0, y1, y2, y3⟩ := setC_cells HK.out.blk
    clear c2 c3 f2 f3
    clear z0 z1 z2 z3 y0 y1 y2 y3
    go_wp2_with fail
    go_quiet (fail)
    have HKQ := Lib.hid (HK.out.up ((Old.refl _).drewN nq))
    generalize W2.drewN nq = W3 at *
    clear HK
    have HK := Lib.hid HKQ.out
    clear HKQ
    generalize s[a + 1].toNat = b at *
    have b0 : (0 : Int) ≤ (b : Int) := by omega
    have b1 : (b : Int) < 256 := by omega
    obtain ⟨c0, c1, c2, c3, f1, f2, f3⟩ := HK.out.rp.cells
    obtain ⟨z0, z1, z2, z3, y0, y1, y2, y3⟩ := setC_cells HK.out.blk
    clear c2 c3 f2 f3
    clear z0 z1 z2 z3 y0 y1 y2 y3 c0
    have HK4 : Hid (RK w0 w (W3.setCell ⟨g, 1, none⟩ (.int .i64 ((a : Int) + 2))) B g s (a + 2) d lv N k3 0) := Lib.hid (by
      have := HK.out.at_ (a + 2)
      rw [show ((a + 2 : Nat) : Int) = (a : Int) + 2 by omega] at this
      exact this)
    clear HK
    go_upto_region 5 with fail
    generalize W3.setCell ⟨g, 1, none⟩ (.int .i64 ((a : Int) + 2)) = W4 at *
    have HK := Lib.hid HK4.out
    clear HK4 c1 f1 wa i0 i1 i2 i3 e1
    have hcase : b = 100 ∨ b = 119 ∨ b = 115 ∨ b = 110 ∨ b = 116 ∨ b = 114 ∨ (b ≠ 100 ∧ b ≠ 119 ∧ b ≠ 115 ∧ b ≠ 110 ∧ b ≠ 116 ∧ b ≠ 114) := by omega
    rcases hcase with rfl | rfl | rfl | rfl | rfl | rfl | ⟨n1, n2, n3, n4, n5, n6⟩
    · have HR : Hid (namedB 100 = (rangeB 48 57, false, true)) := Lib.hid rfl
      clear b0 b1 hb
      go_wp2_with fail
      refine (spanC 48 57 (by omega) (by omega) _).mono ?_; rintro e W5 ⟨rfl, hoN⟩
      have HKQ := Lib.hid (HK.out.up hoN)
      clear HK hoN
      have HK := Lib.hid HKQ.out
      clear HKQ
      generalize rangeB 48 57 = zz at *
      obtain ⟨z0, z1, z2, z3, y0, y1, y2, y3⟩ := setC_cells HK.out.blk
      have HF := Lib.hid (HK.out.put zz)
      obtain ⟨v0, v1, v2, v3, _, _, _, _⟩ := setC_cells HF.out.blk
      try unfold setA
      go_wp2_with fail
      refine bodyPost_ret (v := .tuple #[.int .i64 (-1), setA zz, .int .i64 0]) (by simp [results, Try.results101, go_sem, v0, v1, v2, v3, setA]) rfl ?_
      rw [HRR.out, HR.out]
      exact ⟨fun _ => ⟨rfl, HF.out.fin⟩, fun e => absurd rfl e⟩
    · have HR : Hid (namedB 119 = ((rangeB 65 90 ||| rangeB 97 122) ||| (rangeB 48 57 ||| rangeB 95 95), false, true)) := Lib.hid (by decide +kernel)
      clear b0 b1 hb
      go_wp2_with fail
      refine (spanC 65 90 (by omega) (by omega) _).mono ?_; rintro e W5 ⟨rfl, hoN⟩
      have HKQ := Lib.hid (HK.out.up hoN)
      clear HK hoN
      have HK := Lib.hid HKQ.out
      clear HKQ
      generalize rangeB 65 90 = za at *
      go_wp2_with fail
      refine (spanC 97 122 (by omega) (by omega) _).mono ?_; rintro e W6 ⟨rfl, hoN⟩
      have HKQ := Lib.hid (HK.out.up hoN)
      clear HK hoN
      have HK := Lib.hid HKQ.out
      clear HKQ
      generalize rangeB 97 122 = zb at *
      go_wp2_with fail
      refine (union2C _ _ _).mono ?_; rintro e W7 ⟨rfl, hoN⟩
      have HKQ := Lib.hid (HK.out.up hoN)
      clear HK hoN
      have HK := Lib.hid HKQ.out
      clear HKQ
      generalize za ||| zb = ze at *
      go_wp2_with fail
      refine (spanC 48 57 (by omega) (by omega) _).mono ?_; rintro e W8 ⟨rfl, hoN⟩
      have HKQ := Lib.hid (HK.out.up hoN)
      clear HK hoN
      have HK := Lib.hid HKQ.out
      clear HKQ
      generalize rangeB 48 57 = zc at *
      go_wp2_with fail
      refine (spanC 95 95 (by omega) (by omega) _).mono ?_; rintro e W9 ⟨rfl, hoN⟩
      have HKQ := Lib.hid (HK.out.up hoN)
      clear HK hoN
      have HK := Lib.hid HKQ.out
      clear HKQ
      generalize rangeB 95 95 = zd at *
      go_wp2_with fail
      refine (union2C _ _ _).mono ?_; rintro e W10 ⟨rfl, hoN⟩
      have HKQ := Lib.hid (HK.out.up hoN)
      clear HK hoN
      have HK := Lib.hid HKQ.out
      clear HKQ
      generalize zc ||| zd = zf at *
      go_wp2_with fail
      refine (union2C _ _ _).mono ?_; rintro e W11 ⟨rfl, hoN⟩
      have HKQ := Lib.hid (HK.out.up hoN)
      clear HK hoN
      have HK := Lib.hid HKQ.out
      clear HKQ
      generalize ze ||| zf = zz at *
      obtain ⟨z0, z1, z2, z3, y0, y1, y2, y3⟩ := setC_cells HK.out.blk
      have HF := Lib.hid (HK.out.put zz)
      obtain ⟨v0, v1, v2, v3, _, _, _, _⟩ := setC_cells HF.out.blk
      try unfold setA
      go_wp2_with fail
      refine bodyPost_ret (v := .tuple #[.int .i64 (-1), setA zz, .int .i64 0]) (by simp [results, Try.results101, go_sem, v0, v1, v2, v3, setA]) rfl ?_
      rw [HRR.out, HR.out]
      exact ⟨fun _ => ⟨rfl, HF.out.fin⟩, fun e => absurd rfl e⟩
    · have HR : Hid (namedB 115 = ((rangeB 32 32 ||| rangeB 9 9) ||| (rangeB 13 13 ||| rangeB 10 10), false, true)) := Lib.hid (by decide +kernel)
      clear b0 b1 hb
      go_wp2_with fail
      refine (spanC 32 32 (by omega) (by omega) _).mono ?_; rintro e W5 ⟨rfl, hoN⟩
      have HKQ := Lib.hid (HK.out.up hoN)
      clear HK hoN
      have HK := Lib.hid HKQ.out
      clear HKQ
      generalize rangeB 32 32 = za at *
      go_wp2_with fail
      refine (spanC 9 9 (by omega) (by omega) _).mono ?_; rintro e W6 ⟨rfl, hoN⟩
      have HKQ := Lib.hid (HK.out.up hoN)
      clear HK hoN
      have HK := Lib.hid HKQ.out
      clear HKQ
      generalize rangeB 9 9 = zb at *
      go_wp2_with fail
      refine (union2C _ _ _).mono ?_; rintro e W7 ⟨rfl, hoN⟩
      have HKQ := Lib.hid (HK.out.up hoN)
      clear HK hoN
      have HK := Lib.hid HKQ.out
      clear HKQ
      generalize za ||| zb = ze at *
      go_wp2_with fail
      refine (spanC 13 13 (by omega) (by omega) _).mono ?_; rintro e W8 ⟨rfl, hoN⟩
      have HKQ := Lib.hid (HK.out.up hoN)
      clear HK hoN
      have HK := Lib.hid HKQ.out
      clear HKQ
      generalize rangeB 13 13 = zc at *
      go_wp2_with fail
      refine (spanC 10 10 (by omega) (by omega) _).mono ?_; rintro e W9 ⟨rfl, hoN⟩
      have HKQ := Lib.hid (HK.out.up hoN)
      clear HK hoN
      have HK := Lib.hid HKQ.out
      clear HKQ
      generalize rangeB 10 10 = zd at *
      go_wp2_with fail
      refine (union2C _ _ _).mono ?_; rintro e W10 ⟨rfl, hoN⟩
      have HKQ := Lib.hid (HK.out.up hoN)
      clear HK hoN
      have HK := Lib.hid HKQ.out
      clear HKQ
      generalize zc ||| zd = zf at *
      go_wp2_with fail
      refine (union2C _ _ _).mono ?_; rintro e W11 ⟨rfl, hoN⟩
      have HKQ := Lib.hid (HK.out.up hoN)
      clear HK hoN
      have HK := Lib.hid HKQ.out
      clear HKQ
      generalize ze ||| zf = zz at *
      obtain ⟨z0, z1, z2, z3, y0, y1, y2, y3⟩ := setC_cells HK.out.blk
      have HF := Lib.hid (HK.out.put zz)
      obtain ⟨v0, v1, v2, v3, _, _, _, _⟩ := setC_cells HF.out.blk
      try unfold setA
      go_wp2_with fail
      refine bodyPost_ret (v := .tuple #[.int .i64 (-1), setA zz, .int .i64 0]) (by simp [results, Try.results101, go_sem, v0, v1, v2, v3, setA]) rfl ?_
      rw [HRR.out, HR.out]
      exact ⟨fun _ => ⟨rfl, HF.out.fin⟩, fun e => absurd rfl e⟩
    · have HR : Hid (namedB 110 = (rangeB 10 10, true, true)) := Lib.hid (by decide +kernel)
      have HO : Hid (onlyB (rangeB 10 10) = 10) := Lib.hid (by decide +kernel)
      clear b0 b1 hb
      go_wp2_with fail
      refine (spanC 10 10 (by omega) (by omega) _).mono ?_; rintro e W5 ⟨rfl, hoN⟩
      have HKQ := Lib.hid (HK.out.up hoN)
      clear HK hoN
      have HK := Lib.hid HKQ.out
      clear HKQ
      generalize rangeB 10 10 = zz at *
      obtain ⟨z0, z1, z2, z3, y0, y1, y2, y3⟩ := setC_cells HK.out.blk
      have HF := Lib.hid (HK.out.put zz)
      obtain ⟨v0, v1, v2, v3, _, _, _, _⟩ := setC_cells HF.out.blk
      try unfold setA
      go_wp2_with fail
      refine bodyPost_ret (v := .tuple #[.int .i64 10, setA zz, .int .i64 0]) (by simp [results, Try.results101, go_sem, v0, v1, v2, v3, setA]) rfl ?_
      rw [HRR.out, HR.out]
      exact ⟨fun _ => ⟨by unfold oneV; simp [HO.out], HF.out.fin⟩, fun e => absurd rfl e⟩
    · have HR : Hid (namedB 116 = (rangeB 9 9, true, true)) := Lib.hid (by decide +kernel)
      have HO : Hid (onlyB (rangeB 9 9) = 9) := Lib.hid (by decide +kernel)
      clear b0 b1 hb
      go_wp2_with fail
      refine (spanC 9 9 (by omega) (by omega) _).mono ?_; rintro e W5 ⟨rfl, hoN⟩
      have HKQ := Lib.hid (HK.out.up hoN)
      clear HK hoN
      have HK := Lib.hid HKQ.out
      clear HKQ
      generalize rangeB 9 9 = zz at *
      obtain ⟨z0, z1, z2, z3, y0, y1, y2, y3⟩ := setC_cells HK.out.blk
      have HF := Lib.hid (HK.out.put zz)
      obtain ⟨v0, v1, v2, v3, _, _, _, _⟩ := setC_cells HF.out.blk
      try unfold setA
      go_wp2_with fail
      refine bodyPost_ret (v := .tuple #[.int .i64 9, setA zz, .int .i64 0]) (by simp [results, Try.results101, go_sem, v0, v1, v2, v3, setA]) rfl ?_
      rw [HRR.out, HR.out]
      exact ⟨fun _ => ⟨by unfold oneV; simp [HO.out], HF.out.fin⟩, fun e => absurd rfl e⟩
    · have HR : Hid (namedB 114 = (rangeB 13 13, true, true)) := Lib.hid (by decide +kernel)
      have HO : Hid (onlyB (rangeB 13 13) = 13) := Lib.hid (by decide +kernel)
      clear b0 b1 hb
      go_wp2_with fail
      refine (spanC 13 13 (by omega) (by omega) _).mono ?_; rintro e W5 ⟨rfl, hoN⟩
      have HKQ := Lib.hid (HK.out.up hoN)
      clear HK hoN
      have HK := Lib.hid HKQ.out
      clear HKQ
      generalize rangeB 13 13 = zz at *
      obtain ⟨z0, z1, z2, z3, y0, y1, y2, y3⟩ := setC_cells HK.out.blk
      have HF := Lib.hid (HK.out.put zz)
      obtain ⟨v0, v1, v2, v3, _, _, _, _⟩ := setC_cells HF.out.blk
      try unfold setA
      go_wp2_with fail
      refine bodyPost_ret (v := .tuple #[.int .i64 13, setA zz, .int .i64 0]) (by simp [results, Try.results101, go_sem, v0, v1, v2, v3, setA]) rfl ?_
      rw [HRR.out, HR.out]
      exact ⟨fun _ => ⟨by unfold oneV; simp [HO.out], HF.out.fin⟩, fun e => absurd rfl e⟩
    · have q1 : ((b : Int) == 100) = false := by simp; omega
      have q2 : ((b : Int) == 119) = false := by simp; omega
      have q3 : ((b : Int) == 115) = false := by simp; omega
      have q4 : ((b : Int) == 110) = false := by simp; omega
      have q5 : ((b : Int) == 116) = false := by simp; omega
      have q6 : ((b : Int) == 114) = false := by simp; omega
      have HR : Hid (namedB b = if markB b = true then (withB 0 b, true, true) else (0, false, false)) := Lib.hid (by
        unfold namedB
        rw [if_neg n4, if_neg n5, if_neg n6, if_neg n1, if_neg n2, if_neg n3])
      have HM := Lib.hid (isMarkC b hb)
      have HSP := Lib.hid (spanC b b hb hb)
      have HO : Hid (rangeB b b = withB 0 b ∧ onlyB (rangeB b b) = b) := Lib.hid ⟨rangeB_one b, by rw [rangeB_one]; exact onlyB_one ⟨b, hb⟩⟩
      clear n1 n2 n3 n4 n5 n6
      generalize markB b = mm at *
      cases mm with
      | false =>
        go_wp2_with fail
        refine (HM.out _).mono ?_; rintro e W5 ⟨rfl, hoN⟩
        have HKQ := Lib.hid (HK.out.up hoN)
        clear HK hoN
        have HK := Lib.hid HKQ.out
        clear HKQ
        obtain ⟨z0, z1, z2, z3, y0, y1, y2, y3⟩ := setC_cells HK.out.blk
        have HF := Lib.hid HK.out.put0
        obtain ⟨v0, v1, v2, v3, _, _, _, _⟩ := setC_cells HF.out.blk
        go_wp2_with fail
        refine bodyPost_ret (v := .tuple #[.int .i64 0, setA 0, .int .i64 82]) (by simp [results, Try.results101, go_sem, v0, v1, v2, v3, setA]) rfl ?_
        rw [HRR.out, HR.out]
        exact ⟨fun e => absurd e (by simp), fun _ => ⟨_, _, rfl, HF.out.fin0⟩⟩
      | true =>
        go_wp2_with fail
        refine (HM.out _).mono ?_; rintro e W5 ⟨rfl, hoN⟩
        have HKQ := Lib.hid (HK.out.up hoN)
        clear HK hoN
        have HK := Lib.hid HKQ.out
        clear HKQ
        go_wp2_with fail
        refine (HSP.out _).mono ?_; rintro e W6 ⟨rfl, hoN⟩
        have HKQ := Lib.hid (HK.out.up hoN)
        clear HK hoN
        have HK := Lib.hid HKQ.out
        clear HKQ
        generalize rangeB b b = zz at *
        obtain ⟨z0, z1, z2, z3, y0, y1, y2, y3⟩ := setC_cells HK.out.blk
        have HF := Lib.hid (HK.out.put zz)
        obtain ⟨v0, v1, v2, v3, _, _, _, _⟩ := setC_cells HF.out.blk
        try unfold setA
        go_wp2_with fail
        refine bodyPost_ret (v := .tuple #[.int .i64 (b : Int), setA zz, .int .i64 0]) (by simp [results, Try.results101, go_sem, v0, v1, v2, v3, setA]) rfl ?_
        rw [HRR.out, HR.out, if_pos trivial, ← HO.out.1]
        exact ⟨fun _ => ⟨by unfold oneV; simp [HO.out.2], HF.out.fin⟩, fun e => absurd rfl e⟩
end Go.Proofs.Ythadkjgadhbidaa
