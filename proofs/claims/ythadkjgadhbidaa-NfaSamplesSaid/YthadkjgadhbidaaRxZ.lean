/-
  The walk of the reference's named.
-/
import Derived.Test.YthadkjgadhbidaaRxY
namespace Go.Proofs.Ythadkjgadhbidaa
open Go.RowKit
set_option linter.unusedVariables false

theorem setA_zero : setA 0 = .agg #[.int .u64 0, .int .u64 0, .int .u64 0, .int .u64 0] := by
  unfold setA
  rw [setW_zero, setW_zero, setW_zero, setW_zero]; rfl
theorem with0C (b : Nat) (hb : b < 256) (w : World) : Calls Try.prog 92 #[.agg #[.int .u64 0, .int .u64 0, .int .u64 0, .int .u64 0], .int .u8 b] w (ValOld (setA (withB 0 b)) w) := by
  have := withC 0 b hb w
  rw [setA_zero] at this
  exact this
def NamedPost (r : BSet × Bool × Bool) (w : World) (e : Ending) (w' : World) : Prop := e = .returned (.tuple #[setA r.1, .bool r.2.1, .bool r.2.2]) ∧ Old w w'
set_option maxHeartbeats 4000000 in
set_option maxRecDepth 100000 in
theorem namedC (b : Nat) (hb : b < 256) (w : World) : Calls Try.prog 96 #[.int .u8 b] w (NamedPost (namedB b) w) := by
  have OW := Lib.hid ((Old.refl w).alloc (.cells #[.int .u64 0, .int .u64 0, .int .u64 0, .int .u64 0] 40))
  have HG : Hid ((w.alloc (.cells #[.int .u64 0, .int .u64 0, .int .u64 0, .int .u64 0] 40)).heap[w.heap.size]? = some (setC 0)) := Lib.hid (heap_alloc_new w _)
  have w0 := Lib.hid (fun b hb w => with0C b hb w)
  have z0 : (0 : Int) ≤ b := by omega
  have z1 : (b : Int) ≤ 255 := by omega
  have hc : b = 110 ∨ b = 116 ∨ b = 114 ∨ b = 100 ∨ b = 119 ∨ b = 115 ∨ (b ≠ 110 ∧ b ≠ 116 ∧ b ≠ 114 ∧ b ≠ 100 ∧ b ≠ 119 ∧ b ≠ 115) := by omega
  rcases hc with hc | hc | hc | hc | hc | hc | hc
  · have b1 : ((b : Int) == 110) = true := by simp; omega
    have hr : namedB b = (withB 0 10, true, true) := by unfold namedB; first | rw [if_pos (by omega)] | rw [if_neg (by omega), if_pos (by omega)] | rw [if_neg (by omega), if_neg (by omega), if_pos (by omega)] | rw [if_neg (by omega), if_neg (by omega), if_neg (by omega), if_pos (by omega)] | rw [if_neg (by omega), if_neg (by omega), if_neg (by omega), if_neg (by omega), if_pos (by omega)] | rw [if_neg (by omega), if_neg (by omega), if_neg (by omega), if_neg (by omega), if_neg (by omega), if_pos (by omega)]
    rw [hr]
    clear hr
    clear hc
    go_enter Try.func96, Try.ntmps96
    go_wp2_with fail
    refine (w0.out 10 (by decide) _).mono ?_; rintro e w2 ⟨rfl, o2⟩
    have hx := o2.block HG.out
    obtain ⟨d0, d1, d2, d3, g0, g1, g2, g3⟩ := setC_cells hx
    have hst := setC_store hx (withB 0 10)
    obtain ⟨e0, e1, e2, e3, _, _, _, _⟩ := setC_cells hst
    have HOF := Lib.hid ((((OW.out.up o2).setCell (p := ⟨w.heap.size, 0, none⟩) (Nat.le_refl _) (.int .u64 (setW (withB 0 10) 0))).setCell (p := ⟨w.heap.size, 1, none⟩) (Nat.le_refl _) (.int .u64 (setW (withB 0 10) 1))).setCell (p := ⟨w.heap.size, 2, none⟩) (Nat.le_refl _) (.int .u64 (setW (withB 0 10) 2)) |>.setCell (p := ⟨w.heap.size, 3, none⟩) (Nat.le_refl _) (.int .u64 (setW (withB 0 10) 3)))
    clear hst hx
    unfold setA
    go_wp2_with fail
    refine bodyPost_ret (v := .tuple #[setA (withB 0 10), .bool true, .bool true]) (by simp [results, Try.results96, go_sem, e0, e1, e2, e3, setA]) rfl ⟨rfl, HOF.out⟩
  · have b1 : ((b : Int) == 110) = false := by simp; omega
    have b2 : ((b : Int) == 116) = true := by simp; omega
    have hr : namedB b = (withB 0 9, true, true) := by unfold namedB; first | rw [if_pos (by omega)] | rw [if_neg (by omega), if_pos (by omega)] | rw [if_neg (by omega), if_neg (by omega), if_pos (by omega)] | rw [if_neg (by omega), if_neg (by omega), if_neg (by omega), if_pos (by omega)] | rw [if_neg (by omega), if_neg (by omega), if_neg (by omega), if_neg (by omega), if_pos (by omega)] | rw [if_neg (by omega), if_neg (by omega), if_neg (by omega), if_neg (by omega), if_neg (by omega), if_pos (by omega)]
    rw [hr]
    clear hr
    clear hc
    go_enter Try.func96, Try.ntmps96
    go_wp2_with fail
    refine (w0.out 9 (by decide) _).mono ?_; rintro e w2 ⟨rfl, o2⟩
    have hx := o2.block HG.out
    obtain ⟨d0, d1, d2, d3, g0, g1, g2, g3⟩ := setC_cells hx
    have hst := setC_store hx (withB 0 9)
    obtain ⟨e0, e1, e2, e3, _, _, _, _⟩ := setC_cells hst
    have HOF := Lib.hid ((((OW.out.up o2).setCell (p := ⟨w.heap.size, 0, none⟩) (Nat.le_refl _) (.int .u64 (setW (withB 0 9) 0))).setCell (p := ⟨w.heap.size, 1, none⟩) (Nat.le_refl _) (.int .u64 (setW (withB 0 9) 1))).setCell (p := ⟨w.heap.size, 2, none⟩) (Nat.le_refl _) (.int .u64 (setW (withB 0 9) 2)) |>.setCell (p := ⟨w.heap.size, 3, none⟩) (Nat.le_refl _) (.int .u64 (setW (withB 0 9) 3)))
    clear hst hx
    unfold setA
    go_wp2_with fail
    refine bodyPost_ret (v := .tuple #[setA (withB 0 9), .bool true, .bool true]) (by simp [results, Try.results96, go_sem, e0, e1, e2, e3, setA]) rfl ⟨rfl, HOF.out⟩
  · have b1 : ((b : Int) == 110) = false := by simp; omega
    have b2 : ((b : Int) == 116) = false := by simp; omega
    have b3 : ((b : Int) == 114) = true := by simp; omega
    have hr : namedB b = (withB 0 13, true, true) := by unfold namedB; first | rw [if_pos (by omega)] | rw [if_neg (by omega), if_pos (by omega)] | rw [if_neg (by omega), if_neg (by omega), if_pos (by omega)] | rw [if_neg (by omega), if_neg (by omega), if_neg (by omega), if_pos (by omega)] | rw [if_neg (by omega), if_neg (by omega), if_neg (by omega), if_neg (by omega), if_pos (by omega)] | rw [if_neg (by omega), if_neg (by omega), if_neg (by omega), if_neg (by omega), if_neg (by omega), if_pos (by omega)]
    rw [hr]
    clear hr
    clear hc
    go_enter Try.func96, Try.ntmps96
    go_wp2_with fail
    refine (w0.out 13 (by decide) _).mono ?_; rintro e w2 ⟨rfl, o2⟩
    have hx := o2.block HG.out
    obtain ⟨d0, d1, d2, d3, g0, g1, g2, g3⟩ := setC_cells hx
    have hst := setC_store hx (withB 0 13)
    obtain ⟨e0, e1, e2, e3, _, _, _, _⟩ := setC_cells hst
    have HOF := Lib.hid ((((OW.out.up o2).setCell (p := ⟨w.heap.size, 0, none⟩) (Nat.le_refl _) (.int .u64 (setW (withB 0 13) 0))).setCell (p := ⟨w.heap.size, 1, none⟩) (Nat.le_refl _) (.int .u64 (setW (withB 0 13) 1))).setCell (p := ⟨w.heap.size, 2, none⟩) (Nat.le_refl _) (.int .u64 (setW (withB 0 13) 2)) |>.setCell (p := ⟨w.heap.size, 3, none⟩) (Nat.le_refl _) (.int .u64 (setW (withB 0 13) 3)))
    clear hst hx
    unfold setA
    go_wp2_with fail
    refine bodyPost_ret (v := .tuple #[setA (withB 0 13), .bool true, .bool true]) (by simp [results, Try.results96, go_sem, e0, e1, e2, e3, setA]) rfl ⟨rfl, HOF.out⟩
  · have b1 : ((b : Int) == 110) = false := by simp; omega
    have b2 : ((b : Int) == 116) = false := by simp; omega
    have b3 : ((b : Int) == 114) = false := by simp; omega
    have b4 : ((b : Int) == 100) = true := by simp; omega
    have hr : namedB b = (rangeB 48 57, false, true) := by unfold namedB; first | rw [if_pos (by omega)] | rw [if_neg (by omega), if_pos (by omega)] | rw [if_neg (by omega), if_neg (by omega), if_pos (by omega)] | rw [if_neg (by omega), if_neg (by omega), if_neg (by omega), if_pos (by omega)] | rw [if_neg (by omega), if_neg (by omega), if_neg (by omega), if_neg (by omega), if_pos (by omega)] | rw [if_neg (by omega), if_neg (by omega), if_neg (by omega), if_neg (by omega), if_neg (by omega), if_pos (by omega)]
    rw [hr]
    clear hr
    clear hc
    go_enter Try.func96, Try.ntmps96
    go_wp2_with fail
    refine (rangeC 48 57 (by decide) (by decide) _).mono ?_; rintro e w2 ⟨rfl, o2⟩
    have hx := o2.block HG.out
    obtain ⟨d0, d1, d2, d3, g0, g1, g2, g3⟩ := setC_cells hx
    have hst := setC_store hx (rangeB 48 57)
    obtain ⟨e0, e1, e2, e3, _, _, _, _⟩ := setC_cells hst
    have HOF := Lib.hid ((((OW.out.up o2).setCell (p := ⟨w.heap.size, 0, none⟩) (Nat.le_refl _) (.int .u64 (setW (rangeB 48 57) 0))).setCell (p := ⟨w.heap.size, 1, none⟩) (Nat.le_refl _) (.int .u64 (setW (rangeB 48 57) 1))).setCell (p := ⟨w.heap.size, 2, none⟩) (Nat.le_refl _) (.int .u64 (setW (rangeB 48 57) 2)) |>.setCell (p := ⟨w.heap.size, 3, none⟩) (Nat.le_refl _) (.int .u64 (setW (rangeB 48 57) 3)))
    clear hst hx
    unfold setA
    go_wp2_with fail
    refine bodyPost_ret (v := .tuple #[setA (rangeB 48 57), .bool false, .bool true]) (by simp [results, Try.results96, go_sem, e0, e1, e2, e3, setA]) rfl ⟨rfl, HOF.out⟩
  · have b1 : ((b : Int) == 110) = false := by simp; omega
    have b2 : ((b : Int) == 116) = false := by simp; omega
    have b3 : ((b : Int) == 114) = false := by simp; omega
    have b4 : ((b : Int) == 100) = false := by simp; omega
    have b5 : ((b : Int) == 119) = true := by simp; omega
    have hr : namedB b = ((rangeB 97 122 ||| rangeB 65 90) ||| (rangeB 48 57 ||| withB 0 95), false, true) := by unfold namedB; first | rw [if_pos (by omega)] | rw [if_neg (by omega), if_pos (by omega)] | rw [if_neg (by omega), if_neg (by omega), if_pos (by omega)] | rw [if_neg (by omega), if_neg (by omega), if_neg (by omega), if_pos (by omega)] | rw [if_neg (by omega), if_neg (by omega), if_neg (by omega), if_neg (by omega), if_pos (by omega)] | rw [if_neg (by omega), if_neg (by omega), if_neg (by omega), if_neg (by omega), if_neg (by omega), if_pos (by omega)]
    rw [hr]
    clear hr
    clear hc
    generalize hr1 : rangeB 97 122 = r1
    generalize hr2 : rangeB 65 90 = r2
    generalize hr3 : rangeB 48 57 = r3
    have R1 := Lib.hid (fun w => rangeC 97 122 (by decide) (by decide) w)
    have R2 := Lib.hid (fun w => rangeC 65 90 (by decide) (by decide) w)
    have R3 := Lib.hid (fun w => rangeC 48 57 (by decide) (by decide) w)
    rw [hr1] at R1
    rw [hr2] at R2
    rw [hr3] at R3
    clear hr1 hr2 hr3
    go_enter Try.func96, Try.ntmps96
    go_wp2_with fail
    refine (R1.out _).mono ?_; rintro e w2 ⟨rfl, o2⟩
    go_wp2_with fail
    refine (R2.out _).mono ?_; rintro e w3 ⟨rfl, o3⟩
    go_wp2_with fail
    refine (unionC r1 r2 _).mono ?_; rintro e w4 ⟨rfl, o4⟩
    go_wp2_with fail
    refine (R3.out _).mono ?_; rintro e w5 ⟨rfl, o5⟩
    go_wp2_with fail
    refine (w0.out 95 (by decide) _).mono ?_; rintro e w6 ⟨rfl, o6⟩
    go_wp2_with fail
    refine (unionC r3 (withB 0 95) _).mono ?_; rintro e w7 ⟨rfl, o7⟩
    go_wp2_with fail
    refine (unionC (r1 ||| r2) (r3 ||| withB 0 95) _).mono ?_; rintro e w8 ⟨rfl, o8⟩
    have o9 := (((((o2.up o3).up o4).up o5).up o6).up o7).up o8
    clear o2 o3 o4 o5 o6 o7 o8
    have hx := o9.block HG.out
    obtain ⟨d0, d1, d2, d3, g0, g1, g2, g3⟩ := setC_cells hx
    have hst := setC_store hx ((r1 ||| r2) ||| (r3 ||| withB 0 95))
    obtain ⟨e0, e1, e2, e3, _, _, _, _⟩ := setC_cells hst
    have HOF := Lib.hid ((((OW.out.up o9).setCell (p := ⟨w.heap.size, 0, none⟩) (Nat.le_refl _) (.int .u64 (setW ((r1 ||| r2) ||| (r3 ||| withB 0 95)) 0))).setCell (p := ⟨w.heap.size, 1, none⟩) (Nat.le_refl _) (.int .u64 (setW ((r1 ||| r2) ||| (r3 ||| withB 0 95)) 1))).setCell (p := ⟨w.heap.size, 2, none⟩) (Nat.le_refl _) (.int .u64 (setW ((r1 ||| r2) ||| (r3 ||| withB 0 95)) 2)) |>.setCell (p := ⟨w.heap.size, 3, none⟩) (Nat.le_refl _) (.int .u64 (setW ((r1 ||| r2) ||| (r3 ||| withB 0 95)) 3)))
    clear hst hx
    unfold setA
    go_wp2_with fail
    refine bodyPost_ret (v := .tuple #[setA ((r1 ||| r2) ||| (r3 ||| withB 0 95)), .bool false, .bool true]) (by simp [results, Try.results96, go_sem, e0, e1, e2, e3, setA]) rfl ⟨rfl, HOF.out⟩
  · have b1 : ((b : Int) == 110) = false := by simp; omega
    have b2 : ((b : Int) == 116) = false := by simp; omega
    have b3 : ((b : Int) == 114) = false := by simp; omega
    have b4 : ((b : Int) == 100) = false := by simp; omega
    have b5 : ((b : Int) == 119) = false := by simp; omega
    have b6 : ((b : Int) == 115) = true := by simp; omega
    have hr : namedB b = ((withB 0 32 ||| rangeB 9 10) ||| withB 0 13, false, true) := by unfold namedB; first | rw [if_pos (by omega)] | rw [if_neg (by omega), if_pos (by omega)] | rw [if_neg (by omega), if_neg (by omega), if_pos (by omega)] | rw [if_neg (by omega), if_neg (by omega), if_neg (by omega), if_pos (by omega)] | rw [if_neg (by omega), if_neg (by omega), if_neg (by omega), if_neg (by omega), if_pos (by omega)] | rw [if_neg (by omega), if_neg (by omega), if_neg (by omega), if_neg (by omega), if_neg (by omega), if_pos (by omega)]
    rw [hr]
    clear hr
    clear hc
    generalize hr1 : rangeB 9 10 = r1
    have R1 := Lib.hid (fun w => rangeC 9 10 (by decide) (by decide) w)
    rw [hr1] at R1
    clear hr1
    go_enter Try.func96, Try.ntmps96
    go_wp2_with fail
    refine (w0.out 32 (by decide) _).mono ?_; rintro e w2 ⟨rfl, o2⟩
    go_wp2_with fail
    refine (R1.out _).mono ?_; rintro e w3 ⟨rfl, o3⟩
    go_wp2_with fail
    refine (unionC (withB 0 32) r1 _).mono ?_; rintro e w4 ⟨rfl, o4⟩
    go_wp2_with fail
    refine (w0.out 13 (by decide) _).mono ?_; rintro e w5 ⟨rfl, o5⟩
    go_wp2_with fail
    refine (unionC (withB 0 32 ||| r1) (withB 0 13) _).mono ?_; rintro e w6 ⟨rfl, o6⟩
    have o9 := (((o2.up o3).up o4).up o5).up o6
    clear o2 o3 o4 o5 o6
    have hx := o9.block HG.out
    obtain ⟨d0, d1, d2, d3, g0, g1, g2, g3⟩ := setC_cells hx
    have hst := setC_store hx ((withB 0 32 ||| r1) ||| withB 0 13)
    obtain ⟨e0, e1, e2, e3, _, _, _, _⟩ := setC_cells hst
    have HOF := Lib.hid ((((OW.out.up o9).setCell (p := ⟨w.heap.size, 0, none⟩) (Nat.le_refl _) (.int .u64 (setW ((withB 0 32 ||| r1) ||| withB 0 13) 0))).setCell (p := ⟨w.heap.size, 1, none⟩) (Nat.le_refl _) (.int .u64 (setW ((withB 0 32 ||| r1) ||| withB 0 13) 1))).setCell (p := ⟨w.heap.size, 2, none⟩) (Nat.le_refl _) (.int .u64 (setW ((withB 0 32 ||| r1) ||| withB 0 13) 2)) |>.setCell (p := ⟨w.heap.size, 3, none⟩) (Nat.le_refl _) (.int .u64 (setW ((withB 0 32 ||| r1) ||| withB 0 13) 3)))
    clear hst hx
    unfold setA
    go_wp2_with fail
    refine bodyPost_ret (v := .tuple #[setA ((withB 0 32 ||| r1) ||| withB 0 13), .bool false, .bool true]) (by simp [results, Try.results96, go_sem, e0, e1, e2, e3, setA]) rfl ⟨rfl, HOF.out⟩
  · have b1 : ((b : Int) == 110) = false := by simp; omega
    have b2 : ((b : Int) == 116) = false := by simp; omega
    have b3 : ((b : Int) == 114) = false := by simp; omega
    have b4 : ((b : Int) == 100) = false := by simp; omega
    have b5 : ((b : Int) == 119) = false := by simp; omega
    have b6 : ((b : Int) == 115) = false := by simp; omega
    have hM := markC b hb (w.alloc (.cells #[.int .u64 0, .int .u64 0, .int .u64 0, .int .u64 0] 40))
    have hr0 : namedB b = if markB b = true then (withB 0 b, true, true) else (0, false, false) := by
      unfold namedB; rw [if_neg hc.1, if_neg hc.2.1, if_neg hc.2.2.1, if_neg hc.2.2.2.1, if_neg hc.2.2.2.2.1, if_neg hc.2.2.2.2.2]
    rw [hr0]
    clear hc hr0
    cases hm : markB b with
    | true =>
      rw [hm] at hM
      have HM := Lib.hid hM
      rw [if_pos rfl]
      clear hm hM
      go_enter Try.func96, Try.ntmps96
      go_wp2_with fail
      refine (HM.out).mono ?_; rintro e w2 ⟨rfl, o2⟩
      go_wp2_with fail
      refine (w0.out b hb _).mono ?_; rintro e w3 ⟨rfl, o3⟩
      have o9 := o2.up o3
      clear o2 o3
      have hx := o9.block HG.out
      obtain ⟨d0, d1, d2, d3, g0, g1, g2, g3⟩ := setC_cells hx
      have hst := setC_store hx (withB 0 b)
      obtain ⟨e0, e1, e2, e3, _, _, _, _⟩ := setC_cells hst
      have HOF := Lib.hid ((((OW.out.up o9).setCell (p := ⟨w.heap.size, 0, none⟩) (Nat.le_refl _) (.int .u64 (setW (withB 0 b) 0))).setCell (p := ⟨w.heap.size, 1, none⟩) (Nat.le_refl _) (.int .u64 (setW (withB 0 b) 1))).setCell (p := ⟨w.heap.size, 2, none⟩) (Nat.le_refl _) (.int .u64 (setW (withB 0 b) 2)) |>.setCell (p := ⟨w.heap.size, 3, none⟩) (Nat.le_refl _) (.int .u64 (setW (withB 0 b) 3)))
      clear hst hx
      unfold setA
      go_wp2_with fail
      refine bodyPost_ret (v := .tuple #[setA (withB 0 b), .bool true, .bool true]) (by simp [results, Try.results96, go_sem, e0, e1, e2, e3, setA]) rfl ⟨rfl, HOF.out⟩
    | false =>
      rw [hm] at hM
      have HM := Lib.hid hM
      rw [if_neg (by decide)]
      clear hm hM
      go_enter Try.func96, Try.ntmps96
      go_wp2_with fail
      refine (HM.out).mono ?_; rintro e w2 ⟨rfl, o2⟩
      have hx := o2.block HG.out
      obtain ⟨d0, d1, d2, d3, g0, g1, g2, g3⟩ := setC_cells hx
      have hst := setC_store hx 0
      rw [setW_zero, setW_zero, setW_zero, setW_zero] at hst
      obtain ⟨e0, e1, e2, e3, _, _, _, _⟩ := setC_cells hst
      have HOF := Lib.hid ((((OW.out.up o2).setCell (p := ⟨w.heap.size, 0, none⟩) (Nat.le_refl _) (.int .u64 0)).setCell (p := ⟨w.heap.size, 1, none⟩) (Nat.le_refl _) (.int .u64 0)).setCell (p := ⟨w.heap.size, 2, none⟩) (Nat.le_refl _) (.int .u64 0) |>.setCell (p := ⟨w.heap.size, 3, none⟩) (Nat.le_refl _) (.int .u64 0))
      clear hst hx
      go_wp2_with fail
      refine bodyPost_ret (v := .tuple #[setA 0, .bool false, .bool false]) (by simp [results, Try.results96, go_sem, d0, d1, d2, d3, setA, setW_zero]) rfl ⟨rfl, HOF.out⟩
end Go.Proofs.Ythadkjgadhbidaa
