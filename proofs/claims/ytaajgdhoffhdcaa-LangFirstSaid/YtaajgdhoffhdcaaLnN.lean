/-
  The walker: newWalker.
-/
import Derived.Test.YtaajgdhoffhdcaaLnZ
import Derived.Test.YtaajgdhoffhdcaaRegInvB
import Derived.Deep.OwnRows
import Derived.BigRegion
import Derived.RegionTactic
namespace Go.Proofs.Ytaajgdhoffhdcaa
open Go.RowKit
set_option linter.unusedVariables false

theorem info_ni : (Try.prog.info? 3).map (fun i => (i.zero, i.size, i.bytes)) = some (some (.int .i64 0), 1, 8) := by kernel_rfl
theorem info_nb : (Try.prog.info? 4).map (fun i => (i.zero, i.size, i.bytes)) = some (some (.bool false), 1, 1) := by kernel_rfl
theorem made_spz (n : Nat) : madeCells #[Value.int .i64 0] n = (spz (List.replicate n 0)).toArray := by
  apply Array.ext'
  simp [madeCells, spz]
  apply List.ext_getElem?
  intro i
  by_cases h : i < n <;> simp [h, Nat.mod_one]
theorem made_mkz (n : Nat) : madeCells #[Value.bool false] n = (mkz n []).toArray := by
  apply Array.ext'
  simp [madeCells, mkz]
  intro i _; simp [Nat.mod_one]
/-- The walker's parts as they come up. -/
structure NW (w : World) (n m : Nat) (A : Option Addr) (c gp gm g : Nat) (b3 b7 b9 : Bool) (ww : World) : Prop where
  old : Old w ww
  par : b3 = true → ww.heap[gp]? = some (.cells (spz (List.replicate n 0)).toArray 3 (0, 0)) ∧ w.heap.size ≤ gp
  mks : b7 = true → ww.heap[gm]? = some (.cells (mkz m []).toArray 4 (0, 0)) ∧ w.heap.size ≤ gm
  ne : b3 = true → b7 = true → gp ≠ gm
  box : b9 = true → ww.heap[g]? = some (.cells #[.slice A n c, .slice (some ⟨gp, 0, none⟩) n n, .slice (some ⟨gm, 0, none⟩) m m, .slice none 0 0] 86 (0, 0)) ∧ gp < g ∧ gm < g
theorem NW.mkP {w ww : World} {n m : Nat} {A : Option Addr} {c gp gm g : Nat} {b7 : Bool} (h : NW w n m A c gp gm g false b7 false ww) : NW w n m A c ww.heap.size gm g true b7 false (ww.alloc (.cells (madeCells #[.int .i64 0] n) 3)) :=
  ⟨h.old.alloc _, fun _ => ⟨by rw [made_spz]; exact heap_alloc_new _ _, h.old.size⟩, fun e => ⟨((Old.refl ww).alloc _).block (h.mks e).1, (h.mks e).2⟩, fun _ e => by have := lt_of_block (h.mks e).1; omega, fun e => by cases e⟩
theorem NW.mkM {w ww : World} {n m : Nat} {A : Option Addr} {c gp gm g : Nat} {b3 : Bool} (h : NW w n m A c gp gm g b3 false false ww) : NW w n m A c gp ww.heap.size g b3 true false (ww.alloc (.cells (madeCells #[.bool false] m) 4)) :=
  ⟨h.old.alloc _, fun e => ⟨((Old.refl ww).alloc _).block (h.par e).1, (h.par e).2⟩, fun _ => ⟨by rw [made_mkz]; exact heap_alloc_new _ _, h.old.size⟩, fun e _ => by have := lt_of_block (h.par e).1; omega, fun e => by cases e⟩
theorem NW.mkB {w ww : World} {n m : Nat} {A : Option Addr} {c gp gm g : Nat} (h : NW w n m A c gp gm g true true false ww) : NW w n m A c gp gm ww.heap.size true true true (ww.alloc (.cells #[.slice A n c, .slice (some ⟨gp, 0, none⟩) n n, .slice (some ⟨gm, 0, none⟩) m m, .slice none 0 0] 86)) :=
  ⟨h.old.alloc _, fun e => ⟨((Old.refl ww).alloc _).block (h.par e).1, (h.par e).2⟩, fun e => ⟨((Old.refl ww).alloc _).block (h.mks e).1, (h.mks e).2⟩, h.ne, fun _ => ⟨heap_alloc_new _ _, lt_of_block (h.par rfl).1, lt_of_block (h.mks rfl).1⟩⟩
theorem NW.wk {w ww : World} {l : List Nd} {A : Option Addr} {c gp gm g : Nat} (hr : Rs w A (ndsV l)) (h : NW w l.length (2 * l.length) A c gp gm g true true true ww) : WK w ww (g + 1) g gp gm l A c (parM l 0) (.slice none 0 0) [] [] := by
  obtain ⟨b1, b2, b3⟩ := h.box rfl
  refine ⟨h.old, hr, b1, (h.par rfl).1, (h.mks rfl).1, Own.nil_ _ _ _ _, ?_, (h.par rfl).2, (h.mks rfl).2, by omega, by omega, by omega, by omega, by omega, h.ne rfl rfl, ?_⟩
  · have := (h.par rfl).2; omega
  · have := lt_of_block b1; omega
theorem spz_set (ps : List Nat) (i v : Nat) : (spz ps).set i (.int .i64 (v : Int)) = spz (ps.set i v) := by simp [spz, List.map_set]
theorem WK.par_ {w0 w : World} {B g gp gm : Nat} {l : List Nd} {A : Option Addr} {c : Nat} {ps : List Nat} {lv : Value} {M L : List Nat} (h : WK w0 w B g gp gm l A c ps lv M L) (i v : Nat) : WK w0 (w.setCell ⟨gp, i, none⟩ (.int .i64 (v : Int))) B g gp gm l A c (ps.set i v) lv M L := by
  have hgr : w.grownBy (w.setCell ⟨gp, i, none⟩ (.int .i64 (v : Int))) (some gp) := ⟨rfl, rfl, rfl, by simp, fun k _ hk => heap_setCell_other w ⟨gp, i, none⟩ k _ (fun e => hk (by simp [e]))⟩
  refine ⟨h.old.setCell h.bp _, h.nodes, ?_, ?_, ?_, World.ownsRow.kept h.own hgr (Or.inr (fun e => own_far h.own h.lp e.symm)), h.bg, h.bp, h.bm, h.lg, h.lp, h.lm, h.n1, h.n2, h.n3, by simpa using h.lB⟩
  · rw [heap_setCell_other w ⟨gp, i, none⟩ g _ h.n1]; exact h.blk
  · rw [heap_setCell_same w gp i _ _ _ h.par, List.setIfInBounds_toArray, spz_set]
  · rw [heap_setCell_other w ⟨gp, i, none⟩ gm _ (Ne.symm h.n3)]; exact h.mks
def NI (w : World) (n m : Nat) (A : Option Addr) (c : Nat) (s0 : Value) (listed : Array Bool) (a : Act) (ww : World) : Prop :=
  ∃ (b0 b1 b2 b3 b4 b5 b6 b7 b8 b9 b10 : Bool) (gp gm g : Nat) (nov : Value), listed = #[b0, b1, b2, b3, b4, b5, b6, b7, b8, b9, b10] ∧
    a = { tmps := #[s0, undef, .pointer none, cond b10 (.pointer (some ⟨g, 0, none⟩)) (undef), undef, undef, cond b0 (s0) (undef), cond b1 (s0) (undef), cond b2 (.int .i64 (n : Int)) (undef), cond b3 (.slice (some ⟨gp, 0, none⟩) n n) (undef), cond b4 (s0) (undef), cond b5 (.int .i64 (n : Int)) (undef), cond b6 (.int .i64 (m : Int)) (undef), cond b7 (.slice (some ⟨gm, 0, none⟩) m m) (undef), cond b8 (.agg #[s0, .slice (some ⟨gp, 0, none⟩) n n, .slice (some ⟨gm, 0, none⟩) m m, .slice none 0 0]) (undef), cond b9 (.pointer (some ⟨g, 0, none⟩)) (undef), undef, undef, undef, undef, undef, undef, undef, undef, undef, undef, undef, undef, undef, undef, undef, undef, undef, undef, undef, undef, undef, undef, undef, undef, undef, undef, undef, undef, undef, undef, undef, undef, undef, undef], defers := [] } ∧ NW w n m A c gp gm g b3 b7 b9 ww
def NewPost (w : World) (l : List Nd) (A : Option Addr) (c : Nat) (e : Ending) (w' : World) : Prop :=
  ∃ B g gp gm, e = .returned (.pointer (some ⟨g, 0, none⟩)) ∧ WK w w' B g gp gm l A c (parM l l.length) (.slice none 0 0) [] []
def NewRel (w : World) (l : List Nd) (A : Option Addr) (c g gp gm : Nat) (v : Value) (wr : World) : Prop :=
  ∃ k : Nat, v = .int .i64 k ∧ k ≤ l.length ∧ Hid (WK w wr (g + 1) g gp gm l A c (parM l k) (.slice none 0 0) [] [])
set_option maxHeartbeats 4000000 in
set_option maxRecDepth 100000 in
theorem newWalkerC (A : Option Addr) (c : Nat) (l : List Nd) (w : World) (hr : Rs w A (ndsV l)) (hl : l.length ≤ 256) (hK : Kin l) :
    Calls Try.prog 44 #[.slice A l.length c] w (NewPost w l A c) := by
  have HR := Lib.hid hr
  clear hr
  obtain ⟨m, hm⟩ : ∃ m, m = 2 * l.length := ⟨_, rfl⟩
  have um : IntKind.i64.wrap (2 * (l.length : Int)) = (m : Int) := by rw [IntWalk.i64_in _ (by omega)]; omega
  have HM := Lib.hid hm
  have hm5 : m ≤ 512 := by omega
  clear hm
  have hF0 : NW w l.length m A c 0 0 0 false false false w.drew := ⟨(Old.refl w).drew, (fun e => by cases e), (fun e => by cases e), (fun e => by cases e), (fun e => by cases e)⟩
  have HRI := Lib.hid (fun w1 : World => run_make_row' (P := Try.prog) 22 3 (.int .i64 0) 8 Try.underlying22 info_ni rfl .i64 .i64 l.length (by omega) (by omega) w1)
  have HRB := Lib.hid (fun w1 : World => run_make_row' (P := Try.prog) 84 4 (.bool false) 1 Try.underlying84 info_nb rfl .i64 .i64 m (by omega) (by omega) w1)
  go_enter Try.func44, Try.ntmps44
  go_wp2_with fail
  refine wp_region_steps2 (by kernel_rfl) (by kernel_rfl) (NI w l.length m A c (.slice A l.length c)) ?_ ?_ ⟨?_, ?_, ?_, ?_, ?_, ?_, ?_, ?_, ?_, ?_, ?_, trivial⟩
  · exact ⟨false, false, false, false, false, false, false, false, false, false, false, 0, 0, 0, undef, rfl, rfl, hF0⟩
  · rintro a w1 ⟨b0, b1, b2, b3, b4, b5, b6, b7, b8, b9, b10, gp, gm, g, nov, hl, rfl, hF⟩
    have hl' := congrArg Array.toList hl
    simp at hl'
    obtain ⟨rfl, rfl, rfl, rfl, rfl, rfl, rfl, rfl, rfl, rfl, rfl⟩ := hl'
    clear hl
    have hW0 := hF
    rw [HM.out] at hW0
    have HW0 := Lib.hid (hW0.wk HR.out)
    clear hF hW0 HRI HRB hF0 um
    rw [HM.out]
    clear HM hm5
    go_wp2_with fail
    go_loopw [18] (fun s18 wr => NewRel w l A c g gp gm s18 wr) (fun s18 _ => l.length - (intOf s18).toNat)
    case atStart => exact ⟨0, rfl, Nat.zero_le _, HW0⟩
    case round =>
      obtain ⟨k, rfl, hk, HH⟩ := hrel
      by_cases hkl : k < l.length
      · have i1 : (0 : Int) ≤ (k : Int) := by omega
        have i2 : (k : Int) < (l.length : Int) := by omega
        have kl := hK.lf k hkl
        have kr := hK.rt k hkl
        have hP : parM l (k + 1) = parM l (k + 1) := rfl
        conv at hP => rhs; unfold parM
        unfold lfN rtN at hP
        have hx : l[k]? = some (nd l k) := by unfold nd; rw [List.getD_eq_getElem?_getD, List.getElem?_eq_getElem hkl]; rfl
        have hg := ndsV_get l k _ hx
        obtain ⟨b, off, rfl, hbl, hcl⟩ := (HH.out.nodes.up HH.out.old).at_ (by rw [ndsV_length]; omega)
        have c0 := hcl _ _ (hg 0 (by omega))
        have c1 := hcl _ _ (hg 1 (by omega))
        have c2 := hcl _ _ (hg 2 (by omega))
        have c3 := hcl _ _ (hg 3 (by omega))
        have c4 := hcl _ _ (hg 4 (by omega))
        have c5 := hcl _ _ (hg 5 (by omega))
        have c6 := hcl _ _ (hg 6 (by omega))
        rw [← Nat.add_assoc] at c0 c1 c2 c3 c4 c5 c6
        rw [Nat.add_zero] at c0
        clear hx hg hcl
        generalize hnd : nd l k = nx at *
        obtain ⟨kd, lf, rt, st⟩ := nx
        replace c0 : wr.cell? ⟨b, off + k * 7, none⟩ = some (.int .i64 kd) := c0
        replace c1 : wr.cell? ⟨b, off + k * 7 + 1, none⟩ = some (.int .i64 lf) := c1
        replace c2 : wr.cell? ⟨b, off + k * 7 + 2, none⟩ = some (.int .i64 rt) := c2
        replace c3 : wr.cell? ⟨b, off + k * 7 + 3, none⟩ = some (.int .u64 (setW st 0)) := c3
        replace c4 : wr.cell? ⟨b, off + k * 7 + 4, none⟩ = some (.int .u64 (setW st 1)) := c4
        replace c5 : wr.cell? ⟨b, off + k * 7 + 5, none⟩ = some (.int .u64 (setW st 2)) := c5
        replace c6 : wr.cell? ⟨b, off + k * 7 + 6, none⟩ = some (.int .u64 (setW st 3)) := c6
        simp only at kl kr hP
        have HP := Lib.hid hP
        have KL := Lib.hid kl
        have KR := Lib.hid kr
        clear hP kl kr hnd
        go_upto_region 5 with fail
        have hb5 := heap_alloc_new wr (.cells #[.int .i64 kd, .int .i64 lf, .int .i64 rt, .int .u64 (setW st 0), .int .u64 (setW st 1), .int .u64 (setW st 2), .int .u64 (setW st 3)] 48)
        have HO_ := Lib.hid ((Old.refl wr).alloc (.cells #[.int .i64 kd, .int .i64 lf, .int .i64 rt, .int .u64 (setW st 0), .int .u64 (setW st 1), .int .u64 (setW st 2), .int .u64 (setW st 3)] 48))
        generalize wr.alloc (.cells #[.int .i64 kd, .int .i64 lf, .int .i64 rt, .int .u64 (setW st 0), .int .u64 (setW st 1), .int .u64 (setW st 2), .int .u64 (setW st 3)] 48) = W at *
        have HW := Lib.hid (HH.out.up HO_.out)
        have NB : Hid (wr.heap.size ≠ g ∧ wr.heap.size ≠ gp) := Lib.hid ⟨fun e => absurd (lt_of_block HH.out.blk) (by omega), fun e => absurd (lt_of_block HH.out.par) (by omega)⟩
        have d0 : W.cell? ⟨wr.heap.size, 0, none⟩ = some (.int .i64 kd) := by rw [cell_of_row W _ 0 _ _ _ hb5]; rfl
        have d1 : W.cell? ⟨wr.heap.size, 1, none⟩ = some (.int .i64 lf) := by rw [cell_of_row W _ 1 _ _ _ hb5]; rfl
        have d2 : W.cell? ⟨wr.heap.size, 2, none⟩ = some (.int .i64 rt) := by rw [cell_of_row W _ 2 _ _ _ hb5]; rfl
        have d3 : W.cell? ⟨g, 1, none⟩ = some (.slice (some ⟨gp, 0, none⟩) l.length l.length) := by rw [cell_of_row W _ 1 _ _ _ HW.out.blk]; rfl
        have HB5 := Lib.hid hb5
        clear c0 c1 c2 c3 c4 c5 c6 hb5
        generalize hk5 : wr.heap.size = k5 at *
        have hkd : kd = 3 ∨ kd = 4 ∨ kd = 5 ∨ kd = 6 ∨ kd = 7 ∨ (kd ≠ 3 ∧ kd ≠ 4 ∧ kd ≠ 5 ∧ kd ≠ 6 ∧ kd ≠ 7) := by omega
        rcases hkd with rfl | rfl | rfl | rfl | rfl | ⟨n3, n4, n5, n6, n7⟩
        · obtain ⟨a, rfl, ha⟩ := KL.out (by decide)
          obtain ⟨b2, rfl, hb2⟩ := KR.out (by decide)
          have HE : Hid (parM l (k + 1) = ((parM l k).set b2 k).set a k) := Lib.hid (by rw [HP.out, if_pos (by decide)]; rfl)
          have hps : b2 < (parM l k).length := by rw [parM_length]; exact hb2
          have hps2 : a < ((parM l k).set b2 k).length := by rw [List.length_set, parM_length]; exact ha
          have i3 : (0 : Int) ≤ (b2 : Int) := by omega
          have i4 : (b2 : Int) < (l.length : Int) := by omega
          have z2 : W.frozen? ⟨gp, b2, none⟩ = false := frozen_of_row W gp b2 _ _ HW.out.par
          have z1 : W.cell? ⟨gp, b2, none⟩ = some (.int .i64 (((parM l k).getD b2 0 : Nat) : Int)) := by rw [cell_of_row W gp b2 _ _ _ HW.out.par, List.getElem?_toArray, spz_get _ _ hps]
          go_upto_region 11 with fail
          go_region
          have HW2 := Lib.hid ((HW.out.par_ b2 k).up (Old.refl _).drew)
          have hb2' : (W.setCell ⟨gp, b2, none⟩ (.int .i64 (k : Int))).drew.heap[k5]? = _ := (heap_setCell_other W ⟨gp, b2, none⟩ k5 _ NB.out.2).trans HB5.out
          generalize (W.setCell ⟨gp, b2, none⟩ (.int .i64 (k : Int))).drew = W2 at *
          have f1 : W2.cell? ⟨k5, 1, none⟩ = some (.int .i64 (a : Int)) := by rw [cell_of_row W2 _ 1 _ _ _ hb2']; rfl
          have f3 : W2.cell? ⟨g, 1, none⟩ = some (.slice (some ⟨gp, 0, none⟩) l.length l.length) := by rw [cell_of_row W2 _ 1 _ _ _ HW2.out.blk]; rfl
          clear d0 d1 d2 d3 z1 z2 hb2' i3 i4
          have i3 : (0 : Int) ≤ (a : Int) := by omega
          have i4 : (a : Int) < (l.length : Int) := by omega
          have z2 : W2.frozen? ⟨gp, a, none⟩ = false := frozen_of_row W2 gp a _ _ HW2.out.par
          have z1 : W2.cell? ⟨gp, a, none⟩ = some (.int .i64 ((((parM l k).set b2 k).getD a 0 : Nat) : Int)) := by rw [cell_of_row W2 gp a _ _ _ HW2.out.par, List.getElem?_toArray, spz_get _ _ hps2]
          go_upto_region 12 with fail
          go_region
          have HW3 := Lib.hid ((HW2.out.par_ a k).up (Old.refl _).drew)
          generalize (W2.setCell ⟨gp, a, none⟩ (.int .i64 (k : Int))).drew = W3 at *
          clear f1 f3 z1 z2 i3 i4
          go_wp2_with fail
          go_roundw
          case rel => exact ⟨k + 1, by go_num, by omega, Lib.hid (by rw [HE.out]; exact HW3.out)⟩
          case measure => simp [intOf]; omega
        · obtain ⟨a, rfl, ha⟩ := KL.out (by decide)
          obtain ⟨b2, rfl, hb2⟩ := KR.out (by decide)
          have HE : Hid (parM l (k + 1) = ((parM l k).set b2 k).set a k) := Lib.hid (by rw [HP.out, if_pos (by decide)]; rfl)
          have hps : b2 < (parM l k).length := by rw [parM_length]; exact hb2
          have hps2 : a < ((parM l k).set b2 k).length := by rw [List.length_set, parM_length]; exact ha
          have i3 : (0 : Int) ≤ (b2 : Int) := by omega
          have i4 : (b2 : Int) < (l.length : Int) := by omega
          have z2 : W.frozen? ⟨gp, b2, none⟩ = false := frozen_of_row W gp b2 _ _ HW.out.par
          have z1 : W.cell? ⟨gp, b2, none⟩ = some (.int .i64 (((parM l k).getD b2 0 : Nat) : Int)) := by rw [cell_of_row W gp b2 _ _ _ HW.out.par, List.getElem?_toArray, spz_get _ _ hps]
          go_upto_region 11 with fail
          go_region
          have HW2 := Lib.hid ((HW.out.par_ b2 k).up (Old.refl _).drew)
          have hb2' : (W.setCell ⟨gp, b2, none⟩ (.int .i64 (k : Int))).drew.heap[k5]? = _ := (heap_setCell_other W ⟨gp, b2, none⟩ k5 _ NB.out.2).trans HB5.out
          generalize (W.setCell ⟨gp, b2, none⟩ (.int .i64 (k : Int))).drew = W2 at *
          have f1 : W2.cell? ⟨k5, 1, none⟩ = some (.int .i64 (a : Int)) := by rw [cell_of_row W2 _ 1 _ _ _ hb2']; rfl
          have f3 : W2.cell? ⟨g, 1, none⟩ = some (.slice (some ⟨gp, 0, none⟩) l.length l.length) := by rw [cell_of_row W2 _ 1 _ _ _ HW2.out.blk]; rfl
          clear d0 d1 d2 d3 z1 z2 hb2' i3 i4
          have i3 : (0 : Int) ≤ (a : Int) := by omega
          have i4 : (a : Int) < (l.length : Int) := by omega
          have z2 : W2.frozen? ⟨gp, a, none⟩ = false := frozen_of_row W2 gp a _ _ HW2.out.par
          have z1 : W2.cell? ⟨gp, a, none⟩ = some (.int .i64 ((((parM l k).set b2 k).getD a 0 : Nat) : Int)) := by rw [cell_of_row W2 gp a _ _ _ HW2.out.par, List.getElem?_toArray, spz_get _ _ hps2]
          go_upto_region 12 with fail
          go_region
          have HW3 := Lib.hid ((HW2.out.par_ a k).up (Old.refl _).drew)
          generalize (W2.setCell ⟨gp, a, none⟩ (.int .i64 (k : Int))).drew = W3 at *
          clear f1 f3 z1 z2 i3 i4
          go_wp2_with fail
          go_roundw
          case rel => exact ⟨k + 1, by go_num, by omega, Lib.hid (by rw [HE.out]; exact HW3.out)⟩
          case measure => simp [intOf]; omega
        · obtain ⟨a, rfl, ha⟩ := KL.out (by decide)
          have HE : Hid (parM l (k + 1) = (parM l k).set a k) := Lib.hid (by rw [HP.out, if_neg (by decide), if_pos (by decide)]; rfl)
          have hps : a < (parM l k).length := by rw [parM_length]; exact ha
          have i3 : (0 : Int) ≤ (a : Int) := by omega
          have i4 : (a : Int) < (l.length : Int) := by omega
          have z2 : W.frozen? ⟨gp, a, none⟩ = false := frozen_of_row W gp a _ _ HW.out.par
          have z1 : W.cell? ⟨gp, a, none⟩ = some (.int .i64 (((parM l k).getD a 0 : Nat) : Int)) := by rw [cell_of_row W gp a _ _ _ HW.out.par, List.getElem?_toArray, spz_get _ _ hps]
          go_upto_region 12 with fail
          go_region
          have HW2 := Lib.hid ((HW.out.par_ a k).up (Old.refl _).drew)
          generalize (W.setCell ⟨gp, a, none⟩ (.int .i64 (k : Int))).drew = W2 at *
          clear d0 d1 d2 d3 z1 z2 i3 i4
          go_wp2_with fail
          go_roundw
          case rel => exact ⟨k + 1, by go_num, by omega, Lib.hid (by rw [HE.out]; exact HW2.out)⟩
          case measure => simp [intOf]; omega
        · obtain ⟨a, rfl, ha⟩ := KL.out (by decide)
          have HE : Hid (parM l (k + 1) = (parM l k).set a k) := Lib.hid (by rw [HP.out, if_neg (by decide), if_pos (by decide)]; rfl)
          have hps : a < (parM l k).length := by rw [parM_length]; exact ha
          have i3 : (0 : Int) ≤ (a : Int) := by omega
          have i4 : (a : Int) < (l.length : Int) := by omega
          have z2 : W.frozen? ⟨gp, a, none⟩ = false := frozen_of_row W gp a _ _ HW.out.par
          have z1 : W.cell? ⟨gp, a, none⟩ = some (.int .i64 (((parM l k).getD a 0 : Nat) : Int)) := by rw [cell_of_row W gp a _ _ _ HW.out.par, List.getElem?_toArray, spz_get _ _ hps]
          go_upto_region 12 with fail
          go_region
          have HW2 := Lib.hid ((HW.out.par_ a k).up (Old.refl _).drew)
          generalize (W.setCell ⟨gp, a, none⟩ (.int .i64 (k : Int))).drew = W2 at *
          clear d0 d1 d2 d3 z1 z2 i3 i4
          go_wp2_with fail
          go_roundw
          case rel => exact ⟨k + 1, by go_num, by omega, Lib.hid (by rw [HE.out]; exact HW2.out)⟩
          case measure => simp [intOf]; omega
        · obtain ⟨a, rfl, ha⟩ := KL.out (by decide)
          have HE : Hid (parM l (k + 1) = (parM l k).set a k) := Lib.hid (by rw [HP.out, if_neg (by decide), if_pos (by decide)]; rfl)
          have hps : a < (parM l k).length := by rw [parM_length]; exact ha
          have i3 : (0 : Int) ≤ (a : Int) := by omega
          have i4 : (a : Int) < (l.length : Int) := by omega
          have z2 : W.frozen? ⟨gp, a, none⟩ = false := frozen_of_row W gp a _ _ HW.out.par
          have z1 : W.cell? ⟨gp, a, none⟩ = some (.int .i64 (((parM l k).getD a 0 : Nat) : Int)) := by rw [cell_of_row W gp a _ _ _ HW.out.par, List.getElem?_toArray, spz_get _ _ hps]
          go_upto_region 12 with fail
          go_region
          have HW2 := Lib.hid ((HW.out.par_ a k).up (Old.refl _).drew)
          generalize (W.setCell ⟨gp, a, none⟩ (.int .i64 (k : Int))).drew = W2 at *
          clear d0 d1 d2 d3 z1 z2 i3 i4
          go_wp2_with fail
          go_roundw
          case rel => exact ⟨k + 1, by go_num, by omega, Lib.hid (by rw [HE.out]; exact HW2.out)⟩
          case measure => simp [intOf]; omega
        · have b3 : (kd == 3) = false := by simpa using n3
          have b4 : (kd == 4) = false := by simpa using n4
          have b5 : (kd == 5) = false := by simpa using n5
          have b6 : (kd == 6) = false := by simpa using n6
          have b7 : (kd == 7) = false := by simpa using n7
          have HE : Hid (parM l (k + 1) = parM l k) := Lib.hid (by rw [HP.out, if_neg (by omega), if_neg (by omega)])
          clear n3 n4 n5 n6 n7
          go_wp2_with fail
          go_roundw
          case rel => exact ⟨k + 1, by go_num, by omega, Lib.hid (by rw [HE.out]; exact HW.out)⟩
          case measure => simp [intOf]; omega
      · obtain rfl : k = l.length := by omega
        go_wp2_with fail
        go_ret
        exact ⟨_, _, _, _, rfl, HH.out⟩
  · intro listed a w1 K hs hcl hf hall hI hK
    obtain ⟨b0, b1, b2, b3, b4, b5, b6, b7, b8, b9, b10, gp, gm, g, nov, rfl, rfl, hF⟩ := hI
    have hf' : b0 = false := hf
    subst hf'
    have hb8 : b8 = false := by
      cases b8
      · rfl
      · exact absurd (show false = true from hcl 8 _ rfl rfl ⟨0, .data⟩ (by first | exact .head _ | simp) rfl) (by decide)
    subst hb8
    have hb10 : b10 = false := by
      cases b10
      · rfl
      · exact absurd (show false = true from hcl 10 _ rfl rfl ⟨0, .phase⟩ (by first | exact .head _ | simp) rfl) (by decide)
    subst hb10
    have hb9 : b9 = false := by
      cases b9
      · rfl
      · exact absurd (show false = true from hcl 9 _ rfl rfl ⟨8, .data⟩ (by first | exact .head _ | simp) rfl) (by decide)
    subst hb9
    clear hall hcl hs hf
    go_simp
    exact hK _ _ ⟨true, b1, b2, b3, b4, b5, b6, b7, false, false, false, gp, gm, g, nov, rfl, rfl, hF⟩
  · intro listed a w1 K hs hcl hf hall hI hK
    obtain ⟨b0, b1, b2, b3, b4, b5, b6, b7, b8, b9, b10, gp, gm, g, nov, rfl, rfl, hF⟩ := hI
    have hf' : b1 = false := hf
    subst hf'
    have hb2 : b2 = false := by
      cases b2
      · rfl
      · exact absurd (show false = true from hcl 2 _ rfl rfl ⟨1, .data⟩ (by first | exact .head _ | simp) rfl) (by decide)
    subst hb2
    have hb10 : b10 = false := by
      cases b10
      · rfl
      · exact absurd (show false = true from hcl 10 _ rfl rfl ⟨1, .phase⟩ (by first | exact .head _ | simp) rfl) (by decide)
    subst hb10
    have hb3 : b3 = false := by
      cases b3
      · rfl
      · exact absurd (show false = true from hcl 3 _ rfl rfl ⟨2, .data⟩ (by first | exact .head _ | simp) rfl) (by decide)
    subst hb3
    have hb8 : b8 = false := by
      cases b8
      · rfl
      · exact absurd (show false = true from hcl 8 _ rfl rfl ⟨3, .data⟩ (by first | exact .head _ | simp) rfl) (by decide)
    subst hb8
    have hb9 : b9 = false := by
      cases b9
      · rfl
      · exact absurd (show false = true from hcl 9 _ rfl rfl ⟨8, .data⟩ (by first | exact .head _ | simp) rfl) (by decide)
    subst hb9
    clear hall hcl hs hf
    go_simp
    exact hK _ _ ⟨b0, true, false, false, b4, b5, b6, b7, false, false, false, gp, gm, g, nov, rfl, rfl, hF⟩
  · intro listed a w1 K hs hcl hf hall hI hK
    obtain ⟨b0, b1, b2, b3, b4, b5, b6, b7, b8, b9, b10, gp, gm, g, nov, rfl, rfl, hF⟩ := hI
    have hf' : b2 = false := hf
    subst hf'
    have hq1 : b1 = true := hall ⟨1, .data⟩ (by first | exact .head _ | simp) rfl
    subst hq1
    have hb3 : b3 = false := by
      cases b3
      · rfl
      · exact absurd (show false = true from hcl 3 _ rfl rfl ⟨2, .data⟩ (by first | exact .head _ | simp) rfl) (by decide)
    subst hb3
    have hb10 : b10 = false := by
      cases b10
      · rfl
      · exact absurd (show false = true from hcl 10 _ rfl rfl ⟨2, .phase⟩ (by first | exact .head _ | simp) rfl) (by decide)
    subst hb10
    have hb8 : b8 = false := by
      cases b8
      · rfl
      · exact absurd (show false = true from hcl 8 _ rfl rfl ⟨3, .data⟩ (by first | exact .head _ | simp) rfl) (by decide)
    subst hb8
    have hb9 : b9 = false := by
      cases b9
      · rfl
      · exact absurd (show false = true from hcl 9 _ rfl rfl ⟨8, .data⟩ (by first | exact .head _ | simp) rfl) (by decide)
    subst hb9
    clear hall hcl hs hf
    go_simp
    exact hK _ _ ⟨b0, true, true, false, b4, b5, b6, b7, false, false, false, gp, gm, g, nov, rfl, rfl, hF⟩
  · intro listed a w1 K hs hcl hf hall hI hK
    obtain ⟨b0, b1, b2, b3, b4, b5, b6, b7, b8, b9, b10, gp, gm, g, nov, rfl, rfl, hF⟩ := hI
    have hf' : b3 = false := hf
    subst hf'
    have hq2 : b2 = true := hall ⟨2, .data⟩ (by first | exact .head _ | simp) rfl
    subst hq2
    have hq1 : b1 = true := hcl 2 _ rfl rfl ⟨1, .data⟩ (by first | exact .head _ | simp) rfl
    subst hq1
    have hb8 : b8 = false := by
      cases b8
      · rfl
      · exact absurd (show false = true from hcl 8 _ rfl rfl ⟨3, .data⟩ (by first | exact .head _ | simp) rfl) (by decide)
    subst hb8
    have hb10 : b10 = false := by
      cases b10
      · rfl
      · exact absurd (show false = true from hcl 10 _ rfl rfl ⟨3, .phase⟩ (by first | exact .head _ | simp) rfl) (by decide)
    subst hb10
    have hb9 : b9 = false := by
      cases b9
      · rfl
      · exact absurd (show false = true from hcl 9 _ rfl rfl ⟨8, .data⟩ (by first | exact .head _ | simp) rfl) (by decide)
    subst hb9
    clear hall hcl hs hf
    have hr := HRI.out w1
    go_simp
    exact hK _ _ ⟨b0, true, true, true, b4, b5, b6, b7, false, false, false, w1.heap.size, gm, g, nov, rfl, rfl, hF.mkP⟩
  · intro listed a w1 K hs hcl hf hall hI hK
    obtain ⟨b0, b1, b2, b3, b4, b5, b6, b7, b8, b9, b10, gp, gm, g, nov, rfl, rfl, hF⟩ := hI
    have hf' : b4 = false := hf
    subst hf'
    have hb5 : b5 = false := by
      cases b5
      · rfl
      · exact absurd (show false = true from hcl 5 _ rfl rfl ⟨4, .data⟩ (by first | exact .head _ | simp) rfl) (by decide)
    subst hb5
    have hb10 : b10 = false := by
      cases b10
      · rfl
      · exact absurd (show false = true from hcl 10 _ rfl rfl ⟨4, .phase⟩ (by first | exact .head _ | simp) rfl) (by decide)
    subst hb10
    have hb6 : b6 = false := by
      cases b6
      · rfl
      · exact absurd (show false = true from hcl 6 _ rfl rfl ⟨5, .data⟩ (by first | exact .head _ | simp) rfl) (by decide)
    subst hb6
    have hb7 : b7 = false := by
      cases b7
      · rfl
      · exact absurd (show false = true from hcl 7 _ rfl rfl ⟨6, .data⟩ (by first | exact .head _ | simp) rfl) (by decide)
    subst hb7
    have hb8 : b8 = false := by
      cases b8
      · rfl
      · exact absurd (show false = true from hcl 8 _ rfl rfl ⟨7, .data⟩ (by first | exact .head _ | simp) rfl) (by decide)
    subst hb8
    have hb9 : b9 = false := by
      cases b9
      · rfl
      · exact absurd (show false = true from hcl 9 _ rfl rfl ⟨8, .data⟩ (by first | exact .head _ | simp) rfl) (by decide)
    subst hb9
    clear hall hcl hs hf
    go_simp
    exact hK _ _ ⟨b0, b1, b2, b3, true, false, false, false, false, false, false, gp, gm, g, nov, rfl, rfl, hF⟩
  · intro listed a w1 K hs hcl hf hall hI hK
    obtain ⟨b0, b1, b2, b3, b4, b5, b6, b7, b8, b9, b10, gp, gm, g, nov, rfl, rfl, hF⟩ := hI
    have hf' : b5 = false := hf
    subst hf'
    have hq4 : b4 = true := hall ⟨4, .data⟩ (by first | exact .head _ | simp) rfl
    subst hq4
    have hb6 : b6 = false := by
      cases b6
      · rfl
      · exact absurd (show false = true from hcl 6 _ rfl rfl ⟨5, .data⟩ (by first | exact .head _ | simp) rfl) (by decide)
    subst hb6
    have hb10 : b10 = false := by
      cases b10
      · rfl
      · exact absurd (show false = true from hcl 10 _ rfl rfl ⟨5, .phase⟩ (by first | exact .head _ | simp) rfl) (by decide)
    subst hb10
    have hb7 : b7 = false := by
      cases b7
      · rfl
      · exact absurd (show false = true from hcl 7 _ rfl rfl ⟨6, .data⟩ (by first | exact .head _ | simp) rfl) (by decide)
    subst hb7
    have hb8 : b8 = false := by
      cases b8
      · rfl
      · exact absurd (show false = true from hcl 8 _ rfl rfl ⟨7, .data⟩ (by first | exact .head _ | simp) rfl) (by decide)
    subst hb8
    have hb9 : b9 = false := by
      cases b9
      · rfl
      · exact absurd (show false = true from hcl 9 _ rfl rfl ⟨8, .data⟩ (by first | exact .head _ | simp) rfl) (by decide)
    subst hb9
    clear hall hcl hs hf
    go_simp
    exact hK _ _ ⟨b0, b1, b2, b3, true, true, false, false, false, false, false, gp, gm, g, nov, rfl, rfl, hF⟩
  · intro listed a w1 K hs hcl hf hall hI hK
    obtain ⟨b0, b1, b2, b3, b4, b5, b6, b7, b8, b9, b10, gp, gm, g, nov, rfl, rfl, hF⟩ := hI
    have hf' : b6 = false := hf
    subst hf'
    have hq5 : b5 = true := hall ⟨5, .data⟩ (by first | exact .head _ | simp) rfl
    subst hq5
    have hq4 : b4 = true := hcl 5 _ rfl rfl ⟨4, .data⟩ (by first | exact .head _ | simp) rfl
    subst hq4
    have hb7 : b7 = false := by
      cases b7
      · rfl
      · exact absurd (show false = true from hcl 7 _ rfl rfl ⟨6, .data⟩ (by first | exact .head _ | simp) rfl) (by decide)
    subst hb7
    have hb10 : b10 = false := by
      cases b10
      · rfl
      · exact absurd (show false = true from hcl 10 _ rfl rfl ⟨6, .phase⟩ (by first | exact .head _ | simp) rfl) (by decide)
    subst hb10
    have hb8 : b8 = false := by
      cases b8
      · rfl
      · exact absurd (show false = true from hcl 8 _ rfl rfl ⟨7, .data⟩ (by first | exact .head _ | simp) rfl) (by decide)
    subst hb8
    have hb9 : b9 = false := by
      cases b9
      · rfl
      · exact absurd (show false = true from hcl 9 _ rfl rfl ⟨8, .data⟩ (by first | exact .head _ | simp) rfl) (by decide)
    subst hb9
    clear hall hcl hs hf
    go_simp
    exact hK _ _ ⟨b0, b1, b2, b3, true, true, true, false, false, false, false, gp, gm, g, nov, rfl, rfl, hF⟩
  · intro listed a w1 K hs hcl hf hall hI hK
    obtain ⟨b0, b1, b2, b3, b4, b5, b6, b7, b8, b9, b10, gp, gm, g, nov, rfl, rfl, hF⟩ := hI
    have hf' : b7 = false := hf
    subst hf'
    have hq6 : b6 = true := hall ⟨6, .data⟩ (by first | exact .head _ | simp) rfl
    subst hq6
    have hq5 : b5 = true := hcl 6 _ rfl rfl ⟨5, .data⟩ (by first | exact .head _ | simp) rfl
    subst hq5
    have hq4 : b4 = true := hcl 5 _ rfl rfl ⟨4, .data⟩ (by first | exact .head _ | simp) rfl
    subst hq4
    have hb8 : b8 = false := by
      cases b8
      · rfl
      · exact absurd (show false = true from hcl 8 _ rfl rfl ⟨7, .data⟩ (by first | exact .head _ | simp) rfl) (by decide)
    subst hb8
    have hb10 : b10 = false := by
      cases b10
      · rfl
      · exact absurd (show false = true from hcl 10 _ rfl rfl ⟨7, .phase⟩ (by first | exact .head _ | simp) rfl) (by decide)
    subst hb10
    have hb9 : b9 = false := by
      cases b9
      · rfl
      · exact absurd (show false = true from hcl 9 _ rfl rfl ⟨8, .data⟩ (by first | exact .head _ | simp) rfl) (by decide)
    subst hb9
    clear hall hcl hs hf
    have hr := HRB.out w1
    go_simp
    exact hK _ _ ⟨b0, b1, b2, b3, true, true, true, true, false, false, false, gp, w1.heap.size, g, nov, rfl, rfl, hF.mkM⟩
  · intro listed a w1 K hs hcl hf hall hI hK
    obtain ⟨b0, b1, b2, b3, b4, b5, b6, b7, b8, b9, b10, gp, gm, g, nov, rfl, rfl, hF⟩ := hI
    have hf' : b8 = false := hf
    subst hf'
    have hq0 : b0 = true := hall ⟨0, .data⟩ (by first | exact .head _ | simp) rfl
    subst hq0
    have hq3 : b3 = true := hall ⟨3, .data⟩ (by first | exact .head _ | simp) rfl
    subst hq3
    have hq7 : b7 = true := hall ⟨7, .data⟩ (by first | exact .head _ | simp) rfl
    subst hq7
    have hq2 : b2 = true := hcl 3 _ rfl rfl ⟨2, .data⟩ (by first | exact .head _ | simp) rfl
    subst hq2
    have hq6 : b6 = true := hcl 7 _ rfl rfl ⟨6, .data⟩ (by first | exact .head _ | simp) rfl
    subst hq6
    have hq1 : b1 = true := hcl 2 _ rfl rfl ⟨1, .data⟩ (by first | exact .head _ | simp) rfl
    subst hq1
    have hq5 : b5 = true := hcl 6 _ rfl rfl ⟨5, .data⟩ (by first | exact .head _ | simp) rfl
    subst hq5
    have hq4 : b4 = true := hcl 5 _ rfl rfl ⟨4, .data⟩ (by first | exact .head _ | simp) rfl
    subst hq4
    have hb9 : b9 = false := by
      cases b9
      · rfl
      · exact absurd (show false = true from hcl 9 _ rfl rfl ⟨8, .data⟩ (by first | exact .head _ | simp) rfl) (by decide)
    subst hb9
    have hb10 : b10 = false := by
      cases b10
      · rfl
      · exact absurd (show false = true from hcl 10 _ rfl rfl ⟨8, .phase⟩ (by first | exact .head _ | simp) rfl) (by decide)
    subst hb10
    clear hall hcl hs hf
    go_simp
    exact hK _ _ ⟨true, true, true, true, true, true, true, true, true, false, false, gp, gm, g, nov, rfl, rfl, hF⟩
  · intro listed a w1 K hs hcl hf hall hI hK
    obtain ⟨b0, b1, b2, b3, b4, b5, b6, b7, b8, b9, b10, gp, gm, g, nov, rfl, rfl, hF⟩ := hI
    have hf' : b9 = false := hf
    subst hf'
    have hq8 : b8 = true := hall ⟨8, .data⟩ (by first | exact .head _ | simp) rfl
    subst hq8
    have hq0 : b0 = true := hcl 8 _ rfl rfl ⟨0, .data⟩ (by first | exact .head _ | simp) rfl
    subst hq0
    have hq3 : b3 = true := hcl 8 _ rfl rfl ⟨3, .data⟩ (by first | exact .head _ | simp) rfl
    subst hq3
    have hq7 : b7 = true := hcl 8 _ rfl rfl ⟨7, .data⟩ (by first | exact .head _ | simp) rfl
    subst hq7
    have hq2 : b2 = true := hcl 3 _ rfl rfl ⟨2, .data⟩ (by first | exact .head _ | simp) rfl
    subst hq2
    have hq6 : b6 = true := hcl 7 _ rfl rfl ⟨6, .data⟩ (by first | exact .head _ | simp) rfl
    subst hq6
    have hq1 : b1 = true := hcl 2 _ rfl rfl ⟨1, .data⟩ (by first | exact .head _ | simp) rfl
    subst hq1
    have hq5 : b5 = true := hcl 6 _ rfl rfl ⟨5, .data⟩ (by first | exact .head _ | simp) rfl
    subst hq5
    have hq4 : b4 = true := hcl 5 _ rfl rfl ⟨4, .data⟩ (by first | exact .head _ | simp) rfl
    subst hq4
    have hb10 : b10 = false := by
      cases b10
      · rfl
      · exact absurd (show false = true from hcl 10 _ rfl rfl ⟨9, .data⟩ (by first | exact .head _ | simp) rfl) (by decide)
    subst hb10
    clear hall hcl hs hf
    go_simp
    exact hK _ _ ⟨true, true, true, true, true, true, true, true, true, true, false, gp, gm, w1.heap.size, nov, rfl, rfl, hF.mkB⟩
  · intro listed a w1 K hs hcl hf hall hI hK
    obtain ⟨b0, b1, b2, b3, b4, b5, b6, b7, b8, b9, b10, gp, gm, g, nov, rfl, rfl, hF⟩ := hI
    have hf' : b10 = false := hf
    subst hf'
    have hq9 : b9 = true := hall ⟨9, .data⟩ (by first | exact .head _ | simp) rfl
    subst hq9
    have hq0 : b0 = true := hall ⟨0, .phase⟩ (by first | exact .head _ | simp) rfl
    subst hq0
    have hq1 : b1 = true := hall ⟨1, .phase⟩ (by first | exact .head _ | simp) rfl
    subst hq1
    have hq2 : b2 = true := hall ⟨2, .phase⟩ (by first | exact .head _ | simp) rfl
    subst hq2
    have hq3 : b3 = true := hall ⟨3, .phase⟩ (by first | exact .head _ | simp) rfl
    subst hq3
    have hq4 : b4 = true := hall ⟨4, .phase⟩ (by first | exact .head _ | simp) rfl
    subst hq4
    have hq5 : b5 = true := hall ⟨5, .phase⟩ (by first | exact .head _ | simp) rfl
    subst hq5
    have hq6 : b6 = true := hall ⟨6, .phase⟩ (by first | exact .head _ | simp) rfl
    subst hq6
    have hq7 : b7 = true := hall ⟨7, .phase⟩ (by first | exact .head _ | simp) rfl
    subst hq7
    have hq8 : b8 = true := hall ⟨8, .phase⟩ (by first | exact .head _ | simp) rfl
    subst hq8
    clear hall hcl hs hf
    go_simp
    exact hK _ _ ⟨true, true, true, true, true, true, true, true, true, true, true, gp, gm, g, nov, rfl, rfl, hF⟩
end Go.Proofs.Ytaajgdhoffhdcaa
