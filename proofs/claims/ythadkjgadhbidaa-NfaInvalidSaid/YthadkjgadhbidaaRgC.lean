/-
  The walks of the program's reader of patterns: its state; ended, add.
-/
import Derived.Test.YthadkjgadhbidaaRgB
import Derived.Test.YthadkjgadhbidaaStep
import Derived.Test.YthadkjgadhbidaaRegInvB
namespace Go.Proofs.Ythadkjgadhbidaa
open Go.RowKit
set_option linter.unusedVariables false

theorem own_apart {w : World} {B : Nat} {e : TypeId} {s : Nat} {v : Value} {n : Nat} {xs : List Value} (h : Own w B e s v n xs) {k : Nat} (hk : k < B) : some k ≠ v.ownBlock := by
  intro e
  have := (World.ownsRow.lt h k e.symm).1
  omega
def pzO (s : ByteArray) (a d : Nat) (lv : Value) : Obj := .cells #[.string s, .int .i64 a, .int .i64 d, lv] 133 (0, 0)
/-- The program's reader in memory: block g; the nodes that it has made. -/
structure RP (w0 w : World) (B g : Nat) (s : ByteArray) (a d : Nat) (lv : Value) (N : List Nd) : Prop where
  old : Old w0 w
  blk : w.heap[g]? = some (pzO s a d lv)
  own : Own w B 114 7 lv N.length (ndsV N)
  bg : w0.heap.size ≤ g
  lg : g < B
  lB : B ≤ w.heap.size
theorem RP.up {w0 w w' : World} {B g : Nat} {s : ByteArray} {a d : Nat} {lv : Value} {N : List Nd} (h : RP w0 w B g s a d lv N) (ho : Old w w') : RP w0 w' B g s a d lv N :=
  ⟨h.old.up ho, ho.block h.blk, h.own.up ho, h.bg, h.lg, Nat.le_trans h.lB ho.size⟩
theorem RP.drewN {w0 w : World} {B g : Nat} {s : ByteArray} {a d : Nat} {lv : Value} {N : List Nd} (h : RP w0 w B g s a d lv N) (n : Nat) : RP w0 (w.drewN n) B g s a d lv N := h.up ((Old.refl w).drewN n)
theorem set_gr (w : World) (g i : Nat) (v : Value) : w.grownBy (w.setCell ⟨g, i, none⟩ v) (some g) := ⟨rfl, rfl, rfl, by simp, fun k _ hk => heap_setCell_other w ⟨g, i, none⟩ k _ (fun e => hk (by simp [e]))⟩
theorem RP.at_ {w0 w : World} {B g : Nat} {s : ByteArray} {a d : Nat} {lv : Value} {N : List Nd} (h : RP w0 w B g s a d lv N) (a' : Nat) : RP w0 (w.setCell ⟨g, 1, none⟩ (.int .i64 (a' : Int))) B g s a' d lv N :=
  ⟨h.old.setCell h.bg _, heap_setCell_same w g 1 _ _ _ h.blk, World.ownsRow.kept h.own (set_gr w g 1 _) (Or.inr (fun e => own_apart h.own h.lg e.symm)), h.bg, h.lg, by simpa using h.lB⟩
theorem RP.open_ {w0 w : World} {B g : Nat} {s : ByteArray} {a d : Nat} {lv : Value} {N : List Nd} (h : RP w0 w B g s a d lv N) (d' : Nat) : RP w0 (w.setCell ⟨g, 2, none⟩ (.int .i64 (d' : Int))) B g s a d' lv N :=
  ⟨h.old.setCell h.bg _, heap_setCell_same w g 2 _ _ _ h.blk, World.ownsRow.kept h.own (set_gr w g 2 _) (Or.inr (fun e => own_apart h.own h.lg e.symm)), h.bg, h.lg, by simpa using h.lB⟩
theorem RP.cells {w0 w : World} {B g : Nat} {s : ByteArray} {a d : Nat} {lv : Value} {N : List Nd} (h : RP w0 w B g s a d lv N) :
    w.cell? ⟨g, 0, none⟩ = some (.string s) ∧ w.cell? ⟨g, 1, none⟩ = some (.int .i64 a) ∧ w.cell? ⟨g, 2, none⟩ = some (.int .i64 d) ∧ w.cell? ⟨g, 3, none⟩ = some lv ∧ w.frozen? ⟨g, 1, none⟩ = false ∧ w.frozen? ⟨g, 2, none⟩ = false ∧ w.frozen? ⟨g, 3, none⟩ = false :=
  ⟨by rw [cell_of_row w g 0 _ _ _ h.blk]; rfl, by rw [cell_of_row w g 1 _ _ _ h.blk]; rfl, by rw [cell_of_row w g 2 _ _ _ h.blk]; rfl, by rw [cell_of_row w g 3 _ _ _ h.blk]; rfl, frozen_of_row w g 1 _ _ h.blk, frozen_of_row w g 2 _ _ h.blk, frozen_of_row w g 3 _ _ h.blk⟩
set_option maxHeartbeats 2000000 in
set_option maxRecDepth 100000 in
theorem endedC (w0 : World) (B g : Nat) (s : ByteArray) (a d : Nat) (lv : Value) (N : List Nd) (w : World) (h : RP w0 w B g s a d lv N) (hs : s.size ≤ 9223372036854775807) :
    Calls Try.prog 79 #[.pointer (some ⟨g, 0, none⟩)] w (BDraw (decide (a = s.size)) w) := by
  obtain ⟨c0, c1, c2, c3, _, _, _⟩ := h.cells
  have e : decide (a = s.size) = (((a : Nat) : Int) == (s.size : Int)) := by rw [Bool.eq_iff_iff, decide_eq_true_iff, beq_iff_eq]; omega
  rw [e]
  clear e c2 c3 h
  go_enter Try.func79, Try.ntmps79
  go_wp2_with fail
  go_quiet (fail)
  go_wp2_with fail
  go_ret
  exact ⟨rfl, _, rfl⟩
/-- Before and behind the append. -/
structure AF (w0 : World) (B g ko : Nat) (s : ByteArray) (a d : Nat) (lv v12 : Value) (N : List Nd) (x : Nd) (b6 b7 b10 : Bool) (W ww : World) : Prop where
  base : b7 = false → RP w0 ww B g s a d lv N ∧ Old W ww
  row : b6 = true → b7 = false → ww.heap[ko]? = some (.cells (ndCells x).toArray 114 (0, 0))
  app : b7 = true → b10 = false → w0.heap.size ≤ g ∧ g < B ∧ B ≤ ww.heap.size ∧ Old w0 ww ∧ ww.heap[g]? = some (pzO s a d lv) ∧ Own ww B 114 7 v12 (N.length + 1) (ndsV (N ++ [x]))
  fin : b10 = true → RP w0 ww B g s a d v12 (N ++ [x])
theorem AF.mk6 {w0 : World} {B g ko : Nat} {s : ByteArray} {a d : Nat} {lv v12 : Value} {N : List Nd} {x : Nd} {W ww : World} (h : AF w0 B g ko s a d lv v12 N x false false false W ww) :
    AF w0 B g ww.heap.size s a d lv v12 N x true false false W (ww.alloc (.cells (ndCells x).toArray 114)) :=
  ⟨fun _ => ⟨(h.base rfl).1.up ((Old.refl ww).alloc _), (h.base rfl).2.alloc _⟩, fun _ _ => heap_alloc_new _ _, fun e => (by cases e), fun e => (by cases e)⟩
theorem AF.mk7 {w0 : World} {B g ko : Nat} {s : ByteArray} {a d : Nat} {lv v12 : Value} {N : List Nd} {x : Nd} {W ww w' : World} {v' : Value} (h : AF w0 B g ko s a d lv v12 N x true false false W ww)
    (ho : Own w' B 114 7 v' (N.length + 1) (ndsV N ++ ndCells x)) (hg : ww.grownBy w' lv.ownBlock) : AF w0 B g ko s a d lv v' N x true true false W w' := by
  have hR := (h.base rfl).1
  refine ⟨fun e => (by cases e), fun _ e => (by cases e), fun _ _ => ⟨hR.bg, hR.lg, Nat.le_trans hR.lB hg.size, Own.grown_old hR.old hR.own (Nat.le_trans hR.bg (Nat.le_of_lt hR.lg)) hg, (hg.block g (lt_of_block hR.blk) (own_apart hR.own hR.lg)).trans hR.blk, ?_⟩, fun e => (by cases e)⟩
  rw [ndsV_app]
  have : ndsV [x] = ndCells x := by simp [ndsV]
  rw [this]
  exact ho
theorem AF.mk10 {w0 : World} {B g ko : Nat} {s : ByteArray} {a d : Nat} {lv v12 : Value} {N : List Nd} {x : Nd} {b6 : Bool} {W ww : World} (h : AF w0 B g ko s a d lv v12 N x b6 true false W ww) : AF w0 B g ko s a d lv v12 N x b6 true true W (ww.setCell ⟨g, 3, none⟩ v12) := by
  obtain ⟨h1, h2, h3, h4, h5, h6⟩ := h.app rfl rfl
  have hl : (N ++ [x]).length = N.length + 1 := by simp
  refine ⟨fun e => (by cases e), fun _ e => (by cases e), fun _ e => (by cases e), fun _ => ⟨h4.setCell h1 _, heap_setCell_same ww g 3 _ _ _ h5, ?_, h1, h2, by simpa using h3⟩⟩
  rw [hl]
  exact World.ownsRow.kept h6 (set_gr ww g 3 _) (Or.inr (fun e => own_apart h6 h2 e.symm))
def ADI (w0 W : World) (B g k5 : Nat) (s : ByteArray) (a d : Nat) (lv : Value) (N : List Nd) (x : Nd) (listed : Array Bool) (aa : Act) (ww : World) : Prop :=
  ∃ (b0 b1 b2 b3 b4 b5 b6 b7 b8 b9 b10 : Bool) (ko : Nat) (v12 : Value), listed = #[b0, b1, b2, b3, b4, b5, b6, b7, b8, b9, b10] ∧
    aa = { tmps := #[.pointer (some ⟨g, 0, none⟩), .agg #[.int .i64 x.kind, .int .i64 x.left, .int .i64 x.right, .int .u64 (setW x.set 0), .int .u64 (setW x.set 1), .int .u64 (setW x.set 2), .int .u64 (setW x.set 3)], undef, .pointer (some ⟨k5, 0, none⟩), .int .i64 0, cond b0 (.pointer (some ⟨g, 0, none⟩)) (undef), cond b1 (.pointer (some ⟨g, 0, none⟩)) (undef), cond b2 (.pointer (some ⟨g, 0, none⟩)) (undef), cond b3 (.pointer (some ⟨g, 3, none⟩)) (undef), cond b4 (lv) (undef), cond b5 (.agg #[.int .i64 x.kind, .int .i64 x.left, .int .i64 x.right, .int .u64 (setW x.set 0), .int .u64 (setW x.set 1), .int .u64 (setW x.set 2), .int .u64 (setW x.set 3)]) (undef), cond b6 (.slice (some ⟨ko, 0, none⟩) 1 1) (undef), cond b7 (v12) (undef), cond b8 (.pointer (some ⟨g, 0, none⟩)) (undef), cond b9 (.pointer (some ⟨g, 3, none⟩)) (undef), undef, undef, undef, undef, undef, undef], defers := [] } ∧ AF w0 B g ko s a d lv v12 N x b6 b7 b10 W ww
def AddPost (w0 : World) (B g : Nat) (s : ByteArray) (a d : Nat) (N : List Nd) (x : Nd) (e : Ending) (w' : World) : Prop := e = .returned (.int .i64 (N.length : Int)) ∧ ∃ lv', RP w0 w' B g s a d lv' (N ++ [x])
def ndA (x : Nd) : Value := .agg #[.int .i64 x.kind, .int .i64 x.left, .int .i64 x.right, .int .u64 (setW x.set 0), .int .u64 (setW x.set 1), .int .u64 (setW x.set 2), .int .u64 (setW x.set 3)]
set_option maxHeartbeats 4000000 in
set_option maxRecDepth 100000 in
theorem addC (w0 : World) (B g : Nat) (s : ByteArray) (a d : Nat) (lv : Value) (N : List Nd) (w : World) (h : RP w0 w B g s a d lv N) (hn : N.length ≤ 100000) (x : Nd) :
    Calls Try.prog 88 #[.pointer (some ⟨g, 0, none⟩), ndA x] w (AddPost w0 B g s a d N x) := by
  unfold ndA
  obtain ⟨kd, lf, rt, st⟩ := x
  obtain ⟨Al, cl, rfl, htl, _, _⟩ := h.own.shape
  have hb := heap_alloc_new w (.cells #[.int .i64 kd, .int .i64 lf, .int .i64 rt, .int .u64 (setW st 0), .int .u64 (setW st 1), .int .u64 (setW st 2), .int .u64 (setW st 3)] 114)
  have ho := (Old.refl w).alloc (.cells #[.int .i64 kd, .int .i64 lf, .int .i64 rt, .int .u64 (setW st 0), .int .u64 (setW st 1), .int .u64 (setW st 2), .int .u64 (setW st 3)] 114)
  have HR := Lib.hid (h.up ho)
  have HBX := Lib.hid hb
  simp only
  clear h htl ho hb
  go_enter Try.func88, Try.ntmps88
  go_upto_region 1 with fail
  generalize hW : w.alloc (.cells #[.int .i64 kd, .int .i64 lf, .int .i64 rt, .int .u64 (setW st 0), .int .u64 (setW st 1), .int .u64 (setW st 2), .int .u64 (setW st 3)] 114) = W at *
  have hF0 : AF w0 B g 0 s a d (.slice Al N.length cl) undef N ⟨kd, lf, rt, st⟩ false false false W W.drew := ⟨fun _ => ⟨HR.out.up (Old.refl W).drew, (Old.refl W).drew⟩, (fun e => by cases e), (fun e => by cases e), (fun e => by cases e)⟩
  generalize hk5 : w.heap.size = k5 at *
  refine wp_region_steps2 (by kernel_rfl) (by kernel_rfl) (ADI w0 W B g k5 s a d (.slice Al N.length cl) N ⟨kd, lf, rt, st⟩) ?_ ?_ ⟨?_, ?_, ?_, ?_, ?_, ?_, ?_, ?_, ?_, ?_, ?_, trivial⟩
  · exact ⟨false, false, false, false, false, false, false, false, false, false, false, 0, undef, rfl, rfl, hF0⟩
  · rintro aa w1 ⟨b0, b1, b2, b3, b4, b5, b6, b7, b8, b9, b10, ko, v12, hl, rfl, hF⟩
    have hl' := congrArg Array.toList hl
    simp at hl'
    obtain ⟨rfl, rfl, rfl, rfl, rfl, rfl, rfl, rfl, rfl, rfl, rfl⟩ := hl'
    clear hl
    have HF1 := Lib.hid (hF.fin rfl)
    clear hF hF0
    obtain ⟨A9, c9, rfl, _, _, _⟩ := HF1.out.own.shape
    obtain ⟨_, _, _, d3, _, _, _⟩ := HF1.out.cells
    have hl : (N ++ [(⟨kd, lf, rt, st⟩ : Nd)]).length = N.length + 1 := by simp
    rw [hl] at d3
    clear hl
    go_wp2_with fail
    go_ret
    exact ⟨rfl, _, HF1.out⟩
  · intro listed aa w1 K hs hcl hf hall hI hK
    obtain ⟨b0, b1, b2, b3, b4, b5, b6, b7, b8, b9, b10, ko, v12, rfl, rfl, hF⟩ := hI
    have hf' : b0 = false := hf
    subst hf'
    have hb8 : b8 = false := by
      cases b8
      · rfl
      · exact absurd (show false = true from hcl 8 _ rfl rfl ⟨0, .data⟩ (by first | exact .head _ | simp) rfl) (by decide)
    subst hb8
    have hb9 : b9 = false := by
      cases b9
      · rfl
      · exact absurd (show false = true from hcl 9 _ rfl rfl ⟨0, .phase⟩ (by first | exact .head _ | simp) rfl) (by decide)
    subst hb9
    have hb10 : b10 = false := by
      cases b10
      · rfl
      · exact absurd (show false = true from hcl 10 _ rfl rfl ⟨0, .phase⟩ (by first | exact .head _ | simp) rfl) (by decide)
    subst hb10
    clear hall hcl hs hf
    go_simp
    exact hK _ _ ⟨true, b1, b2, b3, b4, b5, b6, b7, false, false, false, ko, v12, rfl, rfl, hF⟩
  · intro listed aa w1 K hs hcl hf hall hI hK
    obtain ⟨b0, b1, b2, b3, b4, b5, b6, b7, b8, b9, b10, ko, v12, rfl, rfl, hF⟩ := hI
    have hf' : b1 = false := hf
    subst hf'
    have hb2 : b2 = false := by
      cases b2
      · rfl
      · exact absurd (show false = true from hcl 2 _ rfl rfl ⟨1, .data⟩ (by first | exact .head _ | simp) rfl) (by decide)
    subst hb2
    have hb8 : b8 = false := by
      cases b8
      · rfl
      · exact absurd (show false = true from hcl 8 _ rfl rfl ⟨1, .phase⟩ (by first | exact .head _ | simp) rfl) (by decide)
    subst hb8
    have hb9 : b9 = false := by
      cases b9
      · rfl
      · exact absurd (show false = true from hcl 9 _ rfl rfl ⟨1, .phase⟩ (by first | exact .head _ | simp) rfl) (by decide)
    subst hb9
    have hb10 : b10 = false := by
      cases b10
      · rfl
      · exact absurd (show false = true from hcl 10 _ rfl rfl ⟨1, .phase⟩ (by first | exact .head _ | simp) rfl) (by decide)
    subst hb10
    have hb3 : b3 = false := by
      cases b3
      · rfl
      · exact absurd (show false = true from hcl 3 _ rfl rfl ⟨2, .data⟩ (by first | exact .head _ | simp) rfl) (by decide)
    subst hb3
    have hb4 : b4 = false := by
      cases b4
      · rfl
      · exact absurd (show false = true from hcl 4 _ rfl rfl ⟨3, .data⟩ (by first | exact .head _ | simp) rfl) (by decide)
    subst hb4
    have hb7 : b7 = false := by
      cases b7
      · rfl
      · exact absurd (show false = true from hcl 7 _ rfl rfl ⟨4, .data⟩ (by first | exact .head _ | simp) rfl) (by decide)
    subst hb7
    clear hall hcl hs hf
    go_simp
    exact hK _ _ ⟨b0, true, false, false, false, b5, b6, false, false, false, false, ko, v12, rfl, rfl, hF⟩
  · intro listed aa w1 K hs hcl hf hall hI hK
    obtain ⟨b0, b1, b2, b3, b4, b5, b6, b7, b8, b9, b10, ko, v12, rfl, rfl, hF⟩ := hI
    have hf' : b2 = false := hf
    subst hf'
    have hq1 : b1 = true := hall ⟨1, .data⟩ (by first | exact .head _ | simp) rfl
    subst hq1
    have hb3 : b3 = false := by
      cases b3
      · rfl
      · exact absurd (show false = true from hcl 3 _ rfl rfl ⟨2, .data⟩ (by first | exact .head _ | simp) rfl) (by decide)
    subst hb3
    have hb8 : b8 = false := by
      cases b8
      · rfl
      · exact absurd (show false = true from hcl 8 _ rfl rfl ⟨2, .phase⟩ (by first | exact .head _ | simp) rfl) (by decide)
    subst hb8
    have hb9 : b9 = false := by
      cases b9
      · rfl
      · exact absurd (show false = true from hcl 9 _ rfl rfl ⟨2, .phase⟩ (by first | exact .head _ | simp) rfl) (by decide)
    subst hb9
    have hb10 : b10 = false := by
      cases b10
      · rfl
      · exact absurd (show false = true from hcl 10 _ rfl rfl ⟨2, .phase⟩ (by first | exact .head _ | simp) rfl) (by decide)
    subst hb10
    have hb4 : b4 = false := by
      cases b4
      · rfl
      · exact absurd (show false = true from hcl 4 _ rfl rfl ⟨3, .data⟩ (by first | exact .head _ | simp) rfl) (by decide)
    subst hb4
    have hb7 : b7 = false := by
      cases b7
      · rfl
      · exact absurd (show false = true from hcl 7 _ rfl rfl ⟨4, .data⟩ (by first | exact .head _ | simp) rfl) (by decide)
    subst hb7
    clear hall hcl hs hf
    go_simp
    exact hK _ _ ⟨b0, true, true, false, false, b5, b6, false, false, false, false, ko, v12, rfl, rfl, hF⟩
  · intro listed aa w1 K hs hcl hf hall hI hK
    obtain ⟨b0, b1, b2, b3, b4, b5, b6, b7, b8, b9, b10, ko, v12, rfl, rfl, hF⟩ := hI
    have hf' : b3 = false := hf
    subst hf'
    have hq2 : b2 = true := hall ⟨2, .data⟩ (by first | exact .head _ | simp) rfl
    subst hq2
    have hq1 : b1 = true := hcl 2 _ rfl rfl ⟨1, .data⟩ (by first | exact .head _ | simp) rfl
    subst hq1
    have hb4 : b4 = false := by
      cases b4
      · rfl
      · exact absurd (show false = true from hcl 4 _ rfl rfl ⟨3, .data⟩ (by first | exact .head _ | simp) rfl) (by decide)
    subst hb4
    have hb8 : b8 = false := by
      cases b8
      · rfl
      · exact absurd (show false = true from hcl 8 _ rfl rfl ⟨3, .phase⟩ (by first | exact .head _ | simp) rfl) (by decide)
    subst hb8
    have hb9 : b9 = false := by
      cases b9
      · rfl
      · exact absurd (show false = true from hcl 9 _ rfl rfl ⟨3, .phase⟩ (by first | exact .head _ | simp) rfl) (by decide)
    subst hb9
    have hb10 : b10 = false := by
      cases b10
      · rfl
      · exact absurd (show false = true from hcl 10 _ rfl rfl ⟨3, .phase⟩ (by first | exact .head _ | simp) rfl) (by decide)
    subst hb10
    have hb7 : b7 = false := by
      cases b7
      · rfl
      · exact absurd (show false = true from hcl 7 _ rfl rfl ⟨4, .data⟩ (by first | exact .head _ | simp) rfl) (by decide)
    subst hb7
    clear hall hcl hs hf
    go_simp
    exact hK _ _ ⟨b0, true, true, true, false, b5, b6, false, false, false, false, ko, v12, rfl, rfl, hF⟩
  · intro listed aa w1 K hs hcl hf hall hI hK
    obtain ⟨b0, b1, b2, b3, b4, b5, b6, b7, b8, b9, b10, ko, v12, rfl, rfl, hF⟩ := hI
    have hf' : b4 = false := hf
    subst hf'
    have hq3 : b3 = true := hall ⟨3, .data⟩ (by first | exact .head _ | simp) rfl
    subst hq3
    have hq2 : b2 = true := hcl 3 _ rfl rfl ⟨2, .data⟩ (by first | exact .head _ | simp) rfl
    subst hq2
    have hq1 : b1 = true := hcl 2 _ rfl rfl ⟨1, .data⟩ (by first | exact .head _ | simp) rfl
    subst hq1
    have hb7 : b7 = false := by
      cases b7
      · rfl
      · exact absurd (show false = true from hcl 7 _ rfl rfl ⟨4, .data⟩ (by first | exact .head _ | simp) rfl) (by decide)
    subst hb7
    have hb8 : b8 = false := by
      cases b8
      · rfl
      · exact absurd (show false = true from hcl 8 _ rfl rfl ⟨4, .phase⟩ (by first | exact .head _ | simp) rfl) (by decide)
    subst hb8
    have hb9 : b9 = false := by
      cases b9
      · rfl
      · exact absurd (show false = true from hcl 9 _ rfl rfl ⟨4, .phase⟩ (by first | exact .head _ | simp) rfl) (by decide)
    subst hb9
    have hb10 : b10 = false := by
      cases b10
      · rfl
      · exact absurd (show false = true from hcl 10 _ rfl rfl ⟨4, .phase⟩ (by first | exact .head _ | simp) rfl) (by decide)
    subst hb10
    clear hall hcl hs hf
    have q1 := (hF.base rfl).1.cells.2.2.2.1
    go_simp
    exact hK _ _ ⟨b0, true, true, true, true, b5, b6, false, false, false, false, ko, v12, rfl, rfl, hF⟩
  · intro listed aa w1 K hs hcl hf hall hI hK
    obtain ⟨b0, b1, b2, b3, b4, b5, b6, b7, b8, b9, b10, ko, v12, rfl, rfl, hF⟩ := hI
    have hf' : b5 = false := hf
    subst hf'
    have hb6 : b6 = false := by
      cases b6
      · rfl
      · exact absurd (show false = true from hcl 6 _ rfl rfl ⟨5, .data⟩ (by first | exact .head _ | simp) rfl) (by decide)
    subst hb6
    have hb8 : b8 = false := by
      cases b8
      · rfl
      · exact absurd (show false = true from hcl 8 _ rfl rfl ⟨5, .phase⟩ (by first | exact .head _ | simp) rfl) (by decide)
    subst hb8
    have hb9 : b9 = false := by
      cases b9
      · rfl
      · exact absurd (show false = true from hcl 9 _ rfl rfl ⟨5, .phase⟩ (by first | exact .head _ | simp) rfl) (by decide)
    subst hb9
    have hb10 : b10 = false := by
      cases b10
      · rfl
      · exact absurd (show false = true from hcl 10 _ rfl rfl ⟨5, .phase⟩ (by first | exact .head _ | simp) rfl) (by decide)
    subst hb10
    have hb7 : b7 = false := by
      cases b7
      · rfl
      · exact absurd (show false = true from hcl 7 _ rfl rfl ⟨6, .data⟩ (by first | exact .head _ | simp) rfl) (by decide)
    subst hb7
    clear hall hcl hs hf
    have hb5 := (hF.base rfl).2.block HBX.out
    have q0 : w1.cell? ⟨k5, 0, none⟩ = some (.int .i64 kd) := by rw [cell_of_row w1 _ 0 _ _ _ hb5]; rfl
    have q1 : w1.cell? ⟨k5, 1, none⟩ = some (.int .i64 lf) := by rw [cell_of_row w1 _ 1 _ _ _ hb5]; rfl
    have q2 : w1.cell? ⟨k5, 2, none⟩ = some (.int .i64 rt) := by rw [cell_of_row w1 _ 2 _ _ _ hb5]; rfl
    have q3 : w1.cell? ⟨k5, 3, none⟩ = some (.int .u64 (setW st 0)) := by rw [cell_of_row w1 _ 3 _ _ _ hb5]; rfl
    have q4 : w1.cell? ⟨k5, 4, none⟩ = some (.int .u64 (setW st 1)) := by rw [cell_of_row w1 _ 4 _ _ _ hb5]; rfl
    have q5 : w1.cell? ⟨k5, 5, none⟩ = some (.int .u64 (setW st 2)) := by rw [cell_of_row w1 _ 5 _ _ _ hb5]; rfl
    have q6 : w1.cell? ⟨k5, 6, none⟩ = some (.int .u64 (setW st 3)) := by rw [cell_of_row w1 _ 6 _ _ _ hb5]; rfl
    clear hb5
    go_simp
    exact hK _ _ ⟨b0, b1, b2, b3, b4, true, false, false, false, false, false, ko, v12, rfl, rfl, hF⟩
  · intro listed aa w1 K hs hcl hf hall hI hK
    obtain ⟨b0, b1, b2, b3, b4, b5, b6, b7, b8, b9, b10, ko, v12, rfl, rfl, hF⟩ := hI
    have hf' : b6 = false := hf
    subst hf'
    have hq5 : b5 = true := hall ⟨5, .data⟩ (by first | exact .head _ | simp) rfl
    subst hq5
    have hb7 : b7 = false := by
      cases b7
      · rfl
      · exact absurd (show false = true from hcl 7 _ rfl rfl ⟨6, .data⟩ (by first | exact .head _ | simp) rfl) (by decide)
    subst hb7
    have hb8 : b8 = false := by
      cases b8
      · rfl
      · exact absurd (show false = true from hcl 8 _ rfl rfl ⟨6, .phase⟩ (by first | exact .head _ | simp) rfl) (by decide)
    subst hb8
    have hb9 : b9 = false := by
      cases b9
      · rfl
      · exact absurd (show false = true from hcl 9 _ rfl rfl ⟨6, .phase⟩ (by first | exact .head _ | simp) rfl) (by decide)
    subst hb9
    have hb10 : b10 = false := by
      cases b10
      · rfl
      · exact absurd (show false = true from hcl 10 _ rfl rfl ⟨6, .phase⟩ (by first | exact .head _ | simp) rfl) (by decide)
    subst hb10
    clear hall hcl hs hf
    go_simp
    exact hK _ _ ⟨b0, b1, b2, b3, b4, true, true, false, false, false, false, w1.heap.size, v12, rfl, rfl, hF.mk6⟩
  · intro listed aa w1 K hs hcl hf hall hI hK
    obtain ⟨b0, b1, b2, b3, b4, b5, b6, b7, b8, b9, b10, ko, v12, rfl, rfl, hF⟩ := hI
    have hf' : b7 = false := hf
    subst hf'
    have hq4 : b4 = true := hall ⟨4, .data⟩ (by first | exact .head _ | simp) rfl
    subst hq4
    have hq6 : b6 = true := hall ⟨6, .data⟩ (by first | exact .head _ | simp) rfl
    subst hq6
    have hq3 : b3 = true := hcl 4 _ rfl rfl ⟨3, .data⟩ (by first | exact .head _ | simp) rfl
    subst hq3
    have hq5 : b5 = true := hcl 6 _ rfl rfl ⟨5, .data⟩ (by first | exact .head _ | simp) rfl
    subst hq5
    have hq2 : b2 = true := hcl 3 _ rfl rfl ⟨2, .data⟩ (by first | exact .head _ | simp) rfl
    subst hq2
    have hq1 : b1 = true := hcl 2 _ rfl rfl ⟨1, .data⟩ (by first | exact .head _ | simp) rfl
    subst hq1
    have hb8 : b8 = false := by
      cases b8
      · rfl
      · exact absurd (show false = true from hcl 8 _ rfl rfl ⟨7, .phase⟩ (by first | exact .head _ | simp) rfl) (by decide)
    subst hb8
    have hb9 : b9 = false := by
      cases b9
      · rfl
      · exact absurd (show false = true from hcl 9 _ rfl rfl ⟨7, .phase⟩ (by first | exact .head _ | simp) rfl) (by decide)
    subst hb9
    have hb10 : b10 = false := by
      cases b10
      · rfl
      · exact absurd (show false = true from hcl 10 _ rfl rfl ⟨7, .data⟩ (by first | exact .head _ | simp) rfl) (by decide)
    subst hb10
    clear hall hcl hs hf
    have hR := (hF.base rfl).1
    have hrow := hF.row rfl rfl
    refine step_appO w1 (by rfl) _ _ 25 (by rfl) B 114 (.agg #[.int .i64 0, .int .i64 0, .int .i64 0, .int .u64 0, .int .u64 0, .int .u64 0, .int .u64 0]) 7 56 Try.underlying25 info_nd rfl (by decide) (by decide) (.slice Al N.length cl) N.length (ndsV N) (by rfl) hR.own (some ⟨ko, 0, none⟩) 1 1 (ndCells ⟨kd, lf, rt, st⟩) (by rfl) (Or.inr ⟨ko, 0, rfl, fun j u hu => by rw [Nat.zero_add, cell_of_row w1 ko j _ _ _ hrow, List.getElem?_toArray]; exact hu⟩) rfl rfl (by omega) hR.lB ?_
    intro v' w' ho hg _
    exact hK _ _ ⟨b0, true, true, true, true, true, true, true, false, false, false, ko, v', rfl, rfl, hF.mk7 ho hg⟩
  · intro listed aa w1 K hs hcl hf hall hI hK
    obtain ⟨b0, b1, b2, b3, b4, b5, b6, b7, b8, b9, b10, ko, v12, rfl, rfl, hF⟩ := hI
    have hf' : b8 = false := hf
    subst hf'
    have hq0 : b0 = true := hall ⟨0, .data⟩ (by first | exact .head _ | simp) rfl
    subst hq0
    have hq1 : b1 = true := hall ⟨1, .phase⟩ (by first | exact .head _ | simp) rfl
    subst hq1
    have hq2 : b2 = true := hall ⟨2, .phase⟩ (by first | exact .head _ | simp) rfl
    subst hq2
    have hq3 : b3 = true := hall ⟨3, .phase⟩ (by first | exact .head _ | simp) rfl
    subst hq3
    have hq4 : b4 = true := hall ⟨4, .phase⟩ (by first | exact .head _ | simp) rfl
    subst hq4
    have hq5 : b5 = true := hall ⟨5, .phase⟩ (by first | exact .head _ | simp) rfl
    subst hq5
    have hq6 : b6 = true := hall ⟨6, .phase⟩ (by first | exact .head _ | simp) rfl
    subst hq6
    have hq7 : b7 = true := hall ⟨7, .phase⟩ (by first | exact .head _ | simp) rfl
    subst hq7
    have hb9 : b9 = false := by
      cases b9
      · rfl
      · exact absurd (show false = true from hcl 9 _ rfl rfl ⟨8, .data⟩ (by first | exact .head _ | simp) rfl) (by decide)
    subst hb9
    have hb10 : b10 = false := by
      cases b10
      · rfl
      · exact absurd (show false = true from hcl 10 _ rfl rfl ⟨9, .data⟩ (by first | exact .head _ | simp) rfl) (by decide)
    subst hb10
    clear hall hcl hs hf
    go_simp
    exact hK _ _ ⟨true, true, true, true, true, true, true, true, true, false, false, ko, v12, rfl, rfl, hF⟩
  · intro listed aa w1 K hs hcl hf hall hI hK
    obtain ⟨b0, b1, b2, b3, b4, b5, b6, b7, b8, b9, b10, ko, v12, rfl, rfl, hF⟩ := hI
    have hf' : b9 = false := hf
    subst hf'
    have hq8 : b8 = true := hall ⟨8, .data⟩ (by first | exact .head _ | simp) rfl
    subst hq8
    have hq0 : b0 = true := hall ⟨0, .phase⟩ (by first | exact .head _ | simp) rfl
    subst hq0
    have hq1 : b1 = true := hall ⟨1, .phase⟩ (by first | exact .head _ | simp) rfl
    subst hq1
    have hq2 : b2 = true := hall ⟨2, .phase⟩ (by first | exact .head _ | simp) rfl
    subst hq2
    have hq3 : b3 = true := hall ⟨3, .phase⟩ (by first | exact .head _ | simp) rfl
    subst hq3
    have hq4 : b4 = true := hall ⟨4, .phase⟩ (by first | exact .head _ | simp) rfl
    subst hq4
    have hq5 : b5 = true := hall ⟨5, .phase⟩ (by first | exact .head _ | simp) rfl
    subst hq5
    have hq6 : b6 = true := hall ⟨6, .phase⟩ (by first | exact .head _ | simp) rfl
    subst hq6
    have hq7 : b7 = true := hall ⟨7, .phase⟩ (by first | exact .head _ | simp) rfl
    subst hq7
    have hb10 : b10 = false := by
      cases b10
      · rfl
      · exact absurd (show false = true from hcl 10 _ rfl rfl ⟨9, .data⟩ (by first | exact .head _ | simp) rfl) (by decide)
    subst hb10
    clear hall hcl hs hf
    go_simp
    exact hK _ _ ⟨true, true, true, true, true, true, true, true, true, true, false, ko, v12, rfl, rfl, hF⟩
  · intro listed aa w1 K hs hcl hf hall hI hK
    obtain ⟨b0, b1, b2, b3, b4, b5, b6, b7, b8, b9, b10, ko, v12, rfl, rfl, hF⟩ := hI
    have hf' : b10 = false := hf
    subst hf'
    have hq9 : b9 = true := hall ⟨9, .data⟩ (by first | exact .head _ | simp) rfl
    subst hq9
    have hq7 : b7 = true := hall ⟨7, .data⟩ (by first | exact .head _ | simp) rfl
    subst hq7
    have hq0 : b0 = true := hall ⟨0, .phase⟩ (by first | exact .head _ | simp) rfl
    subst hq0
    have hq1 : b1 = true := hall ⟨1, .phase⟩ (by first | exact .head _ | simp) rfl
    subst hq1
    have hq2 : b2 = true := hall ⟨2, .phase⟩ (by first | exact .head _ | simp) rfl
    subst hq2
    have hq3 : b3 = true := hall ⟨3, .phase⟩ (by first | exact .head _ | simp) rfl
    subst hq3
    have hq4 : b4 = true := hall ⟨4, .phase⟩ (by first | exact .head _ | simp) rfl
    subst hq4
    have hq5 : b5 = true := hall ⟨5, .phase⟩ (by first | exact .head _ | simp) rfl
    subst hq5
    have hq6 : b6 = true := hall ⟨6, .phase⟩ (by first | exact .head _ | simp) rfl
    subst hq6
    have hq8 : b8 = true := hcl 9 _ rfl rfl ⟨8, .data⟩ (by first | exact .head _ | simp) rfl
    subst hq8
    clear hall hcl hs hf
    obtain ⟨_, _, _, _, hb5, ho9⟩ := hF.app rfl rfl
    obtain ⟨A9, c9, rfl, _, _, _⟩ := ho9.shape
    have f3 : w1.frozen? ⟨g, 3, none⟩ = false := frozen_of_row w1 g 3 _ _ hb5
    have c3 : w1.cell? ⟨g, 3, none⟩ = some (.slice Al N.length cl) := by rw [cell_of_row w1 g 3 _ _ _ hb5]; rfl
    clear hb5 ho9
    go_simp
    exact hK _ _ ⟨true, true, true, true, true, true, true, true, true, true, true, ko, .slice A9 (N.length + 1) c9, rfl, rfl, hF.mk10⟩
end Go.Proofs.Ythadkjgadhbidaa
