/-
  The walk of the builder's add (nfa): the builder in memory.
-/
import Derived.Test.YthadkjgadhbidaaNfC
import Derived.Test.YthadkjgadhbidaaRxM
import Derived.Test.YthadkjgadhbidaaStep
import Derived.Test.YthadkjgadhbidaaRegInvB
namespace Go.Proofs.Ythadkjgadhbidaa
open Go.RowKit
set_option linter.unusedVariables false

theorem info_st : (Try.prog.info? 42).map (fun i => (i.zero, i.size, i.bytes)) = some (some (.agg #[.int .i64 0, .int .i64 0, .int .i64 0, .int .u64 0, .int .u64 0, .int .u64 0, .int .u64 0]), 7, 56) := by kernel_rfl
theorem nown_apart {w : World} {B : Nat} {e : TypeId} {s : Nat} {v : Value} {n : Nat} {xs : List Value} (h : Own w B e s v n xs) {k : Nat} (hk : k < B) : some k ≠ v.ownBlock := by
  intro e
  have := (World.ownsRow.lt h k e.symm).1
  omega
theorem nset_gr (w : World) (g i : Nat) (v : Value) : w.grownBy (w.setCell ⟨g, i, none⟩ v) (some g) := ⟨rfl, rfl, rfl, by simp, fun k _ hk => heap_setCell_other w ⟨g, i, none⟩ k _ (fun e => hk (by simp [e]))⟩
def nbO (An : Option Addr) (ln cn : Nat) (sv : Value) : Obj := .cells #[.slice An ln cn, sv] 65 (0, 0)
/-- The builder in memory: block g; the states that it has made. -/
structure NB (w0 w : World) (B g : Nat) (An : Option Addr) (ln cn : Nat) (sv : Value) (S : List Nd) : Prop where
  old : Old w0 w
  blk : w.heap[g]? = some (nbO An ln cn sv)
  own : Own w B 42 7 sv S.length (ndsV S)
  bg : w0.heap.size ≤ g
  lg : g < B
  lB : B ≤ w.heap.size
/-- Nothing has turned but the builder and its states' row. -/
def Far (w w' : World) (g : Nat) (sv sv' : Value) : Prop := w.heap.size ≤ w'.heap.size ∧ ∀ k, k < w.heap.size → k ≠ g → sv.ownBlock ≠ some k → w'.heap[k]? = w.heap[k]? ∧ sv'.ownBlock ≠ some k
theorem Far.refl (w : World) (g : Nat) (sv : Value) : Far w w g sv sv := ⟨Nat.le_refl _, fun k _ _ h => ⟨rfl, h⟩⟩
theorem Far.trans {a b c : World} {g : Nat} {s1 s2 s3 : Value} (h : Far a b g s1 s2) (k : Far b c g s2 s3) : Far a c g s1 s3 := by
  refine ⟨Nat.le_trans h.1 k.1, fun i hi hg hs => ?_⟩
  obtain ⟨q1, q2⟩ := h.2 i hi hg hs
  obtain ⟨q3, q4⟩ := k.2 i (Nat.lt_of_lt_of_le hi h.1) hg q2
  exact ⟨q3.trans q1, q4⟩
theorem Far.of_old {a b : World} (h : Old a b) (g : Nat) (sv : Value) : Far a b g sv sv := ⟨h.size, fun k hk _ hs => ⟨h.out.block k hk, hs⟩⟩
theorem Far.old_ {a b c : World} {g : Nat} {s1 s2 : Value} (h : Old a b) (k : Far b c g s1 s2) : Far a c g s1 s2 := (Far.of_old h g s1).trans k
theorem Far.blk {a b : World} {g : Nat} {s1 s2 : Value} (h : Far a b g s1 s2) {k : Nat} {o : Obj} (hk : a.heap[k]? = some o) (hg : k ≠ g) (hs : s1.ownBlock ≠ some k) : b.heap[k]? = some o ∧ s2.ownBlock ≠ some k := by
  obtain ⟨q1, q2⟩ := h.2 k (lt_of_block hk) hg hs
  exact ⟨q1.trans hk, q2⟩
theorem NB.up {w0 w w' : World} {B g ln cn : Nat} {An : Option Addr} {sv : Value} {S : List Nd} (h : NB w0 w B g An ln cn sv S) (ho : Old w w') : NB w0 w' B g An ln cn sv S :=
  ⟨h.old.up ho, ho.block h.blk, h.own.up ho, h.bg, h.lg, Nat.le_trans h.lB ho.size⟩
theorem NB.cells {w0 w : World} {B g ln cn : Nat} {An : Option Addr} {sv : Value} {S : List Nd} (h : NB w0 w B g An ln cn sv S) :
    w.cell? ⟨g, 0, none⟩ = some (.slice An ln cn) ∧ w.cell? ⟨g, 1, none⟩ = some sv ∧ w.frozen? ⟨g, 1, none⟩ = false :=
  ⟨by rw [cell_of_row w g 0 _ _ _ h.blk]; rfl, by rw [cell_of_row w g 1 _ _ _ h.blk]; rfl, frozen_of_row w g 1 _ _ h.blk⟩
theorem nds_snoc (S : List Nd) (x : Nd) : ndsV (S ++ [x]) = ndsV S ++ ndCells x := by unfold ndsV; rw [List.flatMap_append]; simp
/-- Before and behind the append. -/
structure NF (w0 : World) (B g ko : Nat) (An : Option Addr) (ln cn : Nat) (lv v12 : Value) (N : List Nd) (x : Nd) (b6 b7 b10 : Bool) (W ww : World) : Prop where
  base : b7 = false → NB w0 ww B g An ln cn lv N ∧ Old W ww
  row : b6 = true → b7 = false → ww.heap[ko]? = some (.cells (ndCells x).toArray 42 (0, 0))
  app : b7 = true → b10 = false → (w0.heap.size ≤ g ∧ g < B ∧ B ≤ ww.heap.size ∧ Old w0 ww ∧ ww.heap[g]? = some (nbO An ln cn lv) ∧ Own ww B 42 7 v12 (N.length + 1) (ndsV (N ++ [x]))) ∧ Far W ww g lv v12
  fin : b10 = true → NB w0 ww B g An ln cn v12 (N ++ [x]) ∧ Far W ww g lv v12
theorem NF.mk6 {w0 : World} {B g ko ln cn : Nat} {An : Option Addr} {lv v12 : Value} {N : List Nd} {x : Nd} {W ww : World} (h : NF w0 B g ko An ln cn lv v12 N x false false false W ww) :
    NF w0 B g ww.heap.size An ln cn lv v12 N x true false false W (ww.alloc (.cells (ndCells x).toArray 42)) :=
  ⟨fun _ => ⟨(h.base rfl).1.up ((Old.refl ww).alloc _), (h.base rfl).2.alloc _⟩, fun _ _ => heap_alloc_new _ _, fun e => (by cases e), fun e => (by cases e)⟩
theorem NF.mk7 {w0 : World} {B g ko ln cn : Nat} {An : Option Addr} {lv v12 : Value} {N : List Nd} {x : Nd} {W ww w' : World} {v' : Value} (h : NF w0 B g ko An ln cn lv v12 N x true false false W ww)
    (ho : Own w' B 42 7 v' (N.length + 1) (ndsV N ++ ndCells x)) (hg : ww.grownBy w' lv.ownBlock) (hst : v'.ownBlock = lv.ownBlock ∨ ∃ j, v'.ownBlock = some j ∧ ww.heap.size ≤ j) : NF w0 B g ko An ln cn lv v' N x true true false W w' := by
  have hR := (h.base rfl).1
  have hO := (h.base rfl).2
  refine ⟨fun e => (by cases e), fun _ e => (by cases e), fun _ _ => ⟨⟨hR.bg, hR.lg, Nat.le_trans hR.lB hg.size, Own.grown_old hR.old hR.own (Nat.le_trans hR.bg (Nat.le_of_lt hR.lg)) hg, (hg.block g (lt_of_block hR.blk) (nown_apart hR.own hR.lg)).trans hR.blk, ?_⟩, ?_⟩, fun e => (by cases e)⟩
  · rw [nds_snoc]; exact ho
  · refine ⟨Nat.le_trans hO.size hg.size, fun k hk hkg hks => ⟨(hg.block k (Nat.lt_of_lt_of_le hk hO.size) (fun e => hks e.symm)).trans (hO.out.block k hk), fun e => ?_⟩⟩
    rcases hst with hst | ⟨j, hj, hjl⟩
    · exact hks (hst.symm.trans e)
    · rw [hj] at e
      injection e with e
      have := hO.size
      omega
theorem NF.mk10 {w0 : World} {B g ko ln cn : Nat} {An : Option Addr} {lv v12 : Value} {N : List Nd} {x : Nd} {b6 : Bool} {W ww : World} (h : NF w0 B g ko An ln cn lv v12 N x b6 true false W ww) : NF w0 B g ko An ln cn lv v12 N x b6 true true W (ww.setCell ⟨g, 1, none⟩ v12) := by
  obtain ⟨⟨h1, h2, h3, h4, h5, h6⟩, hF⟩ := h.app rfl rfl
  have hl : (N ++ [x]).length = N.length + 1 := by simp
  refine ⟨fun e => (by cases e), fun _ e => (by cases e), fun _ e => (by cases e), fun _ => ⟨⟨h4.setCell h1 _, heap_setCell_same ww g 1 _ _ _ h5, ?_, h1, h2, by simpa using h3⟩, ?_⟩⟩
  · rw [hl]
    exact World.ownsRow.kept h6 (nset_gr ww g 1 _) (Or.inr (fun e => nown_apart h6 h2 e.symm))
  · refine ⟨by simpa using hF.1, fun k hk hkg hks => ?_⟩
    obtain ⟨q1, q2⟩ := hF.2 k hk hkg hks
    exact ⟨(heap_setCell_other ww ⟨g, 1, none⟩ k _ (fun e => hkg e)).trans q1, q2⟩
def NDI (w0 W : World) (B g k5 : Nat) (An : Option Addr) (ln cn : Nat) (lv : Value) (N : List Nd) (x : Nd) (listed : Array Bool) (aa : Act) (ww : World) : Prop :=
  ∃ (b0 b1 b2 b3 b4 b5 b6 b7 b8 b9 b10 : Bool) (ko : Nat) (v12 : Value), listed = #[b0, b1, b2, b3, b4, b5, b6, b7, b8, b9, b10] ∧
    aa = { tmps := #[.pointer (some ⟨g, 0, none⟩), .agg #[.int .i64 x.kind, .int .i64 x.left, .int .i64 x.right, .int .u64 (setW x.set 0), .int .u64 (setW x.set 1), .int .u64 (setW x.set 2), .int .u64 (setW x.set 3)], undef, .pointer (some ⟨k5, 0, none⟩), .int .i64 0, cond b0 (.pointer (some ⟨g, 0, none⟩)) (undef), cond b1 (.pointer (some ⟨g, 0, none⟩)) (undef), cond b2 (.pointer (some ⟨g, 0, none⟩)) (undef), cond b3 (.pointer (some ⟨g, 1, none⟩)) (undef), cond b4 (lv) (undef), cond b5 (.agg #[.int .i64 x.kind, .int .i64 x.left, .int .i64 x.right, .int .u64 (setW x.set 0), .int .u64 (setW x.set 1), .int .u64 (setW x.set 2), .int .u64 (setW x.set 3)]) (undef), cond b6 (.slice (some ⟨ko, 0, none⟩) 1 1) (undef), cond b7 (v12) (undef), cond b8 (.pointer (some ⟨g, 0, none⟩)) (undef), cond b9 (.pointer (some ⟨g, 1, none⟩)) (undef), undef, undef, undef, undef, undef, undef], defers := [] } ∧ NF w0 B g ko An ln cn lv v12 N x b6 b7 b10 W ww
def NAdd (w0 w : World) (B g : Nat) (An : Option Addr) (ln cn : Nat) (lv : Value) (N : List Nd) (x : Nd) (e : Ending) (w' : World) : Prop := e = .returned (.int .i64 (N.length : Int)) ∧ ∃ lv', NB w0 w' B g An ln cn lv' (N ++ [x]) ∧ Far w w' g lv lv'
def stA (x : Nd) : Value := .agg #[.int .i64 x.kind, .int .i64 x.left, .int .i64 x.right, .int .u64 (setW x.set 0), .int .u64 (setW x.set 1), .int .u64 (setW x.set 2), .int .u64 (setW x.set 3)]
set_option maxHeartbeats 4000000 in
set_option maxRecDepth 100000 in
theorem naddC (w0 : World) (B g : Nat) (An : Option Addr) (ln cn : Nat) (lv : Value) (N : List Nd) (w : World) (h : NB w0 w B g An ln cn lv N) (hn : N.length ≤ 100000) (x : Nd) :
    Calls Try.prog 32 #[.pointer (some ⟨g, 0, none⟩), stA x] w (NAdd w0 w B g An ln cn lv N x) := by
  unfold stA
  obtain ⟨kd, lf, rt, st⟩ := x
  obtain ⟨Al, cl, rfl, htl, _, _⟩ := h.own.shape
  have hb := heap_alloc_new w (.cells #[.int .i64 kd, .int .i64 lf, .int .i64 rt, .int .u64 (setW st 0), .int .u64 (setW st 1), .int .u64 (setW st 2), .int .u64 (setW st 3)] 42)
  have ho := (Old.refl w).alloc (.cells #[.int .i64 kd, .int .i64 lf, .int .i64 rt, .int .u64 (setW st 0), .int .u64 (setW st 1), .int .u64 (setW st 2), .int .u64 (setW st 3)] 42)
  have HR := Lib.hid (h.up ho)
  have HBX := Lib.hid hb
  have HOX := Lib.hid ho
  simp only
  clear h htl ho hb
  go_enter Try.func32, Try.ntmps32
  go_upto_region 1 with fail
  generalize hW : w.alloc (.cells #[.int .i64 kd, .int .i64 lf, .int .i64 rt, .int .u64 (setW st 0), .int .u64 (setW st 1), .int .u64 (setW st 2), .int .u64 (setW st 3)] 42) = W at *
  have hF0 : NF w0 B g 0 An ln cn (.slice Al N.length cl) undef N ⟨kd, lf, rt, st⟩ false false false W W.drew := ⟨fun _ => ⟨HR.out.up (Old.refl W).drew, (Old.refl W).drew⟩, (fun e => by cases e), (fun e => by cases e), (fun e => by cases e)⟩
  generalize hk5 : w.heap.size = k5 at *
  refine wp_region_steps2 (by kernel_rfl) (by kernel_rfl) (NDI w0 W B g k5 An ln cn (.slice Al N.length cl) N ⟨kd, lf, rt, st⟩) ?_ ?_ ⟨?_, ?_, ?_, ?_, ?_, ?_, ?_, ?_, ?_, ?_, ?_, trivial⟩
  · exact ⟨false, false, false, false, false, false, false, false, false, false, false, 0, undef, rfl, rfl, hF0⟩
  · rintro aa w1 ⟨b0, b1, b2, b3, b4, b5, b6, b7, b8, b9, b10, ko, v12, hl, rfl, hF⟩
    have hl' := congrArg Array.toList hl
    simp at hl'
    obtain ⟨rfl, rfl, rfl, rfl, rfl, rfl, rfl, rfl, rfl, rfl, rfl⟩ := hl'
    clear hl
    have HF1 := Lib.hid (hF.fin rfl)
    clear hF hF0
    obtain ⟨A9, c9, rfl, _, _, _⟩ := HF1.out.1.own.shape
    obtain ⟨_, d3, _⟩ := HF1.out.1.cells
    have hl : (N ++ [(⟨kd, lf, rt, st⟩ : Nd)]).length = N.length + 1 := by simp
    rw [hl] at d3
    clear hl
    go_wp2_with fail
    go_ret
    exact ⟨rfl, _, HF1.out.1, Far.old_ HOX.out HF1.out.2⟩
  · intro listed aa w1 K hs hcl hf hall hI hK
    obtain ⟨b0, b1, b2, b3, b4, b5, b6, b7, b8, b9, b10, ko, v12, rfl, rfl, hF⟩ := hI
    have hf' : b0 = false := hf
    subst hf'
    have hb8 : b8 = false := by
      cases b8
      · rfl
      · exact absurd (show false = true from hcl 8 _ rfl rfl ⟨0, .data⟩ (by first | exact .head _ | simp) rfl) (by decide)
    subst hb8
    have hb9 : b9 = false := by
      cases b9
      · rfl
      · exact absurd (show false = true from hcl 9 _ rfl rfl ⟨0, .phase⟩ (by first | exact .head _ | simp) rfl) (by decide)
    subst hb9
    have hb10 : b10 = false := by
      cases b10
      · rfl
      · exact absurd (show false = true from hcl 10 _ rfl rfl ⟨0, .phase⟩ (by first | exact .head _ | simp) rfl) (by decide)
    subst hb10
    clear hall hcl hs hf
    go_simp
    exact hK _ _ ⟨true, b1, b2, b3, b4, b5, b6, b7, false, false, false, ko, v12, rfl, rfl, hF⟩
  · intro listed aa w1 K hs hcl hf hall hI hK
    obtain ⟨b0, b1, b2, b3, b4, b5, b6, b7, b8, b9, b10, ko, v12, rfl, rfl, hF⟩ := hI
    have hf' : b1 = false := hf
    subst hf'
    have hb2 : b2 = false := by
      cases b2
      · rfl
      · exact absurd (show false = true from hcl 2 _ rfl rfl ⟨1, .data⟩ (by first | exact .head _ | simp) rfl) (by decide)
    subst hb2
    have hb8 : b8 = false := by
      cases b8
      · rfl
      · exact absurd (show false = true from hcl 8 _ rfl rfl ⟨1, .phase⟩ (by first | exact .head _ | simp) rfl) (by decide)
    subst hb8
    have hb9 : b9 = false := by
      cases b9
      · rfl
      · exact absurd (show false = true from hcl 9 _ rfl rfl ⟨1, .phase⟩ (by first | exact .head _ | simp) rfl) (by decide)
    subst hb9
    have hb10 : b10 = false := by
      cases b10
      · rfl
      · exact absurd (show false = true from hcl 10 _ rfl rfl ⟨1, .phase⟩ (by first | exact .head _ | simp) rfl) (by decide)
    subst hb10
    have hb3 : b3 = false := by
      cases b3
      · rfl
      · exact absurd (show false = true from hcl 3 _ rfl rfl ⟨2, .data⟩ (by first | exact .head _ | simp) rfl) (by decide)
    subst hb3
    have hb4 : b4 = false := by
      cases b4
      · rfl
      · exact absurd (show false = true from hcl 4 _ rfl rfl ⟨3, .data⟩ (by first | exact .head _ | simp) rfl) (by decide)
    subst hb4
    have hb7 : b7 = false := by
      cases b7
      · rfl
      · exact absurd (show false = true from hcl 7 _ rfl rfl ⟨4, .data⟩ (by first | exact .head _ | simp) rfl) (by decide)
    subst hb7
    clear hall hcl hs hf
    go_simp
    exact hK _ _ ⟨b0, true, false, false, false, b5, b6, false, false, false, false, ko, v12, rfl, rfl, hF⟩
  · intro listed aa w1 K hs hcl hf hall hI hK
    obtain ⟨b0, b1, b2, b3, b4, b5, b6, b7, b8, b9, b10, ko, v12, rfl, rfl, hF⟩ := hI
    have hf' : b2 = false := hf
    subst hf'
    have hq1 : b1 = true := hall ⟨1, .data⟩ (by first | exact .head _ | simp) rfl
    subst hq1
    have hb3 : b3 = false := by
      cases b3
      · rfl
      · exact absurd (show false = true from hcl 3 _ rfl rfl ⟨2, .data⟩ (by first | exact .head _ | simp) rfl) (by decide)
    subst hb3
    have hb8 : b8 = false := by
      cases b8
      · rfl
      · exact absurd (show false = true from hcl 8 _ rfl rfl ⟨2, .phase⟩ (by first | exact .head _ | simp) rfl) (by decide)
    subst hb8
    have hb9 : b9 = false := by
      cases b9
      · rfl
      · exact absurd (show false = true from hcl 9 _ rfl rfl ⟨2, .phase⟩ (by first | exact .head _ | simp) rfl) (by decide)
    subst hb9
    have hb10 : b10 = false := by
      cases b10
      · rfl
      · exact absurd (show false = true from hcl 10 _ rfl rfl ⟨2, .phase⟩ (by first | exact .head _ | simp) rfl) (by decide)
    subst hb10
    have hb4 : b4 = false := by
      cases b4
      · rfl
      · exact absurd (show false = true from hcl 4 _ rfl rfl ⟨3, .data⟩ (by first | exact .head _ | simp) rfl) (by decide)
    subst hb4
    have hb7 : b7 = false := by
      cases b7
      · rfl
      · exact absurd (show false = true from hcl 7 _ rfl rfl ⟨4, .data⟩ (by first | exact .head _ | simp) rfl) (by decide)
    subst hb7
    clear hall hcl hs hf
    go_simp
    exact hK _ _ ⟨b0, true, true, false, false, b5, b6, false, false, false, false, ko, v12, rfl, rfl, hF⟩
  · intro listed aa w1 K hs hcl hf hall hI hK
    obtain ⟨b0, b1, b2, b3, b4, b5, b6, b7, b8, b9, b10, ko, v12, rfl, rfl, hF⟩ := hI
    have hf' : b3 = false := hf
    subst hf'
    have hq2 : b2 = true := hall ⟨2, .data⟩ (by first | exact .head _ | simp) rfl
    subst hq2
    have hq1 : b1 = true := hcl 2 _ rfl rfl ⟨1, .data⟩ (by first | exact .head _ | simp) rfl
    subst hq1
    have hb4 : b4 = false := by
      cases b4
      · rfl
      · exact absurd (show false = true from hcl 4 _ rfl rfl ⟨3, .data⟩ (by first | exact .head _ | simp) rfl) (by decide)
    subst hb4
    have hb8 : b8 = false := by
      cases b8
      · rfl
      · exact absurd (show false = true from hcl 8 _ rfl rfl ⟨3, .phase⟩ (by first | exact .head _ | simp) rfl) (by decide)
    subst hb8
    have hb9 : b9 = false := by
      cases b9
      · rfl
      · exact absurd (show false = true from hcl 9 _ rfl rfl ⟨3, .phase⟩ (by first | exact .head _ | simp) rfl) (by decide)
    subst hb9
    have hb10 : b10 = false := by
      cases b10
      · rfl
      · exact absurd (show false = true from hcl 10 _ rfl rfl ⟨3, .phase⟩ (by first | exact .head _ | simp) rfl) (by decide)
    subst hb10
    have hb7 : b7 = false := by
      cases b7
      · rfl
      · exact absurd (show false = true from hcl 7 _ rfl rfl ⟨4, .data⟩ (by first | exact .head _ | simp) rfl) (by decide)
    subst hb7
    clear hall hcl hs hf
    go_simp
    exact hK _ _ ⟨b0, true, true, true, false, b5, b6, false, false, false, false, ko, v12, rfl, rfl, hF⟩
  · intro listed aa w1 K hs hcl hf hall hI hK
    obtain ⟨b0, b1, b2, b3, b4, b5, b6, b7, b8, b9, b10, ko, v12, rfl, rfl, hF⟩ := hI
    have hf' : b4 = false := hf
    subst hf'
    have hq3 : b3 = true := hall ⟨3, .data⟩ (by first | exact .head _ | simp) rfl
    subst hq3
    have hq2 : b2 = true := hcl 3 _ rfl rfl ⟨2, .data⟩ (by first | exact .head _ | simp) rfl
    subst hq2
    have hq1 : b1 = true := hcl 2 _ rfl rfl ⟨1, .data⟩ (by first | exact .head _ | simp) rfl
    subst hq1
    have hb7 : b7 = false := by
      cases b7
      · rfl
      · exact absurd (show false = true from hcl 7 _ rfl rfl ⟨4, .data⟩ (by first | exact .head _ | simp) rfl) (by decide)
    subst hb7
    have hb8 : b8 = false := by
      cases b8
      · rfl
      · exact absurd (show false = true from hcl 8 _ rfl rfl ⟨4, .phase⟩ (by first | exact .head _ | simp) rfl) (by decide)
    subst hb8
    have hb9 : b9 = false := by
      cases b9
      · rfl
      · exact absurd (show false = true from hcl 9 _ rfl rfl ⟨4, .phase⟩ (by first | exact .head _ | simp) rfl) (by decide)
    subst hb9
    have hb10 : b10 = false := by
      cases b10
      · rfl
      · exact absurd (show false = true from hcl 10 _ rfl rfl ⟨4, .phase⟩ (by first | exact .head _ | simp) rfl) (by decide)
    subst hb10
    clear hall hcl hs hf
    have q1 := (hF.base rfl).1.cells.2.1
    go_simp
    exact hK _ _ ⟨b0, true, true, true, true, b5, b6, false, false, false, false, ko, v12, rfl, rfl, hF⟩
  · intro listed aa w1 K hs hcl hf hall hI hK
    obtain ⟨b0, b1, b2, b3, b4, b5, b6, b7, b8, b9, b10, ko, v12, rfl, rfl, hF⟩ := hI
    have hf' : b5 = false := hf
    subst hf'
    have hb6 : b6 = false := by
      cases b6
      · rfl
      · exact absurd (show false = true from hcl 6 _ rfl rfl ⟨5, .data⟩ (by first | exact .head _ | simp) rfl) (by decide)
    subst hb6
    have hb8 : b8 = false := by
      cases b8
      · rfl
      · exact absurd (show false = true from hcl 8 _ rfl rfl ⟨5, .phase⟩ (by first | exact .head _ | simp) rfl) (by decide)
    subst hb8
    have hb9 : b9 = false := by
      cases b9
      · rfl
      · exact absurd (show false = true from hcl 9 _ rfl rfl ⟨5, .phase⟩ (by first | exact .head _ | simp) rfl) (by decide)
    subst hb9
    have hb10 : b10 = false := by
      cases b10
      · rfl
      · exact absurd (show false = true from hcl 10 _ rfl rfl ⟨5, .phase⟩ (by first | exact .head _ | simp) rfl) (by decide)
    subst hb10
    have hb7 : b7 = false := by
      cases b7
      · rfl
      · exact absurd (show false = true from hcl 7 _ rfl rfl ⟨6, .data⟩ (by first | exact .head _ | simp) rfl) (by decide)
    subst hb7
    clear hall hcl hs hf
    have hb5 := (hF.base rfl).2.block HBX.out
    have q0 : w1.cell? ⟨k5, 0, none⟩ = some (.int .i64 kd) := by rw [cell_of_row w1 _ 0 _ _ _ hb5]; rfl
    have q1 : w1.cell? ⟨k5, 1, none⟩ = some (.int .i64 lf) := by rw [cell_of_row w1 _ 1 _ _ _ hb5]; rfl
    have q2 : w1.cell? ⟨k5, 2, none⟩ = some (.int .i64 rt) := by rw [cell_of_row w1 _ 2 _ _ _ hb5]; rfl
    have q3 : w1.cell? ⟨k5, 3, none⟩ = some (.int .u64 (setW st 0)) := by rw [cell_of_row w1 _ 3 _ _ _ hb5]; rfl
    have q4 : w1.cell? ⟨k5, 4, none⟩ = some (.int .u64 (setW st 1)) := by rw [cell_of_row w1 _ 4 _ _ _ hb5]; rfl
    have q5 : w1.cell? ⟨k5, 5, none⟩ = some (.int .u64 (setW st 2)) := by rw [cell_of_row w1 _ 5 _ _ _ hb5]; rfl
    have q6 : w1.cell? ⟨k5, 6, none⟩ = some (.int .u64 (setW st 3)) := by rw [cell_of_row w1 _ 6 _ _ _ hb5]; rfl
    clear hb5
    go_simp
    exact hK _ _ ⟨b0, b1, b2, b3, b4, true, false, false, false, false, false, ko, v12, rfl, rfl, hF⟩
  · intro listed aa w1 K hs hcl hf hall hI hK
    obtain ⟨b0, b1, b2, b3, b4, b5, b6, b7, b8, b9, b10, ko, v12, rfl, rfl, hF⟩ := hI
    have hf' : b6 = false := hf
    subst hf'
    have hq5 : b5 = true := hall ⟨5, .data⟩ (by first | exact .head _ | simp) rfl
    subst hq5
    have hb7 : b7 = false := by
      cases b7
      · rfl
      · exact absurd (show false = true from hcl 7 _ rfl rfl ⟨6, .data⟩ (by first | exact .head _ | simp) rfl) (by decide)
    subst hb7
    have hb8 : b8 = false := by
      cases b8
      · rfl
      · exact absurd (show false = true from hcl 8 _ rfl rfl ⟨6, .phase⟩ (by first | exact .head _ | simp) rfl) (by decide)
    subst hb8
    have hb9 : b9 = false := by
      cases b9
      · rfl
      · exact absurd (show false = true from hcl 9 _ rfl rfl ⟨6, .phase⟩ (by first | exact .head _ | simp) rfl) (by decide)
    subst hb9
    have hb10 : b10 = false := by
      cases b10
      · rfl
      · exact absurd (show false = true from hcl 10 _ rfl rfl ⟨6, .phase⟩ (by first | exact .head _ | simp) rfl) (by decide)
    subst hb10
    clear hall hcl hs hf
    go_simp
    exact hK _ _ ⟨b0, b1, b2, b3, b4, true, true, false, false, false, false, w1.heap.size, v12, rfl, rfl, hF.mk6⟩
  · intro listed aa w1 K hs hcl hf hall hI hK
    obtain ⟨b0, b1, b2, b3, b4, b5, b6, b7, b8, b9, b10, ko, v12, rfl, rfl, hF⟩ := hI
    have hf' : b7 = false := hf
    subst hf'
    have hq4 : b4 = true := hall ⟨4, .data⟩ (by first | exact .head _ | simp) rfl
    subst hq4
    have hq6 : b6 = true := hall ⟨6, .data⟩ (by first | exact .head _ | simp) rfl
    subst hq6
    have hq3 : b3 = true := hcl 4 _ rfl rfl ⟨3, .data⟩ (by first | exact .head _ | simp) rfl
    subst hq3
    have hq5 : b5 = true := hcl 6 _ rfl rfl ⟨5, .data⟩ (by first | exact .head _ | simp) rfl
    subst hq5
    have hq2 : b2 = true := hcl 3 _ rfl rfl ⟨2, .data⟩ (by first | exact .head _ | simp) rfl
    subst hq2
    have hq1 : b1 = true := hcl 2 _ rfl rfl ⟨1, .data⟩ (by first | exact .head _ | simp) rfl
    subst hq1
    have hb8 : b8 = false := by
      cases b8
      · rfl
      · exact absurd (show false = true from hcl 8 _ rfl rfl ⟨7, .phase⟩ (by first | exact .head _ | simp) rfl) (by decide)
    subst hb8
    have hb9 : b9 = false := by
      cases b9
      · rfl
      · exact absurd (show false = true from hcl 9 _ rfl rfl ⟨7, .phase⟩ (by first | exact .head _ | simp) rfl) (by decide)
    subst hb9
    have hb10 : b10 = false := by
      cases b10
      · rfl
      · exact absurd (show false = true from hcl 10 _ rfl rfl ⟨7, .data⟩ (by first | exact .head _ | simp) rfl) (by decide)
    subst hb10
    clear hall hcl hs hf
    have hR := (hF.base rfl).1
    have hrow := hF.row rfl rfl
    refine step_appO w1 (by rfl) _ _ 28 (by rfl) B 42 (.agg #[.int .i64 0, .int .i64 0, .int .i64 0, .int .u64 0, .int .u64 0, .int .u64 0, .int .u64 0]) 7 56 Try.underlying28 info_st rfl (by decide) (by decide) (.slice Al N.length cl) N.length (ndsV N) (by rfl) hR.own (some ⟨ko, 0, none⟩) 1 1 (ndCells ⟨kd, lf, rt, st⟩) (by rfl) (Or.inr ⟨ko, 0, rfl, fun j u hu => by rw [Nat.zero_add, cell_of_row w1 ko j _ _ _ hrow, List.getElem?_toArray]; exact hu⟩) rfl rfl (by omega) hR.lB ?_
    intro v' w' ho hg hst
    exact hK _ _ ⟨b0, true, true, true, true, true, true, true, false, false, false, ko, v', rfl, rfl, hF.mk7 ho hg hst⟩
  · intro listed aa w1 K hs hcl hf hall hI hK
    obtain ⟨b0, b1, b2, b3, b4, b5, b6, b7, b8, b9, b10, ko, v12, rfl, rfl, hF⟩ := hI
    have hf' : b8 = false := hf
    subst hf'
    have hq0 : b0 = true := hall ⟨0, .data⟩ (by first | exact .head _ | simp) rfl
    subst hq0
    have hq1 : b1 = true := hall ⟨1, .phase⟩ (by first | exact .head _ | simp) rfl
    subst hq1
    have hq2 : b2 = true := hall ⟨2, .phase⟩ (by first | exact .head _ | simp) rfl
    subst hq2
    have hq3 : b3 = true := hall ⟨3, .phase⟩ (by first | exact .head _ | simp) rfl
    subst hq3
    have hq4 : b4 = true := hall ⟨4, .phase⟩ (by first | exact .head _ | simp) rfl
    subst hq4
    have hq5 : b5 = true := hall ⟨5, .phase⟩ (by first | exact .head _ | simp) rfl
    subst hq5
    have hq6 : b6 = true := hall ⟨6, .phase⟩ (by first | exact .head _ | simp) rfl
    subst hq6
    have hq7 : b7 = true := hall ⟨7, .phase⟩ (by first | exact .head _ | simp) rfl
    subst hq7
    have hb9 : b9 = false := by
      cases b9
      · rfl
      · exact absurd (show false = true from hcl 9 _ rfl rfl ⟨8, .data⟩ (by first | exact .head _ | simp) rfl) (by decide)
    subst hb9
    have hb10 : b10 = false := by
      cases b10
      · rfl
      · exact absurd (show false = true from hcl 10 _ rfl rfl ⟨9, .data⟩ (by first | exact .head _ | simp) rfl) (by decide)
    subst hb10
    clear hall hcl hs hf
    go_simp
    exact hK _ _ ⟨true, true, true, true, true, true, true, true, true, false, false, ko, v12, rfl, rfl, hF⟩
  · intro listed aa w1 K hs hcl hf hall hI hK
    obtain ⟨b0, b1, b2, b3, b4, b5, b6, b7, b8, b9, b10, ko, v12, rfl, rfl, hF⟩ := hI
    have hf' : b9 = false := hf
    subst hf'
    have hq8 : b8 = true := hall ⟨8, .data⟩ (by first | exact .head _ | simp) rfl
    subst hq8
    have hq0 : b0 = true := hall ⟨0, .phase⟩ (by first | exact .head _ | simp) rfl
    subst hq0
    have hq1 : b1 = true := hall ⟨1, .phase⟩ (by first | exact .head _ | simp) rfl
    subst hq1
    have hq2 : b2 = true := hall ⟨2, .phase⟩ (by first | exact .head _ | simp) rfl
    subst hq2
    have hq3 : b3 = true := hall ⟨3, .phase⟩ (by first | exact .head _ | simp) rfl
    subst hq3
    have hq4 : b4 = true := hall ⟨4, .phase⟩ (by first | exact .head _ | simp) rfl
    subst hq4
    have hq5 : b5 = true := hall ⟨5, .phase⟩ (by first | exact .head _ | simp) rfl
    subst hq5
    have hq6 : b6 = true := hall ⟨6, .phase⟩ (by first | exact .head _ | simp) rfl
    subst hq6
    have hq7 : b7 = true := hall ⟨7, .phase⟩ (by first | exact .head _ | simp) rfl
    subst hq7
    have hb10 : b10 = false := by
      cases b10
      · rfl
      · exact absurd (show false = true from hcl 10 _ rfl rfl ⟨9, .data⟩ (by first | exact .head _ | simp) rfl) (by decide)
    subst hb10
    clear hall hcl hs hf
    go_simp
    exact hK _ _ ⟨true, true, true, true, true, true, true, true, true, true, false, ko, v12, rfl, rfl, hF⟩
  · intro listed aa w1 K hs hcl hf hall hI hK
    obtain ⟨b0, b1, b2, b3, b4, b5, b6, b7, b8, b9, b10, ko, v12, rfl, rfl, hF⟩ := hI
    have hf' : b10 = false := hf
    subst hf'
    have hq9 : b9 = true := hall ⟨9, .data⟩ (by first | exact .head _ | simp) rfl
    subst hq9
    have hq7 : b7 = true := hall ⟨7, .data⟩ (by first | exact .head _ | simp) rfl
    subst hq7
    have hq0 : b0 = true := hall ⟨0, .phase⟩ (by first | exact .head _ | simp) rfl
    subst hq0
    have hq1 : b1 = true := hall ⟨1, .phase⟩ (by first | exact .head _ | simp) rfl
    subst hq1
    have hq2 : b2 = true := hall ⟨2, .phase⟩ (by first | exact .head _ | simp) rfl
    subst hq2
    have hq3 : b3 = true := hall ⟨3, .phase⟩ (by first | exact .head _ | simp) rfl
    subst hq3
    have hq4 : b4 = true := hall ⟨4, .phase⟩ (by first | exact .head _ | simp) rfl
    subst hq4
    have hq5 : b5 = true := hall ⟨5, .phase⟩ (by first | exact .head _ | simp) rfl
    subst hq5
    have hq6 : b6 = true := hall ⟨6, .phase⟩ (by first | exact .head _ | simp) rfl
    subst hq6
    have hq8 : b8 = true := hcl 9 _ rfl rfl ⟨8, .data⟩ (by first | exact .head _ | simp) rfl
    subst hq8
    clear hall hcl hs hf
    obtain ⟨⟨_, _, _, _, hb5, ho9⟩, _⟩ := hF.app rfl rfl
    obtain ⟨A9, c9, rfl, _, _, _⟩ := ho9.shape
    have f3 : w1.frozen? ⟨g, 1, none⟩ = false := frozen_of_row w1 g 1 _ _ hb5
    have c3 : w1.cell? ⟨g, 1, none⟩ = some (.slice Al N.length cl) := by rw [cell_of_row w1 g 1 _ _ _ hb5]; rfl
    clear hb5 ho9
    go_simp
    exact hK _ _ ⟨true, true, true, true, true, true, true, true, true, true, true, ko, .slice A9 (N.length + 1) c9, rfl, rfl, hF.mk10⟩
end Go.Proofs.Ythadkjgadhbidaa
