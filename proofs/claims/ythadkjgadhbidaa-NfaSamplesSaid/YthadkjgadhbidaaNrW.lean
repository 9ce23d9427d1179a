/-
  The runner of an automaton in memory (nfa); enter.
-/
import Derived.Test.YthadkjgadhbidaaMtS
namespace Go.Proofs.Ythadkjgadhbidaa
open Go.RowKit
set_option linter.unusedVariables false

def nrO (A : Option Addr) (n c gm : Nat) (lv : Value) (fd : Bool) : Obj := .cells #[.slice A n c, .slice (some ⟨gm, 0, none⟩) n n, lv, .bool fd] 70 (0, 0)
/-- The runner in memory: block g; its marks: block gm; M: the states that are marked, L: the list. -/
structure NK (w0 w : World) (B g gm : Nat) (st : List Nd) (A : Option Addr) (c : Nat) (lv : Value) (fd : Bool) (M L : List Nat) : Prop where
  old : Old w0 w
  nodes : Rs w0 A (ndsV st)
  blk : w.heap[g]? = some (nrO A st.length c gm lv fd)
  mks : w.heap[gm]? = some (.cells (mkm st.length M).toArray 4 (0, 0))
  own : Own w B 3 1 lv L.length (spm L)
  bg : w0.heap.size ≤ g
  bm : w0.heap.size ≤ gm
  lg : g < B
  lm : gm < B
  n2 : g ≠ gm
  lB : B ≤ w.heap.size
section
variable {w0 w w2 w' : World} {B g gm c : Nat} {st : List Nd} {A : Option Addr} {lv v' : Value} {fd : Bool} {M L L' : List Nat}
theorem NK.up (h : NK w0 w B g gm st A c lv fd M L) (ho : Old w w') : NK w0 w' B g gm st A c lv fd M L :=
  ⟨h.old.up ho, h.nodes, ho.block h.blk, ho.block h.mks, h.own.up ho, h.bg, h.bm, h.lg, h.lm, h.n2, Nat.le_trans h.lB ho.size⟩
theorem NK.mark (h : NK w0 w B g gm st A c lv fd M L) (s : Nat) : NK w0 (w.setCell ⟨gm, s, none⟩ (.bool true)) B g gm st A c lv fd (M ++ [s]) L := by
  refine ⟨h.old.setCell h.bm _, h.nodes, ?_, ?_, World.ownsRow.kept h.own (cell_gr w gm s _) (Or.inr (fun e => mown_far h.own h.lm e.symm)), h.bg, h.bm, h.lg, h.lm, h.n2, by simpa using h.lB⟩
  · rw [heap_setCell_other w ⟨gm, s, none⟩ g _ h.n2]; exact h.blk
  · rw [heap_setCell_same w gm s _ _ _ h.mks, List.setIfInBounds_toArray, mkm_set]
theorem NK.list (h : NK w0 w B g gm st A c lv fd M L) (ho : Own w2 B 3 1 v' L'.length (spm L')) (hg : w.grownBy w2 lv.ownBlock) : NK w0 (w2.setCell ⟨g, 2, none⟩ v') B g gm st A c v' fd M L' := by
  have hw : w0.heap.size ≤ B := Nat.le_trans h.bg (Nat.le_of_lt h.lg)
  have b1 : w2.heap[g]? = _ := (hg.block g (lt_of_block h.blk) (mown_far h.own h.lg)).trans h.blk
  have b3 : w2.heap[gm]? = _ := (hg.block gm (lt_of_block h.mks) (mown_far h.own h.lm)).trans h.mks
  refine ⟨(Own.grown_old h.old h.own hw hg).setCell h.bg _, h.nodes, ?_, ?_, World.ownsRow.kept ho (cell_gr w2 g 2 _) (Or.inr (fun e => mown_far ho h.lg e.symm)), h.bg, h.bm, h.lg, h.lm, h.n2, by simpa using Nat.le_trans h.lB hg.size⟩
  · exact heap_setCell_same w2 g 2 _ _ _ b1
  · rw [heap_setCell_other w2 ⟨g, 2, none⟩ gm _ (Ne.symm h.n2)]; exact b3
theorem NK.field {i : Nat} {v : Value} {fd' : Bool} (h : NK w0 w B g gm st A c lv fd M L) (he : (w.setCell ⟨g, i, none⟩ v).heap[g]? = some (nrO A st.length c gm lv fd')) : NK w0 (w.setCell ⟨g, i, none⟩ v) B g gm st A c lv fd' M L := by
  refine ⟨h.old.setCell h.bg _, h.nodes, he, ?_, World.ownsRow.kept h.own (cell_gr w g i _) (Or.inr (fun e => mown_far h.own h.lg e.symm)), h.bg, h.bm, h.lg, h.lm, h.n2, by simpa using h.lB⟩
  rw [heap_setCell_other w ⟨g, i, none⟩ gm _ (Ne.symm h.n2)]; exact h.mks
theorem NK.found (h : NK w0 w B g gm st A c lv fd M L) (b : Bool) : NK w0 (w.setCell ⟨g, 3, none⟩ (.bool b)) B g gm st A c lv b M L := h.field (heap_setCell_same w g 3 _ _ _ h.blk)
theorem NK.cells (h : NK w0 w B g gm st A c lv fd M L) : w.cell? ⟨g, 0, none⟩ = some (.slice A st.length c) ∧ w.cell? ⟨g, 1, none⟩ = some (.slice (some ⟨gm, 0, none⟩) st.length st.length) ∧ w.cell? ⟨g, 2, none⟩ = some lv ∧ w.cell? ⟨g, 3, none⟩ = some (.bool fd) :=
  ⟨by rw [cell_of_row w g 0 _ _ _ h.blk]; rfl, by rw [cell_of_row w g 1 _ _ _ h.blk]; rfl, by rw [cell_of_row w g 2 _ _ _ h.blk]; rfl, by rw [cell_of_row w g 3 _ _ _ h.blk]; rfl⟩
theorem NK.frz (h : NK w0 w B g gm st A c lv fd M L) (i : Nat) : w.frozen? ⟨g, i, none⟩ = false := frozen_of_row w g i _ _ h.blk
theorem NK.mk_ (h : NK w0 w B g gm st A c lv fd M L) {s : Nat} (hs : s < st.length) : w.cell? ⟨gm, s, none⟩ = some (.bool (decide (s ∈ M))) ∧ w.frozen? ⟨gm, s, none⟩ = false :=
  ⟨by rw [cell_of_row w gm s _ _ _ h.mks, List.getElem?_toArray, mkm_get _ _ _ hs], frozen_of_row w gm s _ _ h.mks⟩
end
def NrPost (w : World) (lv : Value) (w0 : World) (B g gm : Nat) (st : List Nd) (A : Option Addr) (c : Nat) (fd : Bool) (L : List Nat) (e : Ending) (w' : World) : Prop :=
  e = .returned (.tuple #[]) ∧ ∃ lv', NK w0 w' B g gm st A c lv' fd L L ∧ MKept w w' g gm lv lv'
set_option maxHeartbeats 2000000 in
set_option maxRecDepth 100000 in
theorem nenterC (w0 : World) (B g gm : Nat) (st : List Nd) (A : Option Addr) (c : Nat) (lv : Value) (fd : Bool) (L : List Nat) (w : World) (h : NK w0 w B g gm st A c lv fd L L) (hl : st.length ≤ 1000) (hL : Spots st.length L) (s : Nat) (hs : s < st.length) :
    Calls Try.prog 35 #[.pointer (some ⟨g, 0, none⟩), .int .i64 (s : Int)] w (NrPost w lv w0 B g gm st A c (fdM st L s fd) (enterM L s)) := by
  obtain ⟨_, x1, _, _⟩ := h.cells
  obtain ⟨cm, fm⟩ := h.mk_ hs
  have i1 : (0 : Int) ≤ (s : Int) := by omega
  have i2 : (s : Int) < (st.length : Int) := by omega
  have HH := Lib.hid h
  have hLl := hL.len
  by_cases hm : s ∈ L
  · have e : enterM L s = L := by unfold enterM; rw [if_pos hm]
    have e2 : fdM st L s fd = fd := if_pos hm
    rw [e, e2]
    rw [decide_eq_true hm] at cm
    clear e e2 h
    go_enter Try.func35, Try.ntmps35
    go_wp2_with fail
    go_end0
    exact ⟨rfl, lv, HH.out, MKept.refl _ _ _ _⟩
  · have e : enterM L s = L ++ [s] := by unfold enterM; rw [if_neg hm]
    have e2 : fdM st L s fd = (fd || decide ((nd st s).kind = 5)) := if_neg hm
    rw [e, e2]
    rw [decide_eq_false hm] at cm
    have h1 := h.mark s
    have HM := Lib.hid h1
    have HKM := Lib.hid (MKept.mark w g gm s lv (.bool true))
    obtain ⟨b, off, rfl, _, hcl⟩ := (h.nodes.up h.old).at_ (by rw [ndsV_length]; omega)
    generalize hw1 : w.setCell ⟨gm, s, none⟩ (.bool true) = w1 at *
    obtain ⟨_, _, x2, _⟩ := h1.cells
    have f3 := h1.frz 2
    have hlt := lt_of_block h1.blk
    have HB : Hid (B ≤ w1.heap.size) := Lib.hid h1.lB
    obtain ⟨Al, cl, rfl, _, _, _⟩ := h1.own.shape
    clear e e2 h h1 hcl
    go_enter Try.func35, Try.ntmps35
    go_upto_region 2 with fail
    go_wp2_with (at_builtin; refine wpList_pushS (wr := w1) rfl _ _ 22 rfl _ 3 (.int .i64 0) 1 8 Try.underlying22 info_i64v rfl (by decide) (by decide) _ _ _ rfl HM.out.own 1 1 [.int .i64 (s : Int)] rfl rfl rfl rfl ?pn1 HB.out (by decide) ?_)
    case pn1 => omega
    intro v' w2 ho hg hst
    have b2 : w2.heap[g]? = _ := (hg.block g hlt (mown_far HM.out.own HM.out.lg)).trans HM.out.blk
    have f4 : w2.frozen? ⟨g, 2, none⟩ = false := frozen_of_row w2 g 2 _ _ b2
    have c4 : w2.cell? ⟨g, 2, none⟩ = some (.slice Al L.length cl) := by rw [cell_of_row w2 g 2 _ _ _ b2]; rfl
    have hlt2 := lt_of_block b2
    obtain ⟨Av, cv, rfl, _, _, _⟩ := ho.shape
    have ho' : Own w2 B 3 1 (.slice Av (L.length + 1) cv) (L ++ [s]).length (spm (L ++ [s])) := by
      have e : spm (L ++ [s]) = spm L ++ [.int .i64 (s : Int)] := by unfold spm; rw [List.map_append]; rfl
      have e2 : (L ++ [s]).length = L.length + 1 := by simp
      rw [e, e2]
      exact ho
    have HF := Lib.hid (HM.out.list ho' hg)
    have HKF := Lib.hid (HKM.out.trans (MKept.list hg hst g gm))
    clear ho ho' hg hst b2 x1 x2 cm fm f3
    go_upto_region 3 with fail
    generalize w2.setCell ⟨g, 2, none⟩ (.slice Av (L.length + 1) cv) = w3 at *
    clear f4 c4 hlt hlt2
    obtain ⟨y0, _, _, y5⟩ := HF.out.cells
    have z5 := HF.out.frz 3
    have HG := Lib.hid (HF.out.found (fd || decide ((nd st s).kind = 5)))
    have HKG := Lib.hid (HKF.out.trans (MKept.fld w3 g gm 3 (.slice Av (L.length + 1) cv) (.bool (fd || decide ((nd st s).kind = 5)))))
    obtain ⟨b', off', he, _, hcl⟩ := (HF.out.nodes.up HF.out.old).at_ (by rw [ndsV_length]; omega)
    injection he with he
    injection he with he1 he2
    subst he1
    subst he2
    have hx : st[s]? = some (nd st s) := by unfold nd; rw [List.getD_eq_getElem?_getD, List.getElem?_eq_getElem hs]; rfl
    have k0 := hcl _ _ (ndsV_get st s _ hx 0 (by omega))
    rw [Nat.add_zero] at k0
    replace k0 : w3.cell? ⟨b, off + s * 7, none⟩ = some (.int .i64 (nd st s).kind) := k0
    clear hcl hx HF HKF HM HKM HB
    generalize (nd st s).kind = kd at *
    cases fd with
    | true =>
      go_wp2_with fail
      go_end0
      exact ⟨rfl, _, HG.out, HKG.out⟩
    | false =>
      have ek : (kd == 5) = decide (kd = 5) := by rw [Bool.eq_iff_iff, beq_iff_eq, decide_eq_true_iff]
      by_cases h5 : kd = 5
      · have b5 : (kd == 5) = true := by simpa using h5
        have HE : Hid ((false || decide (kd = 5)) = true) := Lib.hid (by simp [h5])
        rw [HE.out] at HG HKG ⊢
        clear ek h5
        go_wp2_with fail
        go_end0
        exact ⟨rfl, _, HG.out, HKG.out⟩
      · have b5 : (kd == 5) = false := by simpa using h5
        have HE : Hid ((false || decide (kd = 5)) = false) := Lib.hid (by simp [h5])
        rw [HE.out] at HG HKG ⊢
        clear ek h5
        go_wp2_with fail
        go_end0
        exact ⟨rfl, _, HG.out, HKG.out⟩
end Go.Proofs.Ythadkjgadhbidaa
