/-
  The walker in memory; enter, before, after.
-/
import Derived.Test.YtaajgdhoffhdcaaLnP
import Derived.Test.YtaajgdhoffhdcaaVlW
import Derived.Test.YtaajgdhoffhdcaaPush
namespace Go.Proofs.Ytaajgdhoffhdcaa
open Go.RowKit
set_option linter.unusedVariables false

def spz (L : List Nat) : List Value := L.map (fun s : Nat => Value.int .i64 (s : Int))
theorem spz_length (L : List Nat) : (spz L).length = L.length := by simp [spz]
theorem spz_get (L : List Nat) (i : Nat) (h : i < L.length) : (spz L)[i]? = some (.int .i64 (L.getD i 0 : Nat)) := by
  simp [spz, h, List.getD_eq_getElem?_getD]
def mkz (n : Nat) (M : List Nat) : List Value := (List.range n).map (fun i => Value.bool (decide (i ∈ M)))
theorem mkz_length (n : Nat) (M : List Nat) : (mkz n M).length = n := by simp [mkz]
theorem mkz_get (n : Nat) (M : List Nat) (i : Nat) (h : i < n) : (mkz n M)[i]? = some (.bool (decide (i ∈ M))) := by simp [mkz, h]
theorem mkz_set (n : Nat) (M : List Nat) (s : Nat) : (mkz n M).set s (.bool true) = mkz n (M ++ [s]) := by
  apply List.ext_getElem?
  intro i
  by_cases hi : i < n
  · rw [mkz_get _ _ _ hi]
    by_cases e : s = i
    · subst e
      rw [List.getElem?_set_self (by rw [mkz_length]; exact hi)]
      simp
    · rw [List.getElem?_set_ne e, mkz_get _ _ _ hi]
      simp [Ne.symm e]
  · rw [List.getElem?_eq_none (by simp [mkz_length]; omega), List.getElem?_eq_none (by simp [mkz_length]; omega)]
def wkC (A : Option Addr) (n c gp gm : Nat) (lv : Value) : Obj := .cells #[.slice A n c, .slice (some ⟨gp, 0, none⟩) n n, .slice (some ⟨gm, 0, none⟩) (2 * n) (2 * n), lv] 86 (0, 0)
structure WK (w0 w : World) (B g gp gm : Nat) (l : List Nd) (A : Option Addr) (c : Nat) (ps : List Nat) (lv : Value) (M L : List Nat) : Prop where
  old : Old w0 w
  nodes : Rs w0 A (ndsV l)
  blk : w.heap[g]? = some (wkC A l.length c gp gm lv)
  par : w.heap[gp]? = some (.cells (spz ps).toArray 3 (0, 0))
  mks : w.heap[gm]? = some (.cells (mkz (2 * l.length) M).toArray 4 (0, 0))
  own : Own w B 3 1 lv L.length (spz L)
  bg : w0.heap.size ≤ g
  bp : w0.heap.size ≤ gp
  bm : w0.heap.size ≤ gm
  lg : g < B
  lp : gp < B
  lm : gm < B
  n1 : g ≠ gp
  n2 : g ≠ gm
  n3 : gp ≠ gm
  lB : B ≤ w.heap.size
theorem own_far {w : World} {B : Nat} {e : TypeId} {s : Nat} {v : Value} {n : Nat} {xs : List Value} (h : Own w B e s v n xs) {k : Nat} (hk : k < B) : some k ≠ v.ownBlock := by
  intro e
  have := (World.ownsRow.lt h k e.symm).1
  omega
theorem WK.up {w0 w w' : World} {B g gp gm : Nat} {l : List Nd} {A : Option Addr} {c : Nat} {ps : List Nat} {lv : Value} {M L : List Nat} (h : WK w0 w B g gp gm l A c ps lv M L) (ho : Old w w') : WK w0 w' B g gp gm l A c ps lv M L :=
  ⟨h.old.up ho, h.nodes, ho.block h.blk, ho.block h.par, ho.block h.mks, h.own.up ho, h.bg, h.bp, h.bm, h.lg, h.lp, h.lm, h.n1, h.n2, h.n3, Nat.le_trans h.lB ho.size⟩
theorem WK.mark {w0 w : World} {B g gp gm : Nat} {l : List Nd} {A : Option Addr} {c : Nat} {ps : List Nat} {lv : Value} {M L : List Nat} (h : WK w0 w B g gp gm l A c ps lv M L) (s : Nat) : WK w0 (w.setCell ⟨gm, s, none⟩ (.bool true)) B g gp gm l A c ps lv (M ++ [s]) L := by
  have hgr : w.grownBy (w.setCell ⟨gm, s, none⟩ (.bool true)) (some gm) := ⟨rfl, rfl, rfl, by simp, fun k _ hk => heap_setCell_other w ⟨gm, s, none⟩ k _ (fun e => hk (by simp [e]))⟩
  refine ⟨h.old.setCell h.bm _, h.nodes, ?_, ?_, ?_, World.ownsRow.kept h.own hgr (Or.inr (fun e => own_far h.own h.lm e.symm)), h.bg, h.bp, h.bm, h.lg, h.lp, h.lm, h.n1, h.n2, h.n3, by simpa using h.lB⟩
  · rw [heap_setCell_other w ⟨gm, s, none⟩ g _ h.n2]; exact h.blk
  · rw [heap_setCell_other w ⟨gm, s, none⟩ gp _ h.n3]; exact h.par
  · rw [heap_setCell_same w gm s _ _ _ h.mks, List.setIfInBounds_toArray, mkz_set]
theorem WK.list {w0 w w2 : World} {B g gp gm : Nat} {l : List Nd} {A : Option Addr} {c : Nat} {ps : List Nat} {lv v' : Value} {M L L' : List Nat} (h : WK w0 w B g gp gm l A c ps lv M L) (ho : Own w2 B 3 1 v' L'.length (spz L')) (hg : w.grownBy w2 lv.ownBlock) : WK w0 (w2.setCell ⟨g, 3, none⟩ v') B g gp gm l A c ps v' M L' := by
  have hw : w0.heap.size ≤ B := Nat.le_trans h.bg (Nat.le_of_lt h.lg)
  have hgr : w2.grownBy (w2.setCell ⟨g, 3, none⟩ v') (some g) := ⟨rfl, rfl, rfl, by simp, fun k _ hk => heap_setCell_other w2 ⟨g, 3, none⟩ k _ (fun e => hk (by simp [e]))⟩
  have b1 : w2.heap[g]? = _ := (hg.block g (lt_of_block h.blk) (own_far h.own h.lg)).trans h.blk
  have b2 : w2.heap[gp]? = _ := (hg.block gp (lt_of_block h.par) (own_far h.own h.lp)).trans h.par
  have b3 : w2.heap[gm]? = _ := (hg.block gm (lt_of_block h.mks) (own_far h.own h.lm)).trans h.mks
  refine ⟨(Own.grown_old h.old h.own hw hg).setCell h.bg _, h.nodes, ?_, ?_, ?_, World.ownsRow.kept ho hgr (Or.inr (fun e => own_far ho h.lg e.symm)), h.bg, h.bp, h.bm, h.lg, h.lp, h.lm, h.n1, h.n2, h.n3, by simpa using Nat.le_trans h.lB hg.size⟩
  · exact heap_setCell_same w2 g 3 _ _ _ b1
  · rw [heap_setCell_other w2 ⟨g, 3, none⟩ gp _ (Ne.symm h.n1)]; exact b2
  · rw [heap_setCell_other w2 ⟨g, 3, none⟩ gm _ (Ne.symm h.n2)]; exact b3
theorem WK.same {w0 w : World} {B g gp gm : Nat} {l : List Nd} {A : Option Addr} {c : Nat} {ps : List Nat} {lv : Value} {M M' L : List Nat} (h : WK w0 w B g gp gm l A c ps lv M L) (hm : ∀ i, i ∈ M ↔ i ∈ M') : WK w0 w B g gp gm l A c ps lv M' L := by
  have : mkz (2 * l.length) M = mkz (2 * l.length) M' := by unfold mkz; exact List.map_congr_left (fun i _ => by simp [hm i])
  exact ⟨h.old, h.nodes, h.blk, h.par, this ▸ h.mks, h.own, h.bg, h.bp, h.bm, h.lg, h.lp, h.lm, h.n1, h.n2, h.n3, h.lB⟩
/-- What a call on the walker leaves as it was. -/
structure Kept (w w' : World) (g gm : Nat) (lv lv' : Value) : Prop where
  size : w.heap.size ≤ w'.heap.size
  far : ∀ k, k < w.heap.size → k ≠ g → k ≠ gm → some k ≠ lv.ownBlock → w'.heap[k]? = w.heap[k]?
  row : ∀ k, lv'.ownBlock = some k → lv.ownBlock = some k ∨ w.heap.size ≤ k
theorem Kept.refl (w : World) (g gm : Nat) (lv : Value) : Kept w w g gm lv lv := ⟨Nat.le_refl _, fun _ _ _ _ _ => rfl, fun _ h => Or.inl h⟩
theorem Kept.of_old {w w' : World} (h : Old w w') (g gm : Nat) (lv : Value) : Kept w w' g gm lv lv := ⟨h.size, fun k hk _ _ _ => h.out.block k hk, fun _ h => Or.inl h⟩
theorem Kept.trans {w w1 w2 : World} {g gm : Nat} {a b d : Value} (h : Kept w w1 g gm a b) (k : Kept w1 w2 g gm b d) : Kept w w2 g gm a d := by
  refine ⟨Nat.le_trans h.size k.size, fun j hj h1 h2 h3 => ?_, fun j hj => ?_⟩
  · rw [k.far j (Nat.lt_of_lt_of_le hj h.size) h1 h2 (fun e => ?_), h.far j hj h1 h2 h3]
    rcases h.row j e.symm with h4 | h4
    · exact h3 h4.symm
    · omega
  · rcases k.row j hj with h4 | h4
    · exact h.row j h4
    · exact Or.inr (Nat.le_trans h.size h4)
theorem Kept.block {w w' : World} {g gm : Nat} {a b : Value} (h : Kept w w' g gm a b) {k : Nat} {o : Obj} (hk : w.heap[k]? = some o) (h1 : k ≠ g) (h2 : k ≠ gm) (h3 : some k ≠ a.ownBlock) : w'.heap[k]? = some o := (h.far k (lt_of_block hk) h1 h2 h3).trans hk
theorem Kept.mark (w : World) (g gm s : Nat) (lv v : Value) : Kept w (w.setCell ⟨gm, s, none⟩ v) g gm lv lv :=
  ⟨by simp, fun k _ _ h2 _ => heap_setCell_other w ⟨gm, s, none⟩ k _ h2, fun _ h => Or.inl h⟩
theorem Kept.list {w w2 : World} {lv v' : Value} (hg : w.grownBy w2 lv.ownBlock) (hs : Stay w lv v') (g gm : Nat) : Kept w (w2.setCell ⟨g, 3, none⟩ v') g gm lv v' := by
  refine ⟨by simpa using hg.size, fun k hk h1 _ h3 => ?_, fun k hk => ?_⟩
  · rw [heap_setCell_other w2 ⟨g, 3, none⟩ k _ h1]; exact hg.block k hk h3
  · rcases hs with e | ⟨j, e, hj⟩
    · rw [← e]; exact Or.inl hk
    · rw [e] at hk; injection hk with hk; subst hk; exact Or.inr hj
set_option maxRecDepth 100000 in
theorem beforeC (x : Int) (w : World) (h0 : 0 ≤ x) (h1 : x < 100000) : Calls Try.prog 78 #[.int .i64 x] w (ValSame (.int .i64 (2 * x)) w) := by
  have wf : (Lit.int .i64 (2 * x)).wf = true := WalkArith.wf_i64 (by omega)
  go_enter Try.func78, Try.ntmps78
  go_wp2_with fail
  go_ret
  exact ⟨rfl, rfl⟩
set_option maxRecDepth 100000 in
theorem afterC (x : Int) (w : World) (h0 : 0 ≤ x) (h1 : x < 100000) : Calls Try.prog 81 #[.int .i64 x] w (ValSame (.int .i64 (2 * x + 1)) w) := by
  have wf : (Lit.int .i64 (2 * x)).wf = true := WalkArith.wf_i64 (by omega)
  have wf2 : (Lit.int .i64 (2 * x + 1)).wf = true := WalkArith.wf_i64 (by omega)
  go_enter Try.func81, Try.ntmps81
  go_wp2_with fail
  go_ret
  exact ⟨rfl, rfl⟩
def WPost (w : World) (lv : Value) (w0 : World) (B g gp gm : Nat) (l : List Nd) (A : Option Addr) (c : Nat) (ps : List Nat) (L : List Nat) (e : Ending) (w' : World) : Prop :=
  e = .returned (.tuple #[]) ∧ ∃ lv', WK w0 w' B g gp gm l A c ps lv' L L ∧ Kept w w' g gm lv lv'
set_option maxHeartbeats 2000000 in
set_option maxRecDepth 100000 in
theorem enterC (w0 : World) (B g gp gm : Nat) (l : List Nd) (A : Option Addr) (c : Nat) (ps : List Nat) (lv : Value) (L : List Nat) (w : World) (h : WK w0 w B g gp gm l A c ps lv L L) (hl : l.length ≤ 256) (hL : Spots (2 * l.length) L) (s : Nat) (hs : s < 2 * l.length) :
    Calls Try.prog 77 #[.pointer (some ⟨g, 0, none⟩), .int .i64 (s : Int)] w (WPost w lv w0 B g gp gm l A c ps (enterM L s)) := by
  have c2 : w.cell? ⟨g, 2, none⟩ = some (.slice (some ⟨gm, 0, none⟩) (2 * l.length) (2 * l.length)) := by rw [cell_of_row w g 2 _ _ _ h.blk]; rfl
  have cm : w.cell? ⟨gm, s, none⟩ = some (.bool (decide (s ∈ L))) := by
    rw [cell_of_row w gm s _ _ _ h.mks, List.getElem?_toArray, mkz_get _ _ _ hs]
  have fm : w.frozen? ⟨gm, s, none⟩ = false := frozen_of_row w gm s _ _ h.mks
  have i1 : (0 : Int) ≤ (s : Int) := by omega
  have i2 : (s : Int) < 2 * (l.length : Int) := by omega
  have HH := Lib.hid h
  have hLl := hL.len
  by_cases hm : s ∈ L
  · have e : enterM L s = L := by unfold enterM; rw [if_pos hm]
    rw [e]
    rw [decide_eq_true hm] at cm
    clear e h
    go_enter Try.func77, Try.ntmps77
    go_wp2_with fail
    go_end0
    exact ⟨rfl, lv, HH.out, Kept.refl _ _ _ _⟩
  · have e : enterM L s = L ++ [s] := by unfold enterM; rw [if_neg hm]
    rw [e]
    rw [decide_eq_false hm] at cm
    have h1 := h.mark s
    have HM := Lib.hid h1
    have HKM := Lib.hid (Kept.mark w g gm s lv (.bool true))
    generalize hw1 : w.setCell ⟨gm, s, none⟩ (.bool true) = w1 at *
    have c3 : w1.cell? ⟨g, 3, none⟩ = some lv := by rw [cell_of_row w1 g 3 _ _ _ h1.blk]; rfl
    have f3 : w1.frozen? ⟨g, 3, none⟩ = false := frozen_of_row w1 g 3 _ _ h1.blk
    have hlt := lt_of_block h1.blk
    have HB : Hid (B ≤ w1.heap.size) := Lib.hid h1.lB
    obtain ⟨Al, cl, rfl, _, _, _⟩ := h1.own.shape
    clear e h h1
    go_enter Try.func77, Try.ntmps77
    go_upto_region 2 with fail
    go_wp2_with (at_builtin; refine wpList_pushS (wr := w1) rfl _ _ 22 rfl _ 3 (.int .i64 0) 1 8 Try.underlying22 info_i64v rfl (by decide) (by decide) _ _ _ rfl HM.out.own 1 1 [.int .i64 (s : Int)] rfl rfl rfl rfl ?pn1 HB.out (by decide) ?_)
    case pn1 => omega
    intro v' w2 ho hg hst
    have b2 : w2.heap[g]? = _ := (hg.block g hlt (own_far HM.out.own HM.out.lg)).trans HM.out.blk
    have f4 : w2.frozen? ⟨g, 3, none⟩ = false := frozen_of_row w2 g 3 _ _ b2
    have c4 : w2.cell? ⟨g, 3, none⟩ = some (.slice Al L.length cl) := by rw [cell_of_row w2 g 3 _ _ _ b2]; rfl
    have hlt2 := lt_of_block b2
    obtain ⟨Av, cv, rfl, _, _, _⟩ := ho.shape
    have ho' : Own w2 B 3 1 (.slice Av (L.length + 1) cv) (L ++ [s]).length (spz (L ++ [s])) := by
      have e : spz (L ++ [s]) = spz L ++ [.int .i64 (s : Int)] := by unfold spz; rw [List.map_append]; rfl
      have e2 : (L ++ [s]).length = L.length + 1 := by simp
      rw [e, e2]
      exact ho
    have HF := Lib.hid (HM.out.list ho' hg)
    have HKF := Lib.hid (HKM.out.trans (Kept.list hg hst g gm))
    clear ho ho' hg hst b2
    go_wp2_with fail
    go_end0
    exact ⟨rfl, _, HF.out, HKF.out⟩
end Go.Proofs.Ytaajgdhoffhdcaa
