/-
  The walk of the builder's build (nfa).
-/
import Derived.Test.YthadkjgadhbidaaNbA
import Derived.Deep.RegionHeld3
import Derived.Deep.CutBlock
namespace Go.Proofs.Ythadkjgadhbidaa
open Go.RowKit
set_option linter.unusedVariables false

def NBuild (w0 w : World) (B g : Nat) (An : Option Addr) (ln cn : Nat) (lv : Value) (r : List Nd × Nat) (e : Ending) (w' : World) : Prop := e = .returned (.int .i64 (r.2 : Int)) ∧ ∃ lv', NB w0 w' B g An ln cn lv' r.1 ∧ Far w w' g lv lv'
theorem NBuild.mono_ {w0 w W : World} {B g ln cn : Nat} {An : Option Addr} {lv : Value} {r : List Nd × Nat} {e : Ending} {w' : World} (h : NBuild w0 W B g An ln cn lv r e w') (ho : Old w W) : NBuild w0 w B g An ln cn lv r e w' := by
  obtain ⟨h1, lv', h2, h3⟩ := h
  exact ⟨h1, lv', h2, Far.old_ ho h3⟩
/-- A node that lies in block k, on from W. -/
def NdAt (w : World) (k : Nat) (x : Nd) : Prop := w.heap[k]? = some (.cells (ndCells x).toArray 114 (0, 0))
theorem NdAt.cells {w : World} {k : Nat} {x : Nd} (h : NdAt w k x) : w.cell? ⟨k, 0, none⟩ = some (.int .i64 x.kind) ∧ w.cell? ⟨k, 1, none⟩ = some (.int .i64 x.left) ∧ w.cell? ⟨k, 2, none⟩ = some (.int .i64 x.right) ∧
    w.cell? ⟨k, 3, none⟩ = some (.int .u64 (setW x.set 0)) ∧ w.cell? ⟨k, 4, none⟩ = some (.int .u64 (setW x.set 1)) ∧ w.cell? ⟨k, 5, none⟩ = some (.int .u64 (setW x.set 2)) ∧ w.cell? ⟨k, 6, none⟩ = some (.int .u64 (setW x.set 3)) :=
  ⟨by rw [cell_of_row w k 0 _ _ _ h]; rfl, by rw [cell_of_row w k 1 _ _ _ h]; rfl, by rw [cell_of_row w k 2 _ _ _ h]; rfl, by rw [cell_of_row w k 3 _ _ _ h]; rfl, by rw [cell_of_row w k 4 _ _ _ h]; rfl, by rw [cell_of_row w k 5 _ _ _ h]; rfl, by rw [cell_of_row w k 6 _ _ _ h]; rfl⟩
theorem nds_put : ∀ (l : List Nd) (j : Nat) (x x' : Nd) (i : Nat) (v : Value), l[j]? = some x → i < 7 → (ndCells x).set i v = ndCells x' → (ndsV l).set (j * 7 + i) v = ndsV (l.set j x')
  | [], j, x, x', i, v, h, _, _ => by simp at h
  | a :: l, 0, x, x', i, v, h, hi, hv => by
    simp at h; subst h
    have e : ∀ (a : Nd) l, ndsV (a :: l) = ndCells a ++ ndsV l := fun _ _ => rfl
    rw [List.set_cons_zero, e, e, ← hv, Nat.zero_mul, Nat.zero_add, List.set_append_left _ _ (by simpa [ndCells] using hi)]
  | a :: l, j + 1, x, x', i, v, h, hi, hv => by
    have ih := nds_put l j x x' i v (by simpa using h) hi hv
    have e : ∀ (a : Nd) l, ndsV (a :: l) = ndCells a ++ ndsV l := fun _ _ => rfl
    have hl : (ndCells a).length = 7 := rfl
    rw [List.set_cons_succ, e, e, List.set_append_right _ _ (by rw [hl]; omega), hl, show (j + 1) * 7 + i - 7 = j * 7 + i by omega, ih]
/-- The builder's states, one cell changed. -/
theorem NB.put_ {w0 w : World} {B g ln cn gb cb i c : Nat} {An : Option Addr} {S : List Nd} {x x' : Nd} (h : NB w0 w B g An ln cn (.slice (some ⟨gb, 0, none⟩) S.length cb) S) (hx : S[i]? = some x) (v : Value) (hc : c < 7) (hv : (ndCells x).set c v = ndCells x') :
    NB w0 (w.setCell ⟨gb, i * 7 + c, none⟩ v) B g An ln cn (.slice (some ⟨gb, 0, none⟩) S.length cb) (S.set i x') ∧ Far w (w.setCell ⟨gb, i * 7 + c, none⟩ v) g (.slice (some ⟨gb, 0, none⟩) S.length cb) (.slice (some ⟨gb, 0, none⟩) S.length cb) := by
  obtain ⟨h1, h2⟩ := h.own.set_ (i * 7 + c) v
  rw [nds_put S i x x' c v hx hc hv] at h1
  have hgb : B ≤ gb := (World.ownsRow.lt h.own gb rfl).1
  have hne : gb ≠ g := by have := h.lg; omega
  refine ⟨⟨h.old.setCell (by have := h.bg; have := h.lg; simp only; omega) _, ?_, by rw [List.length_set]; exact h1, h.bg, h.lg, by simpa using h.lB⟩, ?_⟩
  · rw [heap_setCell_other w ⟨gb, i * 7 + c, none⟩ g v (fun e => hne e.symm)]
    exact h.blk
  · refine ⟨by simp, fun k hk hkg hks => ⟨heap_setCell_other w ⟨gb, i * 7 + c, none⟩ k v (fun e => hks (by rw [e]; rfl)), hks⟩⟩
theorem NB.fresh {w0 w : World} {B g ln cn : Nat} {An : Option Addr} {sv : Value} {S : List Nd} (h : NB w0 w B g An ln cn sv S) : w.heap.size ≠ g ∧ sv.ownBlock ≠ some w.heap.size :=
  ⟨by have := h.lg; have := h.lB; omega, fun e => by have := (World.ownsRow.lt h.own _ e).2; omega⟩
theorem Far.nd {a b : World} {g k : Nat} {s1 s2 : Value} {x : Nd} (h : Far a b g s1 s2) (hk : NdAt a k x) (hg : k ≠ g ∧ s1.ownBlock ≠ some k) : NdAt b k x ∧ (k ≠ g ∧ s2.ownBlock ≠ some k) := by
  obtain ⟨q1, q2⟩ := h.blk hk hg.1 hg.2
  exact ⟨q1, hg.1, q2⟩
set_option maxHeartbeats 8000000 in
set_option maxRecDepth 100000 in
theorem nbuildC (w0 : World) (B g : Nat) (An : Option Addr) (cn : Nat) (l : List Nd) (hr : Rs w0 An (ndsV l)) (hl : l.length ≤ 256) (hso : ∀ x ∈ l, setOk x.set) {a n : Nat} (hs : Sub l a n) :
    ∀ (f x : Nat) (S : List Nd) (lv : Value) (w : World), n < f → S.length + (n + 1 - a) ≤ 1000 → x ≤ 1000 → NB w0 w B g An l.length cn lv S →
    Calls Try.prog 33 #[.pointer (some ⟨g, 0, none⟩), .int .i64 (n : Int), .int .i64 (x : Int)] w (NBuild w0 w B g An l.length cn lv (pbF l f n x S)) := by
  have HR := Lib.hid hr
  have HLL := Lib.hid hl
  have HSO := Lib.hid hso
  clear hr hl hso
  induction hs with
  | leaf n h hk h1 h2 h3 =>
    intro f x S lv w hf hsz hx1 hb
    obtain ⟨f, rfl⟩ : ∃ g, f = g + 1 := ⟨f - 1, by omega⟩
    have hP : pbF l (f + 1) n x S = if (nd l n).kind = 2 then (S ++ [⟨1, x, 0, (nd l n).set⟩], S.length) else if (nd l n).kind = 8 then (S ++ [⟨3, x, 0, 0⟩], S.length) else if (nd l n).kind = 9 then (S ++ [⟨4, x, 0, 0⟩], S.length) else (S, x) := by
      rw [pbF, if_neg (show ¬ (nd l n).kind = 3 by omega), if_neg (show ¬ (nd l n).kind = 4 by omega), if_neg (show ¬ (nd l n).kind = 7 by omega), if_neg (show ¬ ((nd l n).kind = 5 ∨ (nd l n).kind = 6) by omega)]
    have HP := Lib.hid hP
    have HSZ : Hid (S.length ≤ 100000) := Lib.hid (by omega)
    clear hP hf h1 h2 h3
    have HB := Lib.hid hb
    have hx : l[n]? = some (nd l n) := by unfold nd; rw [List.getD_eq_getElem?_getD, List.getElem?_eq_getElem h]; rfl
    obtain ⟨b, off, rfl, hbl, hcl⟩ := (HR.out.up hb.old).at_ (by rw [ndsV_length]; omega)
    have hg := ndsV_get l n _ hx
    have c0 := hcl _ _ (hg 0 (by omega))
    have c1 := hcl _ _ (hg 1 (by omega))
    have c2 := hcl _ _ (hg 2 (by omega))
    have c3 := hcl _ _ (hg 3 (by omega))
    have c4 := hcl _ _ (hg 4 (by omega))
    have c5 := hcl _ _ (hg 5 (by omega))
    have c6 := hcl _ _ (hg 6 (by omega))
    rw [← Nat.add_assoc] at c0 c1 c2 c3 c4 c5 c6
    rw [Nat.add_zero] at c0
    obtain ⟨e0, e1, _⟩ := hb.cells
    have i0 : (0 : Int) ≤ ((n : Nat) : Int) := by omega
    have i1 : ((n : Nat) : Int) < (l.length : Int) := by omega
    have HFR := Lib.hid hb.fresh
    clear hx hg hcl hbl hb
    generalize nd l n = y at *
    obtain ⟨kd, lf, rt, st⟩ := y
    simp only at hk HP
    replace c0 : w.cell? ⟨b, off + n * 7, none⟩ = some (.int .i64 kd) := c0
    replace c1 : w.cell? ⟨b, off + n * 7 + 1, none⟩ = some (.int .i64 lf) := c1
    replace c2 : w.cell? ⟨b, off + n * 7 + 2, none⟩ = some (.int .i64 rt) := c2
    replace c3 : w.cell? ⟨b, off + n * 7 + 3, none⟩ = some (.int .u64 (setW st 0)) := c3
    replace c4 : w.cell? ⟨b, off + n * 7 + 4, none⟩ = some (.int .u64 (setW st 1)) := c4
    replace c5 : w.cell? ⟨b, off + n * 7 + 5, none⟩ = some (.int .u64 (setW st 2)) := c5
    replace c6 : w.cell? ⟨b, off + n * 7 + 6, none⟩ = some (.int .u64 (setW st 3)) := c6
    go_enter Try.func33, Try.ntmps33
    go_upto_region 2 with fail
    have hk7 : NdAt (w.alloc (.cells (ndCells ⟨kd, lf, rt, st⟩).toArray 114)) w.heap.size ⟨kd, lf, rt, st⟩ := heap_alloc_new w _
    have HOW := Lib.hid ((Old.refl w).alloc (.cells (ndCells ⟨kd, lf, rt, st⟩).toArray 114))
    have HBW := Lib.hid (HB.out.up HOW.out)
    generalize hWW : w.alloc (.cells #[.int .i64 kd, .int .i64 lf, .int .i64 rt, .int .u64 (setW st 0), .int .u64 (setW st 1), .int .u64 (setW st 2), .int .u64 (setW st 3)] 114) = W
    have hWW' : w.alloc (.cells (ndCells ⟨kd, lf, rt, st⟩).toArray 114) = W := hWW
    rw [hWW'] at hk7 HOW HBW
    clear hWW hWW' c0 c1 c2 c3 c4 c5 c6 e0 e1 HB
    obtain ⟨d0, d1, d2, d3, d4, d5, d6⟩ := hk7.cells
    simp only at d0 d1 d2 d3 d4 d5 d6
    have HK := Lib.hid hk7
    clear hk7
    generalize w.heap.size = k7 at *
    rcases hk with rfl | rfl | rfl | rfl
    · have HE : Hid (pbF l (f + 1) n x S = (S, x)) := Lib.hid (by rw [HP.out]; rfl)
      clear HP
      go_wp2_with fail
      go_ret
      rw [HE.out]
      exact ⟨rfl, lv, HBW.out, Far.of_old HOW.out g lv⟩
    · have HE : Hid (pbF l (f + 1) n x S = (S ++ [⟨1, x, 0, st⟩], S.length)) := Lib.hid (by rw [HP.out]; rfl)
      clear HP
      have HA := naddC w0 B g (some ⟨b, off, none⟩) l.length cn lv S W HBW.out HSZ.out ⟨1, x, 0, st⟩
      unfold stA at HA
      have HAH := Lib.hid HA
      clear HA HBW
      go_wp2_with fail
      refine (HAH.out).mono ?_; rintro e w2 ⟨rfl, lv2, hb2, hf2⟩
      have HB2 := Lib.hid hb2
      have HF2 := Lib.hid hf2
      clear hb2 hf2 HAH
      go_wp2_with fail
      go_ret
      rw [HE.out]
      exact ⟨rfl, lv2, HB2.out, Far.old_ HOW.out HF2.out⟩
    · have HE : Hid (pbF l (f + 1) n x S = (S ++ [⟨3, x, 0, 0⟩], S.length)) := Lib.hid (by rw [HP.out]; rfl)
      clear HP
      have HA := naddC w0 B g (some ⟨b, off, none⟩) l.length cn lv S W HBW.out HSZ.out ⟨3, x, 0, 0⟩
      unfold stA at HA
      simp only [setW_zero] at HA
      have HAH := Lib.hid HA
      clear HA HBW
      go_wp2_with fail
      refine (HAH.out).mono ?_; rintro e w2 ⟨rfl, lv2, hb2, hf2⟩
      have HB2 := Lib.hid hb2
      have HF2 := Lib.hid hf2
      clear hb2 hf2 HAH
      go_wp2_with fail
      go_ret
      rw [HE.out]
      exact ⟨rfl, lv2, HB2.out, Far.old_ HOW.out HF2.out⟩
    · have HE : Hid (pbF l (f + 1) n x S = (S ++ [⟨4, x, 0, 0⟩], S.length)) := Lib.hid (by rw [HP.out]; rfl)
      clear HP
      have HA := naddC w0 B g (some ⟨b, off, none⟩) l.length cn lv S W HBW.out HSZ.out ⟨4, x, 0, 0⟩
      unfold stA at HA
      simp only [setW_zero] at HA
      have HAH := Lib.hid HA
      clear HA HBW
      go_wp2_with fail
      refine (HAH.out).mono ?_; rintro e w2 ⟨rfl, lv2, hb2, hf2⟩
      have HB2 := Lib.hid hb2
      have HF2 := Lib.hid hf2
      clear hb2 hf2 HAH
      go_wp2_with fail
      go_ret
      rw [HE.out]
      exact ⟨rfl, lv2, HB2.out, Far.old_ HOW.out HF2.out⟩
  | one a n h hk h1 h2 h3 hs ih =>
    intro f x S lv w hf hsz hx1 hb
    obtain ⟨f, rfl⟩ : ∃ g, f = g + 1 := ⟨f - 1, by omega⟩
    have hle := hs.le
    have hL : (nd l (n + 1)).left.toNat = n := by omega
    have hP : pbF l (f + 1) (n + 1) x S = if (nd l (n + 1)).kind = 7 then ((pbF l f n x S).1 ++ [⟨2, (pbF l f n x S).2, x, 0⟩], (pbF l f n x S).1.length) else ((pbF l f n S.length (S ++ [⟨2, 0, x, 0⟩])).1.set S.length ⟨2, (pbF l f n S.length (S ++ [⟨2, 0, x, 0⟩])).2, x, 0⟩, if (nd l (n + 1)).kind = 6 then (pbF l f n S.length (S ++ [⟨2, 0, x, 0⟩])).2 else S.length) := by
      rw [pbF, if_neg (show ¬ (nd l (n + 1)).kind = 2 by omega), if_neg (show ¬ (nd l (n + 1)).kind = 8 by omega), if_neg (show ¬ (nd l (n + 1)).kind = 9 by omega), if_neg (show ¬ (nd l (n + 1)).kind = 3 by omega), if_neg (show ¬ (nd l (n + 1)).kind = 4 by omega), hL]
      by_cases k7 : (nd l (n + 1)).kind = 7
      · rw [if_pos k7, if_pos k7]
      · rw [if_neg k7, if_neg k7, if_pos (by omega)]
    have HP := Lib.hid hP
    have HIH := Lib.hid ih
    have HMD := Lib.hid (fun x S => pbF_made hs f x S (by omega))
    have HSZ : Hid (S.length + (n + 1 + 1 - a) ≤ 1000) := Lib.hid hsz
    have HF0 : Hid (n < f) := Lib.hid (by omega)
    have hal := hle.1
    have H1 := Lib.hid h1
    clear hP hf hL ih h1 h2 h3
    have HB := Lib.hid hb
    have hx : l[(n + 1)]? = some (nd l (n + 1)) := by unfold nd; rw [List.getD_eq_getElem?_getD, List.getElem?_eq_getElem h]; rfl
    obtain ⟨b, off, rfl, hbl, hcl⟩ := (HR.out.up hb.old).at_ (by rw [ndsV_length]; omega)
    have hg := ndsV_get l (n + 1) _ hx
    have c0 := hcl _ _ (hg 0 (by omega))
    have c1 := hcl _ _ (hg 1 (by omega))
    have c2 := hcl _ _ (hg 2 (by omega))
    have c3 := hcl _ _ (hg 3 (by omega))
    have c4 := hcl _ _ (hg 4 (by omega))
    have c5 := hcl _ _ (hg 5 (by omega))
    have c6 := hcl _ _ (hg 6 (by omega))
    rw [← Nat.add_assoc] at c0 c1 c2 c3 c4 c5 c6
    rw [Nat.add_zero] at c0
    obtain ⟨e0, e1, _⟩ := hb.cells
    have i0 : (0 : Int) ≤ (((n + 1) : Nat) : Int) := by omega
    have i1 : (((n + 1) : Nat) : Int) < (l.length : Int) := by omega
    have HFR := Lib.hid hb.fresh
    clear hx hg hcl hbl hb
    generalize nd l (n + 1) = y at *
    obtain ⟨kd, lf, rt, st⟩ := y
    simp only at hk HP
    replace c0 : w.cell? ⟨b, off + (n + 1) * 7, none⟩ = some (.int .i64 kd) := c0
    replace c1 : w.cell? ⟨b, off + (n + 1) * 7 + 1, none⟩ = some (.int .i64 lf) := c1
    replace c2 : w.cell? ⟨b, off + (n + 1) * 7 + 2, none⟩ = some (.int .i64 rt) := c2
    replace c3 : w.cell? ⟨b, off + (n + 1) * 7 + 3, none⟩ = some (.int .u64 (setW st 0)) := c3
    replace c4 : w.cell? ⟨b, off + (n + 1) * 7 + 4, none⟩ = some (.int .u64 (setW st 1)) := c4
    replace c5 : w.cell? ⟨b, off + (n + 1) * 7 + 5, none⟩ = some (.int .u64 (setW st 2)) := c5
    replace c6 : w.cell? ⟨b, off + (n + 1) * 7 + 6, none⟩ = some (.int .u64 (setW st 3)) := c6
    go_enter Try.func33, Try.ntmps33
    go_upto_region 2 with fail
    have hk7 : NdAt (w.alloc (.cells (ndCells ⟨kd, lf, rt, st⟩).toArray 114)) w.heap.size ⟨kd, lf, rt, st⟩ := heap_alloc_new w _
    have HOW := Lib.hid ((Old.refl w).alloc (.cells (ndCells ⟨kd, lf, rt, st⟩).toArray 114))
    have HBW := Lib.hid (HB.out.up HOW.out)
    generalize hWW : w.alloc (.cells #[.int .i64 kd, .int .i64 lf, .int .i64 rt, .int .u64 (setW st 0), .int .u64 (setW st 1), .int .u64 (setW st 2), .int .u64 (setW st 3)] 114) = W
    have hWW' : w.alloc (.cells (ndCells ⟨kd, lf, rt, st⟩).toArray 114) = W := hWW
    rw [hWW'] at hk7 HOW HBW
    clear hWW hWW' c0 c1 c2 c3 c4 c5 c6 e0 e1 HB
    obtain ⟨d0, d1, d2, d3, d4, d5, d6⟩ := hk7.cells
    simp only at d0 d1 d2 d3 d4 d5 d6
    have HK := Lib.hid hk7
    clear hk7
    generalize w.heap.size = k7 at *
    have h1 : lf = (n : Int) := H1.out
    subst h1
    rcases hk with rfl | rfl | rfl
    · have HE0 : Hid (∀ R v, pbF l f n S.length (S ++ [⟨2, 0, x, 0⟩]) = (R, v) → pbF l (f + 1) (n + 1) x S = (R.set S.length ⟨2, v, x, 0⟩, S.length)) := Lib.hid (fun R v e => by rw [HP.out, e]; rfl)
      clear HP
      have HA := naddC w0 B g (some ⟨b, off, none⟩) l.length cn lv S W HBW.out (by have := HSZ.out; omega) ⟨2, 0, x, 0⟩
      unfold stA at HA
      simp only [setW_zero] at HA
      have HAH := Lib.hid HA
      clear HA HBW
      go_wp2_with fail
      refine (HAH.out).mono ?_; rintro e w2 ⟨rfl, lv2, hb2, hf2⟩
      have hm := HMD.out S.length (S ++ [⟨2, 0, x, 0⟩])
      have HC := HIH.out f S.length (S ++ [⟨2, 0, x, 0⟩]) lv2 w2 HF0.out (by have := HSZ.out; rw [List.length_append, List.length_singleton]; omega) (by have := HSZ.out; omega) hb2
      obtain ⟨hk2, hfr2⟩ := hf2.nd HK.out HFR.out
      have HF2 := Lib.hid hf2
      have HK2 := Lib.hid hk2
      have HFR2 := Lib.hid hfr2
      clear hb2 hf2 HAH HIH HMD hk2 hfr2 HK HFR d0 d1 d2 d3 d4 d5 d6
      have he := HE0.out
      generalize pbF l f n S.length (S ++ [⟨2, 0, x, 0⟩]) = r at *
      obtain ⟨R, v⟩ := r
      have HE := Lib.hid (he R v rfl)
      have HM := Lib.hid hm
      have HCC := Lib.hid HC
      clear hm HC he HE0
      obtain ⟨_, d1, _⟩ := HK2.out.cells
      simp only at d1
      go_wp2_with fail
      refine (HCC.out).mono ?_; rintro e w3 ⟨rfl, lv3, hb3, hf3⟩
      have hlR : S.length + 1 ≤ R.length := by have h5 := HM.out.len; rw [List.length_append, List.length_singleton] at h5; exact h5
      obtain ⟨gb, cb, rfl, _, _, _, _⟩ := hb3.own.form (show 0 < R.length by omega)
      have hxR : R[S.length]? = some ⟨2, 0, x, 0⟩ := by
        have h5 := HM.out.old S.length (by simp)
        have h6 : nd R S.length = nd (S ++ [⟨2, 0, x, 0⟩]) S.length := h5
        rw [nd_last] at h6
        unfold nd at h6
        have hlt : S.length < R.length := hlR
        rw [List.getD_eq_getElem?_getD, List.getElem?_eq_getElem hlt] at h6
        rw [List.getElem?_eq_getElem hlt]
        exact congrArg some h6
      obtain ⟨q1, q2⟩ := hb3.own.cellAt (j := S.length * 7 + 1) (u := .int .i64 0) (by rw [ndsV_get R S.length _ hxR 1 (by omega)]; rfl)
      obtain ⟨hb4, hf4⟩ := hb3.put_ hxR (x' := ⟨2, v, x, 0⟩) (.int .i64 (v : Int)) (c := 1) (by omega) rfl
      obtain ⟨_, e1, _⟩ := hb3.cells
      obtain ⟨hk3, hfr3⟩ := hf3.nd HK2.out HFR2.out
      obtain ⟨hk4, hfr4⟩ := hf4.nd hk3 hfr3
      obtain ⟨d0, _⟩ := hk4.cells
      simp only at d0
      have j0 : (0 : Int) ≤ (S.length : Int) := by omega
      have j1 : (S.length : Int) < (R.length : Int) := by omega
      have HB9 := Lib.hid hb4
      have HF9 := Lib.hid (Far.old_ HOW.out (HF2.out.trans (hf3.trans hf4)))
      clear hb3 hf3 hb4 hf4 hk3 hfr3 hk4 hfr4 HK2 HFR2 HF2 HCC HM HOW hxR d1
      go_wp2_with fail
      go_ret
      rw [HE.out]
      exact ⟨rfl, _, HB9.out, HF9.out⟩
    · have HE0 : Hid (∀ R v, pbF l f n S.length (S ++ [⟨2, 0, x, 0⟩]) = (R, v) → pbF l (f + 1) (n + 1) x S = (R.set S.length ⟨2, v, x, 0⟩, v)) := Lib.hid (fun R v e => by rw [HP.out, e]; rfl)
      clear HP
      have HA := naddC w0 B g (some ⟨b, off, none⟩) l.length cn lv S W HBW.out (by have := HSZ.out; omega) ⟨2, 0, x, 0⟩
      unfold stA at HA
      simp only [setW_zero] at HA
      have HAH := Lib.hid HA
      clear HA HBW
      go_wp2_with fail
      refine (HAH.out).mono ?_; rintro e w2 ⟨rfl, lv2, hb2, hf2⟩
      have hm := HMD.out S.length (S ++ [⟨2, 0, x, 0⟩])
      have HC := HIH.out f S.length (S ++ [⟨2, 0, x, 0⟩]) lv2 w2 HF0.out (by have := HSZ.out; rw [List.length_append, List.length_singleton]; omega) (by have := HSZ.out; omega) hb2
      obtain ⟨hk2, hfr2⟩ := hf2.nd HK.out HFR.out
      have HF2 := Lib.hid hf2
      have HK2 := Lib.hid hk2
      have HFR2 := Lib.hid hfr2
      clear hb2 hf2 HAH HIH HMD hk2 hfr2 HK HFR d0 d1 d2 d3 d4 d5 d6
      have he := HE0.out
      generalize pbF l f n S.length (S ++ [⟨2, 0, x, 0⟩]) = r at *
      obtain ⟨R, v⟩ := r
      have HE := Lib.hid (he R v rfl)
      have HM := Lib.hid hm
      have HCC := Lib.hid HC
      clear hm HC he HE0
      obtain ⟨_, d1, _⟩ := HK2.out.cells
      simp only at d1
      go_wp2_with fail
      refine (HCC.out).mono ?_; rintro e w3 ⟨rfl, lv3, hb3, hf3⟩
      have hlR : S.length + 1 ≤ R.length := by have h5 := HM.out.len; rw [List.length_append, List.length_singleton] at h5; exact h5
      obtain ⟨gb, cb, rfl, _, _, _, _⟩ := hb3.own.form (show 0 < R.length by omega)
      have hxR : R[S.length]? = some ⟨2, 0, x, 0⟩ := by
        have h5 := HM.out.old S.length (by simp)
        have h6 : nd R S.length = nd (S ++ [⟨2, 0, x, 0⟩]) S.length := h5
        rw [nd_last] at h6
        unfold nd at h6
        have hlt : S.length < R.length := hlR
        rw [List.getD_eq_getElem?_getD, List.getElem?_eq_getElem hlt] at h6
        rw [List.getElem?_eq_getElem hlt]
        exact congrArg some h6
      obtain ⟨q1, q2⟩ := hb3.own.cellAt (j := S.length * 7 + 1) (u := .int .i64 0) (by rw [ndsV_get R S.length _ hxR 1 (by omega)]; rfl)
      obtain ⟨hb4, hf4⟩ := hb3.put_ hxR (x' := ⟨2, v, x, 0⟩) (.int .i64 (v : Int)) (c := 1) (by omega) rfl
      obtain ⟨_, e1, _⟩ := hb3.cells
      obtain ⟨hk3, hfr3⟩ := hf3.nd HK2.out HFR2.out
      obtain ⟨hk4, hfr4⟩ := hf4.nd hk3 hfr3
      obtain ⟨d0, _⟩ := hk4.cells
      simp only at d0
      have j0 : (0 : Int) ≤ (S.length : Int) := by omega
      have j1 : (S.length : Int) < (R.length : Int) := by omega
      have HB9 := Lib.hid hb4
      have HF9 := Lib.hid (Far.old_ HOW.out (HF2.out.trans (hf3.trans hf4)))
      clear hb3 hf3 hb4 hf4 hk3 hfr3 hk4 hfr4 HK2 HFR2 HF2 HCC HM HOW hxR d1
      go_wp2_with fail
      go_ret
      rw [HE.out]
      exact ⟨rfl, _, HB9.out, HF9.out⟩
    · have hm := HMD.out x S
      have HC := HIH.out f x S lv W HF0.out (by have := HSZ.out; omega) hx1 HBW.out
      have HE : Hid (pbF l (f + 1) (n + 1) x S = ((pbF l f n x S).1 ++ [⟨2, (pbF l f n x S).2, x, 0⟩], (pbF l f n x S).1.length)) := Lib.hid (by rw [HP.out]; rfl)
      clear HP HIH HMD
      generalize pbF l f n x S = r at *
      obtain ⟨R, v⟩ := r
      have HM := Lib.hid hm
      have HCC := Lib.hid HC
      clear hm HC
      go_wp2_with fail
      refine (HCC.out).mono ?_; rintro e w2 ⟨rfl, lv2, hb2, hf2⟩
      have HA := naddC w0 B g (some ⟨b, off, none⟩) l.length cn lv2 R w2 hb2 (by have h5 := HM.out.few; have := HSZ.out; have h6 : R.length ≤ S.length + (n + 1 - a) := h5; omega) ⟨2, v, x, 0⟩
      unfold stA at HA
      simp only [setW_zero] at HA
      have HAH := Lib.hid HA
      have HF2 := Lib.hid hf2
      clear HA hb2 hf2 HCC HBW
      go_wp2_with fail
      refine (HAH.out).mono ?_; rintro e w9 ⟨rfl, lv9, hb9, hf9⟩
      clear HAH
      have HB9 := Lib.hid hb9
      have HF9 := Lib.hid hf9
      clear hb9 hf9
      go_wp2_with fail
      go_ret
      rw [HE.out]
      exact ⟨rfl, lv9, HB9.out, Far.old_ HOW.out (HF2.out.trans HF9.out)⟩
  | two a m n h hk h1 h2 h3 hs1 hs2 i1 i2 =>
    intro f x S lv w hf hsz hx1 hb
    obtain ⟨f, rfl⟩ : ∃ g, f = g + 1 := ⟨f - 1, by omega⟩
    have hle1 := hs1.le
    have hle2 := hs2.le
    have hL : (nd l (n + 1)).left.toNat = m := by omega
    have hR : (nd l (n + 1)).right.toNat = n := by omega
    have hP : pbF l (f + 1) (n + 1) x S = if (nd l (n + 1)).kind = 3 then pbF l f m (pbF l f n x S).2 (pbF l f n x S).1 else ((pbF l f n x (pbF l f m x S).1).1 ++ [⟨2, (pbF l f m x S).2, (pbF l f n x (pbF l f m x S).1).2, 0⟩], (pbF l f n x (pbF l f m x S).1).1.length) := by
      rw [pbF, if_neg (show ¬ (nd l (n + 1)).kind = 2 by omega), if_neg (show ¬ (nd l (n + 1)).kind = 8 by omega), if_neg (show ¬ (nd l (n + 1)).kind = 9 by omega), hL, hR]
      by_cases k7 : (nd l (n + 1)).kind = 3
      · rw [if_pos k7, if_pos k7]
      · rw [if_neg k7, if_neg k7, if_pos (by omega)]
    have HP := Lib.hid hP
    have HI1 := Lib.hid i1
    have HI2 := Lib.hid i2
    have HM1 := Lib.hid (fun x S => pbF_made hs1 f x S (by omega))
    have HM2 := Lib.hid (fun x S => pbF_made hs2 f x S (by omega))
    have HSZ : Hid (S.length + (n + 1 + 1 - a) ≤ 1000) := Lib.hid hsz
    have HF0 : Hid (n < f ∧ m < f ∧ a ≤ m ∧ m < n) := Lib.hid (by omega)
    have H1 := Lib.hid h1
    have H2 := Lib.hid h2
    clear hP hf hL hR i1 i2 h1 h2 h3
    have HB := Lib.hid hb
    have hx : l[(n + 1)]? = some (nd l (n + 1)) := by unfold nd; rw [List.getD_eq_getElem?_getD, List.getElem?_eq_getElem h]; rfl
    obtain ⟨b, off, rfl, hbl, hcl⟩ := (HR.out.up hb.old).at_ (by rw [ndsV_length]; omega)
    have hg := ndsV_get l (n + 1) _ hx
    have c0 := hcl _ _ (hg 0 (by omega))
    have c1 := hcl _ _ (hg 1 (by omega))
    have c2 := hcl _ _ (hg 2 (by omega))
    have c3 := hcl _ _ (hg 3 (by omega))
    have c4 := hcl _ _ (hg 4 (by omega))
    have c5 := hcl _ _ (hg 5 (by omega))
    have c6 := hcl _ _ (hg 6 (by omega))
    rw [← Nat.add_assoc] at c0 c1 c2 c3 c4 c5 c6
    rw [Nat.add_zero] at c0
    obtain ⟨e0, e1, _⟩ := hb.cells
    have i0 : (0 : Int) ≤ (((n + 1) : Nat) : Int) := by omega
    have i1 : (((n + 1) : Nat) : Int) < (l.length : Int) := by omega
    have HFR := Lib.hid hb.fresh
    clear hx hg hcl hbl hb
    generalize nd l (n + 1) = y at *
    obtain ⟨kd, lf, rt, st⟩ := y
    simp only at hk HP
    replace c0 : w.cell? ⟨b, off + (n + 1) * 7, none⟩ = some (.int .i64 kd) := c0
    replace c1 : w.cell? ⟨b, off + (n + 1) * 7 + 1, none⟩ = some (.int .i64 lf) := c1
    replace c2 : w.cell? ⟨b, off + (n + 1) * 7 + 2, none⟩ = some (.int .i64 rt) := c2
    replace c3 : w.cell? ⟨b, off + (n + 1) * 7 + 3, none⟩ = some (.int .u64 (setW st 0)) := c3
    replace c4 : w.cell? ⟨b, off + (n + 1) * 7 + 4, none⟩ = some (.int .u64 (setW st 1)) := c4
    replace c5 : w.cell? ⟨b, off + (n + 1) * 7 + 5, none⟩ = some (.int .u64 (setW st 2)) := c5
    replace c6 : w.cell? ⟨b, off + (n + 1) * 7 + 6, none⟩ = some (.int .u64 (setW st 3)) := c6
    go_enter Try.func33, Try.ntmps33
    go_upto_region 2 with fail
    have hk7 : NdAt (w.alloc (.cells (ndCells ⟨kd, lf, rt, st⟩).toArray 114)) w.heap.size ⟨kd, lf, rt, st⟩ := heap_alloc_new w _
    have HOW := Lib.hid ((Old.refl w).alloc (.cells (ndCells ⟨kd, lf, rt, st⟩).toArray 114))
    have HBW := Lib.hid (HB.out.up HOW.out)
    generalize hWW : w.alloc (.cells #[.int .i64 kd, .int .i64 lf, .int .i64 rt, .int .u64 (setW st 0), .int .u64 (setW st 1), .int .u64 (setW st 2), .int .u64 (setW st 3)] 114) = W
    have hWW' : w.alloc (.cells (ndCells ⟨kd, lf, rt, st⟩).toArray 114) = W := hWW
    rw [hWW'] at hk7 HOW HBW
    clear hWW hWW' c0 c1 c2 c3 c4 c5 c6 e0 e1 HB
    obtain ⟨d0, d1, d2, d3, d4, d5, d6⟩ := hk7.cells
    simp only at d0 d1 d2 d3 d4 d5 d6
    have HK := Lib.hid hk7
    clear hk7
    generalize w.heap.size = k7 at *
    have h1 : lf = (m : Int) := H1.out
    have h2 : rt = (n : Int) := H2.out
    subst h1
    subst h2
    rcases hk with rfl | rfl
    · have hm := HM2.out x S
      have HC := fun w' (h : Old W w') => HI2.out f x S lv w' HF0.out.1 (by have := HSZ.out; have := HF0.out; omega) hx1 (HBW.out.up h)
      have HE0 : Hid (pbF l (f + 1) (n + 1) x S = pbF l f m (pbF l f n x S).2 (pbF l f n x S).1) := Lib.hid (by rw [HP.out]; rfl)
      clear HP HI2 HM1 HM2
      generalize pbF l f n x S = r at *
      obtain ⟨R, v⟩ := r
      have HM := Lib.hid hm
      have HCC := Lib.hid HC
      clear hm HC
      have hv : v ≤ 1000 := by
        have h5 : R.length ≤ S.length + (n + 1 - (m + 1)) := HM.out.few
        have h6 : v = x ∨ v < R.length := HM.out.out
        have := HSZ.out
        have := HF0.out
        omega
      have HC2 := Lib.hid (fun lv2 w2 hb2 => HI1.out f v R lv2 w2 HF0.out.2.1 (by have h5 : R.length ≤ S.length + (n + 1 - (m + 1)) := HM.out.few; have := HSZ.out; have := HF0.out; omega) hv hb2)
      have HE : Hid (pbF l (f + 1) (n + 1) x S = pbF l f m v R) := HE0
      have HKD : Hid (NdAt W.drew k7 ⟨3, (m : Int), (n : Int), st⟩) := Lib.hid HK.out
      clear HE0 HI1 hv HK
      go_upto_region 10 with fail
      go_region_held3 (fun w' => w'.cell? ⟨k7, 1, none⟩ = some (.int .i64 (m : Int)) ∧ w'.cell? ⟨k7, 2, none⟩ = some (.int .i64 (n : Int))) (first | exact ⟨d1, d2⟩ | exact ⟨q1, q2⟩ | exact ⟨q3, q4⟩) (first | (go_at_call_of 33 n; refine (HCC.out _ (Old.refl W).drew).mono ?_; rintro e w2 ⟨rfl, lv2, hb2, hf2⟩; obtain ⟨hk2, hfr2⟩ := hf2.nd HKD.out HFR.out; obtain ⟨_, q1, q2, _⟩ := hk2.cells; simp only at q1 q2) | (go_at_call_of 33 m; refine (HC2.out lv2 w2 hb2).mono ?_; rintro e w3 ⟨rfl, lv3, hb3, hf3⟩; obtain ⟨_, q3, q4, _⟩ := (hf3.nd hk2 hfr2).1.cells; simp only at q3 q4))
      have hb9 := hb3
      have hf9 := Far.old_ (HOW.out.up (Old.refl W).drew) (hf2.trans hf3)
      clear hb3 hf3 hb2 hf2 hk2 hfr2 q1 q2 q3 q4 HCC HC2 d0 d1 d2 d3 d4 d5 d6
      have HB9 := Lib.hid hb9
      have HF9 := Lib.hid hf9
      clear hb9 hf9
      go_wp2_with fail
      go_ret
      rw [HE.out]
      exact ⟨rfl, lv3, HB9.out, HF9.out⟩
    · have hm := HM1.out x S
      have HC := HI1.out f x S lv W HF0.out.2.1 (by have := HSZ.out; have := HF0.out; omega) hx1 HBW.out
      have HE0 : Hid (pbF l (f + 1) (n + 1) x S = ((pbF l f n x (pbF l f m x S).1).1 ++ [⟨2, (pbF l f m x S).2, (pbF l f n x (pbF l f m x S).1).2, 0⟩], (pbF l f n x (pbF l f m x S).1).1.length)) := Lib.hid (by rw [HP.out]; rfl)
      clear HP HI1 HM1
      generalize pbF l f m x S = r at *
      obtain ⟨R, v⟩ := r
      have HM := Lib.hid hm
      have HCC := Lib.hid HC
      clear hm HC
      go_wp2_with fail
      refine (HCC.out).mono ?_; rintro e w2 ⟨rfl, lv2, hb2, hf2⟩
      have hlR : R.length ≤ S.length + (m + 1 - a) := HM.out.few
      have hm := HM2.out x R
      have HC := HI2.out f x R lv2 w2 HF0.out.1 (by have := HSZ.out; have := HF0.out; omega) hx1 hb2
      obtain ⟨hk2, hfr2⟩ := hf2.nd HK.out HFR.out
      have HF2 := Lib.hid hf2
      clear hb2 hf2 HCC HI2 HM2 HBW HK HFR d0 d1 d2 d3 d4 d5 d6 hfr2
      generalize pbF l f n x R = r at *
      obtain ⟨R2, v2⟩ := r
      have HE : Hid (pbF l (f + 1) (n + 1) x S = (R2 ++ [⟨2, v, v2, 0⟩], R2.length)) := HE0
      have HMM := Lib.hid hm
      have HCC := Lib.hid HC
      clear hm HC HE0
      obtain ⟨_, _, d2, _⟩ := hk2.cells
      simp only at d2
      clear hk2
      go_wp2_with fail
      refine (HCC.out).mono ?_; rintro e w3 ⟨rfl, lv3, hb3, hf3⟩
      have HA := naddC w0 B g (some ⟨b, off, none⟩) l.length cn lv3 R2 w3 hb3 (by have h5 : R2.length ≤ R.length + (n + 1 - (m + 1)) := HMM.out.few; have := HSZ.out; omega) ⟨2, v, v2, 0⟩
      unfold stA at HA
      simp only [setW_zero] at HA
      have HAH := Lib.hid HA
      have HF3 := Lib.hid hf3
      clear HA hb3 hf3 HCC d2
      go_wp2_with fail
      refine (HAH.out).mono ?_; rintro e w9 ⟨rfl, lv9, hb9, hf9⟩
      clear HAH
      have HB9 := Lib.hid hb9
      have HF9 := Lib.hid hf9
      clear hb9 hf9
      go_wp2_with fail
      go_ret
      rw [HE.out]
      exact ⟨rfl, lv9, HB9.out, Far.old_ HOW.out (HF2.out.trans (HF3.out.trans HF9.out))⟩
end Go.Proofs.Ythadkjgadhbidaa
