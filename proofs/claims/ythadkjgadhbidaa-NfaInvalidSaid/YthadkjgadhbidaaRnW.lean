/-
  The reference's relations in memory: a matrix of bools; empty, both.
-/
import Derived.Test.YthadkjgadhbidaaRnP
import Derived.Test.YthadkjgadhbidaaWords
import Derived.Test.YthadkjgadhbidaaRxM
import Derived.StillTailTactics
namespace Go.Proofs.Ythadkjgadhbidaa
open Go.RowKit
set_option linter.unusedVariables false

theorem info_bo : (Try.prog.info? 4).map (fun i => (i.zero, i.size, i.bytes)) = some (some (.bool false), 1, 1) := by kernel_rfl
theorem info_rl : (Try.prog.info? 68).map (fun i => (i.zero, i.size, i.bytes)) = some (some (.slice none 0 0), 1, 24) := by kernel_rfl
def rowV (m : Nat) (r : Nat → Bool) : List Value := (List.range m).map fun k => .bool (r k)
theorem rowV_length (m : Nat) (r : Nat → Bool) : (rowV m r).length = m := by simp [rowV]
theorem rowV_get {m k : Nat} (r : Nat → Bool) (hk : k < m) : (rowV m r)[k]? = some (.bool (r k)) := by simp [rowV, hk]
theorem rowV_set {m k : Nat} (r : Nat → Bool) (b : Bool) : (rowV m r).set k (.bool b) = rowV m (fun k' => if k' = k then b else r k') := by
  apply List.ext_getElem?
  intro j
  by_cases hj : j < m
  · rw [rowV_get _ hj]
    by_cases e : j = k
    · subst e; rw [List.getElem?_set_self (by rw [rowV_length]; exact hj), if_pos rfl]
    · rw [List.getElem?_set_ne (fun h => e h.symm), rowV_get r hj, if_neg e]
  · rw [List.getElem?_eq_none (by rw [List.length_set, rowV_length]; omega), List.getElem?_eq_none (by rw [rowV_length]; omega)]
theorem rowV_congr {m : Nat} {r r' : Nat → Bool} (h : ∀ k, k < m → r k = r' k) : rowV m r = rowV m r' := by
  unfold rowV
  apply List.map_congr_left
  intro k hk
  rw [h k (List.mem_range.mp hk)]
def outV (m : Nat) (f : Nat → Nat) : List Value := (List.range m).map fun i => .slice (some ⟨f i, 0, none⟩) m m
theorem outV_get {m i : Nat} (f : Nat → Nat) (hi : i < m) : (outV m f)[i]? = some (.slice (some ⟨f i, 0, none⟩) m m) := by simp [outV, hi]
/-- A matrix of the call's own: block g holds the rows' slices, block f i the row i. -/
structure MatB (w : World) (base g cc : Nat) (f : Nat → Nat) (m : Nat) (R : Nat → Nat → Bool) : Prop where
  outer : Own w base 68 1 (.slice (some ⟨g, 0, none⟩) m cc) m (outV m f)
  rows : ∀ i, i < m → Own w base 4 1 (.slice (some ⟨f i, 0, none⟩) m m) m (rowV m (R i))
  inj : ∀ i j, i < m → j < m → f i = f j → i = j
  baseF : ∀ i, i < m → base ≤ f i
def MatV (w : World) (base : Nat) (v : Value) (m : Nat) (R : Nat → Nat → Bool) : Prop := ∃ g cc f, v = .slice (some ⟨g, 0, none⟩) m cc ∧ MatB w base g cc f m R
theorem MatB.up {w w' : World} {base g cc m : Nat} {f : Nat → Nat} {R : Nat → Nat → Bool} (h : MatB w base g cc f m R) (ho : Old w w') : MatB w' base g cc f m R :=
  ⟨h.outer.up ho, fun i hi => (h.rows i hi).up ho, h.inj, h.baseF⟩
theorem MatB.base_ {w : World} {base base' g cc m : Nat} {f : Nat → Nat} {R : Nat → Nat → Bool} (h : MatB w base g cc f m R) (hb : base' ≤ base) : MatB w base' g cc f m R :=
  ⟨h.outer.base hb, fun i hi => (h.rows i hi).base hb, h.inj, fun i hi => Nat.le_trans hb (h.baseF i hi)⟩
theorem MatV.up {w w' : World} {base m : Nat} {v : Value} {R : Nat → Nat → Bool} (h : MatV w base v m R) (ho : Old w w') : MatV w' base v m R := by
  obtain ⟨g, cc, f, hv, hb⟩ := h; exact ⟨g, cc, f, hv, hb.up ho⟩
theorem MatV.base_ {w : World} {base base' m : Nat} {v : Value} {R : Nat → Nat → Bool} (h : MatV w base v m R) (hb : base' ≤ base) : MatV w base' v m R := by
  obtain ⟨g, cc, f, hv, h⟩ := h; exact ⟨g, cc, f, hv, h.base_ hb⟩
theorem MatB.row {w : World} {base g cc m i : Nat} {f : Nat → Nat} {R : Nat → Nat → Bool} (h : MatB w base g cc f m R) (hi : i < m) : w.cell? ⟨g, i, none⟩ = some (.slice (some ⟨f i, 0, none⟩) m m) :=
  (h.outer.cellAt (outV_get f hi)).1
theorem MatB.cell {w : World} {base g cc m i k : Nat} {f : Nat → Nat} {R : Nat → Nat → Bool} (h : MatB w base g cc f m R) (hi : i < m) (hk : k < m) : w.cell? ⟨f i, k, none⟩ = some (.bool (R i k)) ∧ w.frozen? ⟨f i, k, none⟩ = false :=
  (h.rows i hi).cellAt (rowV_get _ hk)
theorem MatB.congr {w : World} {base g cc m : Nat} {f : Nat → Nat} {R R' : Nat → Nat → Bool} (h : MatB w base g cc f m R) (he : ∀ i k, i < m → k < m → R i k = R' i k) : MatB w base g cc f m R' :=
  ⟨h.outer, fun i hi => by rw [rowV_congr (r' := R i) (fun k hk => (he i k hi hk).symm)]; exact h.rows i hi, h.inj, h.baseF⟩
theorem MatV.congr {w : World} {base m : Nat} {v : Value} {R R' : Nat → Nat → Bool} (h : MatV w base v m R) (he : ∀ i k, i < m → k < m → R i k = R' i k) : MatV w base v m R' := by
  obtain ⟨g, cc, f, hv, h⟩ := h; exact ⟨g, cc, f, hv, h.congr he⟩
theorem MatB.set {w : World} {base g cc m i k : Nat} {f : Nat → Nat} {R : Nat → Nat → Bool} (h : MatB w base g cc f m R) (hi : i < m) (b : Bool) :
    MatB (w.setCell ⟨f i, k, none⟩ (.bool b)) base g cc f m (fun i' k' => if i' = i ∧ k' = k then b else R i' k') := by
  obtain ⟨h1, hg⟩ := (h.rows i hi).set_ k (.bool b)
  refine ⟨Own.grown h.outer (h.rows i hi) (by decide) hg, fun i' hi' => ?_, h.inj, h.baseF⟩
  by_cases e : i' = i
  · subst e
    rw [rowV_set] at h1
    rw [rowV_congr (r' := fun k' => if k' = k then b else R i' k') (fun k' _ => by simp)]
    exact h1
  · rw [rowV_congr (r' := R i') (fun k' _ => by simp [e])]
    exact World.ownsRow.kept (h.rows i' hi') hg (Or.inr (fun e2 => e (h.inj i' i hi' hi (by injection e2))))
theorem MatB.old {w0 w : World} {base g cc m i k : Nat} {f : Nat → Nat} {R : Nat → Nat → Bool} (h : MatB w base g cc f m R) (ho : Old w0 w) (hb : w0.heap.size ≤ base) (hi : i < m) (b : Bool) : Old w0 (w.setCell ⟨f i, k, none⟩ (.bool b)) :=
  ho.setCell (Nat.le_trans hb (h.baseF i hi)) _
def MatPost (w : World) (m : Nat) (R : Nat → Nat → Bool) (e : Ending) (w' : World) : Prop := ∃ v, e = .returned v ∧ MatV w' w.heap.size v m R ∧ Old w w'
/-- The rows so far. -/
def EmRel (w : World) (m : Nat) (v ix : Value) (wr : World) : Prop :=
  ∃ (k : Nat) (f : Nat → Nat), ix = .int .i64 k ∧ k ≤ m ∧ Hid (Own wr w.heap.size 68 1 v k ((List.range k).map fun i => .slice (some ⟨f i, 0, none⟩) m m)) ∧
    Hid (∀ i, i < k → Own wr w.heap.size 4 1 (.slice (some ⟨f i, 0, none⟩) m m) m (rowV m (fun _ => false)) ∧ w.heap.size ≤ f i ∧ f i < wr.heap.size) ∧
    Hid (∀ i j, i < k → j < k → f i = f j → i = j) ∧ Hid (Old w wr)
theorem range_snoc {α : Type} (k : Nat) (F : Nat → α) : (List.range (k + 1)).map F = (List.range k).map F ++ [F k] := by
  rw [List.range_succ, List.map_append]; rfl
theorem made_row (m : Nat) : (madeCells #[Value.bool false] m).toList = rowV m (fun _ => false) := by
  unfold madeCells rowV
  rw [Array.toList_map, Array.toList_range]
  apply List.map_congr_left
  intro k _
  have e : k % #[Value.bool false].size = 0 := Nat.mod_one k
  rw [e]
  rfl
set_option maxHeartbeats 4000000 in
set_option maxRecDepth 100000 in
theorem emptyC (m : Nat) (hm : 1 ≤ m) (hm2 : m ≤ 100000) (w : World) : Calls Try.prog 83 #[.int .i64 m] w (MatPost w m emptyR) := by
  have HM := Lib.hid hm
  have HM2 := Lib.hid hm2
  clear hm hm2
  go_enter Try.func83, Try.ntmps83
  go_wp2_with fail
  go_loopw [3, 4] (fun s3 s4 wr => EmRel w m s3 s4 wr) (fun _ s4 _ => m - (intOf s4).toNat)
  case atStart => exact ⟨0, fun _ => 0, rfl, Nat.zero_le _, Lib.hid (Own.nil_ _ _ _ _), Lib.hid (fun i hi => by omega), Lib.hid (fun i j hi => by omega), Lib.hid (Old.refl _)⟩
  case round =>
    obtain ⟨k, f, rfl, hk, HO, HF, HI, HD⟩ := hrel
    by_cases hlt : k < m
    · have i1 : (k : Int) < (m : Int) := by omega
      obtain ⟨A3, c3, rfl, _, _, _⟩ := HO.out.shape
      have hm2' := HM2.out
      go_upto_region 5 with fail
      go_wp2_with (at_make; refine wpList_makeN rfl _ _ 68 rfl 4 (.bool false) 1 1 Try.underlying68 info_bo (by decide) .i64 .i64 _ _ m rfl rfl ?pl2 ?pc2 ?pn2 ?_)
      case pl2 => omega
      case pc2 => omega
      case pn2 => omega
      intro w1 ho1 hd1
      have HO1 := Lib.hid (HO.out.up hd1)
      have HB1 : Hid (w.heap.size ≤ wr.heap.size) := Lib.hid HD.out.size
      have HD1 := Lib.hid (HD.out.up hd1)
      have hsz : wr.heap.size ≤ w1.heap.size := hd1.size
      rw [made_row] at ho1
      have HR1 := Lib.hid ho1
      have hlt1 : wr.heap.size < w1.heap.size := by
        have := ho1.out.1
        obtain ⟨g, c, e, _, q, _, _⟩ := ho1.form (by have := HM.out; omega)
        injection e with e _ _
        injection e with e
        injection e with e
        omega
      have HLT := Lib.hid hlt1
      have HD1' := Lib.hid hd1
      clear ho1 hd1 hsz hlt1 HO HD
      go_wp2_with (at_builtin; refine wpList_push (wr := w1) rfl _ _ 76 rfl _ 68 (.slice none 0 0) 1 24 Try.underlying76 info_rl rfl (by decide) (by decide) _ _ _ rfl HO1.out 1 1 [.slice (some ⟨wr.heap.size, 0, none⟩) m m] rfl rfl rfl rfl ?pn1 (Nat.le_trans HB1.out (Nat.le_of_lt HLT.out)) ?_)
      case pn1 => omega
      intro v' w2 ho2 hg2 hd2
      have HW : Hid (EmRel w m v' (.int .i64 ((k + 1 : Nat) : Int)) w2) := Lib.hid (by
        have hold : Old w w2 := hd2 w HD1.out (Nat.le_refl _)
        refine ⟨k + 1, fun i => if i = k then wr.heap.size else f i, rfl, hlt, Lib.hid ?_, Lib.hid (fun i hi => ?_), Lib.hid (fun i j hi hj he => ?_), Lib.hid hold⟩
        · simp only [range_snoc, if_true]
          have e : (List.range k).map (fun i => Value.slice (some ⟨if i = k then wr.heap.size else f i, 0, none⟩) m m) = (List.range k).map (fun i => Value.slice (some ⟨f i, 0, none⟩) m m) := by
            apply List.map_congr_left
            intro i hi
            rw [if_neg (by have := List.mem_range.mp hi; omega)]
          rw [e]
          exact ho2
        · by_cases e : i = k
          · subst e
            simp only [if_true]
            exact ⟨Own.grown (HR1.out.base HB1.out) HO1.out (by decide) hg2, HB1.out, Nat.lt_of_lt_of_le HLT.out hg2.size⟩
          · simp only [if_neg e]
            obtain ⟨q1, q2, q3⟩ := HF.out i (by omega)
            exact ⟨Own.grown (q1.up HD1'.out) HO1.out (by decide) hg2, q2, Nat.lt_of_lt_of_le q3 (Nat.le_trans (Nat.le_of_lt HLT.out) hg2.size)⟩
        · by_cases e1 : i = k
          · by_cases e2 : j = k
            · omega
            · simp only [if_pos e1, if_neg e2] at he
              have := (HF.out j (by omega)).2.2
              omega
          · by_cases e2 : j = k
            · simp only [if_neg e1, if_pos e2] at he
              have := (HF.out i (by omega)).2.2
              omega
            · simp only [if_neg e1, if_neg e2] at he
              exact HI.out i j (by omega) (by omega) he)
      clear ho2 hg2 hd2 HO1 HF HI HR1
      go_wp2_with fail
      go_roundw
      case rel => exact HW.out
      case measure => simp [intOf]; omega
    · obtain rfl : k = m := by omega
      obtain ⟨g, c, rfl, _, _, _, _⟩ := HO.out.form HM.out
      have HP : Hid (MatPost w k emptyR (.returned (.slice (some ⟨g, 0, none⟩) k c)) wr) := Lib.hid ⟨_, rfl, ⟨g, c, f, rfl, ⟨HO.out, fun i hi => (HF.out i hi).1, HI.out, fun i hi => (HF.out i hi).2.1⟩⟩, HD.out⟩
      clear HO HF HI HD
      go_wp2_with fail
      go_ret
      exact HP.out
end Go.Proofs.Ythadkjgadhbidaa
