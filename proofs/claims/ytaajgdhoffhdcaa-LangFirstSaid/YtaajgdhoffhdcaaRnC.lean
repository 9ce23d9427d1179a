/-
  The statement LangFirst: it returns true for all arguments; no condition.
-/
import Derived.WalkKit
import Derived.StillTailTactics
import Derived.Lib.Hide
import Derived.Test.YtaajgdhoffhdcaaRnP
import Derived.Test.YtaajgdhoffhdcaaWords
import Derived.Test.YtaajgdhoffhdcaaRxM
import Derived.Test.YtaajgdhoffhdcaaTxt
import Derived.Test.YtaajgdhoffhdcaaRxW
import Derived.Deep.CutBlock
import Derived.Test.YtaajgdhoffhdcaaRvC
import Derived.Deep.RegionHeld3
import Derived.Deep.DeepCutAuto
import Derived.Test.YtaajgdhoffhdcaaBytes
import Derived.Test.YtaajgdhoffhdcaaLgT
import Derived.Test.YtaajgdhoffhdcaaLwS
import Derived.Deep.Slices
import Derived.Deep.Fields
import Derived.ProofKit
import Derived.ChangeSame
import Derived.Test.YtaajgdhoffhdcaaRows
import Derived.OpenShut
import Derived.ShutString
import Derived.ChangeOld
import Derived.Below
import Derived.Test.YtaajgdhoffhdcaaMillC
import Derived.Test.YtaajgdhoffhdcaaRxN
import Derived.Laws.IdiomArrays
/-
  A region that reads and ends with one store: its operations one by one, those that are guarded by their own words. No program in sight.
-/
namespace Go.Proofs.Ytaajgdhoffhdcaa
open Go.RowKit
set_option linter.unusedVariables false

section
variable {P : Program} {ops : Array Oper} {w : World} {Q : Act → Prop} {a : Act} {o : Oper} {rest : List Oper}
theorem still_want (hw : Region.wanted o (yielded ops a.tmps) = true) (h : ∀ K : Act → Prop, (∀ a, wpStill P ops w Q rest a → K a) → o.still P a w K) : wpStill P ops w Q (o :: rest) a :=
  wpStill_step fun K hK => by rw [if_pos hw]; exact h K hK
theorem still_skip (hw : Region.wanted o (yielded ops a.tmps) = false) (h : ∀ K : Act → Prop, (∀ a, wpStill P ops w Q rest a → K a) → K (a.put o.dst undef)) : wpStill P ops w Q (o :: rest) a :=
  wpStill_step fun K hK => by rw [if_neg (by rw [hw]; exact Bool.false_ne_true)]; exact h K hK
/-- The walk with the rest as a letter: nothing unfolds it. -/
theorem still_open {l : List Oper} (h : ∀ S : List Oper → Act → Prop,
    Hid (∀ o rest a, Region.wanted o (yielded ops a.tmps) = true → (∀ K : Act → Prop, (∀ a, S rest a → K a) → o.still P a w K) → S (o :: rest) a) →
    Hid (∀ o rest a, Region.wanted o (yielded ops a.tmps) = false → (∀ K : Act → Prop, (∀ a, S rest a → K a) → K (a.put o.dst undef)) → S (o :: rest) a) →
    Hid (∀ a, Q a → S [] a) → S l a) : wpStill P ops w Q l a :=
  h (wpStill P ops w Q) (Lib.hid fun _ _ _ hw k => still_want hw k) (Lib.hid fun _ _ _ hw k => still_skip hw k) (Lib.hid fun _ k => wpStill_nil k)
end
end Go.Proofs.Ytaajgdhoffhdcaa
/-
  The reference's relations in memory: a matrix of bools; empty, both.
-/
namespace Go.Proofs.Ytaajgdhoffhdcaa
open Go.RowKit
set_option linter.unusedVariables false

theorem info_bo : (Try.prog.info? 4).map (fun i => (i.zero, i.size, i.bytes)) = some (some (.bool false), 1, 1) := by kernel_rfl
theorem info_rl : (Try.prog.info? 84).map (fun i => (i.zero, i.size, i.bytes)) = some (some (.slice none 0 0), 1, 24) := by kernel_rfl
def rowV (m : Nat) (r : Nat → Bool) : List Value := (List.range m).map fun k => .bool (r k)
theorem rowV_length (m : Nat) (r : Nat → Bool) : (rowV m r).length = m := by simp [rowV]
theorem rowV_get {m k : Nat} (r : Nat → Bool) (hk : k < m) : (rowV m r)[k]? = some (.bool (r k)) := by simp [rowV, hk]
theorem rowV_set {m k : Nat} (r : Nat → Bool) (b : Bool) : (rowV m r).set k (.bool b) = rowV m (fun k' => if k' = k then b else r k') := by
  apply List.ext_getElem?
  intro j
  by_cases hj : j < m
  · rw [rowV_get _ hj]
    by_cases e : j = k
    · subst e; rw [List.getElem?_set_self (by rw [rowV_length]; exact hj), if_pos rfl]
    · rw [List.getElem?_set_ne (fun h => e h.symm), rowV_get r hj, if_neg e]
  · rw [List.getElem?_eq_none (by rw [List.length_set, rowV_length]; omega), List.getElem?_eq_none (by rw [rowV_length]; omega)]
theorem rowV_congr {m : Nat} {r r' : Nat → Bool} (h : ∀ k, k < m → r k = r' k) : rowV m r = rowV m r' := by
  unfold rowV
  apply List.map_congr_left
  intro k hk
  rw [h k (List.mem_range.mp hk)]
def outV (m : Nat) (f : Nat → Nat) : List Value := (List.range m).map fun i => .slice (some ⟨f i, 0, none⟩) m m
theorem outV_get {m i : Nat} (f : Nat → Nat) (hi : i < m) : (outV m f)[i]? = some (.slice (some ⟨f i, 0, none⟩) m m) := by simp [outV, hi]
/-- A matrix of the call's own: block g holds the rows' slices, block f i the row i. -/
structure MatB (w : World) (base g cc : Nat) (f : Nat → Nat) (m : Nat) (R : Nat → Nat → Bool) : Prop where
  outer : Own w base 84 1 (.slice (some ⟨g, 0, none⟩) m cc) m (outV m f)
  rows : ∀ i, i < m → Own w base 4 1 (.slice (some ⟨f i, 0, none⟩) m m) m (rowV m (R i))
  inj : ∀ i j, i < m → j < m → f i = f j → i = j
  baseF : ∀ i, i < m → base ≤ f i
def MatV (w : World) (base : Nat) (v : Value) (m : Nat) (R : Nat → Nat → Bool) : Prop := ∃ g cc f, v = .slice (some ⟨g, 0, none⟩) m cc ∧ MatB w base g cc f m R
theorem MatB.up {w w' : World} {base g cc m : Nat} {f : Nat → Nat} {R : Nat → Nat → Bool} (h : MatB w base g cc f m R) (ho : Old w w') : MatB w' base g cc f m R :=
  ⟨h.outer.up ho, fun i hi => (h.rows i hi).up ho, h.inj, h.baseF⟩
theorem MatB.base_ {w : World} {base base' g cc m : Nat} {f : Nat → Nat} {R : Nat → Nat → Bool} (h : MatB w base g cc f m R) (hb : base' ≤ base) : MatB w base' g cc f m R :=
  ⟨h.outer.base hb, fun i hi => (h.rows i hi).base hb, h.inj, fun i hi => Nat.le_trans hb (h.baseF i hi)⟩
theorem MatV.up {w w' : World} {base m : Nat} {v : Value} {R : Nat → Nat → Bool} (h : MatV w base v m R) (ho : Old w w') : MatV w' base v m R := by
  obtain ⟨g, cc, f, hv, hb⟩ := h; exact ⟨g, cc, f, hv, hb.up ho⟩
theorem MatV.base_ {w : World} {base base' m : Nat} {v : Value} {R : Nat → Nat → Bool} (h : MatV w base v m R) (hb : base' ≤ base) : MatV w base' v m R := by
  obtain ⟨g, cc, f, hv, h⟩ := h; exact ⟨g, cc, f, hv, h.base_ hb⟩
theorem MatB.row {w : World} {base g cc m i : Nat} {f : Nat → Nat} {R : Nat → Nat → Bool} (h : MatB w base g cc f m R) (hi : i < m) : w.cell? ⟨g, i, none⟩ = some (.slice (some ⟨f i, 0, none⟩) m m) :=
  (h.outer.cellAt (outV_get f hi)).1
theorem MatB.cell {w : World} {base g cc m i k : Nat} {f : Nat → Nat} {R : Nat → Nat → Bool} (h : MatB w base g cc f m R) (hi : i < m) (hk : k < m) : w.cell? ⟨f i, k, none⟩ = some (.bool (R i k)) ∧ w.frozen? ⟨f i, k, none⟩ = false :=
  (h.rows i hi).cellAt (rowV_get _ hk)
theorem MatB.congr {w : World} {base g cc m : Nat} {f : Nat → Nat} {R R' : Nat → Nat → Bool} (h : MatB w base g cc f m R) (he : ∀ i k, i < m → k < m → R i k = R' i k) : MatB w base g cc f m R' :=
  ⟨h.outer, fun i hi => by rw [rowV_congr (r' := R i) (fun k hk => (he i k hi hk).symm)]; exact h.rows i hi, h.inj, h.baseF⟩
theorem MatV.congr {w : World} {base m : Nat} {v : Value} {R R' : Nat → Nat → Bool} (h : MatV w base v m R) (he : ∀ i k, i < m → k < m → R i k = R' i k) : MatV w base v m R' := by
  obtain ⟨g, cc, f, hv, h⟩ := h; exact ⟨g, cc, f, hv, h.congr he⟩
theorem MatB.set {w : World} {base g cc m i k : Nat} {f : Nat → Nat} {R : Nat → Nat → Bool} (h : MatB w base g cc f m R) (hi : i < m) (b : Bool) :
    MatB (w.setCell ⟨f i, k, none⟩ (.bool b)) base g cc f m (fun i' k' => if i' = i ∧ k' = k then b else R i' k') := by
  obtain ⟨h1, hg⟩ := (h.rows i hi).set_ k (.bool b)
  refine ⟨Own.grown h.outer (h.rows i hi) (by decide) hg, fun i' hi' => ?_, h.inj, h.baseF⟩
  by_cases e : i' = i
  · subst e
    rw [rowV_set] at h1
    rw [rowV_congr (r' := fun k' => if k' = k then b else R i' k') (fun k' _ => by simp)]
    exact h1
  · rw [rowV_congr (r' := R i') (fun k' _ => by simp [e])]
    exact World.ownsRow.kept (h.rows i' hi') hg (Or.inr (fun e2 => e (h.inj i' i hi' hi (by injection e2))))
theorem MatB.old {w0 w : World} {base g cc m i k : Nat} {f : Nat → Nat} {R : Nat → Nat → Bool} (h : MatB w base g cc f m R) (ho : Old w0 w) (hb : w0.heap.size ≤ base) (hi : i < m) (b : Bool) : Old w0 (w.setCell ⟨f i, k, none⟩ (.bool b)) :=
  ho.setCell (Nat.le_trans hb (h.baseF i hi)) _
def MatPost (w : World) (m : Nat) (R : Nat → Nat → Bool) (e : Ending) (w' : World) : Prop := ∃ v, e = .returned v ∧ MatV w' w.heap.size v m R ∧ Old w w'
/-- The rows so far. -/
def EmRel (w : World) (m : Nat) (v ix : Value) (wr : World) : Prop :=
  ∃ (k : Nat) (f : Nat → Nat), ix = .int .i64 k ∧ k ≤ m ∧ Hid (Own wr w.heap.size 84 1 v k ((List.range k).map fun i => .slice (some ⟨f i, 0, none⟩) m m)) ∧
    Hid (∀ i, i < k → Own wr w.heap.size 4 1 (.slice (some ⟨f i, 0, none⟩) m m) m (rowV m (fun _ => false)) ∧ w.heap.size ≤ f i ∧ f i < wr.heap.size) ∧
    Hid (∀ i j, i < k → j < k → f i = f j → i = j) ∧ Hid (Old w wr)
theorem range_snoc {α : Type} (k : Nat) (F : Nat → α) : (List.range (k + 1)).map F = (List.range k).map F ++ [F k] := by
  rw [List.range_succ, List.map_append]; rfl
theorem made_row (m : Nat) : (madeCells #[Value.bool false] m).toList = rowV m (fun _ => false) := by
  unfold madeCells rowV
  rw [Array.toList_map, Array.toList_range]
  apply List.map_congr_left
  intro k _
  have e : k % #[Value.bool false].size = 0 := Nat.mod_one k
  rw [e]
  rfl
set_option maxHeartbeats 4000000 in
set_option maxRecDepth 100000 in
theorem emptyC (m : Nat) (hm : 1 ≤ m) (hm2 : m ≤ 100000) (w : World) : Calls Try.prog 100 #[.int .i64 m] w (MatPost w m emptyR) := by
  have HM := Lib.hid hm
  have HM2 := Lib.hid hm2
  clear hm hm2
  go_enter Try.func100, Try.ntmps100
  go_wp2_with fail
  go_loopw [3, 4] (fun s3 s4 wr => EmRel w m s3 s4 wr) (fun _ s4 _ => m - (intOf s4).toNat)
  case atStart => exact ⟨0, fun _ => 0, rfl, Nat.zero_le _, Lib.hid (Own.nil_ _ _ _ _), Lib.hid (fun i hi => by omega), Lib.hid (fun i j hi => by omega), Lib.hid (Old.refl _)⟩
  case round =>
    obtain ⟨k, f, rfl, hk, HO, HF, HI, HD⟩ := hrel
    by_cases hlt : k < m
    · have i1 : (k : Int) < (m : Int) := by omega
      obtain ⟨A3, c3, rfl, _, _, _⟩ := HO.out.shape
      have hm2' := HM2.out
      go_upto_region 5 with fail
      go_wp2_with (at_make; refine wpList_makeN rfl _ _ 84 rfl 4 (.bool false) 1 1 Try.underlying84 info_bo (by decide) .i64 .i64 _ _ m rfl rfl ?pl2 ?pc2 ?pn2 ?_)
      case pl2 => omega
      case pc2 => omega
      case pn2 => omega
      intro w1 ho1 hd1
      have HO1 := Lib.hid (HO.out.up hd1)
      have HB1 : Hid (w.heap.size ≤ wr.heap.size) := Lib.hid HD.out.size
      have HD1 := Lib.hid (HD.out.up hd1)
      have hsz : wr.heap.size ≤ w1.heap.size := hd1.size
      rw [made_row] at ho1
      have HR1 := Lib.hid ho1
      have hlt1 : wr.heap.size < w1.heap.size := by
        have := ho1.out.1
        obtain ⟨g, c, e, _, q, _, _⟩ := ho1.form (by have := HM.out; omega)
        injection e with e _ _
        injection e with e
        injection e with e
        omega
      have HLT := Lib.hid hlt1
      have HD1' := Lib.hid hd1
      clear ho1 hd1 hsz hlt1 HO HD
      go_wp2_with (at_builtin; refine wpList_push (wr := w1) rfl _ _ 77 rfl _ 84 (.slice none 0 0) 1 24 Try.underlying77 info_rl rfl (by decide) (by decide) _ _ _ rfl HO1.out 1 1 [.slice (some ⟨wr.heap.size, 0, none⟩) m m] rfl rfl rfl rfl ?pn1 (Nat.le_trans HB1.out (Nat.le_of_lt HLT.out)) ?_)
      case pn1 => omega
      intro v' w2 ho2 hg2 hd2
      have HW : Hid (EmRel w m v' (.int .i64 ((k + 1 : Nat) : Int)) w2) := Lib.hid (by
        have hold : Old w w2 := hd2 w HD1.out (Nat.le_refl _)
        refine ⟨k + 1, fun i => if i = k then wr.heap.size else f i, rfl, hlt, Lib.hid ?_, Lib.hid (fun i hi => ?_), Lib.hid (fun i j hi hj he => ?_), Lib.hid hold⟩
        · simp only [range_snoc, if_true]
          have e : (List.range k).map (fun i => Value.slice (some ⟨if i = k then wr.heap.size else f i, 0, none⟩) m m) = (List.range k).map (fun i => Value.slice (some ⟨f i, 0, none⟩) m m) := by
            apply List.map_congr_left
            intro i hi
            rw [if_neg (by have := List.mem_range.mp hi; omega)]
          rw [e]
          exact ho2
        · by_cases e : i = k
          · subst e
            simp only [if_true]
            exact ⟨Own.grown (HR1.out.base HB1.out) HO1.out (by decide) hg2, HB1.out, Nat.lt_of_lt_of_le HLT.out hg2.size⟩
          · simp only [if_neg e]
            obtain ⟨q1, q2, q3⟩ := HF.out i (by omega)
            exact ⟨Own.grown (q1.up HD1'.out) HO1.out (by decide) hg2, q2, Nat.lt_of_lt_of_le q3 (Nat.le_trans (Nat.le_of_lt HLT.out) hg2.size)⟩
        · by_cases e1 : i = k
          · by_cases e2 : j = k
            · omega
            · simp only [if_pos e1, if_neg e2] at he
              have := (HF.out j (by omega)).2.2
              omega
          · by_cases e2 : j = k
            · simp only [if_neg e1, if_pos e2] at he
              have := (HF.out i (by omega)).2.2
              omega
            · simp only [if_neg e1, if_neg e2] at he
              exact HI.out i j (by omega) (by omega) he)
      clear ho2 hg2 hd2 HO1 HF HI HR1
      go_wp2_with fail
      go_roundw
      case rel => exact HW.out
      case measure => simp [intOf]; omega
    · obtain rfl : k = m := by omega
      obtain ⟨g, c, rfl, _, _, _, _⟩ := HO.out.form HM.out
      have HP : Hid (MatPost w k emptyR (.returned (.slice (some ⟨g, 0, none⟩) k c)) wr) := Lib.hid ⟨_, rfl, ⟨g, c, f, rfl, ⟨HO.out, fun i hi => (HF.out i hi).1, HI.out, fun i hi => (HF.out i hi).2.1⟩⟩, HD.out⟩
      clear HO HF HI HD
      go_wp2_with fail
      go_ret
      exact HP.out
end Go.Proofs.Ytaajgdhoffhdcaa
/-
  The reference's relations: both, stay.
-/
namespace Go.Proofs.Ytaajgdhoffhdcaa
open Go.RowKit
set_option linter.unusedVariables false

/-- F in the cells ahead of (i, k), row by row; elsewhere false. -/
def fillR (F : Nat → Nat → Bool) (i k : Nat) : Nat → Nat → Bool := fun i' k' => if i' < i ∨ (i' = i ∧ k' < k) then F i' k' else false
theorem fill_step (F : Nat → Nat → Bool) (i k i' k' : Nat) : (if i' = i ∧ k' = k then F i k else fillR F i k i' k') = fillR F i (k + 1) i' k' := by
  unfold fillR
  by_cases h : i' = i ∧ k' = k
  · obtain ⟨rfl, rfl⟩ := h
    rw [if_pos ⟨rfl, rfl⟩, if_pos (Or.inr ⟨rfl, by omega⟩)]
  · rw [if_neg h]
    by_cases h2 : i' < i ∨ (i' = i ∧ k' < k)
    · rw [if_pos h2, if_pos (by omega)]
    · rw [if_neg h2, if_neg (by omega)]
theorem fill_row (F : Nat → Nat → Bool) (m i i' k' : Nat) (hk : k' < m) : fillR F i m i' k' = fillR F (i + 1) 0 i' k' := by
  unfold fillR
  by_cases h2 : i' < i + 1
  · rw [if_pos (by omega), if_pos (by omega)]
  · rw [if_neg (by omega), if_neg (by omega)]
theorem fill_all (F : Nat → Nat → Bool) (m i' k' : Nat) (hi : i' < m) : fillR F m 0 i' k' = F i' k' := if_pos (Or.inl hi)
theorem fill_none (F : Nat → Nat → Bool) (i' k' : Nat) : emptyR i' k' = fillR F 0 0 i' k' := by
  unfold fillR emptyR; rw [if_neg (by omega)]
/-- One cell of row i is set; the others stay false. -/
theorem fill_one (F : Nat → Nat → Bool) (i c i' k' : Nat) (v : Bool) (hv : F i c = v) (h0 : ∀ k, k ≠ c → F i k = false) : (if i' = i ∧ k' = c then v else fillR F i 0 i' k') = fillR F (i + 1) 0 i' k' := by
  unfold fillR
  by_cases h : i' = i ∧ k' = c
  · obtain ⟨rfl, rfl⟩ := h
    rw [if_pos ⟨rfl, rfl⟩, if_pos (by omega), hv]
  · rw [if_neg h]
    by_cases h2 : i' < i
    · rw [if_pos (Or.inl h2), if_pos (by omega)]
    · by_cases h3 : i' = i
      · subst h3
        rw [if_neg (by omega), if_pos (by omega), h0 k' (fun e => h ⟨rfl, e⟩)]
      · rw [if_neg (by omega), if_neg (by omega)]
def FillRel (w : World) (m g cc : Nat) (f : Nat → Nat) (F : Nat → Nat → Bool) (v : Value) (wr : World) : Prop :=
  ∃ i : Nat, v = .int .i64 i ∧ i ≤ m ∧ Hid (MatB wr w.heap.size g cc f m (fillR F i 0)) ∧ Hid (Old w wr)
def FillIn (w : World) (m g cc : Nat) (f : Nat → Nat) (F : Nat → Nat → Bool) (i : Nat) (v : Value) (wr : World) : Prop :=
  ∃ k : Nat, v = .int .i64 k ∧ k ≤ m ∧ Hid (MatB wr w.heap.size g cc f m (fillR F i k)) ∧ Hid (Old w wr)
set_option maxHeartbeats 4000000 in
set_option maxRecDepth 100000 in
theorem stayC (m : Nat) (hm : 1 ≤ m) (hm2 : m ≤ 100000) (w : World) : Calls Try.prog 85 #[.int .i64 m] w (MatPost w m stayR) := by
  have HE := Lib.hid (emptyC m hm hm2 w)
  have HM := Lib.hid hm
  have HM2 := Lib.hid hm2
  clear hm hm2
  go_enter Try.func85, Try.ntmps85
  go_wp2_with fail
  refine (HE.out).mono ?_; rintro e w1 ⟨_, rfl, ⟨g, cc, f, rfl, hb⟩, ho⟩
  have HB := Lib.hid (hb.congr (fun i k _ _ => fill_none stayR i k))
  have HO := Lib.hid ho
  clear hb ho HE
  go_wp2_with fail
  go_loopw [4] (fun s4 wr => FillRel w m g cc f stayR s4 wr) (fun s4 _ => m - (intOf s4).toNat)
  case atStart => exact ⟨0, rfl, Nat.zero_le _, HB, HO⟩
  case round =>
    clear HB HO
    obtain ⟨i, rfl, hi, HB, HO⟩ := hrel
    by_cases hlt : i < m
    · have i1 : (i : Int) < (m : Int) := by omega
      have i0 : (0 : Int) ≤ (i : Int) := by omega
      have q1 := HB.out.row hlt
      obtain ⟨q2, q3⟩ := HB.out.cell hlt hlt
      have HW : Hid (FillRel w m g cc f stayR (.int .i64 ((i + 1 : Nat) : Int)) (wr.setCell ⟨f i, i, none⟩ (.bool true))) := Lib.hid
        ⟨i + 1, rfl, hlt, Lib.hid ((HB.out.set (k := i) hlt true).congr (fun i' k' _ _ => fill_one stayR i i i' k' true (by simp [stayR]) (fun k hk => by simp [stayR]; omega))), Lib.hid (HB.out.old HO.out (Nat.le_refl _) hlt true)⟩
      have hm2' := HM2.out
      clear HB HO
      go_wp2_with fail
      go_roundw
      case rel => exact HW.out
      case measure => simp [intOf]; omega
    · obtain rfl : i = m := by omega
      have HP : Hid (MatPost w i stayR (.returned (.slice (some ⟨g, 0, none⟩) i cc)) wr) := Lib.hid ⟨_, rfl, ⟨g, cc, f, rfl, HB.out.congr (fun i' k' hi' _ => fill_all stayR i i' k' hi')⟩, HO.out⟩
      clear HB HO
      go_wp2_with fail
      go_ret
      exact HP.out
set_option maxHeartbeats 4000000 in
set_option maxRecDepth 100000 in
theorem bothC (m : Nat) (hm : 1 ≤ m) (hm2 : m ≤ 100000) (va vb : Value) (ba bb : Nat) (a b : Nat → Nat → Bool) (w : World) (ha : MatV w ba va m a) (hb : MatV w bb vb m b) :
    Calls Try.prog 83 #[va, vb] w (MatPost w m (bothR a b)) := by
  obtain ⟨ga, ca, fa, rfl, hA⟩ := ha
  obtain ⟨gb, cb, fb, rfl, hB⟩ := hb
  have HE := Lib.hid (emptyC m hm hm2 w)
  have HM := Lib.hid hm
  have HM2 := Lib.hid hm2
  have HA := Lib.hid hA
  have HBB := Lib.hid hB
  clear hm hm2 hA hB
  go_enter Try.func83, Try.ntmps83
  go_wp2_with fail
  refine (HE.out).mono ?_; rintro e w1 ⟨_, rfl, ⟨g, cc, f, rfl, hb⟩, ho⟩
  have HB := Lib.hid (hb.congr (fun i k _ _ => fill_none (bothR a b) i k))
  have HO := Lib.hid ho
  clear hb ho HE
  go_wp2_with fail
  go_loopw [6] (fun s6 wr => FillRel w m g cc f (bothR a b) s6 wr) (fun s6 _ => m - (intOf s6).toNat)
  case atStart => exact ⟨0, rfl, Nat.zero_le _, HB, HO⟩
  case round =>
    clear HB HO
    obtain ⟨i, rfl, hi, HB, HO⟩ := hrel
    by_cases hlt : i < m
    · have i1 : (i : Int) < (m : Int) := by omega
      have i0 : (0 : Int) ≤ (i : Int) := by omega
      go_wp2_with fail
      go_loopw [7] (fun s7 wr => FillIn w m g cc f (bothR a b) i s7 wr) (fun s7 _ => m - (intOf s7).toNat)
      case atStart => exact ⟨0, rfl, Nat.zero_le _, HB, HO⟩
      case round =>
        clear HB HO
        obtain ⟨k, rfl, hk, HB, HO⟩ := hrel
        by_cases hltk : k < m
        · have j1 : (k : Int) < (m : Int) := by omega
          have j0 : (0 : Int) ≤ (k : Int) := by omega
          have q1 := HB.out.row hlt
          obtain ⟨q2, q3⟩ := HB.out.cell hlt hltk
          have r1 := (HA.out.up HO.out).row hlt
          have r2 := ((HA.out.up HO.out).cell hlt hltk).1
          have t1 := (HBB.out.up HO.out).row hlt
          have t2 := ((HBB.out.up HO.out).cell hlt hltk).1
          have HW : Hid (∀ v, v = bothR a b i k → FillIn w m g cc f (bothR a b) i (.int .i64 ((k + 1 : Nat) : Int)) (wr.setCell ⟨f i, k, none⟩ (.bool v)).drew) := Lib.hid (by
            rintro v rfl
            exact ⟨k + 1, rfl, hltk, Lib.hid (((HB.out.set (k := k) hlt _).congr (fun i' k' _ _ => fill_step (bothR a b) i k i' k')).up (Old.refl _).drew), Lib.hid (HB.out.old HO.out (Nat.le_refl _) hlt _).drew⟩)
          have hm2' := HM2.out
          have HF : Hid (bothR a b i k = (a i k || b i k)) := Lib.hid rfl
          generalize a i k = x at *
          generalize b i k = y at *
          generalize bothR a b i k = z at *
          generalize fillR (bothR a b) i k i k = z0 at *
          clear HB HO
          cases x
          · go_upto_region 8 with fail
            refine wp_region_still_tail 22 (by kernel_rfl) (by kernel_rfl) ?_
            simp only [List.take_succ_cons, List.take_zero, List.drop_succ_cons, List.drop_zero]
            refine still_open (fun S HSW HSS HSN => ?_)
            iterate 22 (refine HSW.out _ _ _ (by kernel_rfl) (fun K hK => ?_); go_simp; refine hK _ ?_; clear hK K)
            refine HSN.out _ ?_
            clear HSW HSS HSN
            go_wp2_with fail
            go_roundw
            case rel => exact HW.out _ HF.out.symm
            case measure => simp [intOf]; omega
          · go_upto_region 8 with fail
            refine wp_region_still_tail 22 (by kernel_rfl) (by kernel_rfl) ?_
            simp only [List.take_succ_cons, List.take_zero, List.drop_succ_cons, List.drop_zero]
            refine still_open (fun S HSW HSS HSN => ?_)
            iterate 13 (refine HSW.out _ _ _ (by kernel_rfl) (fun K hK => ?_); go_simp; refine hK _ ?_; clear hK K)
            iterate 7 (refine HSS.out _ _ _ (by kernel_rfl) (fun K hK => ?_); go_simp; refine hK _ ?_; clear hK K)
            iterate 2 (refine HSW.out _ _ _ (by kernel_rfl) (fun K hK => ?_); go_simp; refine hK _ ?_; clear hK K)
            refine HSN.out _ ?_
            clear HSW HSS HSN
            go_wp2_with fail
            go_roundw
            case rel => exact HW.out _ HF.out.symm
            case measure => simp [intOf]; omega
        · obtain rfl : k = m := by omega
          have HW : Hid (FillRel w k g cc f (bothR a b) (.int .i64 ((i + 1 : Nat) : Int)) wr) := Lib.hid ⟨i + 1, rfl, hlt, Lib.hid (HB.out.congr (fun i' k' _ hk' => fill_row (bothR a b) k i i' k' hk')), HO⟩
          have hm2' := HM2.out
          clear HB HO
          go_wp2_with fail
          go_roundw
          case rel => exact HW.out
          case measure => simp [intOf]; omega
    · obtain rfl : i = m := by omega
      have HP : Hid (MatPost w i (bothR a b) (.returned (.slice (some ⟨g, 0, none⟩) i cc)) wr) := Lib.hid ⟨_, rfl, ⟨g, cc, f, rfl, HB.out.congr (fun i' k' hi' _ => fill_all (bothR a b) i i' k' hi')⟩, HO.out⟩
      clear HB HO
      go_wp2_with fail
      go_ret
      exact HP.out
end Go.Proofs.Ytaajgdhoffhdcaa
/-
  The reference's relations: then, star.
-/
namespace Go.Proofs.Ytaajgdhoffhdcaa
open Go.RowKit
set_option linter.unusedVariables false

def thSt (m : Nat) (a b : Nat → Nat → Bool) (i j k : Nat) : Nat → Nat → Bool := fun i' k' =>
  if i' < i then thenR m a b i' k' else if i' = i then (midR a b i k' j || (decide (k' < k) && (a i j && b j k'))) else false
theorem th_none (m : Nat) (a b : Nat → Nat → Bool) (i' k' : Nat) : emptyR i' k' = thSt m a b 0 0 0 i' k' := by
  unfold thSt emptyR
  rw [if_neg (by omega)]
  split
  · rw [midR, decide_eq_false (by omega)]; rfl
  · rfl
theorem th_step (m : Nat) (a b : Nat → Nat → Bool) (i j k i' k' : Nat) (h : a i j = true) : (if i' = i ∧ k' = k then (thSt m a b i j k i k || b j k) else thSt m a b i j k i' k') = thSt m a b i j (k + 1) i' k' := by
  unfold thSt
  by_cases hc : i' = i ∧ k' = k
  · obtain ⟨rfl, rfl⟩ := hc
    rw [if_pos ⟨rfl, rfl⟩, if_neg (by omega), if_pos rfl, if_neg (by omega), if_pos rfl, decide_eq_false (by omega), decide_eq_true (by omega), h]
    simp
  · rw [if_neg hc]
    by_cases h1 : i' < i
    · rw [if_pos h1, if_pos h1]
    · rw [if_neg h1, if_neg h1]
      by_cases h2 : i' = i
      · rw [if_pos h2, if_pos h2]
        have : decide (k' < k) = decide (k' < k + 1) := by
          rw [Bool.eq_iff_iff, decide_eq_true_iff, decide_eq_true_iff]
          have : k' ≠ k := fun e => hc ⟨h2, e⟩
          omega
        rw [this]
      · rw [if_neg h2, if_neg h2]
theorem th_col (m : Nat) (a b : Nat → Nat → Bool) (i j k i' k' : Nat) (hk : k' < m) (h : k = m ∨ a i j = false) : thSt m a b i j k i' k' = thSt m a b i (j + 1) 0 i' k' := by
  unfold thSt
  by_cases h1 : i' < i
  · rw [if_pos h1, if_pos h1]
  · rw [if_neg h1, if_neg h1]
    by_cases h2 : i' = i
    · rw [if_pos h2, if_pos h2, midR]
      rcases h with rfl | h
      · rw [decide_eq_true hk, decide_eq_false (show ¬ k' < 0 by omega)]
        simp
      · rw [h]; simp
    · rw [if_neg h2, if_neg h2]
theorem th_row (m : Nat) (a b : Nat → Nat → Bool) (i i' k' : Nat) : thSt m a b i m 0 i' k' = thSt m a b (i + 1) 0 0 i' k' := by
  unfold thSt
  by_cases h1 : i' < i
  · rw [if_pos h1, if_pos (by omega)]
  · rw [if_neg h1]
    by_cases h2 : i' = i
    · rw [if_pos h2, if_pos (by omega), decide_eq_false (by omega), h2]
      simp [thenR]
    · rw [if_neg h2, if_neg (by omega)]
      by_cases h3 : i' = i + 1
      · rw [if_pos h3, midR, decide_eq_false (by omega)]; rfl
      · rw [if_neg h3]
theorem th_all (m : Nat) (a b : Nat → Nat → Bool) (i' k' : Nat) (hi : i' < m) : thSt m a b m 0 0 i' k' = thenR m a b i' k' := if_pos hi
/-- Row i of round j is under way. -/
def waSt (a : Nat → Nat → Bool) (j i k : Nat) : Nat → Nat → Bool := fun i' k' =>
  if i' < i then warR a (j + 1) i' k' else if i' = i then (warR a j i k' || (decide (k' < k) && (warR a j i j && warR a j j k'))) else warR a j i' k'
theorem wa_none (a : Nat → Nat → Bool) (i' k' : Nat) : bothR stayR a i' k' = waSt a 0 0 0 i' k' := by
  unfold waSt bothR stayR
  rw [if_neg (by omega)]
  split
  · rename_i h
    subst h
    rw [warR, decide_eq_false (show ¬ k' < 0 by omega)]; simp
  · rw [warR]
theorem wa_col (a : Nat → Nat → Bool) (j i k : Nat) : waSt a j i k i j = warR a j i j := by
  unfold waSt
  rw [if_neg (by omega), if_pos rfl]
  cases warR a j i j <;> simp
theorem wa_self (a : Nat → Nat → Bool) (j i k : Nat) : waSt a j i k i k = warR a j i k := by
  unfold waSt
  rw [if_neg (by omega), if_pos rfl, decide_eq_false (by omega)]
  simp
theorem wa_other (a : Nat → Nat → Bool) (j i k : Nat) : waSt a j i k j k = warR a j j k := by
  unfold waSt
  by_cases h1 : j < i
  · rw [if_pos h1, warR]; cases warR a j j k <;> simp
  · rw [if_neg h1]
    by_cases h2 : j = i
    · rw [if_pos h2, decide_eq_false (by omega), h2]; simp
    · rw [if_neg h2]
theorem wa_step (a : Nat → Nat → Bool) (j i k i' k' : Nat) (h : warR a j i j = true) : (if i' = i ∧ k' = k then (waSt a j i k i k || waSt a j i k j k) else waSt a j i k i' k') = waSt a j i (k + 1) i' k' := by
  rw [wa_self, wa_other]
  unfold waSt
  by_cases hc : i' = i ∧ k' = k
  · obtain ⟨rfl, rfl⟩ := hc
    rw [if_pos ⟨rfl, rfl⟩, if_neg (by omega), if_pos rfl, decide_eq_true (by omega), h]
    simp
  · rw [if_neg hc]
    by_cases h1 : i' < i
    · rw [if_pos h1, if_pos h1]
    · rw [if_neg h1, if_neg h1]
      by_cases h2 : i' = i
      · rw [if_pos h2, if_pos h2]
        have : decide (k' < k) = decide (k' < k + 1) := by
          rw [Bool.eq_iff_iff, decide_eq_true_iff, decide_eq_true_iff]
          have : k' ≠ k := fun e => hc ⟨h2, e⟩
          omega
        rw [this]
      · rw [if_neg h2, if_neg h2]
theorem wa_row (a : Nat → Nat → Bool) (m j i k i' k' : Nat) (hk : k' < m) (h : k = m ∨ warR a j i j = false) : waSt a j i k i' k' = waSt a j (i + 1) 0 i' k' := by
  unfold waSt
  by_cases h1 : i' < i
  · rw [if_pos h1, if_pos (by omega)]
  · rw [if_neg h1]
    by_cases h2 : i' = i
    · rw [if_pos h2, if_pos (by omega), h2, warR]
      rcases h with rfl | h
      · rw [decide_eq_true hk, Bool.true_and]
      · rw [h]; simp
    · rw [if_neg h2, if_neg (by omega)]
      by_cases h3 : i' = i + 1
      · rw [if_pos h3, decide_eq_false (show ¬ k' < 0 by omega), h3]; simp
      · rw [if_neg h3]
theorem wa_round (a : Nat → Nat → Bool) (m j i' k' : Nat) (hi : i' < m) : waSt a j m 0 i' k' = waSt a (j + 1) 0 0 i' k' := by
  unfold waSt
  rw [if_pos hi, if_neg (by omega)]
  by_cases h : i' = 0
  · rw [if_pos h, decide_eq_false (show ¬ k' < 0 by omega), h]; simp
  · rw [if_neg h]
theorem wa_all (a : Nat → Nat → Bool) (m i' k' : Nat) : waSt a m 0 0 i' k' = starR m a i' k' := by
  unfold waSt starR
  rw [if_neg (by omega)]
  by_cases h : i' = 0
  · rw [if_pos h, decide_eq_false (show ¬ k' < 0 by omega), h]; simp
  · rw [if_neg h]
def MxRel (w : World) (m g cc : Nat) (f : Nat → Nat) (F : Nat → Nat → Nat → Bool) (v : Value) (wr : World) : Prop :=
  ∃ i : Nat, v = .int .i64 i ∧ i ≤ m ∧ Hid (MatB wr w.heap.size g cc f m (F i)) ∧ Hid (Old w wr)
set_option maxHeartbeats 8000000 in
set_option maxRecDepth 100000 in
theorem thenC (m : Nat) (hm : 1 ≤ m) (hm2 : m ≤ 100000) (va vb : Value) (ba bb : Nat) (a b : Nat → Nat → Bool) (w : World) (ha : MatV w ba va m a) (hb : MatV w bb vb m b) :
    Calls Try.prog 82 #[va, vb] w (MatPost w m (thenR m a b)) := by
  obtain ⟨ga, ca, fa, rfl, hA⟩ := ha
  obtain ⟨gb, cb, fb, rfl, hB⟩ := hb
  have HE := Lib.hid (emptyC m hm hm2 w)
  have HM := Lib.hid hm
  have HM2 := Lib.hid hm2
  have HA := Lib.hid hA
  have HBB := Lib.hid hB
  clear hm hm2 hA hB
  go_enter Try.func82, Try.ntmps82
  go_wp2_with fail
  refine (HE.out).mono ?_; rintro e w1 ⟨_, rfl, ⟨g, cc, f, rfl, hb⟩, ho⟩
  have HB := Lib.hid (hb.congr (fun i k _ _ => th_none m a b i k))
  have HO := Lib.hid ho
  clear hb ho HE
  go_wp2_with fail
  go_loopw [6] (fun s6 wr => MxRel w m g cc f (fun i => thSt m a b i 0 0) s6 wr) (fun s6 _ => m - (intOf s6).toNat)
  case atStart => exact ⟨0, rfl, Nat.zero_le _, HB, HO⟩
  case round =>
    clear HB HO
    obtain ⟨i, rfl, hi, HB, HO⟩ := hrel
    by_cases hlt : i < m
    · have i1 : (i : Int) < (m : Int) := by omega
      have i0 : (0 : Int) ≤ (i : Int) := by omega
      go_wp2_with fail
      go_loopw [7] (fun s7 wr => MxRel w m g cc f (fun j => thSt m a b i j 0) s7 wr) (fun s7 _ => m - (intOf s7).toNat)
      case atStart => exact ⟨0, rfl, Nat.zero_le _, HB, HO⟩
      case round =>
        clear HB HO
        obtain ⟨j, rfl, hj, HB, HO⟩ := hrel
        by_cases hltj : j < m
        · have j1 : (j : Int) < (m : Int) := by omega
          have j0 : (0 : Int) ≤ (j : Int) := by omega
          go_wp2_with fail
          go_loopw [8] (fun s8 wr => MxRel w m g cc f (fun k => thSt m a b i j k) s8 wr) (fun s8 _ => m - (intOf s8).toNat)
          case atStart => exact ⟨0, rfl, Nat.zero_le _, HB, HO⟩
          case round =>
            clear HB HO
            obtain ⟨k, rfl, hk, HB, HO⟩ := hrel
            by_cases hltk : k < m
            · have k1 : (k : Int) < (m : Int) := by omega
              have k0 : (0 : Int) ≤ (k : Int) := by omega
              have r1 := (HA.out.up HO.out).row hlt
              have r2 := ((HA.out.up HO.out).cell hlt hltj).1
              by_cases haij : a i j = true
              · have q1 := HB.out.row hlt
                obtain ⟨q2, q3⟩ := HB.out.cell hlt hltk
                replace q2 : wr.cell? ⟨f i, k, none⟩ = some (.bool (thSt m a b i j k i k)) := q2
                have t1 := (HBB.out.up HO.out).row hltj
                have t2 := ((HBB.out.up HO.out).cell hltj hltk).1
                have HW : Hid (∀ v, v = (thSt m a b i j k i k || b j k) → MxRel w m g cc f (fun k => thSt m a b i j k) (.int .i64 ((k + 1 : Nat) : Int)) (wr.setCell ⟨f i, k, none⟩ (.bool v)).drew) := Lib.hid (by
                  rintro v rfl
                  exact ⟨k + 1, rfl, hltk, Lib.hid (((HB.out.set (k := k) hlt _).congr (fun i' k' _ _ => th_step m a b i j k i' k' haij)).up (Old.refl _).drew), Lib.hid (HB.out.old HO.out (Nat.le_refl _) hlt _).drew⟩)
                have hm2' := HM2.out
                rw [haij] at r2
                clear haij
                generalize b j k = y at *
                generalize thSt m a b i j k i k = x at *
                clear HB HO
                cases x
                · have HF : Hid (y = (false || y)) := Lib.hid (by simp)
                  go_upto_region 11 with fail
                  refine wp_region_still_tail 22 (by kernel_rfl) (by kernel_rfl) ?_
                  simp only [List.take_succ_cons, List.take_zero, List.drop_succ_cons, List.drop_zero]
                  refine still_open (fun S HSW HSS HSN => ?_)
                  iterate 22 (refine HSW.out _ _ _ (by kernel_rfl) (fun K hK => ?_); go_simp; refine hK _ ?_; clear hK K)
                  refine HSN.out _ ?_
                  clear HSW HSS HSN
                  go_wp2_with fail
                  go_roundw
                  case rel => exact HW.out _ HF.out
                  case measure => simp [intOf]; omega
                · have HF : Hid (true = (true || y)) := Lib.hid (by simp)
                  go_upto_region 11 with fail
                  refine wp_region_still_tail 22 (by kernel_rfl) (by kernel_rfl) ?_
                  simp only [List.take_succ_cons, List.take_zero, List.drop_succ_cons, List.drop_zero]
                  refine still_open (fun S HSW HSS HSN => ?_)
                  iterate 13 (refine HSW.out _ _ _ (by kernel_rfl) (fun K hK => ?_); go_simp; refine hK _ ?_; clear hK K)
                  iterate 7 (refine HSS.out _ _ _ (by kernel_rfl) (fun K hK => ?_); go_simp; refine hK _ ?_; clear hK K)
                  iterate 2 (refine HSW.out _ _ _ (by kernel_rfl) (fun K hK => ?_); go_simp; refine hK _ ?_; clear hK K)
                  refine HSN.out _ ?_
                  clear HSW HSS HSN
                  go_wp2_with fail
                  go_roundw
                  case rel => exact HW.out _ HF.out
                  case measure => simp [intOf]; omega
              · have hfa : a i j = false := by simpa using haij
                have HW : Hid (MxRel w m g cc f (fun j => thSt m a b i j 0) (.int .i64 ((j + 1 : Nat) : Int)) wr) := Lib.hid ⟨j + 1, rfl, hltj, Lib.hid (HB.out.congr (fun i' k' _ hk' => th_col m a b i j k i' k' hk' (Or.inr hfa))), HO⟩
                have hm2' := HM2.out
                rw [hfa] at r2
                clear HB HO haij hfa
                go_wp2_with fail
                go_roundw
                case rel => exact HW.out
                case measure => simp [intOf]; omega
            · obtain rfl : k = m := by omega
              have HW : Hid (MxRel w k g cc f (fun j => thSt k a b i j 0) (.int .i64 ((j + 1 : Nat) : Int)) wr) := Lib.hid ⟨j + 1, rfl, hltj, Lib.hid (HB.out.congr (fun i' k' _ hk' => th_col k a b i j k i' k' hk' (Or.inl rfl))), HO⟩
              have hm2' := HM2.out
              clear HB HO
              go_wp2_with fail
              go_roundw
              case rel => exact HW.out
              case measure => simp [intOf]; omega
        · obtain rfl : j = m := by omega
          have HW : Hid (MxRel w j g cc f (fun i => thSt j a b i 0 0) (.int .i64 ((i + 1 : Nat) : Int)) wr) := Lib.hid ⟨i + 1, rfl, hlt, Lib.hid (HB.out.congr (fun i' k' _ _ => th_row j a b i i' k')), HO⟩
          have hm2' := HM2.out
          clear HB HO
          go_wp2_with fail
          go_roundw
          case rel => exact HW.out
          case measure => simp [intOf]; omega
    · obtain rfl : i = m := by omega
      have HP : Hid (MatPost w i (thenR i a b) (.returned (.slice (some ⟨g, 0, none⟩) i cc)) wr) := Lib.hid ⟨_, rfl, ⟨g, cc, f, rfl, HB.out.congr (fun i' k' hi' _ => th_all i a b i' k' hi')⟩, HO.out⟩
      clear HB HO
      go_wp2_with fail
      go_ret
      exact HP.out
set_option maxHeartbeats 8000000 in
set_option maxRecDepth 100000 in
theorem starC (m : Nat) (hm : 1 ≤ m) (hm2 : m ≤ 100000) (va : Value) (ba : Nat) (a : Nat → Nat → Bool) (w : World) (ha : MatV w ba va m a) :
    Calls Try.prog 84 #[va] w (MatPost w m (starR m a)) := by
  have HV := Lib.hid ha
  obtain ⟨ga, ca, fa, rfl, hA⟩ := ha
  have HE := Lib.hid (stayC m hm hm2 w)
  have HBC := Lib.hid (fun vs bs w' h1 h2 => bothC m hm hm2 vs (.slice (some ⟨ga, 0, none⟩) m ca) bs ba stayR a w' h1 h2)
  have HM := Lib.hid hm
  have HM2 := Lib.hid hm2
  clear hm hm2 hA
  go_enter Try.func84, Try.ntmps84
  go_wp2_with fail
  refine (HE.out).mono ?_; rintro e w1 ⟨v1, rfl, hv1, ho1⟩
  have HC := Lib.hid (HBC.out v1 _ w1 hv1 (HV.out.up ho1))
  have HO1 := Lib.hid ho1
  clear hv1 ho1 HE HBC HV
  go_wp2_with fail
  refine (HC.out).mono ?_; rintro e w2 ⟨_, rfl, ⟨g, cc, f, rfl, hb⟩, ho⟩
  have HB := Lib.hid ((hb.base_ HO1.out.size).congr (fun i k _ _ => wa_none a i k))
  have HO := Lib.hid (HO1.out.up ho)
  clear hb ho HC HO1
  go_wp2_with fail
  go_loopw [4] (fun s6 wr => MxRel w m g cc f (fun j => waSt a j 0 0) s6 wr) (fun s6 _ => m - (intOf s6).toNat)
  case atStart => exact ⟨0, rfl, Nat.zero_le _, HB, HO⟩
  case round =>
    clear HB HO
    obtain ⟨j, rfl, hj, HB, HO⟩ := hrel
    by_cases hltj : j < m
    · have j1 : (j : Int) < (m : Int) := by omega
      have j0 : (0 : Int) ≤ (j : Int) := by omega
      go_wp2_with fail
      go_loopw [5] (fun s7 wr => MxRel w m g cc f (fun i => waSt a j i 0) s7 wr) (fun s7 _ => m - (intOf s7).toNat)
      case atStart => exact ⟨0, rfl, Nat.zero_le _, HB, HO⟩
      case round =>
        clear HB HO
        obtain ⟨i, rfl, hi, HB, HO⟩ := hrel
        by_cases hlt : i < m
        · have i1 : (i : Int) < (m : Int) := by omega
          have i0 : (0 : Int) ≤ (i : Int) := by omega
          go_wp2_with fail
          go_loopw [6] (fun s8 wr => MxRel w m g cc f (fun k => waSt a j i k) s8 wr) (fun s8 _ => m - (intOf s8).toNat)
          case atStart => exact ⟨0, rfl, Nat.zero_le _, HB, HO⟩
          case round =>
            clear HB HO
            obtain ⟨k, rfl, hk, HB, HO⟩ := hrel
            by_cases hltk : k < m
            · have k1 : (k : Int) < (m : Int) := by omega
              have k0 : (0 : Int) ≤ (k : Int) := by omega
              have q1 := HB.out.row hlt
              have r2 := (HB.out.cell hlt hltj).1
              replace r2 : wr.cell? ⟨f i, j, none⟩ = some (.bool (waSt a j i k i j)) := r2
              rw [wa_col] at r2
              by_cases haij : warR a j i j = true
              · obtain ⟨q2, q3⟩ := HB.out.cell hlt hltk
                have t1 := HB.out.row hltj
                have t2 := (HB.out.cell hltj hltk).1
                replace q2 : wr.cell? ⟨f i, k, none⟩ = some (.bool (waSt a j i k i k)) := q2
                replace t2 : wr.cell? ⟨f j, k, none⟩ = some (.bool (waSt a j i k j k)) := t2
                have HW : Hid (∀ v, v = (waSt a j i k i k || waSt a j i k j k) → MxRel w m g cc f (fun k => waSt a j i k) (.int .i64 ((k + 1 : Nat) : Int)) (wr.setCell ⟨f i, k, none⟩ (.bool v)).drew) := Lib.hid (by
                  rintro v rfl
                  exact ⟨k + 1, rfl, hltk, Lib.hid (((HB.out.set (k := k) hlt _).congr (fun i' k' _ _ => wa_step a j i k i' k' haij)).up (Old.refl _).drew), Lib.hid (HB.out.old HO.out (Nat.le_refl _) hlt _).drew⟩)
                have hm2' := HM2.out
                rw [haij] at r2
                rw [wa_self, wa_other] at HW
                rw [wa_self] at q2
                rw [wa_other] at t2
                clear haij
                generalize warR a j j k = y at *
                generalize warR a j i k = x at *
                clear HB HO
                cases x
                · have HF : Hid (y = (false || y)) := Lib.hid (by simp)
                  go_upto_region 11 with fail
                  refine wp_region_still_tail 22 (by kernel_rfl) (by kernel_rfl) ?_
                  simp only [List.take_succ_cons, List.take_zero, List.drop_succ_cons, List.drop_zero]
                  refine still_open (fun S HSW HSS HSN => ?_)
                  iterate 22 (refine HSW.out _ _ _ (by kernel_rfl) (fun K hK => ?_); go_simp; refine hK _ ?_; clear hK K)
                  refine HSN.out _ ?_
                  clear HSW HSS HSN
                  go_wp2_with fail
                  go_roundw
                  case rel => exact HW.out _ HF.out
                  case measure => simp [intOf]; omega
                · have HF : Hid (true = (true || y)) := Lib.hid (by simp)
                  go_upto_region 11 with fail
                  refine wp_region_still_tail 22 (by kernel_rfl) (by kernel_rfl) ?_
                  simp only [List.take_succ_cons, List.take_zero, List.drop_succ_cons, List.drop_zero]
                  refine still_open (fun S HSW HSS HSN => ?_)
                  iterate 13 (refine HSW.out _ _ _ (by kernel_rfl) (fun K hK => ?_); go_simp; refine hK _ ?_; clear hK K)
                  iterate 7 (refine HSS.out _ _ _ (by kernel_rfl) (fun K hK => ?_); go_simp; refine hK _ ?_; clear hK K)
                  iterate 2 (refine HSW.out _ _ _ (by kernel_rfl) (fun K hK => ?_); go_simp; refine hK _ ?_; clear hK K)
                  refine HSN.out _ ?_
                  clear HSW HSS HSN
                  go_wp2_with fail
                  go_roundw
                  case rel => exact HW.out _ HF.out
                  case measure => simp [intOf]; omega
              · have hfa : warR a j i j = false := by simpa using haij
                have HW : Hid (MxRel w m g cc f (fun i => waSt a j i 0) (.int .i64 ((i + 1 : Nat) : Int)) wr) := Lib.hid ⟨i + 1, rfl, hlt, Lib.hid (HB.out.congr (fun i' k' _ hk' => wa_row a m j i k i' k' hk' (Or.inr hfa))), HO⟩
                have hm2' := HM2.out
                rw [hfa] at r2
                clear HB HO haij hfa
                go_wp2_with fail
                go_roundw
                case rel => exact HW.out
                case measure => simp [intOf]; omega
            · obtain rfl : k = m := by omega
              have HW : Hid (MxRel w k g cc f (fun i => waSt a j i 0) (.int .i64 ((i + 1 : Nat) : Int)) wr) := Lib.hid ⟨i + 1, rfl, hlt, Lib.hid (HB.out.congr (fun i' k' _ hk' => wa_row a k j i k i' k' hk' (Or.inl rfl))), HO⟩
              have hm2' := HM2.out
              clear HB HO
              go_wp2_with fail
              go_roundw
              case rel => exact HW.out
              case measure => simp [intOf]; omega
        · obtain rfl : i = m := by omega
          have HW : Hid (MxRel w i g cc f (fun j => waSt a j 0 0) (.int .i64 ((j + 1 : Nat) : Int)) wr) := Lib.hid ⟨j + 1, rfl, hltj, Lib.hid (HB.out.congr (fun i' k' hi' _ => wa_round a i j i' k' hi')), HO⟩
          have hm2' := HM2.out
          clear HB HO
          go_wp2_with fail
          go_roundw
          case rel => exact HW.out
          case measure => simp [intOf]; omega
    · obtain rfl : j = m := by omega
      have HP : Hid (MatPost w j (starR j a) (.returned (.slice (some ⟨g, 0, none⟩) j cc)) wr) := Lib.hid ⟨_, rfl, ⟨g, cc, f, rfl, HB.out.congr (fun i' k' _ _ => wa_all a j i' k')⟩, HO.out⟩
      clear HB HO
      go_wp2_with fail
      go_ret
      exact HP.out
end Go.Proofs.Ytaajgdhoffhdcaa
/-
  The reference's relation of a node without kids.
-/
namespace Go.Proofs.Ytaajgdhoffhdcaa
open Go.RowKit
set_option linter.unusedVariables false

theorem fill_same (F : Nat → Nat → Bool) (i i' k' : Nat) (h0 : ∀ k, F i k = false) : fillR F i 0 i' k' = fillR F (i + 1) 0 i' k' := by
  unfold fillR
  by_cases h2 : i' < i
  · rw [if_pos (Or.inl h2), if_pos (by omega)]
  · by_cases h3 : i' = i
    · subst h3
      rw [if_neg (by omega), if_pos (by omega), h0]
    · rw [if_neg (by omega), if_neg (by omega)]
theorem wrap_nat (i : Nat) (h : i < 1000000) : IntKind.i64.wrap (i : Int) = i := by
  simp [IntKind.wrap, IntKind.signed, IntKind.bits]
  omega
def ndB (x : Nd) : Value := .agg #[.int .i64 x.kind, .int .i64 x.left, .int .i64 x.right, .int .u64 (setW x.set 0), .int .u64 (setW x.set 1), .int .u64 (setW x.set 2), .int .u64 (setW x.set 3)]
set_option maxHeartbeats 8000000 in
set_option maxRecDepth 100000 in
theorem rleafC (x : Nd) (hso : setOk x.set) (At : Option Addr) (ct : Nat) (t : List Nat) (w : World) (ht : Rs w At (txt t)) (h8 : ∀ c ∈ t, c < 256) (hm : t.length ≤ 99999) :
    Calls Try.prog 86 #[ndB x, .slice At t.length ct] w (MatPost w (t.length + 1) (leafR x t)) := by
  unfold ndB
  have HT := Lib.hid ht
  have H8 := Lib.hid h8
  have HM := Lib.hid hm
  have HSO := Lib.hid hso
  obtain ⟨kd, lf, rt, st⟩ := x
  simp only at HSO ⊢
  clear ht h8 hm hso
  have hb5 := heap_alloc_new w (.cells #[.int .i64 kd, .int .i64 lf, .int .i64 rt, .int .u64 (setW st 0), .int .u64 (setW st 1), .int .u64 (setW st 2), .int .u64 (setW st 3)] 48)
  have HOW := Lib.hid ((Old.refl w).alloc (.cells #[.int .i64 kd, .int .i64 lf, .int .i64 rt, .int .u64 (setW st 0), .int .u64 (setW st 1), .int .u64 (setW st 2), .int .u64 (setW st 3)] 48))
  have HMM : Hid (t.length ≤ 99999) := HM
  go_enter Try.func86, Try.ntmps86
  go_upto_region 1 with fail
  generalize w.alloc (.cells #[.int .i64 kd, .int .i64 lf, .int .i64 rt, .int .u64 (setW st 0), .int .u64 (setW st 1), .int .u64 (setW st 2), .int .u64 (setW st 3)] 48) = W at *
  have HB5 := Lib.hid hb5
  clear hb5
  have HE := Lib.hid (emptyC (t.length + 1) (by omega) (by have := HMM.out; omega) W)
  have hmx : t.length ≤ 99999 := HMM.out
  go_wp2_with fail
  refine (HE.out).mono ?_; rintro e w1 ⟨_, rfl, ⟨g, cc, f, rfl, hb⟩, ho⟩
  clear hmx
  have HB := Lib.hid (hb.congr (fun i k _ _ => fill_none (leafR ⟨kd, lf, rt, st⟩ t) i k))
  have HO := Lib.hid ho
  clear hb ho HE
  go_wp2_with fail
  go_loopw [7] (fun s7 wr => FillRel W (t.length + 1) g cc f (leafR ⟨kd, lf, rt, st⟩ t) s7 wr) (fun s7 _ => t.length + 1 - (intOf s7).toNat)
  case atStart => exact ⟨0, rfl, Nat.zero_le _, HB, HO⟩
  case round =>
    clear HB HO
    obtain ⟨i, rfl, hi, HB, HO⟩ := hrel
    by_cases hlt : i < t.length + 1
    · have i1 : (i : Int) ≤ (t.length : Int) := by omega
      have i3 : (i : Int) < (t.length : Int) + 1 := by omega
      have i0 : (0 : Int) ≤ (i : Int) := by omega
      have hmx : t.length ≤ 99999 := HMM.out
      have q1 := HB.out.row hlt
      obtain ⟨q2, q3⟩ := HB.out.cell hlt hlt
      have hd0 := HO.out.block HB5.out
      have d0 : wr.cell? ⟨w.heap.size, 0, none⟩ = some (.int .i64 kd) := by rw [cell_of_row wr _ 0 _ _ _ hd0]; rfl
      have HD := Lib.hid hd0
      clear hd0
      have HST := Lib.hid (fun (c : Nat) (hc : c < t.length + 1) (v : Bool) (hv : leafR ⟨kd, lf, rt, st⟩ t i c = v) (h0 : ∀ k, k ≠ c → leafR ⟨kd, lf, rt, st⟩ t i k = false) =>
        (show FillRel W (t.length + 1) g cc f (leafR ⟨kd, lf, rt, st⟩ t) (.int .i64 ((i + 1 : Nat) : Int)) (wr.setCell ⟨f i, c, none⟩ (.bool v)) from
          ⟨i + 1, rfl, hlt, Lib.hid ((HB.out.set (k := c) hlt v).congr (fun i' k' _ _ => fill_one _ i c i' k' v hv h0)), Lib.hid (HB.out.old HO.out (Nat.le_refl _) hlt v)⟩))
      have HDR : Hid (∀ (v : Value) (wz : World), FillRel W (t.length + 1) g cc f (leafR ⟨kd, lf, rt, st⟩ t) v wz → FillRel W (t.length + 1) g cc f (leafR ⟨kd, lf, rt, st⟩ t) v wz.drew) := Lib.hid (by
        intro v wz ⟨k, h1, h2, h3, h4⟩
        exact ⟨k, h1, h2, Lib.hid (h3.out.up (Old.refl _).drew), Lib.hid h4.out.drew⟩)
      by_cases k1 : kd = 1
      · have hk1 : (kd == 1) = true := by simpa using k1
        have HW := Lib.hid (HST.out i hlt true (by unfold leafR; rw [if_pos k1]; simp) (fun k hk => by unfold leafR; rw [if_pos k1]; simp; omega))
        clear HB HO HST HDR k1
        go_wp2_with fail
        go_roundw
        case rel => exact HW.out
        case measure => simp [intOf]; omega
      have hk1 : (kd == 1) = false := by simpa using k1
      by_cases k8 : kd = 8
      · have hk8 : (kd == 8) = true := by simpa using k8
        have HW := Lib.hid (fun v (hv : bolT t i = v) => HDR.out _ _ (HST.out i hlt v (by unfold leafR; rw [if_neg k1, if_pos k8, hv]; simp) (fun k hk => by unfold leafR; rw [if_neg k1, if_pos k8]; simp; omega)))
        clear HB HDR k1 k8 HST
        go_upto_region 10 with fail
        refine wp_region_still_tail 16 (by kernel_rfl) (by kernel_rfl) ?_
        simp only [List.take_succ_cons, List.take_zero, List.drop_succ_cons, List.drop_zero]
        refine still_open (fun S HSW HSS HSN => ?_)
        rcases Nat.eq_zero_or_pos i with rfl | hip
        · clear HO
          iterate 8 (refine HSW.out _ _ _ (by kernel_rfl) (fun K hK => ?_); go_simp; refine hK _ ?_; clear hK K)
          iterate 6 (refine HSS.out _ _ _ (by kernel_rfl) (fun K hK => ?_); go_simp; refine hK _ ?_; clear hK K)
          iterate 2 (refine HSW.out _ _ _ (by kernel_rfl) (fun K hK => ?_); go_simp; refine hK _ ?_; clear hK K)
          refine HSN.out _ ?_
          clear HSW HSS HSN
          go_wp2_with fail
          go_roundw
          case rel => exact HW.out true rfl
          case measure => simp [intOf]
        · obtain ⟨i, rfl⟩ : ∃ j, i = j + 1 := ⟨i - 1, by omega⟩
          obtain ⟨b, off, rfl, hbl, hcl⟩ := (HT.out.up (HOW.out.up HO.out)).at_ (by rw [txt_length]; omega)
          have c0 := hcl _ _ (txt_get t i (by omega))
          have HVB : Hid (bolT t (i + 1) = (((t.getD i 0 : Nat) : Int) == 10)) := Lib.hid (by
            unfold bolT
            have e2 : ((((t.getD i 0 : Nat) : Int) == 10)) = (t.getD i 0 == 10) := by rw [Bool.eq_iff_iff, beq_iff_eq, beq_iff_eq]; omega
            rw [e2]; simp)
          have b0 : ((i : Int) + 1 == 0) = false := by simp; omega
          have hwr := wrap_nat i (by omega)
          have i4 : (0 : Int) ≤ (i : Int) := by omega
          have i6 : (0 : Int) ≤ (i : Int) + 1 := by omega
          have i5 : (i : Int) < (t.length : Int) := by omega
          clear hcl hbl HO
          generalize t.getD i 0 = ch at *
          iterate 16 (refine HSW.out _ _ _ (by kernel_rfl) (fun K hK => ?_); go_simp; refine hK _ ?_; clear hK K)
          refine HSN.out _ ?_
          clear HSW HSS HSN
          go_wp2_with fail
          go_roundw
          case rel => exact HW.out _ HVB.out
          case measure => simp [intOf]; omega
      have hk8 : (kd == 8) = false := by simpa using k8
      by_cases k9 : kd = 9
      · have hk9 : (kd == 9) = true := by simpa using k9
        have HW := Lib.hid (fun v (hv : eolT t i = v) => HDR.out _ _ (HST.out i hlt v (by unfold leafR; rw [if_neg k1, if_neg k8, if_pos k9, hv]; simp) (fun k hk => by unfold leafR; rw [if_neg k1, if_neg k8, if_pos k9]; simp; omega)))
        clear HB HDR k1 k8 k9 HST
        go_upto_region 12 with fail
        refine wp_region_still_tail 16 (by kernel_rfl) (by kernel_rfl) ?_
        simp only [List.take_succ_cons, List.take_zero, List.drop_succ_cons, List.drop_zero]
        refine still_open (fun S HSW HSS HSN => ?_)
        by_cases hit : i < t.length
        · obtain ⟨b, off, rfl, hbl, hcl⟩ := (HT.out.up (HOW.out.up HO.out)).at_ (by rw [txt_length]; omega)
          have c0 := hcl _ _ (txt_get t i (by omega))
          have HVB : Hid (eolT t i = (((t.getD i 0 : Nat) : Int) == 10)) := Lib.hid (by
            unfold eolT
            have e2 : ((((t.getD i 0 : Nat) : Int) == 10)) = (t.getD i 0 == 10) := by rw [Bool.eq_iff_iff, beq_iff_eq, beq_iff_eq]; omega
            rw [e2, decide_eq_true hit]; rfl)
          have i5 : (i : Int) < (t.length : Int) := by omega
          clear hcl hbl HO
          generalize t.getD i 0 = ch at *
          iterate 16 (refine HSW.out _ _ _ (by kernel_rfl) (fun K hK => ?_); go_simp; refine hK _ ?_; clear hK K)
          refine HSN.out _ ?_
          clear HSW HSS HSN
          go_wp2_with fail
          go_roundw
          case rel => exact HW.out _ HVB.out
          case measure => simp [intOf]; omega
        · have HVB : Hid (eolT t i = false) := Lib.hid (by unfold eolT; rw [decide_eq_false hit]; rfl)
          have i5 : ¬ (i : Int) < (t.length : Int) := by omega
          clear HO
          iterate 9 (refine HSW.out _ _ _ (by kernel_rfl) (fun K hK => ?_); go_simp; refine hK _ ?_; clear hK K)
          iterate 5 (refine HSS.out _ _ _ (by kernel_rfl) (fun K hK => ?_); go_simp; refine hK _ ?_; clear hK K)
          iterate 2 (refine HSW.out _ _ _ (by kernel_rfl) (fun K hK => ?_); go_simp; refine hK _ ?_; clear hK K)
          refine HSN.out _ ?_
          clear HSW HSS HSN
          go_wp2_with fail
          go_roundw
          case rel => exact HW.out _ HVB.out
          case measure => simp [intOf]; omega
      have hk9 : (kd == 9) = false := by simpa using k9
      by_cases k2 : kd = 2
      · have hk2 : (kd == 2) = true := by simpa using k2
        have d3 : wr.cell? ⟨w.heap.size, 3, none⟩ = some (.int .u64 (setW st 0)) := by rw [cell_of_row wr _ 3 _ _ _ HD.out]; rfl
        have d4 : wr.cell? ⟨w.heap.size, 4, none⟩ = some (.int .u64 (setW st 1)) := by rw [cell_of_row wr _ 4 _ _ _ HD.out]; rfl
        have d5 : wr.cell? ⟨w.heap.size, 5, none⟩ = some (.int .u64 (setW st 2)) := by rw [cell_of_row wr _ 5 _ _ _ HD.out]; rfl
        have d6 : wr.cell? ⟨w.heap.size, 6, none⟩ = some (.int .u64 (setW st 3)) := by rw [cell_of_row wr _ 6 _ _ _ HD.out]; rfl
        by_cases hit : i < t.length
        · obtain ⟨b, off, rfl, hbl, hcl⟩ := (HT.out.up (HOW.out.up HO.out)).at_ (by rw [txt_length]; omega)
          have c0 := hcl _ _ (txt_get t i (by omega))
          have i5 : (i : Int) < (t.length : Int) := by omega
          have HHC := Lib.hid (fun w' => hasC st (t.getD i 0) (H8.out _ (by rw [List.getD_eq_getElem?_getD, List.getElem?_eq_getElem hit]; exact List.getElem_mem hit)) w')
          have HLF : Hid (∀ k, leafR ⟨kd, lf, rt, st⟩ t i k = (hasB st (t.getD i 0) && (k == i + 1))) := Lib.hid (fun k => by unfold leafR; rw [if_neg k1, if_neg k8, if_neg k9, if_pos k2]; simp [hit])
          clear hcl hbl k1 k8 k9 k2 HST
          generalize hasB st (t.getD i 0) = hb at *
          generalize t.getD i 0 = ch at *
          go_upto_region 14 with fail
          refine wp_region_still_tail 10 (by kernel_rfl) (by kernel_rfl) ?_
          simp only [List.take_succ_cons, List.take_zero, List.drop_succ_cons, List.drop_zero]
          refine still_open (fun S HSW HSS HSN => ?_)
          iterate 10 (refine HSW.out _ _ _ (by kernel_rfl) (fun K hK => ?_); go_simp; refine hK _ ?_; clear hK K)
          refine HSN.out _ ?_
          clear HSW HSS HSN d0 d3 d4 d5 d6
          go_wp2_with fail
          refine (HHC.out _).mono ?_; rintro e w5 ⟨rfl, hd5⟩
          have HO5 := Lib.hid ((Old.refl wr).drew.up hd5)
          clear hd5 HHC
          cases hb with
          | false =>
            have HW : Hid (FillRel W (t.length + 1) g cc f (leafR ⟨kd, lf, rt, st⟩ t) (.int .i64 ((i + 1 : Nat) : Int)) w5) := Lib.hid ⟨i + 1, rfl, hlt, Lib.hid ((HB.out.up HO5.out).congr (fun i' k' _ _ => fill_same _ i i' k' (fun k => by rw [HLF.out]; rfl))), Lib.hid (HO.out.up HO5.out)⟩
            clear HB HO HDR HLF
            go_wp2_with fail
            go_roundw
            case rel => exact HW.out
            case measure => simp [intOf]; omega
          | true =>
            have hl2 : i + 1 < t.length + 1 := by omega
            obtain ⟨z2, z3⟩ := (HB.out.up HO5.out).cell hlt hl2
            have z1 := (HB.out.up HO5.out).row hlt
            have i6 : (0 : Int) ≤ (i : Int) + 1 := by omega
            have HW : Hid (FillRel W (t.length + 1) g cc f (leafR ⟨kd, lf, rt, st⟩ t) (.int .i64 ((i + 1 : Nat) : Int)) (w5.setCell ⟨f i, i + 1, none⟩ (.bool true))) := Lib.hid
              ⟨i + 1, rfl, hlt, Lib.hid (((HB.out.up HO5.out).set (k := i + 1) hlt true).congr (fun i' k' _ _ => fill_one _ i (i + 1) i' k' true (by rw [HLF.out]; simp) (fun k hk => by rw [HLF.out]; simp; omega))), Lib.hid ((HB.out.up HO5.out).old (HO.out.up HO5.out) (Nat.le_refl _) hlt true)⟩
            clear HB HO HDR HLF q1 q2 q3 c0
            go_wp2_with fail
            go_roundw
            case rel => exact HW.out
            case measure => simp [intOf]; omega
        · have i5 : ¬ (i : Int) < (t.length : Int) := by omega
          have HW : Hid (FillRel W (t.length + 1) g cc f (leafR ⟨kd, lf, rt, st⟩ t) (.int .i64 ((i + 1 : Nat) : Int)) wr.drew) := Lib.hid (HDR.out _ _ ⟨i + 1, rfl, hlt, Lib.hid (HB.out.congr (fun i' k' _ _ => fill_same _ i i' k' (fun k => by unfold leafR; rw [if_neg k1, if_neg k8, if_neg k9, if_pos k2]; simp [hit]))), HO⟩)
          clear HB HO HDR k1 k8 k9 k2 HST
          go_upto_region 14 with fail
          refine wp_region_still_tail 10 (by kernel_rfl) (by kernel_rfl) ?_
          simp only [List.take_succ_cons, List.take_zero, List.drop_succ_cons, List.drop_zero]
          refine still_open (fun S HSW HSS HSN => ?_)
          iterate 4 (refine HSW.out _ _ _ (by kernel_rfl) (fun K hK => ?_); go_simp; refine hK _ ?_; clear hK K)
          iterate 6 (refine HSS.out _ _ _ (by kernel_rfl) (fun K hK => ?_); go_simp; refine hK _ ?_; clear hK K)
          refine HSN.out _ ?_
          clear HSW HSS HSN
          go_wp2_with fail
          go_roundw
          case rel => exact HW.out
          case measure => simp [intOf]; omega
      · have hk2 : (kd == 2) = false := by simpa using k2
        have HW : Hid (FillRel W (t.length + 1) g cc f (leafR ⟨kd, lf, rt, st⟩ t) (.int .i64 ((i + 1 : Nat) : Int)) wr) := Lib.hid ⟨i + 1, rfl, hlt, Lib.hid (HB.out.congr (fun i' k' _ _ => fill_same _ i i' k' (fun k => by unfold leafR; rw [if_neg k1, if_neg k8, if_neg k9, if_neg k2]))), HO⟩
        clear HB HO HST HDR k1 k8 k9 k2
        go_wp2_with fail
        go_roundw
        case rel => exact HW.out
        case measure => simp [intOf]; omega
    · obtain rfl : i = t.length + 1 := by omega
      have HP : Hid (MatPost w (t.length + 1) (leafR ⟨kd, lf, rt, st⟩ t) (.returned (.slice (some ⟨g, 0, none⟩) (t.length + 1) cc)) wr) := Lib.hid ⟨_, rfl, ⟨g, cc, f, rfl, (HB.out.congr (fun i' k' hi' _ => fill_all _ _ i' k' hi')).base_ HOW.out.size⟩, HOW.out.up HO.out⟩
      have hmx : t.length ≤ 99999 := HMM.out
      clear HB HO
      go_wp2_with fail
      go_ret
      exact HP.out
end Go.Proofs.Ytaajgdhoffhdcaa
/-
  The reference's relation of the root; some; First.
-/
namespace Go.Proofs.Ytaajgdhoffhdcaa
open Go.RowKit
set_option linter.unusedVariables false

theorem info_al : (Try.prog.info? 77).map (fun i => (i.zero, i.size, i.bytes)) = some (some (.slice none 0 0), 1, 24) := by kernel_rfl
theorem notHit_of {m : Nat} {R : Nat → Nat → Bool} (h : ∀ i k, i < m → k < m → R i k = false) : someR m R = false := by
  cases hs : someR m R with
  | false => rfl
  | true =>
    obtain ⟨i, k, h1, h2, h3⟩ := (someR_iff m R).1 hs
    rw [h i k h1 h2] at h3
    cases h3
def SmI (w : World) (m : Nat) (R : Nat → Nat → Bool) (v : Value) (wr : World) : Prop := ∃ i : Nat, v = .int .i64 i ∧ i ≤ m ∧ Hid (∀ i' k, i' < i → k < m → R i' k = false) ∧ w = wr
def SmK (w : World) (m : Nat) (R : Nat → Nat → Bool) (i : Nat) (v : Value) (wr : World) : Prop := ∃ k : Nat, v = .int .i64 k ∧ k ≤ m ∧ Hid (∀ k', k' < k → R i k' = false) ∧ w = wr
set_option maxHeartbeats 4000000 in
set_option maxRecDepth 100000 in
theorem someC (m : Nat) (hm2 : m ≤ 100000) (v : Value) (b : Nat) (R : Nat → Nat → Bool) (w : World) (h : MatV w b v m R) :
    Calls Try.prog 50 #[v] w (ValSame (.bool (someR m R)) w) := by
  obtain ⟨g, cc, f, rfl, hB⟩ := h
  have HB := Lib.hid hB
  have HM2 := Lib.hid hm2
  clear hB hm2
  go_enter Try.func50, Try.ntmps50
  go_wp2_with fail
  go_loopw [3] (fun s3 wr => SmI w m R s3 wr) (fun s3 _ => m - (intOf s3).toNat)
  case atStart => exact ⟨0, rfl, Nat.zero_le _, Lib.hid (fun i' k h => by omega), rfl⟩
  case round =>
    obtain ⟨i, rfl, hi, HI, rfl⟩ := hrel
    by_cases hlt : i < m
    · have i1 : (i : Int) < (m : Int) := by omega
      have i0 : (0 : Int) ≤ (i : Int) := by omega
      go_wp2_with fail
      go_loopw [4] (fun s4 wr => SmK w m R i s4 wr) (fun s4 _ => m - (intOf s4).toNat)
      case atStart => exact ⟨0, rfl, Nat.zero_le _, Lib.hid (fun k h => by omega), rfl⟩
      case round =>
        obtain ⟨k, rfl, hk, HK, rfl⟩ := hrel
        have hm2' := HM2.out
        by_cases hltk : k < m
        · have k1 : (k : Int) < (m : Int) := by omega
          have k0 : (0 : Int) ≤ (k : Int) := by omega
          have q1 := HB.out.row hlt
          have q2 := (HB.out.cell hlt hltk).1
          cases hR : R i k with
          | true =>
            have HS : Hid (someR m R = true) := Lib.hid ((someR_iff m R).2 ⟨i, k, hlt, hltk, hR⟩)
            rw [hR] at q2
            clear hR
            go_wp2_with fail
            go_ret
            rw [HS.out]
            exact ⟨rfl, rfl⟩
          | false =>
            have HW : Hid (SmK w m R i (.int .i64 ((k + 1 : Nat) : Int)) w) := Lib.hid ⟨k + 1, rfl, hltk, Lib.hid (fun k' hk' => by
              by_cases e : k' = k
              · subst e; exact hR
              · exact HK.out k' (by omega)), rfl⟩
            rw [hR] at q2
            clear hR
            go_wp2_with fail
            go_roundw
            case rel => exact HW.out
            case measure => simp [intOf]; omega
        · obtain rfl : k = m := by omega
          have HW : Hid (SmI w k R (.int .i64 ((i + 1 : Nat) : Int)) w) := Lib.hid ⟨i + 1, rfl, hlt, Lib.hid (fun i' k' hi' hk' => by
            by_cases e : i' = i
            · subst e; exact HK.out k' hk'
            · exact HI.out i' k' (by omega) hk'), rfl⟩
          go_wp2_with fail
          go_roundw
          case rel => exact HW.out
          case measure => simp [intOf]; omega
    · obtain rfl : i = m := by omega
      have HS : Hid (someR i R = false) := Lib.hid (notHit_of (fun i' k hi' hk => HI.out i' k hi' hk))
      go_wp2_with fail
      go_ret
      rw [HS.out]
      exact ⟨rfl, rfl⟩
def RootRel (w : World) (m : Nat) (l : List Nd) (t : List Nat) (v ix : Value) (wr : World) : Prop :=
  ∃ (n : Nat) (vs : Nat → Value), ix = .int .i64 n ∧ n ≤ l.length ∧ Hid (Own wr w.heap.size 77 1 v n ((List.range n).map vs)) ∧ Hid (∀ i, i < n → MatV wr w.heap.size (vs i) m (allR l t n i)) ∧ Hid (Old w wr)
def RootCut (w W : World) (m : Nat) (R : Nat → Nat → Bool) (v : Value) (wx : World) : Prop := Hid (MatV wx w.heap.size v m R) ∧ Hid (Old W wx)
theorem range_get {n i : Nat} (vs : Nat → Value) (h : i < n) : ((List.range n).map vs)[i]? = some (vs i) := by simp [h]
theorem mat_grown {w w' : World} {base base' m n : Nat} {v va : Value} {R : Nat → Nat → Bool} {xs : List Value} (h : MatV w base v m R) (hown : Own w base' 77 1 va n xs) (hg : w.grownBy w' va.ownBlock) : MatV w' base v m R := by
  obtain ⟨g, cc, f, rfl, hb⟩ := h
  exact ⟨g, cc, f, rfl, ⟨Own.grown hb.outer hown (by decide) hg, fun i hi => Own.grown (hb.rows i hi) hown (by decide) hg, hb.inj, hb.baseF⟩⟩
set_option maxHeartbeats 8000000 in
set_option maxRecDepth 100000 in
theorem rootC (A At : Option Addr) (c ct : Nat) (l : List Nd) (t : List Nat) (w : World) (hr : Rs w A (ndsV l)) (hv : validM l = true) (hso : ∀ x ∈ l, setOk x.set) (ht : Rs w At (txt t)) (h8 : ∀ c ∈ t, c < 256) (hm : t.length ≤ 99999) :
    Calls Try.prog 51 #[.slice A l.length c, .slice At t.length ct] w (MatPost w (t.length + 1) (rootR l t)) := by
  have HR := Lib.hid hr
  have HT := Lib.hid ht
  have H8 := Lib.hid h8
  have HM := Lib.hid hm
  have HSO := Lib.hid hso
  have HSUB := Lib.hid (validM_sub hv)
  have HLN := Lib.hid (validM_len hv)
  clear hr ht h8 hm hso hv
  go_enter Try.func51, Try.ntmps51
  go_wp2_with fail
  go_loopw [5, 6] (fun s5 s6 wr => RootRel w (t.length + 1) l t s5 s6 wr) (fun _ s6 _ => l.length - (intOf s6).toNat)
  case atStart => exact ⟨0, fun _ => undef, rfl, Nat.zero_le _, Lib.hid (Own.nil_ _ _ _ _), Lib.hid (fun i hi => by omega), Lib.hid (Old.refl _)⟩
  case round =>
    obtain ⟨n, vs, rfl, hn, HO, HMV, HD⟩ := hrel
    have hll : l.length ≤ 256 := HLN.out.2
    by_cases hlt : n < l.length
    · have i1 : (n : Int) < (l.length : Int) := by omega
      have i0 : (0 : Int) ≤ (n : Int) := by omega
      obtain ⟨b, off, rfl, hbl, hcl⟩ := (HR.out.up HD.out).at_ (by rw [ndsV_length]; omega)
      have hx : l[n]? = some (nd l n) := by unfold nd; rw [List.getD_eq_getElem?_getD, List.getElem?_eq_getElem hlt]; rfl
      have hg := ndsV_get l n _ hx
      have c0 := hcl _ _ (hg 0 (by omega))
      have c1 := hcl _ _ (hg 1 (by omega))
      have c2 := hcl _ _ (hg 2 (by omega))
      have c3 := hcl _ _ (hg 3 (by omega))
      have c4 := hcl _ _ (hg 4 (by omega))
      have c5 := hcl _ _ (hg 5 (by omega))
      have c6 := hcl _ _ (hg 6 (by omega))
      rw [← Nat.add_assoc] at c0 c1 c2 c3 c4 c5 c6
      rw [Nat.add_zero] at c0
      have HSX : Hid (setOk (nd l n).set) := Lib.hid (HSO.out _ (List.mem_of_getElem? hx))
      have hkd := HSUB.out.kids_lt hlt
      have HNR : Hid (allR l t (n + 1) = fun i => if i = n then nodeR (nd l n) t (allR l t n) else allR l t n i) := Lib.hid rfl
      clear hx hg hcl hbl
      generalize nd l n = x at *
      obtain ⟨kd, lf, rt, st⟩ := x
      replace c0 : wr.cell? ⟨b, off + n * 7, none⟩ = some (.int .i64 kd) := c0
      replace c1 : wr.cell? ⟨b, off + n * 7 + 1, none⟩ = some (.int .i64 lf) := c1
      replace c2 : wr.cell? ⟨b, off + n * 7 + 2, none⟩ = some (.int .i64 rt) := c2
      replace c3 : wr.cell? ⟨b, off + n * 7 + 3, none⟩ = some (.int .u64 (setW st 0)) := c3
      replace c4 : wr.cell? ⟨b, off + n * 7 + 4, none⟩ = some (.int .u64 (setW st 1)) := c4
      replace c5 : wr.cell? ⟨b, off + n * 7 + 5, none⟩ = some (.int .u64 (setW st 2)) := c5
      replace c6 : wr.cell? ⟨b, off + n * 7 + 6, none⟩ = some (.int .u64 (setW st 3)) := c6
      obtain ⟨A5, c5', rfl, hts5, _, _⟩ := HO.out.shape
      clear hts5
      go_upto_region 6 with fail
      have hb5 := heap_alloc_new wr (.cells #[.int .i64 kd, .int .i64 lf, .int .i64 rt, .int .u64 (setW st 0), .int .u64 (setW st 1), .int .u64 (setW st 2), .int .u64 (setW st 3)] 48)
      have hoW := (Old.refl wr).alloc (.cells #[.int .i64 kd, .int .i64 lf, .int .i64 rt, .int .u64 (setW st 0), .int .u64 (setW st 1), .int .u64 (setW st 2), .int .u64 (setW st 3)] 48)
      generalize wr.alloc (.cells #[.int .i64 kd, .int .i64 lf, .int .i64 rt, .int .u64 (setW st 0), .int .u64 (setW st 1), .int .u64 (setW st 2), .int .u64 (setW st 3)] 48) = W at *
      clear c0 c1 c2 c3 c4 c5 c6
      have d0 : W.cell? ⟨wr.heap.size, 0, none⟩ = some (.int .i64 kd) := by rw [cell_of_row W _ 0 _ _ _ hb5]; rfl
      have d1 : W.cell? ⟨wr.heap.size, 1, none⟩ = some (.int .i64 lf) := by rw [cell_of_row W _ 1 _ _ _ hb5]; rfl
      have d2 : W.cell? ⟨wr.heap.size, 2, none⟩ = some (.int .i64 rt) := by rw [cell_of_row W _ 2 _ _ _ hb5]; rfl
      have d3 : W.cell? ⟨wr.heap.size, 3, none⟩ = some (.int .u64 (setW st 0)) := by rw [cell_of_row W _ 3 _ _ _ hb5]; rfl
      have d4 : W.cell? ⟨wr.heap.size, 4, none⟩ = some (.int .u64 (setW st 1)) := by rw [cell_of_row W _ 4 _ _ _ hb5]; rfl
      have d5 : W.cell? ⟨wr.heap.size, 5, none⟩ = some (.int .u64 (setW st 2)) := by rw [cell_of_row W _ 5 _ _ _ hb5]; rfl
      have d6 : W.cell? ⟨wr.heap.size, 6, none⟩ = some (.int .u64 (setW st 3)) := by rw [cell_of_row W _ 6 _ _ _ hb5]; rfl
      have HOW : Hid (Own W w.heap.size 77 1 (.slice A5 n c5') n ((List.range n).map vs)) := Lib.hid (HO.out.up hoW)
      have HMW : Hid (∀ i, i < n → MatV W w.heap.size (vs i) (t.length + 1) (allR l t n i)) := Lib.hid (fun i hi => (HMV.out i hi).up hoW)
      have HDW : Hid (Old w W) := Lib.hid (HD.out.up hoW)
      clear hb5 hoW HO HMV HD
      generalize wr.heap.size = k7 at *
      go_upto_block 2 with fail
      go_cut [8] (fun s8 wx => RootCut w W (t.length + 1) (nodeR ⟨kd, lf, rt, st⟩ t (allR l t n)) s8 wx)
      case rest =>
        obtain ⟨HV8, HX8⟩ := hcut
        have HO8 := Lib.hid (HOW.out.up HX8.out)
        have HM8 : Hid (∀ i, i < n → MatV wc w.heap.size (vs i) (t.length + 1) (allR l t n i)) := Lib.hid (fun i hi => (HMW.out i hi).up HX8.out)
        have HD8 := Lib.hid (HDW.out.up HX8.out)
        have HB8 : Hid (w.heap.size ≤ wc.heap.size) := Lib.hid HD8.out.size
        clear HOW HMW HDW HX8 d0 d1 d2 d3 d4 d5 d6 hkd
        obtain ⟨g8, cc8, f8, rfl, hb8⟩ := HV8.out
        clear hb8
        go_wp2_with (at_builtin; refine wpList_push (wr := wc) rfl _ _ 127 rfl _ 77 (.slice none 0 0) 1 24 Try.underlying127 info_al rfl (by decide) (by decide) _ _ _ rfl HO8.out 1 1 [.slice (some ⟨g8, 0, none⟩) (t.length + 1) cc8] rfl rfl rfl rfl ?pn1 HB8.out ?_)
        case pn1 => omega
        intro v' w9 ho hg hd
        have HW : Hid (RootRel w (t.length + 1) l t v' (.int .i64 ((n + 1 : Nat) : Int)) w9) := Lib.hid (by
          refine ⟨n + 1, fun i => if i = n then .slice (some ⟨g8, 0, none⟩) (t.length + 1) cc8 else vs i, rfl, hlt, Lib.hid ?_, Lib.hid (fun i hi => ?_), Lib.hid (hd w HD8.out (Nat.le_refl _))⟩
          · simp only [range_snoc, if_true]
            have e : (List.range n).map (fun i => if i = n then Value.slice (some ⟨g8, 0, none⟩) (t.length + 1) cc8 else vs i) = (List.range n).map vs := by
              apply List.map_congr_left
              intro i hi
              rw [if_neg (by have := List.mem_range.mp hi; omega)]
            rw [e]
            exact ho
          · rw [HNR.out]
            by_cases e : i = n
            · simp only [if_pos e]
              exact mat_grown HV8.out HO8.out hg
            · simp only [if_neg e]
              exact mat_grown (HM8.out i (by omega)) HO8.out hg)
        clear ho hg hd HO8 HM8 HV8 HD8
        go_wp2_with fail
        go_roundw
        case rel => exact HW.out
        case measure => simp [intOf]; omega
      case first =>
        clear HNR
        have hmm : 1 ≤ t.length + 1 := by omega
        have hmm2 : t.length + 1 ≤ 100000 := by have := HM.out; omega
        have HMA := Lib.hid hmm
        have HMB := Lib.hid hmm2
        clear hmm hmm2
        rcases hkd with hkd | ⟨hkd, a, hL, ha⟩ | ⟨hkd, a, e, hL, hR, ha, he⟩
        · have HLC := rleafC ⟨kd, lf, rt, st⟩ HSX.out At ct t W (HT.out.up HDW.out) H8.out HM.out
          unfold ndB at HLC
          have HL := Lib.hid HLC
          clear HLC HOW HMW
          rcases hkd with rfl | rfl | rfl | rfl
          · have HN : Hid (nodeR ⟨1, lf, rt, st⟩ t (allR l t n) = leafR ⟨1, lf, rt, st⟩ t) := Lib.hid (rfl)
            go_wp2_with fail
            refine (HL.out).mono ?_; rintro e w2 ⟨_, rfl, ⟨g8, cc8, f8, rfl, hb8⟩, o2⟩
            have HRC : Hid (RootCut w W (t.length + 1) (nodeR ⟨1, lf, rt, st⟩ t (allR l t n)) (.slice (some ⟨g8, 0, none⟩) (t.length + 1) cc8) w2) := Lib.hid (by
              rw [HN.out]
              exact ⟨Lib.hid ⟨g8, cc8, f8, rfl, hb8.base_ HDW.out.size⟩, Lib.hid o2⟩)
            clear hb8 o2 HL
            go_wp2_with fail
            go_meet
            exact HRC.out
          · have HN : Hid (nodeR ⟨2, lf, rt, st⟩ t (allR l t n) = leafR ⟨2, lf, rt, st⟩ t) := Lib.hid (rfl)
            go_wp2_with fail
            refine (HL.out).mono ?_; rintro e w2 ⟨_, rfl, ⟨g8, cc8, f8, rfl, hb8⟩, o2⟩
            have HRC : Hid (RootCut w W (t.length + 1) (nodeR ⟨2, lf, rt, st⟩ t (allR l t n)) (.slice (some ⟨g8, 0, none⟩) (t.length + 1) cc8) w2) := Lib.hid (by
              rw [HN.out]
              exact ⟨Lib.hid ⟨g8, cc8, f8, rfl, hb8.base_ HDW.out.size⟩, Lib.hid o2⟩)
            clear hb8 o2 HL
            go_wp2_with fail
            go_meet
            exact HRC.out
          · have HN : Hid (nodeR ⟨8, lf, rt, st⟩ t (allR l t n) = leafR ⟨8, lf, rt, st⟩ t) := Lib.hid (rfl)
            go_wp2_with fail
            refine (HL.out).mono ?_; rintro e w2 ⟨_, rfl, ⟨g8, cc8, f8, rfl, hb8⟩, o2⟩
            have HRC : Hid (RootCut w W (t.length + 1) (nodeR ⟨8, lf, rt, st⟩ t (allR l t n)) (.slice (some ⟨g8, 0, none⟩) (t.length + 1) cc8) w2) := Lib.hid (by
              rw [HN.out]
              exact ⟨Lib.hid ⟨g8, cc8, f8, rfl, hb8.base_ HDW.out.size⟩, Lib.hid o2⟩)
            clear hb8 o2 HL
            go_wp2_with fail
            go_meet
            exact HRC.out
          · have HN : Hid (nodeR ⟨9, lf, rt, st⟩ t (allR l t n) = leafR ⟨9, lf, rt, st⟩ t) := Lib.hid (rfl)
            go_wp2_with fail
            refine (HL.out).mono ?_; rintro e w2 ⟨_, rfl, ⟨g8, cc8, f8, rfl, hb8⟩, o2⟩
            have HRC : Hid (RootCut w W (t.length + 1) (nodeR ⟨9, lf, rt, st⟩ t (allR l t n)) (.slice (some ⟨g8, 0, none⟩) (t.length + 1) cc8) w2) := Lib.hid (by
              rw [HN.out]
              exact ⟨Lib.hid ⟨g8, cc8, f8, rfl, hb8.base_ HDW.out.size⟩, Lib.hid o2⟩)
            clear hb8 o2 HL
            go_wp2_with fail
            go_meet
            exact HRC.out
        · subst hL
          obtain ⟨g5, cc5, h5, _, _, _, _⟩ := HOW.out.form (by omega)
          injection h5 with h5 _ h6
          subst h5
          clear h6
          have q1 := (HOW.out.cellAt (range_get vs ha)).1
          have a0 : (0 : Int) ≤ (a : Int) := by omega
          have a1 : (a : Int) < (n : Int) := by omega
          obtain ⟨ga, ca, fa, hva, hba⟩ := HMW.out a ha
          rw [hva] at q1
          have HVA : Hid (MatV W w.heap.size (.slice (some ⟨ga, 0, none⟩) (t.length + 1) ca) (t.length + 1) (allR l t n a)) := Lib.hid ⟨ga, ca, fa, rfl, hba⟩
          have HSZ : Hid (w.heap.size ≤ W.heap.size) := Lib.hid HDW.out.size
          clear hba hva HOW HMW HDW HSX
          generalize HFA : allR l t n a = Fa at *
          rcases hkd with rfl | rfl | rfl
          · have HN : Hid (nodeR ⟨5, (a : Int), rt, st⟩ t (allR l t n) = starR (t.length + 1) Fa) := Lib.hid (by rw [← HFA]; rfl)
            have HC := Lib.hid (starC (t.length + 1) HMA.out HMB.out _ _ _ W HVA.out)
            clear HFA HVA
            go_wp2_with fail
            refine (HC.out).mono ?_; rintro e w2 ⟨_, rfl, ⟨g8, cc8, f8, rfl, hb8⟩, o2⟩
            have HRC : Hid (RootCut w W (t.length + 1) (nodeR ⟨5, (a : Int), rt, st⟩ t (allR l t n)) (.slice (some ⟨g8, 0, none⟩) (t.length + 1) cc8) w2) := Lib.hid (by
              rw [HN.out]
              exact ⟨Lib.hid ⟨g8, cc8, f8, rfl, hb8.base_ HSZ.out⟩, Lib.hid o2⟩)
            clear hb8 o2 HC
            go_wp2_with fail
            go_meet
            exact HRC.out
          · have HN : Hid (nodeR ⟨6, (a : Int), rt, st⟩ t (allR l t n) = thenR (t.length + 1) Fa (starR (t.length + 1) Fa)) := Lib.hid (by rw [← HFA]; rfl)
            have HC := Lib.hid (fun w' (h : Old W w') => starC (t.length + 1) HMA.out HMB.out _ _ _ w' (HVA.out.up h))
            have HC2 := Lib.hid (fun v2 b2 w' (h : Old W w') (h2 : MatV w' b2 v2 (t.length + 1) (starR (t.length + 1) Fa)) => thenC (t.length + 1) HMA.out HMB.out _ v2 _ b2 _ _ w' (HVA.out.up h) h2)
            clear HFA HVA
            go_upto_region 16 with fail
            go_region_held3 (fun w' => w'.cell? ⟨k7, 1, none⟩ = some (.int .i64 (a : Int)) ∧ w'.cell? ⟨g5, a, none⟩ = some (.slice (some ⟨ga, 0, none⟩) (t.length + 1) ca)) (refine ⟨Old.cell (w := W) ?_ d1, Old.cell (w := W) ?_ q1⟩ <;> (repeat (first | exact Old.refl _ | exact (Old.refl _).drew | refine Old.up ?_ o4 | refine Old.up ?_ o2 | refine Old.drew ?_))) (first | (go_at_call 84; refine (HC.out _ (by repeat (first | exact Old.refl _ | exact (Old.refl _).drew | refine Old.drew ?_))).mono ?_; rintro e w2 ⟨_, rfl, ⟨g8, cc8, f8, rfl, hb8⟩, o2⟩) | (go_at_call 82; refine (HC2.out _ _ _ (by repeat (first | exact Old.refl _ | exact (Old.refl _).drew | refine Old.up ?_ o2 | refine Old.drew ?_)) ⟨g8, cc8, f8, rfl, hb8⟩).mono ?_; rintro e w4 ⟨_, rfl, ⟨g9, cc9, f9, rfl, hb9⟩, o4⟩))
            have HRC : Hid (RootCut w W (t.length + 1) (nodeR ⟨6, (a : Int), rt, st⟩ t (allR l t n)) (.slice (some ⟨g9, 0, none⟩) (t.length + 1) cc9) w4) := Lib.hid (by
              rw [HN.out]
              exact ⟨Lib.hid ⟨g9, cc9, f9, rfl, hb9.base_ (Nat.le_trans HSZ.out o2.size)⟩, Lib.hid (by repeat (first | exact Old.refl _ | exact (Old.refl _).drew | refine Old.up ?_ o4 | refine Old.up ?_ o2 | refine Old.drew ?_))⟩)
            clear hb9 o2 o4 HC HC2
            go_wp2_with fail
            go_meet
            exact HRC.out
          · have HN : Hid (nodeR ⟨7, (a : Int), rt, st⟩ t (allR l t n) = bothR stayR Fa) := Lib.hid (by rw [← HFA]; rfl)
            have HC : Hid (∀ w', Calls Try.prog 85 #[.int .i64 ((t.length : Int) + 1)] w' (MatPost w' (t.length + 1) stayR)) := Lib.hid (fun w' => stayC (t.length + 1) HMA.out HMB.out w')
            have HC2 := Lib.hid (fun v2 b2 w' (h : Old W w') (h2 : MatV w' b2 v2 (t.length + 1) stayR) => bothC (t.length + 1) HMA.out HMB.out v2 _ b2 _ _ _ w' h2 (HVA.out.up h))
            have hmx : t.length ≤ 99999 := HM.out
            clear HFA HVA
            have hwr : IntKind.i64.wrap ((t.length : Int) + 1) = (t.length : Int) + 1 := by
              have := wrap_nat (t.length + 1) (by omega)
              exact_mod_cast this
            go_upto_region 18 with fail
            go_region_held3 (fun w' => w'.cell? ⟨k7, 1, none⟩ = some (.int .i64 (a : Int)) ∧ w'.cell? ⟨g5, a, none⟩ = some (.slice (some ⟨ga, 0, none⟩) (t.length + 1) ca)) (refine ⟨Old.cell (w := W) ?_ d1, Old.cell (w := W) ?_ q1⟩ <;> (repeat (first | exact Old.refl _ | exact (Old.refl _).drew | refine Old.up ?_ o4 | refine Old.up ?_ o2 | refine Old.drew ?_))) (first | (go_at_call 85; refine (HC.out _).mono ?_; rintro e w2 ⟨_, rfl, ⟨g8, cc8, f8, rfl, hb8⟩, o2⟩) | (go_at_call 83; refine (HC2.out _ _ _ (by repeat (first | exact Old.refl _ | exact (Old.refl _).drew | refine Old.up ?_ o2 | refine Old.drew ?_)) ⟨g8, cc8, f8, rfl, hb8⟩).mono ?_; rintro e w4 ⟨_, rfl, ⟨g9, cc9, f9, rfl, hb9⟩, o4⟩))
            have HRC : Hid (RootCut w W (t.length + 1) (nodeR ⟨7, (a : Int), rt, st⟩ t (allR l t n)) (.slice (some ⟨g9, 0, none⟩) (t.length + 1) cc9) w4) := Lib.hid (by
              rw [HN.out]
              exact ⟨Lib.hid ⟨g9, cc9, f9, rfl, hb9.base_ (Nat.le_trans HSZ.out o2.size)⟩, Lib.hid (by repeat (first | exact Old.refl _ | exact (Old.refl _).drew | refine Old.up ?_ o4 | refine Old.up ?_ o2 | refine Old.drew ?_))⟩)
            clear hb9 o2 o4 HC HC2
            go_wp2_with fail
            go_meet
            exact HRC.out
        · subst hL
          subst hR
          obtain ⟨g5, cc5, h5, _, _, _, _⟩ := HOW.out.form (by omega)
          injection h5 with h5 _ h6
          subst h5
          clear h6
          have q1 := (HOW.out.cellAt (range_get vs ha)).1
          have q2 := (HOW.out.cellAt (range_get vs he)).1
          have a0 : (0 : Int) ≤ (a : Int) := by omega
          have a1 : (a : Int) < (n : Int) := by omega
          have e0 : (0 : Int) ≤ (e : Int) := by omega
          have e1 : (e : Int) < (n : Int) := by omega
          obtain ⟨ga, ca, fa, hva, hba⟩ := HMW.out a ha
          obtain ⟨ge, ce, fe, hve, hbe⟩ := HMW.out e he
          rw [hva] at q1
          rw [hve] at q2
          have HVA : Hid (MatV W w.heap.size (.slice (some ⟨ga, 0, none⟩) (t.length + 1) ca) (t.length + 1) (allR l t n a)) := Lib.hid ⟨ga, ca, fa, rfl, hba⟩
          have HVE : Hid (MatV W w.heap.size (.slice (some ⟨ge, 0, none⟩) (t.length + 1) ce) (t.length + 1) (allR l t n e)) := Lib.hid ⟨ge, ce, fe, rfl, hbe⟩
          have HSZ : Hid (w.heap.size ≤ W.heap.size) := Lib.hid HDW.out.size
          clear hba hva hbe hve HOW HMW HDW HSX
          rcases hkd with rfl | rfl
          · have HN : Hid (nodeR ⟨3, (a : Int), (e : Int), st⟩ t (allR l t n) = thenR (t.length + 1) (allR l t n a) (allR l t n e)) := Lib.hid (rfl)
            have HC := Lib.hid (thenC (t.length + 1) HMA.out HMB.out _ _ _ _ _ _ W.drew (HVA.out.up (Old.refl W).drew) (HVE.out.up (Old.refl W).drew))
            generalize allR l t n a = Fa at *
            generalize allR l t n e = Fe at *
            clear HVA HVE
            go_upto_region 10 with fail
            refine wp_region_still_tail 10 (by kernel_rfl) (by kernel_rfl) ?_
            simp only [List.take_succ_cons, List.take_zero, List.drop_succ_cons, List.drop_zero]
            refine still_open (fun S HSW HSS HSN => ?_)
            iterate 10 (refine HSW.out _ _ _ (by kernel_rfl) (fun K hK => ?_); go_simp; refine hK _ ?_; clear hK K)
            refine HSN.out _ ?_
            clear HSW HSS HSN
            go_wp2_with fail
            refine (HC.out).mono ?_; rintro e w2 ⟨_, rfl, ⟨g8, cc8, f8, rfl, hb8⟩, o2⟩
            have HRC : Hid (RootCut w W (t.length + 1) (nodeR ⟨3, (a : Int), (e : Int), st⟩ t (allR l t n)) (.slice (some ⟨g8, 0, none⟩) (t.length + 1) cc8) w2) := Lib.hid (by
              rw [HN.out]
              exact ⟨Lib.hid ⟨g8, cc8, f8, rfl, hb8.base_ HSZ.out⟩, Lib.hid ((Old.refl W).drew.up o2)⟩)
            clear hb8 o2 HC
            go_wp2_with fail
            go_meet
            exact HRC.out
          · have HN : Hid (nodeR ⟨4, (a : Int), (e : Int), st⟩ t (allR l t n) = bothR (allR l t n a) (allR l t n e)) := Lib.hid (rfl)
            have HC := Lib.hid (bothC (t.length + 1) HMA.out HMB.out _ _ _ _ _ _ W.drew (HVA.out.up (Old.refl W).drew) (HVE.out.up (Old.refl W).drew))
            generalize allR l t n a = Fa at *
            generalize allR l t n e = Fe at *
            clear HVA HVE
            go_upto_region 12 with fail
            refine wp_region_still_tail 10 (by kernel_rfl) (by kernel_rfl) ?_
            simp only [List.take_succ_cons, List.take_zero, List.drop_succ_cons, List.drop_zero]
            refine still_open (fun S HSW HSS HSN => ?_)
            iterate 10 (refine HSW.out _ _ _ (by kernel_rfl) (fun K hK => ?_); go_simp; refine hK _ ?_; clear hK K)
            refine HSN.out _ ?_
            clear HSW HSS HSN
            go_wp2_with fail
            refine (HC.out).mono ?_; rintro e w2 ⟨_, rfl, ⟨g8, cc8, f8, rfl, hb8⟩, o2⟩
            have HRC : Hid (RootCut w W (t.length + 1) (nodeR ⟨4, (a : Int), (e : Int), st⟩ t (allR l t n)) (.slice (some ⟨g8, 0, none⟩) (t.length + 1) cc8) w2) := Lib.hid (by
              rw [HN.out]
              exact ⟨Lib.hid ⟨g8, cc8, f8, rfl, hb8.base_ HSZ.out⟩, Lib.hid ((Old.refl W).drew.up o2)⟩)
            clear hb8 o2 HC
            go_wp2_with fail
            go_meet
            exact HRC.out
    · obtain rfl : n = l.length := by omega
      obtain ⟨k, hk⟩ : ∃ k, l.length = k + 1 := ⟨l.length - 1, by have := HLN.out.1; omega⟩
      have HP : Hid (MatV wr w.heap.size (vs k) (t.length + 1) (rootR l t)) := Lib.hid (by
        have := HMV.out k (by omega)
        unfold rootR
        rw [show l.length - 1 = k by omega]
        exact this)
      obtain ⟨g, c5', rfl, _, _, _, _⟩ := HO.out.form (by omega)
      have q1 := (HO.out.cellAt (range_get vs (show k < l.length by omega))).1
      obtain ⟨g8, cc8, f8, hvk, hb8⟩ := HP.out
      rw [hvk] at q1 HP
      have HP2 : Hid (MatPost w (t.length + 1) (rootR l t) (.returned (.slice (some ⟨g8, 0, none⟩) (t.length + 1) cc8)) wr) := Lib.hid ⟨_, rfl, HP.out, HD.out⟩
      have k1 : (k : Int) < (l.length : Int) := by omega
      have k0 : (0 : Int) ≤ (k : Int) := by omega
      have k2 : (l.length : Int) - 1 = (k : Int) := by omega
      clear hb8 HP HO HMV HD hvk HSUB
      generalize l.length = L at *
      subst hk
      go_wp2_with fail
      go_ret
      exact HP2.out
end Go.Proofs.Ytaajgdhoffhdcaa
/-
  The reference's First.
-/
namespace Go.Proofs.Ytaajgdhoffhdcaa
open Go.RowKit
set_option linter.unusedVariables false

theorem txt_take (t : List Nat) (n : Nat) : txt (t.take n) = (txt t).take n := by unfold txt; rw [List.map_take]
def RfRel (w : World) (l : List Nd) (t : List Nat) (v : Value) (wr : World) : Prop :=
  ∃ n f : Nat, v = .int .i64 n ∧ n ≤ t.length + 1 ∧ t.length + 1 < f + n ∧ Hid (rfirstF l t f n = rfirstM l t) ∧ Hid (Old w wr)
set_option maxHeartbeats 4000000 in
set_option maxRecDepth 100000 in
theorem rfirstC (A At : Option Addr) (c ct : Nat) (l : List Nd) (t : List Nat) (w : World) (hr : Rs w A (ndsV l)) (hrt : Rs w At (txt t)) (hm : l.length ≤ maxLen) (hmt : t.length ≤ 99999) (hct : t.length ≤ ct) (h8 : ∀ x ∈ t, x < 256) (hso : ∀ x ∈ l, setOk x.set) :
    Calls Try.prog 18 #[.slice A l.length c, .slice At t.length ct] w (ValOld (.int .i64 (rfirstM l t)) w) := by
  have hV := rvalidC A c l w hr hm hso
  have HR := Lib.hid hr
  have HRT := Lib.hid hrt
  have H8 := Lib.hid h8
  have HSO := Lib.hid hso
  have HCT := Lib.hid hct
  have HMT := Lib.hid hmt
  clear hr hrt h8 hso hct hmt
  cases hv : validM l with
  | false =>
    rw [hv] at hV
    have HV := Lib.hid hV
    have HE : Hid (rfirstM l t = -1) := Lib.hid (by unfold rfirstM; rw [if_neg (by simp [hv])])
    clear hV
    go_enter Try.func18, Try.ntmps18
    go_wp2_with fail
    refine (HV.out).mono ?_; rintro e V ⟨rfl, hd⟩
    go_wp2_with fail
    go_ret
    rw [HE.out]
    exact ⟨rfl, hd⟩
  | true =>
  rw [hv] at hV
  have HV := Lib.hid hV
  have HVV := Lib.hid hv
  have HE : Hid (rfirstF l t (t.length + 2) 0 = rfirstM l t) := Lib.hid (by unfold rfirstM; rw [if_pos hv])
  clear hV hv
  go_enter Try.func18, Try.ntmps18
  go_wp2_with fail
  refine (HV.out).mono ?_; rintro e V ⟨rfl, hd⟩
  have HD := Lib.hid hd
  clear hd HV
  go_wp2_with fail
  go_loopw [5] (fun s5 wr => RfRel w l t s5 wr) (fun s5 _ => t.length + 1 - (intOf s5).toNat)
  case atStart => exact ⟨0, t.length + 2, rfl, Nat.zero_le _, by omega, HE, HD⟩
  case round =>
    clear HE HD
    obtain ⟨n, f, rfl, hn, hf, HU, HD⟩ := hrel
    by_cases hlt : n ≤ t.length
    · obtain ⟨f, rfl⟩ : ∃ g, f = g + 1 := ⟨f - 1, by omega⟩
      have i1 : (n : Int) ≤ (t.length : Int) := by omega
      have i0 : (0 : Int) ≤ (n : Int) := by omega
      have hmx := HMT.out
      have hln : (t.take n).length = n := by rw [List.length_take]; omega
      have HC := rootC A At c ct l (t.take n) wr (HR.out.up HD.out) HVV.out HSO.out (by rw [txt_take]; exact (HRT.out.up HD.out).take n) (fun x hx => H8.out x (List.mem_of_mem_take hx)) (by rw [hln]; omega)
      rw [hln] at HC
      have HRC := Lib.hid HC
      have hsl := fun W => run_slice_to (P := Try.prog) (t := 24) (by kernel_rfl) (fun _ => rfl) At t.length ct n (n : Int) rfl (by have := HCT.out; omega) W
      have hu := HU.out
      rw [rfirstF, if_pos hlt] at hu
      have HUN := Lib.hid hu
      clear HC hu HU hln
      go_wp2_with fail
      refine (HRC.out).mono ?_; rintro e w2 ⟨_, rfl, ⟨g, cc, fr, rfl, hb⟩, ho⟩
      have HS := Lib.hid (someC (n + 1) (by omega) (.slice (some ⟨g, 0, none⟩) (n + 1) cc) _ (rootR l (t.take n)) w2 ⟨g, cc, fr, rfl, hb⟩)
      have HD2 := Lib.hid (HD.out.up ho)
      clear hb ho HRC HD hsl
      generalize someR (n + 1) (rootR l (t.take n)) = b at *
      go_wp2_with fail
      refine (HS.out).mono ?_; rintro e w3 ⟨rfl, rfl⟩
      cases b with
      | true =>
        have HE : Hid ((n : Int) = rfirstM l t) := Lib.hid (by have := HUN.out; rwa [if_pos rfl] at this)
        clear HUN HS
        go_wp2_with fail
        go_ret
        rw [← HE.out]
        exact ⟨rfl, HD2.out⟩
      | false =>
        have HW : Hid (RfRel w l t (.int .i64 ((n + 1 : Nat) : Int)) w2) := Lib.hid ⟨n + 1, f, rfl, by omega, by omega, Lib.hid (by have := HUN.out; rwa [if_neg (by simp)] at this), HD2⟩
        clear HUN HS HD2
        go_wp2_with fail
        go_roundw
        case rel => exact HW.out
        case measure => simp [intOf]; omega
    · have i1 : ¬ (n : Int) ≤ (t.length : Int) := by omega
      have HE : Hid (rfirstM l t = -1) := Lib.hid (by
        rw [← HU.out]
        cases f with
        | zero => rfl
        | succ f => rw [rfirstF, if_neg hlt])
      clear HU
      go_wp2_with fail
      go_ret
      rw [HE.out]
      exact ⟨rfl, HD.out⟩
end Go.Proofs.Ytaajgdhoffhdcaa
/-
  The walker finds the least number of bytes within which a pattern matches. No program in sight.
-/
namespace Go.Proofs.Ytaajgdhoffhdcaa
open Go.RowKit Classical
set_option linter.unusedVariables false

/-- The graph of the walker's spots. -/
def walkG (l : List Nd) : Gr where
  eps := Eps l
  byt := fun c s s' => s % 2 = 0 ∧ (nd l (s / 2)).kind = 2 ∧ hasB (nd l (s / 2)).set c = true ∧ s' = 2 * (s / 2) + 1
  s0 := 2 * (l.length - 1)
  fin := fun s => s = 2 * (l.length - 1) + 1
theorem walkG_mono (l : List Nd) : GMono (walkG l) := by
  intro bol s s' h
  have h' : Eps l bol false s s' := h
  show Eps l bol true s s'
  cases h' with
  | empty x hk => exact .empty x hk
  | bol x hk hb => exact .bol x hk hb
  | eol x hk hb => cases hb
  | skip x hk => exact .skip x hk
  | left x a hk ha => exact .left x a hk ha
  | right x b hk hb => exact .right x b hk hb
  | over x a b hx hk ha hb => exact .over x a b hx hk ha hb
  | up p x hp hk hx => exact .up p x hp hk hx
  | upR p x hp hk hx => exact .upR p x hp hk hx
  | star p x hp hk hx => exact .star p x hp hk hx
  | again p x hp hk hx => exact .again p x hp hk hx
theorem gway_way {l : List Nd} {t : List Nat} {s i : Nat} : GWay (walkG l) t s i ↔ ∃ i0, i0 ≤ t.length ∧ Way l t (2 * (l.length - 1)) i0 s i := by
  constructor
  · intro h
    induction h with
    | start i h => exact ⟨i, h, .here⟩
    | eps s s' i _ he ih =>
      obtain ⟨i0, h0, h1⟩ := ih
      exact ⟨i0, h0, .eps s s' i h1 he⟩
    | byte s s' i _ hi hb ih =>
      obtain ⟨i0, h0, h1⟩ := ih
      obtain ⟨b1, b2, b3, rfl⟩ := hb
      rw [show s = 2 * (s / 2) by omega] at h1
      exact ⟨i0, h0, .byte _ _ h1 b2 hi b3⟩
  · rintro ⟨i0, h0, h⟩
    induction h with
    | here => exact .start i0 h0
    | eps s s' i _ he ih => exact .eps s s' i ih he
    | byte x i _ h1 h2 h3 ih =>
      have e : 2 * x / 2 = x := by omega
      refine .byte _ _ i ih h2 ⟨by omega, ?_, ?_, ?_⟩
      · rw [e]; exact h1
      · rw [e]; exact h3
      · rw [e]
theorem walk_hit {l : List Nd} (hv : validM l = true) (t : List Nat) (n : Nat) (hn : n ≤ t.length) : GAcc (walkG l) t n ↔ Hit l t n := by
  have hl : (t.take n).length = n := by rw [List.length_take]; omega
  constructor
  · rintro ⟨s, k, hw, hf⟩
    obtain ⟨i0, h0, h1⟩ := gway_way.1 hw
    have hf' : s = 2 * (l.length - 1) + 1 := hf
    subst hf'
    exact ⟨i0, k, by omega, (way_iff (validM_neat hv)).1 h1⟩
  · rintro ⟨i, k, hi, h⟩
    exact ⟨_, k, gway_way.2 ⟨i, by omega, (way_iff (validM_neat hv)).2 h⟩, rfl⟩
theorem spread_clo {l : List Nd} (hv : validM l = true) (bol eol : Bool) {L : List Nat} (hS : Spots (2 * l.length) L) (s : Nat) : s ∈ spreadM l bol eol L ↔ Clo (walkG l) bol eol (fun s => s ∈ L) s := by
  obtain ⟨q1, q2, q3⟩ := spreadM_spec hv bol eol hS
  constructor
  · exact q3 _ (fun s s' h he => .step s s' h he) (fun s h => .here s h) s
  · intro h
    induction h with
    | here s h => exact q1 s h
    | step s s' _ he ih => exact q2 s ih s' he
theorem firstF_runs {l : List Nd} (hv : validM l = true) (t : List Nat) : ∀ (f i : Nat) (L : List Nat), Spots (2 * l.length) L → i ≤ t.length → t.length < f + i → Runs (walkG l) t i (fun s => s ∈ L) (firstF l t f i L)
  | 0, i, L, hS, hi, hf => by omega
  | f + 1, i, L, hS, hi, hf => by
    have h1 := (validM_len hv).1
    have hS1 : Spots (2 * l.length) (enterM L (2 * (l.length - 1))) := hS.enter (by omega)
    have hS2 := hS1.spread hv (bolT t i) false
    have hA : ∀ s, s ∈ spreadM l (bolT t i) false (enterM L (2 * (l.length - 1))) ↔ Clo (walkG l) (bolT t i) false (fun s => s ∈ L ∨ s = (walkG l).s0) s := by
      intro s
      rw [spread_clo hv _ _ hS1]
      exact Clo.iff_ (fun s => mem_enter L (2 * (l.length - 1)) s) s
    rw [firstF]
    generalize spreadM l (bolT t i) false (enterM L (2 * (l.length - 1))) = L1 at *
    have hdone : ∀ L1 : List Nat, doneM l L1 = true ↔ ∃ s, s ∈ L1 ∧ (walkG l).fin s := by
      intro L1
      unfold doneM
      rw [decide_eq_true_iff]
      exact ⟨fun h => ⟨_, h, rfl⟩, fun ⟨s, h, e⟩ => (show s = 2 * (l.length - 1) + 1 from e) ▸ h⟩
    simp only
    split
    · rename_i hd
      exact .done i _ (fun s => s ∈ L1) hA ((hdone L1).1 hd)
    rename_i hd
    have hd' : ∀ s, s ∈ L1 → ¬ (walkG l).fin s := fun s h1 h2 => hd ((hdone L1).2 ⟨s, h1, h2⟩)
    split
    · rename_i he
      exact .stop i _ (fun s => s ∈ L1) hA hd' he
    rename_i hne
    have hil : i < t.length := by omega
    have hstep : ∀ L2 : List Nat, ∀ s, s ∈ stepM l (t.getD i 0) L2 ↔ ∃ s1, s1 ∈ L2 ∧ (walkG l).byt (t.getD i 0) s1 s := by
      intro L2 s
      rw [mem_step]
      rfl
    split
    · rename_i hc
      have hS3 := hS2.spread hv (bolT t i) true
      have hB : ∀ s, s ∈ spreadM l (bolT t i) true L1 ↔ Clo (walkG l) (bolT t i) (eolT t i) (fun s => s ∈ L1) s := by
        intro s
        have : eolT t i = true := by
          unfold eolT
          rw [hc, decide_eq_true hil]
          rfl
        rw [this]
        exact spread_clo hv _ _ hS2 s
      generalize spreadM l (bolT t i) true L1 = L2 at *
      split
      · rename_i hd2
        exact .late i _ (fun s => s ∈ L1) (fun s => s ∈ L2) hA hd' hil hB ((hdone L2).1 hd2)
      · rename_i hd2
        have hd2' : ∀ s, s ∈ L2 → ¬ (walkG l).fin s := fun s h1 h2 => hd2 ((hdone L2).2 ⟨s, h1, h2⟩)
        exact .step i _ (fun s => s ∈ L1) (fun s => s ∈ L2) (fun s => s ∈ stepM l (t.getD i 0) L2) _ hA hd' hil hB hd2' (hstep L2) (firstF_runs hv t f (i + 1) _ (hS3.step _) (by omega) (by omega))
    · rename_i hc
      have hB : ∀ s, s ∈ L1 ↔ Clo (walkG l) (bolT t i) (eolT t i) (fun s => s ∈ L1) s := by
        have : eolT t i = false := by
          unfold eolT
          rw [Bool.and_eq_false_iff]
          right
          simpa using hc
        rw [this]
        refine Clo.closed (fun s s' hs he => ?_)
        rw [hA] at hs ⊢
        exact .step s s' hs he
      exact .step i _ (fun s => s ∈ L1) (fun s => s ∈ L1) (fun s => s ∈ stepM l (t.getD i 0) L1) _ hA hd' hil hB hd' (hstep L1) (firstF_runs hv t f (i + 1) _ (hS2.step _) (by omega) (by omega))
/-- The program's First and the reference's come to the same. -/
theorem first_law (l : List Nd) (t : List Nat) : firstM l t = rfirstM l t := by
  by_cases hv : validM l = true
  · refine LeastHit.one (l := l) (t := t) ?_ (rfirst_least hv t)
    rw [← least_hit (g := walkG l) (fun n hn => walk_hit hv t n hn)]
    unfold firstM
    rw [if_pos hv]
    refine Runs.law0 (walkG_mono l) ?_
    have := firstF_runs hv t (t.length + 1) 0 [] ⟨by simp, fun s h => by cases h⟩ (Nat.zero_le _) (by omega)
    simpa using this
  · unfold firstM rfirstM
    rw [if_neg hv, if_neg hv]
end Go.Proofs.Ytaajgdhoffhdcaa
/-
  The walk of the statement LangFirst.
-/
namespace Go.Proofs.Ytaajgdhoffhdcaa
open Go.RowKit
set_option linter.unusedVariables false

set_option maxHeartbeats 8000000 in
set_option maxRecDepth 100000 in
theorem lfirst_any (A A2 At : Option Addr) (c c2 ct : Nat) (l : List Int) (raw : List Nd) (b : List UInt8) (w : World) (hr : Rs w A (ints l)) (hm : l.length ≤ maxLen) (hr2 : Rs w A2 (ndsV raw)) (hso2 : ∀ x ∈ raw, setOk x.set) (hm2 : raw.length ≤ maxLen) (hrt : Rs w At (bytes b)) (hct : b.length ≤ ct) (hmt : b.length ≤ maxLen) :
    Calls Try.prog 3 #[.slice A l.length c, .slice A2 raw.length c2, .slice At b.length ct] w (ValOld (.bool true) w) := by
  have HR := Lib.hid hr
  have HR2 := Lib.hid hr2
  have HSO2 := Lib.hid hso2
  have HRT := Lib.hid (show Rs w At (txt (txtOf b)) by rw [txtOf_txt]; exact hrt)
  have hlb : b.length = (txtOf b).length := by simp [txtOf]
  have HLT := Lib.hid (txtOf_lt b)
  rw [hlb] at hct hmt ⊢
  generalize txtOf b = u at *
  have HCU := Lib.hid hct
  have HMU := Lib.hid hmt
  have HMR := Lib.hid hm2
  clear hr hrt hlb hr2 hso2 hct hmt hm2
  have HS := Lib.hid (saneC w)
  by_cases h20 : 20 < raw.length
  · have i1 : (20 : Int) < (raw.length : Int) := by omega
    clear h20
    go_enter Try.func3, Try.ntmps3
    go_wp2_with fail
    refine (HS.out).mono ?_; rintro e w1 ⟨rfl, hd1⟩
    go_wp2_with fail
    go_ret
    exact ⟨rfl, hd1⟩
  have i1 : ¬ (20 : Int) < (raw.length : Int) := by omega
  by_cases h12 : 12 < u.length
  · have i2 : (12 : Int) < (u.length : Int) := by omega
    clear h12
    go_enter Try.func3, Try.ntmps3
    go_wp2_with fail
    refine (HS.out).mono ?_; rintro e w1 ⟨rfl, hd1⟩
    go_wp2_with fail
    go_ret
    exact ⟨rfl, hd1⟩
  have i2 : ¬ (12 : Int) < (u.length : Int) := by omega
  go_enter Try.func3, Try.ntmps3
  go_wp2_with fail
  refine (HS.out).mono ?_; rintro e w1 ⟨rfl, hd1⟩
  have HD1 := Lib.hid hd1
  have HP := Lib.hid (patternC A c l w1 (HR.out.up hd1) hm)
  clear hd1 HS
  go_wp2_with fail
  refine (HP.out).mono ?_; rintro e w2 ⟨An, cn, At2, ct2, rfl, hrn, hrt2, hct2, hctm, hd2⟩
  have HRN := Lib.hid hrn
  have HRT2 := Lib.hid hrt2
  have HD2 := Lib.hid (HD1.out.up hd2)
  have HOK := Lib.hid (pnodesM_ok l)
  obtain ⟨h8, hl9⟩ := ptxtM_ok l
  have H8 := Lib.hid h8
  have HCT := Lib.hid hct2
  have HN := Lib.hid hl9
  clear hrn hrt2 hd2 HD1 HP h8 hct2 hctm
  generalize pnodesM l = n at *
  generalize (ptxtM l).1 = t at *
  have HU2 := Lib.hid (HRT.out.up HD2.out)
  have HW2 := Lib.hid (HR2.out.up HD2.out)
  have HNL : Hid (n.length ≤ maxLen) := Lib.hid (by have := HOK.out.2; unfold maxLen; omega)
  have HF1 := Lib.hid (firstC An cn n At2 ct2 t w2 HRN.out HRT2.out HNL.out (by have := HN.out; omega) H8.out HOK.out.1)
  have HG1 := Lib.hid (fun w' (h : Old w2 w') => rfirstC An At2 cn ct2 n t w' (HRN.out.up h) (HRT2.out.up h) HNL.out (by have := HN.out; omega) HCT.out H8.out HOK.out.1)
  have HF2 := Lib.hid (fun w' (h : Old w2 w') => firstC An cn n At ct u w' (HRN.out.up h) (HU2.out.up h) HNL.out (by omega) HLT.out HOK.out.1)
  have HG2 := Lib.hid (fun w' (h : Old w2 w') => rfirstC An At cn ct n u w' (HRN.out.up h) (HU2.out.up h) HNL.out (by omega) HCU.out HLT.out HOK.out.1)
  have HF3 := Lib.hid (fun w' (h : Old w2 w') => firstC A2 c2 raw At ct u w' (HW2.out.up h) (HU2.out.up h) HMR.out (by omega) HLT.out HSO2.out)
  have HG3 := Lib.hid (fun w' (h : Old w2 w') => rfirstC A2 At c2 ct raw u w' (HW2.out.up h) (HU2.out.up h) HMR.out (by omega) HCU.out HLT.out HSO2.out)
  simp only [first_law] at HF1 HF2 HF3
  clear HRN HRT2 HU2 HW2 HNL HOK H8 HCT HN HR HR2 HRT HLT HCU HMU HMR HSO2
  generalize rfirstM n t = x1 at *
  generalize rfirstM n u = x2 at *
  generalize rfirstM raw u = x3 at *
  go_wp2_with fail
  refine (HF1.out).mono ?_; rintro e w3 ⟨rfl, hd3⟩
  have HX3 := Lib.hid hd3
  have HC := Lib.hid (HG1.out _ HX3.out)
  clear hd3 HF1 HG1
  go_wp2_with fail
  refine (HC.out).mono ?_; rintro e w4 ⟨rfl, hd4⟩
  have HX4 := Lib.hid (HX3.out.up hd4)
  have HC := Lib.hid (HF2.out _ HX4.out)
  clear hd4 HX3 HF2
  go_wp2_with fail
  refine (HC.out).mono ?_; rintro e w5 ⟨rfl, hd5⟩
  have HX5 := Lib.hid (HX4.out.up hd5)
  have HC := Lib.hid (HG2.out _ HX5.out)
  clear hd5 HX4 HG2
  go_wp2_with fail
  refine (HC.out).mono ?_; rintro e w6 ⟨rfl, hd6⟩
  have HX6 := Lib.hid (HX5.out.up hd6)
  have HC := Lib.hid (HF3.out _ HX6.out)
  clear hd6 HX5 HF3
  go_wp2_with fail
  refine (HC.out).mono ?_; rintro e w7 ⟨rfl, hd7⟩
  have HX7 := Lib.hid (HX6.out.up hd7)
  have HC := Lib.hid (HG3.out _ HX7.out)
  clear hd7 HX6 HG3
  go_wp2_with fail
  refine (HC.out).mono ?_; rintro e w8 ⟨rfl, hd8⟩
  have HX8 := Lib.hid (HD2.out.up (HX7.out.up hd8))
  clear hd8 HX7 HC HD2
  go_wp2_with fail
  go_ret
  exact ⟨rfl, HX8.out⟩
end Go.Proofs.Ytaajgdhoffhdcaa
/-
  A slice that came in, read as data: its cells, element by element. No program in sight.
-/
namespace Go.Proofs.Ytaajgdhoffhdcaa
open Go.RowKit Go.ChangeShapes Go.WideShapes Go.Deep

/-- The cells of equal pieces, one behind the other. -/
theorem flatten_at {α : Type} {C : Nat} (hC : 0 < C) : ∀ (cells : List (List α)), (∀ cs ∈ cells, cs.length = C) → ∀ j u, cells.flatten[j]? = some u → ∃ cs, cells[j / C]? = some cs ∧ cs[j % C]? = some u := by
  intro cells
  induction cells with
  | nil => intro _ j u h; simp at h
  | cons a cells ih =>
    intro hl j u h
    have ha : a.length = C := hl a (by simp)
    rw [List.flatten_cons, List.getElem?_append] at h
    by_cases hj : j < C
    · rw [ha, if_pos hj] at h
      rw [Nat.div_eq_of_lt hj, Nat.mod_eq_of_lt hj]
      exact ⟨a, rfl, h⟩
    · rw [ha, if_neg hj] at h
      obtain ⟨cs, h1, h2⟩ := ih (fun cs hcs => hl cs (by simp [hcs])) _ _ h
      obtain ⟨i, rfl⟩ : ∃ i, j = i + C := ⟨j - C, by omega⟩
      rw [Nat.add_sub_cancel] at h1 h2
      rw [Nat.add_div_right _ hC, Nat.add_mod_right]
      exact ⟨cs, by simpa using h1, h2⟩
/-- From 'each element has an x' to a list of x. -/
theorem list_choose {α β : Type} (f : β → α) (p : β → Prop) : ∀ (l : List α), (∀ a ∈ l, ∃ b, a = f b ∧ p b) → ∃ m : List β, l = m.map f ∧ ∀ b ∈ m, p b := by
  intro l
  induction l with
  | nil => intro _; exact ⟨[], rfl, by simp⟩
  | cons a l ih =>
    intro h
    obtain ⟨b, hb, hp⟩ := h a (by simp)
    obtain ⟨m, hm, hq⟩ := ih (fun x hx => h x (by simp [hx]))
    refine ⟨b :: m, by rw [hb, hm]; rfl, fun x hx => ?_⟩
    rcases List.mem_cons.mp hx with rfl | hx
    · exact hp
    · exact hq x hx

section
variable {H : Type} {enc : TypeId × Value → H} {P : Program} {w : World} {base : Nat} {spare : Nat → Bool} {held : Bool}
theorem open_elems {t e : TypeId} {a : Option Addr} {len cap : Nat} {d : DataW H} {p : List MemPlace} (ht : P.underlying t = some (.slice e)) (hC : 0 < P.cellsOf e)
    (h : DataW.Trod enc P w base spare held t (.slice a len cap) d p) :
    ∃ cells : List (List Value), cells.length = len ∧ len ≤ cap ∧ cap ≤ maxLen ∧ Rs w a cells.flatten ∧ ∀ cs ∈ cells, cs.length = P.cellsOf e ∧ ∃ n y, DataW.trod enc P w base spare held n e cs = some y := by
  obtain ⟨fuel, hf⟩ := h
  rcases open_slice ht hf with ⟨hcs, _⟩ | ⟨x, l, c, m, n, D, Pl, hcs, _, hl, hm, hmm, _, hi⟩
  · simp [Value.cells] at hcs
    obtain ⟨rfl, rfl, rfl⟩ := hcs
    exact ⟨[], rfl, Nat.zero_le _, Nat.zero_le _, Rs.nil_, by simp⟩
  · simp [Value.cells] at hcs
    obtain ⟨rfl, rfl, rfl⟩ := hcs
    have hlm : len ≤ m := by rw [hmm]; split <;> omega
    obtain ⟨f, hf'⟩ := choose_lt (n := len) (p := fun i cs' => w.cells? base (x.add (i * P.cellsOf e)) (P.cellsOf e) = some cs' ∧ DataW.trod enc P w base spare held n e cs' = some (D i, Pl i)) (fun i hil => hi i (by omega))
    have hlen : ∀ cs ∈ (List.range len).map f, cs.length = P.cellsOf e := by
      intro cs hcs
      simp only [List.mem_map, List.mem_range] at hcs
      obtain ⟨i, hil, rfl⟩ := hcs
      exact (World.cells?_some (hf' i hil).1).2.1
    refine ⟨(List.range len).map f, by simp, hl, hm, ?_, fun cs hcs => ⟨hlen cs hcs, ?_⟩⟩
    · have hcell : ∀ j u, ((List.range len).map f).flatten[j]? = some u → w.cell? (x.add j) = some u := by
        intro j u hu
        obtain ⟨cs, h1, h2⟩ := flatten_at hC _ hlen j u hu
        have hj : j / P.cellsOf e < len := by
          have := (List.getElem?_eq_some_iff.mp h1).1
          simpa using this
        rw [List.getElem?_map, List.getElem?_range hj] at h1
        simp at h1
        subst h1
        have h3 := (World.cells?_some (hf' _ hj).1).2.2 (j % P.cellsOf e) (Nat.mod_lt _ hC)
        rw [add_add, h2, show j / P.cellsOf e * P.cellsOf e + j % P.cellsOf e = j from by rw [Nat.mul_comm]; exact Nat.div_add_mod _ _] at h3
        exact h3
      rcases Nat.eq_zero_or_pos ((List.range len).map f).flatten.length with h0 | h0
      · exact Or.inl (List.eq_nil_of_length_eq_zero h0)
      · have h1 := hcell 0 _ (List.getElem?_eq_getElem h0)
        have hsp : x.spot = none := by
          have := World.cell?_spot h1
          simpa [Addr.add] using this
        obtain ⟨b, off, sp⟩ := x
        simp at hsp
        subst hsp
        refine Or.inr ⟨b, off, rfl, fun j u hu => ?_⟩
        have := hcell j u hu
        rwa [Addr.add_lit] at this
    · simp only [List.mem_map, List.mem_range] at hcs
      obtain ⟨i, hil, rfl⟩ := hcs
      exact ⟨n, _, (hf' i hil).2⟩
/-- An integer of one cell. -/
theorem open_one {t : TypeId} {k : IntKind} {cs : List Value} {n : Nat} {y : DataW H × List MemPlace} (ht : P.underlying t = some (.int k)) (h : DataW.trod enc P w base spare held n t cs = some y) :
    ∃ x : Int, cs = [.int k x] ∧ (Lit.int k x).wf = true := by
  obtain ⟨a, ha, _, wa⟩ := DataW.trod_int ht h
  exact ⟨a, ha, wa⟩
/-- A struct of two integers. -/
theorem open_two {t : TypeId} {f0 f1 : Field} {k0 k1 : IntKind} {cs : List Value} {n : Nat} {y : DataW H × List MemPlace} (ht : P.underlying t = some (.struct #[f0, f1])) (hone : oneCellFields P #[f0, f1] = true)
    (hC : P.cellsOf t = 2) (h0 : P.underlying f0.type = some (.int k0)) (h1 : P.underlying f1.type = some (.int k1)) (h : DataW.trod enc P w base spare held n t cs = some y) :
    ∃ r : Int × Int, cs = [.int k0 r.1, .int k1 r.2] ∧ (Lit.int k0 r.1).wf = true ∧ (Lit.int k1 r.2).wf = true := by
  obtain ⟨xs, m, _, _, hlen, hxl, hf⟩ := DataW.trod_struct ht h
  rw [hC] at hlen
  obtain ⟨o0, q0⟩ := hone_of hone 0 f0 rfl
  obtain ⟨o1, q1⟩ := hone_of hone 1 f1 rfl
  match cs, hlen with
  | [c0, c1], _ =>
    have g0 := hf 0 f0 rfl
    have g1 := hf 1 f1 rfl
    rw [o0, q0] at g0
    rw [o1, q1] at g1
    have l0 : 0 < xs.length := by rw [hxl]; simp
    have l1 : 1 < xs.length := by rw [hxl]; simp
    rw [List.getElem?_eq_getElem l0] at g0
    rw [List.getElem?_eq_getElem l1] at g1
    obtain ⟨a, ha, _, wa⟩ := DataW.trod_int h0 g0
    obtain ⟨b, hb, _, wb⟩ := DataW.trod_int h1 g1
    simp at ha hb
    exact ⟨(a, b), by rw [ha, hb], wa, wb⟩
end
end Go.Proofs.Ytaajgdhoffhdcaa
/-
  What every statement's last step uses: the program's start, integers that came in.
-/
namespace Go.Proofs.Ytaajgdhoffhdcaa
open Go.ChangeShapes Go.WideShapes Go.ChangeAt Go.RowKit
set_option linter.unusedVariables false
namespace Rw
theorem own : ownKnob Try.prog.godebug = none := by kernel_rfl
theorem laidOut : laidOutB Try.prog = true := by kernel_rfl
theorem u64 {x : Int} (h : (Lit.int .u64 x).wf = true) : 0 ≤ x ∧ x ≤ 18446744073709551615 := by
  simp [Lit.wf, IntKind.min, IntKind.max, IntKind.signed, IntKind.bits] at h
  exact ⟨by omega, by omega⟩
theorem i64 {x : Int} (h : (Lit.int .i64 x).wf = true) : -9223372036854775808 ≤ x ∧ x ≤ 9223372036854775807 := by
  simp [Lit.wf, IntKind.min, IntKind.max, IntKind.signed, IntKind.bits] at h
  exact ⟨by omega, by omega⟩
theorem u8 {x : Int} (h : (Lit.int .u8 x).wf = true) : 0 ≤ x ∧ x ≤ 255 := by
  simp [Lit.wf, IntKind.min, IntKind.max, IntKind.signed, IntKind.bits] at h
  exact ⟨by omega, by omega⟩
end Rw
end Go.Proofs.Ytaajgdhoffhdcaa
/-
  Arguments that are slices of ints and of bytes.
-/
namespace Go.Proofs.Ytaajgdhoffhdcaa
open Go.ChangeShapes Go.WideShapes Go.ChangeAt Go.RowKit Rw
set_option linter.unusedVariables false

theorem flat_singles {α : Type} (f : α → Value) (l : List α) : (l.map fun x => [f x]).flatten = l.map f := by
  induction l with
  | nil => rfl
  | cons x l ih => simp only [List.map_cons, List.flatten_cons, ih]; rfl
theorem open_intl {H : Type} {enc : TypeId × Value → H} {w : World} {base : Nat} {spare : Nat → Bool} {held : Bool} {a : Option Addr} {len cap : Nat} {d : DataW H} {p : List MemPlace}
    (h : DataW.Trod enc Try.prog w base spare held 22 (.slice a len cap) d p) :
    ∃ l : List Int, l.length = len ∧ len ≤ maxLen ∧ Rs w a (ints l) := by
  obtain ⟨cells, hl, hc1, hc2, hr, hc⟩ := open_elems Try.underlying22 (show 0 < Try.prog.cellsOf 3 by decide +kernel) h
  obtain ⟨l, rfl, hp⟩ := list_choose (fun x : Int => [Value.int .i64 x]) (fun _ => True) cells (fun cs hcs => by
    obtain ⟨_, n, y, hy⟩ := hc cs hcs
    obtain ⟨x, h1, h2⟩ := open_one Try.underlying3 hy
    exact ⟨x, h1, trivial⟩)
  refine ⟨l, by simpa using hl, by omega, ?_⟩
  rw [flat_singles] at hr
  exact hr
theorem open_bytel {H : Type} {enc : TypeId × Value → H} {w : World} {base : Nat} {spare : Nat → Bool} {held : Bool} {a : Option Addr} {len cap : Nat} {d : DataW H} {p : List MemPlace}
    (h : DataW.Trod enc Try.prog w base spare held 24 (.slice a len cap) d p) :
    ∃ l : List UInt8, l.length = len ∧ len ≤ cap ∧ cap ≤ maxLen ∧ Rs w a (bytes l) := by
  obtain ⟨cells, hl, hc1, hc2, hr, hc⟩ := open_elems Try.underlying24 (show 0 < Try.prog.cellsOf 5 by decide +kernel) h
  obtain ⟨l, rfl, hp⟩ := list_choose (fun x : Int => [Value.int .u8 x]) (fun x => 0 ≤ x ∧ x ≤ 255) cells (fun cs hcs => by
    obtain ⟨_, n, y, hy⟩ := hc cs hcs
    obtain ⟨x, h1, h2⟩ := open_one Try.underlying5 hy
    exact ⟨x, h1, u8 h2⟩)
  rw [flat_singles] at hr
  obtain ⟨m, hm, hml⟩ := bytes_of_ints l hp
  rw [hm] at hr
  simp only [List.length_map] at hl
  exact ⟨m, by omega, hc1, hc2, hr⟩
end Go.Proofs.Ytaajgdhoffhdcaa
/-
  Arguments that are slices of nodes, and of states.
-/
namespace Go.Proofs.Ytaajgdhoffhdcaa
open Go.ChangeShapes Go.WideShapes Go.ChangeAt Go.RowKit Go.Deep Rw
set_option linter.unusedVariables false

section
variable {H : Type} {enc : TypeId × Value → H} {P : Program} {w : World} {base : Nat} {spare : Nat → Bool} {held : Bool}
theorem open_four {t e : TypeId} {f0 f1 f2 f3 : Field} {cs : List Value} {n : Nat} {y : DataW H × List MemPlace} (ht : P.underlying t = some (.struct #[f0, f1, f2, f3]))
    (o0 : f0.offset = 0) (o1 : f1.offset = 1) (o2 : f2.offset = 2) (o3 : f3.offset = 3) (q0 : P.cellsOf f0.type = 1) (q1 : P.cellsOf f1.type = 1) (q2 : P.cellsOf f2.type = 1) (q3 : P.cellsOf f3.type = 4)
    (hC : P.cellsOf t = 7) (h0 : P.underlying f0.type = some (.int .i64)) (h1 : P.underlying f1.type = some (.int .i64)) (h2 : P.underlying f2.type = some (.int .i64)) (h3 : P.underlying f3.type = some (.array 4 e)) (he : P.underlying e = some (.int .u64)) (hce : P.cellsOf e = 1)
    (h : DataW.trod enc P w base spare held n t cs = some y) : ∃ x : Nd, cs = ndCells x ∧ setOk x.set := by
  obtain ⟨xs, m, _, _, hlen, hxl, hf⟩ := DataW.trod_struct ht h
  rw [hC] at hlen
  match cs, hlen with
  | [c0, c1, c2, c3, c4, c5, c6], _ =>
    have g0 := hf 0 f0 rfl
    have g1 := hf 1 f1 rfl
    have g2 := hf 2 f2 rfl
    have g3 := hf 3 f3 rfl
    rw [o0, q0] at g0
    rw [o1, q1] at g1
    rw [o2, q2] at g2
    rw [o3, q3] at g3
    have l0 : 0 < xs.length := by rw [hxl]; simp
    have l1 : 1 < xs.length := by rw [hxl]; simp
    have l2 : 2 < xs.length := by rw [hxl]; simp
    have l3 : 3 < xs.length := by rw [hxl]; simp
    rw [List.getElem?_eq_getElem l0] at g0
    rw [List.getElem?_eq_getElem l1] at g1
    rw [List.getElem?_eq_getElem l2] at g2
    rw [List.getElem?_eq_getElem l3] at g3
    obtain ⟨a, ha, _, wa⟩ := DataW.trod_int h0 g0
    obtain ⟨b, hb, _, wb⟩ := DataW.trod_int h1 g1
    obtain ⟨c, hc, _, wc⟩ := DataW.trod_int h2 g2
    simp at ha hb hc
    obtain ⟨y0, y1, y2, y3, k, _, r0, r1, r2, r3⟩ := trod_array4 h3 hce g3
    obtain ⟨d0, e0, _, v0⟩ := DataW.trod_int he r0
    obtain ⟨d1, e1, _, v1⟩ := DataW.trod_int he r1
    obtain ⟨d2, e2, _, v2⟩ := DataW.trod_int he r2
    obtain ⟨d3, e3, _, v3⟩ := DataW.trod_int he r3
    simp at e0 e1 e2 e3
    have b0 := u64 v0
    have b1 := u64 v1
    have b2 := u64 v2
    have b3 := u64 v3
    obtain ⟨d0, rfl⟩ := Int.eq_ofNat_of_zero_le b0.1
    obtain ⟨d1, rfl⟩ := Int.eq_ofNat_of_zero_le b1.1
    obtain ⟨d2, rfl⟩ := Int.eq_ofNat_of_zero_le b2.1
    obtain ⟨d3, rfl⟩ := Int.eq_ofNat_of_zero_le b3.1
    obtain ⟨s0, s1, s2, s3, sk⟩ := setOf4_W (a := d0) (b := d1) (c := d2) (d := d3) (by unfold w64; omega) (by unfold w64; omega) (by unfold w64; omega) (by unfold w64; omega)
    refine ⟨⟨a, b, c, setOf4 d0 d1 d2 d3⟩, ?_, sk⟩
    unfold ndCells
    simp only [s0, s1, s2, s3]
    rw [ha, hb, hc, e0, e1, e2, e3]
end
theorem flat_nds (l : List Nd) : (l.map ndCells).flatten = ndsV l := by
  unfold ndsV
  rw [List.flatMap_def]
theorem open_ndl {H : Type} {enc : TypeId × Value → H} {w : World} {base : Nat} {spare : Nat → Bool} {held : Bool} {a : Option Addr} {len cap : Nat} {d : DataW H} {p : List MemPlace}
    (h : DataW.Trod enc Try.prog w base spare held 23 (.slice a len cap) d p) :
    ∃ l : List Nd, l.length = len ∧ len ≤ maxLen ∧ Rs w a (ndsV l) ∧ ∀ x ∈ l, setOk x.set := by
  obtain ⟨cells, hl, hc1, hc2, hr, hc⟩ := open_elems Try.underlying23 (show 0 < Try.prog.cellsOf 48 by decide +kernel) h
  obtain ⟨l, rfl, hp⟩ := list_choose ndCells (fun x => setOk x.set) cells (fun cs hcs => by
    obtain ⟨_, n, y, hy⟩ := hc cs hcs
    exact open_four Try.underlying48 rfl rfl rfl rfl (by decide +kernel) (by decide +kernel) (by decide +kernel) (by decide +kernel) (by decide +kernel) Try.underlying3 Try.underlying3 Try.underlying3 Try.underlying46 Try.underlying44 (by decide +kernel) hy)
  refine ⟨l, by simpa using hl, by omega, ?_, hp⟩
  rw [flat_nds] at hr
  exact hr
end Go.Proofs.Ytaajgdhoffhdcaa
namespace Go.Proofs.Ytaajgdhoffhdcaa
open Go.ChangeShapes Go.WideShapes Go.ChangeAt Go.RowKit Go.Deep Rw
set_option linter.unusedVariables false

theorem langFirst_row {Al A2 At : Option Addr} {len1 c1 len2 c2 len3 c3 : Nat} {W : World} (h : ∃ l : List Int, l.length = len1 ∧ len1 ≤ maxLen ∧ Rs W Al (ints l)) (h2 : ∃ l : List Nd, l.length = len2 ∧ len2 ≤ maxLen ∧ Rs W A2 (ndsV l) ∧ ∀ x ∈ l, setOk x.set) (h3 : ∃ l : List UInt8, l.length = len3 ∧ len3 ≤ c3 ∧ c3 ≤ maxLen ∧ Rs W At (bytes l)) :
    Calls Try.prog 3 #[.slice Al len1 c1, .slice A2 len2 c2, .slice At len3 c3] W fun e w' => e = .returned (.bool true) ∧ Below W.heap.size W w' := by
  obtain ⟨l, rfl, hm, hr⟩ := h
  obtain ⟨raw, rfl, hm2, hr2, ho⟩ := h2
  obtain ⟨b, rfl, hc1, hc2, hrt⟩ := h3
  exact lfirst_any Al A2 At c1 c2 c3 l raw b W hr hm hr2 ho hm2 hrt hc1 (Nat.le_trans hc1 hc2)
set_option maxRecDepth 100000 in
theorem langFirst_lifted (os : Os) (started : os.Started) (H : Type) (enc : TypeId × Value → H) :
    ReturnsInHanded {} Try.checked os 3 .any (Rows.langFirstSpec.pre6 enc Try.prog Try.f3 Rows.langFirstRow.domain false) (Rows.langFirstSpec.post enc Try.prog Try.f3 false true false false) := by
  refine returnsInHanded_of_change (C := Try.checked) own started (by kernel_rfl) Try.func3
    (ChangeSpec.witness6 (enc := enc) (C := Try.checked) false ⟨#[], #[.slice none 0 0, .slice none 0 0, .slice none 0 0], []⟩ 8 (by kernel_rfl) (by kernel_rfl) (by kernel_rfl) (by kernel_rfl)) ?_
  intro W base args ds gs before hval0 hW hcnd _
  have hval : ∀ (j : Nat) t v, Try.f3.params[j]? = some t → args[j]? = some v → Value.okWide Try.prog W .any base t v := hval0
  have hW' := hW
  obtain ⟨p, q, hA0, hV, rfl, hfz, hnd⟩ := hW
  have hA : DataW.TrodAll enc Try.prog W 0 (fun _ => true) true Try.f3.params.toList args.toList ds p := hA0
  rw [Try.params3] at hA hval
  obtain ⟨v0, vs0, d0, ds0, p0, q0, hargs, rfl, rfl, h0, r0⟩ := trodAll_cons hA
  obtain ⟨v1, vs1, d1, ds1, p1, q1, rfl, rfl, rfl, h1, r1⟩ := trodAll_cons r0
  obtain ⟨v2, vs2, d2, ds2, p2, q2, rfl, rfl, rfl, h2, r2⟩ := trodAll_cons r1
  obtain ⟨rfl, rfl, rfl⟩ := trodAll_nil r2
  obtain rfl : args = #[v0, v1, v2] := by cases args; simp_all
  obtain ⟨rfl, rfl⟩ := trodVars_none hV
  obtain ⟨a0, len0, cap0, rfl⟩ := okWide_slice Try.underlying22 (hval 0 22 v0 rfl rfl)
  have lt0 : ∀ x ∈ p0, x.block < W.heap.size := by obtain ⟨m, hm⟩ := h0; exact DataW.trod_lt m _ _ _ hm
  have w0 := open_intl h0
  obtain ⟨a1, len1, cap1, rfl⟩ := okWide_slice Try.underlying23 (hval 1 23 v1 rfl rfl)
  have lt1 : ∀ x ∈ p1, x.block < W.heap.size := by obtain ⟨m, hm⟩ := h1; exact DataW.trod_lt m _ _ _ hm
  have w1 := open_ndl h1
  obtain ⟨a2, len2, cap2, rfl⟩ := okWide_slice Try.underlying24 (hval 2 24 v2 rfl rfl)
  have lt2 : ∀ x ∈ p2, x.block < W.heap.size := by obtain ⟨m, hm⟩ := h2; exact DataW.trod_lt m _ _ _ hm
  have w2 := open_bytel h2
  clear hA0 hval0
  refine (langFirst_row w0 w1 w2).mono fun e W' ⟨he, bel⟩ => ?_
  subst he
  exact ⟨_, rfl, _, _, _, [], _, [], hW', trodAll_mk1 (shut_bool Try.underlying4 _), (trodAll_cons_mk (Below.trod laidOut (by kernel_rfl) (of_decide_eq_true (by kernel_rfl)) h0 bel lt0) (trodAll_cons_mk (Below.trod laidOut (by kernel_rfl) (of_decide_eq_true (by kernel_rfl)) h1 bel lt1) (trodAll_cons_mk (Below.trod laidOut (by kernel_rfl) (of_decide_eq_true (by kernel_rfl)) h2 bel lt2) trodAll_mk0))), rfl, bel.frame _, fun h => by cases h⟩

theorem langFirst_holds : Rows.LangFirstSaid :=
  OpenClaim.holds_of_wide 3 Try.f3 rfl rfl rfl rfl rfl rfl rfl ⟨rfl, rfl, rfl, rfl, rfl⟩ rfl rfl rfl rfl rfl (by kernel_rfl) Try.func3 (by kernel_rfl)
    (of_decide_eq_true (by kernel_rfl)) (by unfold Func.isWrapper; first | (rw [if_pos (by decide +kernel)]; kernel_rfl) | (rw [if_neg (by decide +kernel)]; exact ⟨rfl, rfl⟩))
    (fun os started H enc _ => langFirst_lifted os started H enc)

end Go.Proofs.Ytaajgdhoffhdcaa
