/-
  The reference's parser in memory; the walks of fail, more.
-/
import Derived.Test.YthadkjgadhbidaaRxN
namespace Go.Proofs.Ythadkjgadhbidaa
open Go.RowKit
set_option linter.unusedVariables false

def bs (s : ByteArray) : List Nat := s.data.toList.map UInt8.toNat
theorem bs_length (s : ByteArray) : (bs s).length = s.size := by unfold bs; rw [List.length_map, Array.length_toList]; rfl
theorem bs_get (s : ByteArray) (k : Nat) (h : k < s.size) : (bs s).getD k 0 = s[k].toNat := by
  unfold bs
  rw [List.getD_eq_getElem?_getD, List.getElem?_map]
  have : s.data.toList[k]? = some s[k] := by
    rw [List.getElem?_eq_getElem (by rw [Array.length_toList]; exact h)]; rfl
  rw [this]; rfl
theorem bs_lt (s : ByteArray) (k : Nat) : (bs s).getD k 0 < 256 := by
  unfold bs
  rw [List.getD_eq_getElem?_getD, List.getElem?_map]
  cases s.data.toList[k]? with
  | none => simp
  | some b => simpa using b.toNat_lt
def PzC (s : ByteArray) (p : Ps) : Obj := .cells #[.string s, .int .i64 p.at_, .int .i64 p.deep, .int .i64 p.e] 103 (0, 0)
theorem PzC_cells {w : World} {g : Nat} {s : ByteArray} {p : Ps} (h : w.heap[g]? = some (PzC s p)) :
    w.cell? ⟨g, 0, none⟩ = some (.string s) ∧ w.cell? ⟨g, 1, none⟩ = some (.int .i64 p.at_) ∧ w.cell? ⟨g, 2, none⟩ = some (.int .i64 p.deep) ∧ w.cell? ⟨g, 3, none⟩ = some (.int .i64 p.e) ∧
    w.frozen? ⟨g, 1, none⟩ = false ∧ w.frozen? ⟨g, 2, none⟩ = false ∧ w.frozen? ⟨g, 3, none⟩ = false :=
  ⟨by rw [cell_of_row w g 0 _ _ _ h]; rfl, by rw [cell_of_row w g 1 _ _ _ h]; rfl, by rw [cell_of_row w g 2 _ _ _ h]; rfl, by rw [cell_of_row w g 3 _ _ _ h]; rfl,
    frozen_of_row w g 1 _ _ h, frozen_of_row w g 2 _ _ h, frozen_of_row w g 3 _ _ h⟩
theorem grown_store {a w : World} {g : Nat} (h : a.grownBy w (some g)) (i : Nat) (u : Value) : a.grownBy (w.setCell ⟨g, i, none⟩ u) (some g) :=
  World.grownBy.trans h ⟨rfl, rfl, rfl, by simp, fun j _ hj => heap_setCell_other w ⟨g, i, none⟩ j _ (fun e => hj (by simp [e]))⟩
theorem grown_refl (w : World) (row : Option Nat) : w.grownBy w row := ⟨rfl, rfl, rfl, Nat.le_refl _, fun _ _ _ => rfl⟩
theorem PzC_at {w : World} {g : Nat} {s : ByteArray} {p : Ps} (h : w.heap[g]? = some (PzC s p)) (k : Nat) : (w.setCell ⟨g, 1, none⟩ (.int .i64 k)).heap[g]? = some (PzC s { p with at_ := k }) := heap_setCell_same w g 1 _ _ _ h
theorem PzC_deep {w : World} {g : Nat} {s : ByteArray} {p : Ps} (h : w.heap[g]? = some (PzC s p)) (k : Nat) : (w.setCell ⟨g, 2, none⟩ (.int .i64 k)).heap[g]? = some (PzC s { p with deep := k }) := heap_setCell_same w g 2 _ _ _ h
theorem PzC_e {w : World} {g : Nat} {s : ByteArray} {p : Ps} (h : w.heap[g]? = some (PzC s p)) (k : Int) : (w.setCell ⟨g, 3, none⟩ (.int .i64 k)).heap[g]? = some (PzC s { p with e := k }) := heap_setCell_same w g 3 _ _ _ h
def MPost (w : World) (g : Nat) (s : ByteArray) (q : Ps) (v : Value) (e : Ending) (w' : World) : Prop := e = .returned v ∧ w'.heap[g]? = some (PzC s q) ∧ w.grownBy w' (some g)
def BDraw (b : Bool) (w : World) (e : Ending) (w' : World) : Prop := e = .returned (.bool b) ∧ ∃ n, w' = w.drewN n
set_option maxRecDepth 100000 in
theorem failC (g : Nat) (s : ByteArray) (p : Ps) (c : Int) (w : World) (h : w.heap[g]? = some (PzC s p)) : Calls Try.prog 54 #[.pointer (some ⟨g, 0, none⟩), .int .i64 c] w (MPost w g s (failP p c) (.tuple #[])) := by
  obtain ⟨c0, c1, c2, c3, f1, f2, f3⟩ := PzC_cells h
  by_cases he : p.e = 0
  · have hb : (p.e == 0) = true := by simpa using he
    have hp : failP p c = { p with e := c } := by unfold failP; rw [if_pos he]
    have HS := Lib.hid (PzC_e h c)
    have HP := Lib.hid hp
    clear he h hp
    go_enter Try.func54, Try.ntmps54
    go_wp2_with fail
    go_end0
    rw [HP.out]
    exact ⟨rfl, HS.out, grown_store (grown_refl w _) 3 _⟩
  · have hb : (p.e == 0) = false := by simpa using he
    have hp : failP p c = p := by unfold failP; rw [if_neg he]
    have HS := Lib.hid h
    have HP := Lib.hid hp
    clear he h hp
    go_enter Try.func54, Try.ntmps54
    go_wp2_with fail
    go_end0
    rw [HP.out]
    exact ⟨rfl, HS.out, grown_refl w _⟩
set_option maxRecDepth 100000 in
theorem moreC (g : Nat) (s : ByteArray) (p : Ps) (w : World) (h : w.heap[g]? = some (PzC s p)) (hs : s.size ≤ 1000000) (ha : p.at_ ≤ 1000000) : Calls Try.prog 76 #[.pointer (some ⟨g, 0, none⟩)] w (BDraw (moreP (bs s) p) w) := by
  obtain ⟨c0, c1, c2, c3, f1, f2, f3⟩ := PzC_cells h
  by_cases he : p.e = 0
  · have hb : (p.e == 0) = true := by simpa using he
    have hm : moreP (bs s) p = decide (p.at_ < s.size) := by
      unfold moreP
      rw [hb, bs_length, Bool.true_and]
    rw [hm]
    clear he h hm
    go_enter Try.func76, Try.ntmps76
    go_wp2_with fail
    go_quiet (fail)
    go_wp2_with fail
    go_ret
    exact ⟨rfl, _, rfl⟩
  · have hb : (p.e == 0) = false := by simpa using he
    have hm : moreP (bs s) p = false := by
      unfold moreP
      rw [hb, Bool.false_and]
    rw [hm]
    clear he h hm
    go_enter Try.func76, Try.ntmps76
    go_wp2_with fail
    go_quiet (fail)
    go_wp2_with fail
    go_ret
    exact ⟨rfl, _, rfl⟩
end Go.Proofs.Ythadkjgadhbidaa
