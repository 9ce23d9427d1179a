/-
  The plain functions behind package ladder and its reference. No program in sight.
-/
import Derived.Test.YtfejefndcckdbaaTicksP
namespace Go.Proofs.Ytfejefndcckdbaa
namespace Ld
/-- What to do at a time if so many signals were sent: the signal, when the next step is due, whether there is one. A rung: its signal and its wait. -/
def next (l : List (Int × Int)) (sent at_ : Int) : Int × Int × Bool :=
  if sent < 0 ∨ (l.length : Int) < sent then (0, 0, false)
  else if sent = l.length then (9, 0, false)
  else ((l.getD sent.toNat (0, 0)).1, Tk.add at_ (l.getD sent.toNat (0, 0)).2, true)
/-- The first k shots (time, signal) from a time on. -/
def upTo (l : List (Int × Int)) (at0 : Int) : Nat → List (Int × Int) × Int
  | 0 => ([], at0)
  | k + 1 => let p := upTo l at0 k; (p.1 ++ [(p.2, (next l k p.2).1)], (next l k p.2).2.1)
def steps (l : List (Int × Int)) (at0 : Int) : List (Int × Int) := (upTo l at0 (l.length + 1)).1
/-- The second numbers are numbers of 64 bits. -/
def Ok (l : List (Int × Int)) : Prop := ∀ i, Tk.U (l.getD i (0, 0)).2
theorem ok_get {l : List (Int × Int)} (h : Ok l) (i : Nat) : Tk.U (l.getD i (0, 0)).2 := h i
theorem next_out {l : List (Int × Int)} {sent at_ : Int} (h : sent < 0 ∨ (l.length : Int) < sent) : next l sent at_ = (0, 0, false) := by
  unfold next; rw [if_pos h]
theorem next_end {l : List (Int × Int)} {at_ : Int} : next l l.length at_ = (9, 0, false) := by
  unfold next; rw [if_neg (by omega), if_pos rfl]
theorem next_in {l : List (Int × Int)} {sent at_ : Int} (h0 : 0 ≤ sent) (h1 : sent < l.length) : next l sent at_ = ((l.getD sent.toNat (0, 0)).1, Tk.add at_ (l.getD sent.toNat (0, 0)).2, true) := by
  unfold next; rw [if_neg (by omega), if_neg (by omega)]
theorem U_next {l : List (Int × Int)} (h : Ok l) (sent : Int) {at_ : Int} (ha : Tk.U at_) : Tk.U (next l sent at_).2.1 := by
  unfold next
  split
  · exact ⟨by decide, by decide⟩
  · split
    · exact ⟨by decide, by decide⟩
    · exact Tk.U_add ha (h _)
theorem U_upTo {l : List (Int × Int)} (h : Ok l) {at0 : Int} (ha : Tk.U at0) (k : Nat) : Tk.U (upTo l at0 k).2 := by
  induction k with
  | zero => exact ha
  | succ k ih => exact U_next h k ih
theorem upTo_len (l : List (Int × Int)) (at0 : Int) (k : Nat) : (upTo l at0 k).1.length = k := by
  induction k with
  | zero => rfl
  | succ k ih => simp [upTo, ih]
theorem upTo_succ (l : List (Int × Int)) (at0 : Int) (k : Nat) : upTo l at0 (k + 1) = ((upTo l at0 k).1 ++ [((upTo l at0 k).2, (next l k (upTo l at0 k).2).1)], (next l k (upTo l at0 k).2).2.1) := rfl
theorem ok_of {l : List (Int × Int)} (h : ∀ r ∈ l, Tk.U r.2) : Ok l := by
  intro i
  rw [List.getD_eq_getElem?_getD]
  by_cases hi : i < l.length
  · rw [List.getElem?_eq_getElem hi]; exact h _ (List.getElem_mem hi)
  · rw [List.getElem?_eq_none (by omega)]; exact ⟨by decide, by decide⟩
theorem steps_len (l : List (Int × Int)) (at0 : Int) : (steps l at0).length = l.length + 1 := upTo_len _ _ _
end Ld
end Go.Proofs.Ytfejefndcckdbaa
