/-
  The plain functions behind package ladder and its reference. No program in sight.
-/
import Derived.Test.YtpknglclcdgfbaaTicksP
namespace Go.Proofs.Ytpknglclcdgfbaa
namespace Ld
/-- What to do at a time if so many signals were sent: the signal, when the next step is due, whether there is one. A rung: its signal and its wait. -/
def next (l : List (Int × Int)) (sent at_ : Int) : Int × Int × Bool :=
  if sent < 0 ∨ (l.length : Int) < sent then (0, 0, false)
  else if sent = l.length then (9, 0, false)
  else ((l.getD sent.toNat (0, 0)).1, Tk.add at_ (l.getD sent.toNat (0, 0)).2, true)
/-- The first k shots (time, signal) from a time on. -/
def upTo (l : List (Int × Int)) (at0 : Int) : Nat → List (Int × Int) × Int
  | 0 => ([], at0)
  | k + 1 => let p := upTo l at0 k; (p.1 ++ [(p.2, (next l k p.2).1)], (next l k p.2).2.1)
def steps (l : List (Int × Int)) (at0 : Int) : List (Int × Int) := (upTo l at0 (l.length + 1)).1
/-- The second numbers are numbers of 64 bits. -/
def Ok (l : List (Int × Int)) : Prop := ∀ i, Tk.U (l.getD i (0, 0)).2
theorem ok_get {l : List (Int × Int)} (h : Ok l) (i : Nat) : Tk.U (l.getD i (0, 0)).2 := h i
theorem next_out {l : List (Int × Int)} {sent at_ : Int} (h : sent < 0 ∨ (l.length : Int) < sent) : next l sent at_ = (0, 0, false) := by
  unfold next; rw [if_pos h]
theorem next_end {l : List (Int × Int)} {at_ : Int} : next l l.length at_ = (9, 0, false) := by
  unfold next; rw [if_neg (by omega), if_pos rfl]
theorem next_in {l : List (Int × Int)} {sent at_ : Int} (h0 : 0 ≤ sent) (h1 : sent < l.length) : next l sent at_ = ((l.getD sent.toNat (0, 0)).1, Tk.add at_ (l.getD sent.toNat (0, 0)).2, true) := by
  unfold next; rw [if_neg (by omega), if_neg (by omega)]
theorem U_next {l : List (Int × Int)} (h : Ok l) (sent : Int) {at_ : Int} (ha : Tk.U at_) : Tk.U (next l sent at_).2.1 := by
  unfold next
  split
  · exact ⟨by decide, by decide⟩
  · split
    · exact ⟨by decide, by decide⟩
    · exact Tk.U_add ha (h _)
theorem U_upTo {l : List (Int × Int)} (h : Ok l) {at0 : Int} (ha : Tk.U at0) (k : Nat) : Tk.U (upTo l at0 k).2 := by
  induction k with
  | zero => exact ha
  | succ k ih => exact U_next h k ih
theorem upTo_len (l : List (Int × Int)) (at0 : Int) (k : Nat) : (upTo l at0 k).1.length = k := by
  induction k with
  | zero => rfl
  | succ k ih => simp [upTo, ih]
theorem upTo_succ (l : List (Int × Int)) (at0 : Int) (k : Nat) : upTo l at0 (k + 1) = ((upTo l at0 k).1 ++ [((upTo l at0 k).2, (next l k (upTo l at0 k).2).1)], (next l k (upTo l at0 k).2).2.1) := rfl
theorem ok_of {l : List (Int × Int)} (h : ∀ r ∈ l, Tk.U r.2) : Ok l := by
  intro i
  rw [List.getD_eq_getElem?_getD]
  by_cases hi : i < l.length
  · rw [List.getElem?_eq_getElem hi]; exact h _ (List.getElem_mem hi)
  · rw [List.getElem?_eq_none (by omega)]; exact ⟨by decide, by decide⟩
theorem steps_len (l : List (Int × Int)) (at0 : Int) : (steps l at0).length = l.length + 1 := upTo_len _ _ _
theorem upTo_get (l : List (Int × Int)) (at0 : Int) (i : Nat) : ∀ k, i < k → (upTo l at0 k).1.getD i (0, 0) = ((upTo l at0 i).2, (next l i (upTo l at0 i).2).1) := by
  intro k
  induction k with
  | zero => intro h; omega
  | succ k ih =>
    intro h
    rw [upTo_succ, List.getD_eq_getElem?_getD]
    have hl := upTo_len l at0 k
    rw [List.getElem?_append]
    by_cases hk : i < k
    · rw [if_pos (by omega), ← List.getD_eq_getElem?_getD]; exact ih hk
    · obtain rfl : i = k := by omega
      rw [if_neg (by omega), hl, Nat.sub_self]; rfl
theorem steps_get (l : List (Int × Int)) (at0 : Int) (i : Nat) (h : i ≤ l.length) : (steps l at0).getD i (0, 0) = ((upTo l at0 i).2, (next l i (upTo l at0 i).2).1) := upTo_get l at0 i _ (by omega)
theorem next_more (l : List (Int × Int)) (a : Int) (i : Nat) (h : i ≤ l.length) : (next l i a).2.2 = decide ((i : Int) < l.length) := by
  by_cases h1 : i = l.length
  · subst h1; rw [next_end]; simp
  · rw [next_in (by omega) (by omega)]; simp; omega
theorem upTo_mono {l : List (Int × Int)} (h : Ok l) {at0 : Int} (ha : Tk.U at0) (i : Nat) (hi : i < l.length) : (upTo l at0 i).2 ≤ (upTo l at0 (i + 1)).2 := by
  rw [upTo_succ, next_in (by omega) (by omega)]
  exact (Tk.le_add (U_upTo h ha i) (h _)).1

theorem steps_sig (l : List (Int × Int)) (at0 : Int) : (next l l.length (upTo l at0 l.length).2).1 = 9 := by rw [next_end]
theorem next_eq (l : List (Int × Int)) (at0 : Int) (k : Nat) (h : k ≤ l.length) : next l k (upTo l at0 k).2 = ((next l k (upTo l at0 k).2).1, (upTo l at0 (k + 1)).2, decide ((k : Int) < l.length)) := by
  rw [← next_more l (upTo l at0 k).2 k h]; rfl
/-- Rungs whose waits are cut. -/
def cutw (l : List (Int × Int)) : List (Int × Int) := l.map fun r => (r.1, r.2 % 1099511627776)
def Small (l : List (Int × Int)) : Prop := ∀ i, 0 ≤ (l.getD i (0, 0)).2 ∧ (l.getD i (0, 0)).2 < 1099511627776
theorem cutw_len (l : List (Int × Int)) : (cutw l).length = l.length := by simp [cutw]
theorem cutw_get (l : List (Int × Int)) (i : Nat) (h : i < l.length) : (cutw l).getD i (0, 0) = ((l.getD i (0, 0)).1, (l.getD i (0, 0)).2 % 1099511627776) := by
  rw [List.getD_eq_getElem?_getD, List.getD_eq_getElem?_getD, cutw, List.getElem?_map, List.getElem?_eq_getElem h]; rfl
theorem cutw_small (l : List (Int × Int)) : Small (cutw l) := by
  intro i
  by_cases h : i < l.length
  · rw [cutw_get l i h]; exact ⟨by simp only; omega, by simp only; omega⟩
  · rw [List.getD_eq_getElem?_getD, List.getElem?_eq_none (by rw [cutw_len]; omega)]; exact ⟨by decide, by decide⟩
theorem ok_small {l : List (Int × Int)} (h : Small l) : Ok l := fun i => ⟨(h i).1, by have := (h i).2; omega⟩
/-- Without saturation the times are sums. -/
theorem upTo_sum {l : List (Int × Int)} (h : Small l) {at0 : Int} (h0 : 0 ≤ at0) (h1 : at0 < 2199023255552) (hl : l.length ≤ 20) : ∀ k, k ≤ l.length → 0 ≤ (upTo l at0 k).2 ∧ (upTo l at0 k).2 ≤ (k + 2) * 1099511627776 ∧
    (k < l.length → (upTo l at0 (k + 1)).2 = (upTo l at0 k).2 + (l.getD k (0, 0)).2) := by
  have step : ∀ k, k < l.length → 0 ≤ (upTo l at0 k).2 → (upTo l at0 k).2 ≤ (k + 2) * 1099511627776 → (upTo l at0 (k + 1)).2 = (upTo l at0 k).2 + (l.getD k (0, 0)).2 := by
    intro k hk g0 g1
    rw [upTo_succ, next_in (by omega) (by omega)]
    simp only [Int.toNat_natCast]
    unfold Tk.add
    have := (h k).2
    rw [if_pos (by omega)]
  intro k
  induction k with
  | zero => intro _; exact ⟨h0, by simp [upTo]; omega, fun hk => step 0 hk h0 (by simp [upTo]; omega)⟩
  | succ k ih =>
    intro hk
    obtain ⟨g0, g1, g2⟩ := ih (by omega)
    have e := g2 (by omega)
    have hs := h k
    have a0 : 0 ≤ (upTo l at0 (k + 1)).2 := by rw [e]; omega
    have a1 : (upTo l at0 (k + 1)).2 ≤ ((k + 1 : Nat) + 2) * 1099511627776 := by rw [e]; push_cast; omega
    exact ⟨a0, a1, fun hk' => step (k + 1) hk' a0 a1⟩
theorem next_sig (l : List (Int × Int)) (k a b : Int) : (next l k a).1 = (next l k b).1 := by
  unfold next; split
  · rfl
  · split <;> rfl
theorem upTo_shift {l : List (Int × Int)} (h : Small l) {at0 d : Int} (h0 : 0 ≤ at0) (h1 : at0 < 1099511627776) (d0 : 0 ≤ d) (d1 : d < 1099511627776) (hl : l.length ≤ 20) :
    ∀ k, k ≤ l.length → (upTo l (at0 + d) k).2 = (upTo l at0 k).2 + d := by
  intro k
  induction k with
  | zero => intro _; rfl
  | succ k ih =>
    intro hk
    have e1 := (upTo_sum h (at0 := at0 + d) (by omega) (by omega) hl k (by omega)).2.2 (by omega)
    have e2 := (upTo_sum h (at0 := at0) (by omega) (by omega) hl k (by omega)).2.2 (by omega)
    have e3 := ih (by omega)
    omega
theorem upTo_prefix (l : List (Int × Int)) (at0 : Int) (m : Nat) : ∀ k, m ≤ k → (upTo l at0 k).1.take m = (upTo l at0 m).1 := by
  intro k
  induction k with
  | zero => intro h; obtain rfl : m = 0 := by omega
            rfl
  | succ k ih =>
    intro h
    by_cases hm : m ≤ k
    · rw [upTo_succ, List.take_append_of_le_length (by rw [upTo_len]; exact hm)]; exact ih hm
    · obtain rfl : m = k + 1 := by omega
      exact List.take_of_length_le (by rw [upTo_len]; omega)
theorem upTo_take (l : List (Int × Int)) (at0 : Int) (m : Nat) (hm : m ≤ l.length) : ∀ k, k ≤ m → upTo (l.take m) at0 k = upTo l at0 k := by
  intro k
  induction k with
  | zero => intro _; rfl
  | succ k ih =>
    intro hk
    have hlen : (l.take m).length = m := by simp; omega
    have e : ∀ a, next (l.take m) k a = next l k a := by
      intro a
      rw [next_in (by omega) (by omega), next_in (by omega) (by omega)]
      rw [Int.toNat_natCast, List.getD_eq_getElem?_getD, List.getD_eq_getElem?_getD, List.getElem?_take_of_lt (by omega)]
    rw [upTo_succ, upTo_succ, ih (by omega), e]
theorem ok_take {l : List (Int × Int)} (h : Ok l) (m : Nat) : Ok (l.take m) := by
  intro i
  have := h i
  rw [List.getD_eq_getElem?_getD] at this ⊢
  rw [List.getElem?_take]
  split
  · exact this
  · exact ⟨by decide, by decide⟩
end Ld
end Go.Proofs.Ytpknglclcdgfbaa
