/-
  The plain functions behind package burst. No program in sight.
-/
import Derived.Test.YtpknglclcdgfbaaTicksP
namespace Go.Proofs.Ytpknglclcdgfbaa
set_option linter.unusedVariables false
namespace Bu
def trim (l : List Int) (now win : Int) : List Int := l.filter fun t => decide (Tk.sub now t < win)
def allow (l : List Int) (most now win : Int) : List Int × Bool :=
  if ((trim l now win).length : Int) < most then (trim l now win ++ [now], true) else (trim l now win, false)
theorem trim_U {l : List Int} (h : ∀ t ∈ l, Tk.U t) (now win : Int) : ∀ t ∈ trim l now win, Tk.U t := fun t ht => h t (List.mem_filter.mp ht).1
theorem trim_le (l : List Int) (now win : Int) : (trim l now win).length ≤ l.length := List.length_filter_le _ _
theorem allow_yes {l : List Int} {most now win : Int} (h : ((trim l now win).length : Int) < most) : allow l most now win = (trim l now win ++ [now], true) := by unfold allow; rw [if_pos h]
theorem allow_no {l : List Int} {most now win : Int} (h : ¬ ((trim l now win).length : Int) < most) : allow l most now win = (trim l now win, false) := by unfold allow; rw [if_neg h]
theorem allow_U {l : List Int} (h : ∀ t ∈ l, Tk.U t) {most now win : Int} (hn : Tk.U now) : ∀ t ∈ (allow l most now win).1, Tk.U t := by
  intro t ht
  by_cases hc : ((trim l now win).length : Int) < most
  · rw [allow_yes hc, List.mem_append] at ht
    rcases ht with ht | ht
    · exact trim_U h _ _ t ht
    · simp at ht; subst ht; exact hn
  · rw [allow_no hc] at ht; exact trim_U h _ _ t ht
theorem allow_le (l : List Int) (most now win : Int) : (allow l most now win).1.length ≤ l.length + 1 := by
  have := trim_le l now win
  by_cases hc : ((trim l now win).length : Int) < most
  · rw [allow_yes hc]; simp; omega
  · rw [allow_no hc]; simp only; omega
/-- Times, now and answers behind k restarts. -/
def playTo (most win : Int) (l : List Int) : Nat → List Int × Int × List Bool
  | 0 => ([], 0, [])
  | k + 1 => let p := playTo most win l k
    ((allow p.1 most (max p.2.1 (l.getD k 0)) win).1, max p.2.1 (l.getD k 0), p.2.2 ++ [(allow p.1 most (max p.2.1 (l.getD k 0)) win).2])
def play (most win : Int) (l : List Int) : List Bool := (playTo most win l l.length).2.2
theorem playTo_succ (most win : Int) (l : List Int) (k : Nat) : playTo most win l (k + 1) =
    ((allow (playTo most win l k).1 most (max (playTo most win l k).2.1 (l.getD k 0)) win).1, max (playTo most win l k).2.1 (l.getD k 0), (playTo most win l k).2.2 ++ [(allow (playTo most win l k).1 most (max (playTo most win l k).2.1 (l.getD k 0)) win).2]) := rfl
theorem getD_U {l : List Int} (h : ∀ t ∈ l, Tk.U t) (k : Nat) : Tk.U (l.getD k 0) := by
  rw [List.getD_eq_getElem?_getD]
  by_cases hk : k < l.length
  · rw [List.getElem?_eq_getElem hk]; exact h _ (List.getElem_mem hk)
  · rw [List.getElem?_eq_none (by omega)]; exact ⟨by decide, by decide⟩
theorem max_U {a b : Int} (ha : Tk.U a) (hb : Tk.U b) : Tk.U (max a b) := by
  unfold Tk.U at *; omega
theorem playTo_U {l : List Int} (h : ∀ t ∈ l, Tk.U t) (most win : Int) (k : Nat) : (∀ t ∈ (playTo most win l k).1, Tk.U t) ∧ Tk.U (playTo most win l k).2.1 := by
  induction k with
  | zero => exact ⟨by intro t ht; simp [playTo] at ht, show Tk.U 0 from ⟨by decide, by decide⟩⟩
  | succ k ih =>
    have h2 := max_U ih.2 (getD_U h k)
    exact ⟨allow_U ih.1 h2, h2⟩
theorem playTo_le (most win : Int) (l : List Int) (k : Nat) : (playTo most win l k).1.length ≤ k ∧ (playTo most win l k).2.2.length = k := by
  induction k with
  | zero => exact ⟨Nat.le_refl _, rfl⟩
  | succ k ih =>
    rw [playTo_succ]
    refine ⟨Nat.le_trans (allow_le _ _ _ _) (by omega), ?_⟩
    simp; omega
theorem play_length (most win : Int) (l : List Int) : (play most win l).length = l.length := (playTo_le most win l _).2
/-- What the loop of slices.DeleteFunc has made of the row behind j rounds: what is kept, and behind it what stood there. -/
def keepTo (q : Int → Bool) (l : List Int) (j : Nat) : List Int := (l.take j).filter q
def now_ (q : Int → Bool) (l : List Int) (j : Nat) : List Int := keepTo q l j ++ l.drop (keepTo q l j).length
theorem keepTo_le (q : Int → Bool) (l : List Int) (j : Nat) : (keepTo q l j).length ≤ j := by
  unfold keepTo
  have := List.length_filter_le q (l.take j)
  have := List.length_take_le j l
  omega
theorem keepTo_le' (q : Int → Bool) (l : List Int) (j : Nat) : (keepTo q l j).length ≤ l.length := by
  unfold keepTo
  have := List.length_filter_le q (l.take j)
  simp at this
  omega
theorem keepTo_lt {q : Int → Bool} {l : List Int} {k j : Nat} (hk : k < j) (hj : j ≤ l.length) (hq : q (l.getD k 0) = false) : (keepTo q l j).length < j := by
  have h : (keepTo q l j).length < (l.take j).length := by
    unfold keepTo
    rw [List.length_filter_lt_length_iff_exists]
    refine ⟨l.getD k 0, ?_, by rw [hq]; simp⟩
    rw [List.getD_eq_getElem?_getD, List.getElem?_eq_getElem (by omega), List.mem_take_iff_getElem]
    exact ⟨k, by omega, rfl⟩
  have := List.length_take_le j l
  omega
theorem now_length (q : Int → Bool) (l : List Int) (j : Nat) : (now_ q l j).length = l.length := by
  have := keepTo_le' q l j
  simp [now_]; omega
theorem take_snoc (l : List Int) (j : Nat) (h : j < l.length) : l.take (j + 1) = l.take j ++ [l.getD j 0] := by
  rw [List.take_succ_eq_append_getElem h, List.getD_eq_getElem?_getD, List.getElem?_eq_getElem h]; rfl
theorem now_get (q : Int → Bool) (l : List Int) (j : Nat) (h : j < l.length) : (now_ q l j).getD j 0 = l.getD j 0 := by
  have h1 := keepTo_le q l j
  rw [List.getD_eq_getElem?_getD, now_, List.getElem?_append_right h1, List.getElem?_drop, List.getD_eq_getElem?_getD]
  congr 2; omega
theorem keepTo_yes {q : Int → Bool} {l : List Int} {j : Nat} (h : j < l.length) (hq : q (l.getD j 0) = true) : keepTo q l (j + 1) = keepTo q l j ++ [l.getD j 0] := by
  unfold keepTo
  rw [take_snoc l j h, List.filter_append]
  generalize l.getD j 0 = x at *
  simp [hq]
theorem keepTo_no {q : Int → Bool} {l : List Int} {j : Nat} (h : j < l.length) (hq : q (l.getD j 0) = false) : keepTo q l (j + 1) = keepTo q l j := by
  unfold keepTo
  rw [take_snoc l j h, List.filter_append]
  generalize l.getD j 0 = x at *
  simp [hq]
theorem now_yes {q : Int → Bool} {l : List Int} {j : Nat} (h : j < l.length) (hq : q (l.getD j 0) = true) : (now_ q l j).set (keepTo q l j).length (l.getD j 0) = now_ q l (j + 1) := by
  have h1 := keepTo_le q l j
  unfold now_
  have h2 : l.drop (keepTo q l j).length = l[(keepTo q l j).length]'(by omega) :: l.drop ((keepTo q l j).length + 1) := List.drop_eq_getElem_cons (by omega)
  rw [keepTo_yes h hq, List.set_append_right _ _ (Nat.le_refl _), Nat.sub_self, h2, List.set_cons_zero, List.append_assoc, List.length_append]
  rfl
theorem now_no {q : Int → Bool} {l : List Int} {j : Nat} (h : j < l.length) (hq : q (l.getD j 0) = false) : now_ q l j = now_ q l (j + 1) := by
  unfold now_; rw [keepTo_no h hq]
theorem keepTo_all (q : Int → Bool) (l : List Int) : keepTo q l l.length = l.filter q := by unfold keepTo; rw [List.take_length]
/-- All before k are kept, k is not: where the loop begins. -/
theorem keepTo_start {q : Int → Bool} {l : List Int} {k : Nat} (h : k < l.length) (hq : q (l.getD k 0) = false) (hall : ∀ j, j < k → q (l.getD j 0) = true) : keepTo q l (k + 1) = l.take k := by
  rw [keepTo_no h hq]
  unfold keepTo
  rw [List.filter_eq_self]
  intro x hx
  obtain ⟨i, hi, rfl⟩ := List.mem_iff_getElem.mp hx
  have hik : i < k := by simp at hi; omega
  have := hall i hik
  rw [List.getD_eq_getElem?_getD, List.getElem?_eq_getElem (by omega)] at this
  simpa using this
theorem now_start {q : Int → Bool} {l : List Int} {k : Nat} (h : k < l.length) (hq : q (l.getD k 0) = false) (hall : ∀ j, j < k → q (l.getD j 0) = true) : now_ q l (k + 1) = l := by
  unfold now_
  rw [keepTo_start h hq hall, List.length_take, Nat.min_eq_left (by omega), List.take_append_drop]
theorem now_take (q : Int → Bool) (l : List Int) (j : Nat) : (now_ q l j).take (keepTo q l j).length = keepTo q l j := by unfold now_; exact List.take_left
theorem filter_all {q : Int → Bool} {l : List Int} (hall : ∀ j, j < l.length → q (l.getD j 0) = true) : l.filter q = l := by
  rw [List.filter_eq_self]
  intro x hx
  obtain ⟨i, hi, rfl⟩ := List.mem_iff_getElem.mp hx
  have := hall i hi
  rw [List.getD_eq_getElem?_getD, List.getElem?_eq_getElem hi] at this
  simpa using this
end Bu
end Go.Proofs.Ytpknglclcdgfbaa
