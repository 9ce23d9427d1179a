/-
  The plain laws on package burst: what was allowed within a window, and trimming. No program in sight.
-/
import Derived.Test.YtfejefndcckdbaaBurstP
namespace Go.Proofs.Ytfejefndcckdbaa
set_option linter.unusedVariables false
namespace Bu
/-- The running greatest: behind k rounds the first k + 1 numbers do not descend. -/
def runTo (l : List Int) : Nat → List Int
  | 0 => l
  | k + 1 => (runTo l k).set (k + 1) (max ((runTo l k).getD (k + 1) 0) ((runTo l k).getD k 0))
theorem runTo_length (l : List Int) (k : Nat) : (runTo l k).length = l.length := by
  induction k with
  | zero => rfl
  | succ k ih => simp [runTo, ih]
theorem getD_set (l : List Int) (i j : Nat) (x : Int) (h : i < l.length) : (l.set i x).getD j 0 = if i = j then x else l.getD j 0 := by
  rw [List.getD_eq_getElem?_getD, List.getD_eq_getElem?_getD, List.getElem?_set]
  by_cases hij : i = j
  · subst hij; simp [h]
  · simp [hij]
theorem runTo_bd {l : List Int} {n : Int} (hn : 0 < n) (h : ∀ j, 0 ≤ l.getD j 0 ∧ l.getD j 0 < n) (k : Nat) : ∀ j, 0 ≤ (runTo l k).getD j 0 ∧ (runTo l k).getD j 0 < n := by
  induction k with
  | zero => exact h
  | succ k ih =>
    intro j
    by_cases hk : k + 1 < l.length
    · have h1 := ih j
      have h2 := ih (k + 1)
      have h3 := ih k
      rw [runTo, getD_set _ _ _ _ (by rw [runTo_length]; exact hk)]
      split <;> omega
    · rw [runTo, List.set_eq_of_length_le (by rw [runTo_length]; omega)]
      exact ih j
theorem runTo_mono (l : List Int) (k : Nat) (hk : k < l.length) : ∀ j, j < k → (runTo l k).getD j 0 ≤ (runTo l k).getD (j + 1) 0 := by
  induction k with
  | zero => intro j hj; omega
  | succ k ih =>
    intro j hj
    have h1 := ih (by omega)
    rw [runTo, getD_set _ _ _ _ (by rw [runTo_length]; exact hk), getD_set _ _ _ _ (by rw [runTo_length]; exact hk), if_neg (by omega)]
    by_cases hjk : j = k
    · subst hjk; rw [if_pos rfl]; omega
    · rw [if_neg (by omega)]; exact h1 j (by omega)
def Mono (l : List Int) : Prop := ∀ j, j + 1 < l.length → l.getD j 0 ≤ l.getD (j + 1) 0
theorem mono_le {l : List Int} (h : Mono l) : ∀ d i, i + d < l.length → l.getD i 0 ≤ l.getD (i + d) 0 := by
  intro d
  induction d with
  | zero => intro i _; exact Int.le_refl _
  | succ d ih => intro i hi; have h1 := ih i (by omega); have h2 := h (i + d) (by omega); rw [← Nat.add_assoc]; omega

/-- How many of the first k restarts were allowed and lie within the window before place i. -/
def cnt (x : List Int) (ok : List Bool) (win : Int) (i : Nat) : Nat → Nat
  | 0 => 0
  | k + 1 => cnt x ok win i k + if ok.getD k false = true ∧ x.getD i 0 - x.getD k 0 < win then 1 else 0
theorem cnt_le (x : List Int) (ok : List Bool) (win : Int) (i k : Nat) : cnt x ok win i k ≤ k := by
  induction k with
  | zero => exact Nat.le_refl _
  | succ k ih => unfold cnt; split <;> omega
/-- The times of those that were allowed. -/
def acc (x : List Int) (ok : List Bool) : Nat → List Int
  | 0 => []
  | k + 1 => acc x ok k ++ if ok.getD k false = true then [x.getD k 0] else []

theorem trim_append (a b : List Int) (n w : Int) : trim (a ++ b) n w = trim a n w ++ trim b n w := by unfold trim; rw [List.filter_append]
theorem sub_mono {n m t w : Int} (h : n ≤ m) (hm : Tk.sub m t < w) : Tk.sub n t < w := by
  unfold Tk.sub at *
  split at hm <;> split <;> omega
theorem trim_trim (l : List Int) {n m w v : Int} (h : n ≤ m) (hv : v ≤ w) : trim (trim l n w) m v = trim l m v := by
  unfold trim
  rw [List.filter_filter]
  congr 1
  funext t
  by_cases hm : Tk.sub m t < v
  · have := sub_mono h hm
    have h2 : Tk.sub n t < w := by omega
    simp [hm, h2]
  · simp [hm]
theorem playTo_ans (most win : Int) (l : List Int) (i : Nat) : ∀ k, i < k → (playTo most win l k).2.2.getD i false = (allow (playTo most win l i).1 most (max (playTo most win l i).2.1 (l.getD i 0)) win).2 := by
  intro k
  induction k with
  | zero => intro h; omega
  | succ k ih =>
    intro h
    have hl := (playTo_le most win l k).2
    rw [playTo_succ]
    simp only
    rw [List.getD_eq_getElem?_getD, List.getElem?_append]
    by_cases hk : i < k
    · rw [if_pos (by omega), ← List.getD_eq_getElem?_getD]; exact ih hk
    · obtain rfl : i = k := by omega
      rw [if_neg (by omega), hl, Nat.sub_self]; rfl
theorem allow_snd (l : List Int) (most now win : Int) : (allow l most now win).2 = decide (((trim l now win).length : Int) < most) := by
  by_cases hc : ((trim l now win).length : Int) < most
  · rw [allow_yes hc]; simp [hc]
  · rw [allow_no hc]; simp [hc]
theorem playTo_now {most win : Int} {l : List Int} (h : Mono l) (h0 : ∀ j, 0 ≤ l.getD j 0) : ∀ k, k ≤ l.length → (k = 0 → (playTo most win l k).2.1 = 0) ∧ (∀ j, k = j + 1 → (playTo most win l k).2.1 = l.getD j 0) := by
  intro k
  induction k with
  | zero => intro _; exact ⟨fun _ => rfl, fun j hj => by omega⟩
  | succ k ih =>
    intro hk
    obtain ⟨i0, i1⟩ := ih (by omega)
    refine ⟨fun hh => by omega, fun j hj => ?_⟩
    obtain rfl : k = j := by omega
    rw [playTo_succ]
    simp only
    cases k with
    | zero => rw [i0 rfl]; have := h0 0; omega
    | succ k =>
      rw [i1 k rfl]
      have := h k (by omega)
      omega
theorem max_now {most win : Int} {l : List Int} (h : Mono l) (h0 : ∀ j, 0 ≤ l.getD j 0) (k : Nat) (hk : k < l.length) : max (playTo most win l k).2.1 (l.getD k 0) = l.getD k 0 := by
  have := (playTo_now (most := most) (win := win) h h0 (k + 1) (by omega)).2 k rfl
  rw [playTo_succ] at this
  exact this
theorem inv_acc {most win : Int} {l : List Int} (h : Mono l) (h0 : ∀ j, 0 ≤ l.getD j 0) (ok : List Bool) (hok : ∀ k, k < l.length → ok.getD k false = (allow (playTo most win l k).1 most (l.getD k 0) win).2) :
    ∀ k, k ≤ l.length → ∀ n, (∀ j, j < k → l.getD j 0 ≤ n) → trim (playTo most win l k).1 n win = trim (acc l ok k) n win := by
  intro k
  induction k with
  | zero => intro _ n _; rfl
  | succ k ih =>
    intro hk n hn
    have h1 := ih (by omega) n (fun j hj => hn j (by omega))
    have hkn := hn k (by omega)
    rw [playTo_succ]
    simp only
    rw [max_now h h0 k (by omega), acc, trim_append, ← h1]
    have hk2 := hok k (by omega)
    generalize (playTo most win l k).1 = ts at *
    generalize l.getD k 0 = x at *
    by_cases hc : ((trim ts x win).length : Int) < most
    · rw [allow_yes hc] at hk2 ⊢
      simp only at hk2 ⊢
      rw [hk2, trim_append, trim_trim ts hkn (Int.le_refl _)]
      rfl
    · rw [allow_no hc] at hk2 ⊢
      simp only at hk2 ⊢
      rw [hk2, trim_trim ts hkn (Int.le_refl _)]
      simp [trim]
theorem acc_cnt {l : List Int} (ok : List Bool) (win : Int) (i : Nat) (h : ∀ j, j < i → l.getD j 0 ≤ l.getD i 0) : ∀ k, k ≤ i → (trim (acc l ok k) (l.getD i 0) win).length = cnt l ok win i k := by
  intro k
  induction k with
  | zero => intro _; rfl
  | succ k ih =>
    intro hk
    rw [acc, trim_append, List.length_append, ih (by omega), cnt]
    congr 1
    have hle := h k (by omega)
    have hs : Tk.sub (l.getD i 0) (l.getD k 0) = l.getD i 0 - l.getD k 0 := by unfold Tk.sub; split <;> omega
    generalize l.getD i 0 = a at *
    generalize l.getD k 0 = b at *
    by_cases h1 : ok.getD k false = true
    · rw [h1]
      by_cases h2 : a - b < win
      · simp [trim, hs, h2]
      · simp [trim, hs, h2]
    · rw [if_neg h1, if_neg (by intro h; exact h1 h.1)]; rfl
/-- One is refused only if as many as the limit were allowed within the window before. -/
theorem limits {most win : Int} {l : List Int} (h : Mono l) (h0 : ∀ j, 0 ≤ l.getD j 0) (i : Nat) (hi : i < l.length) :
    (play most win l).getD i false = decide ((cnt l (play most win l) win i i : Int) < most) := by
  have hle : ∀ j, j < i → l.getD j 0 ≤ l.getD i 0 := fun j hj => by
    have := mono_le h (i - j) j (by omega)
    rwa [show j + (i - j) = i by omega] at this
  have hok : ∀ k, k < l.length → (play most win l).getD k false = (allow (playTo most win l k).1 most (l.getD k 0) win).2 := fun k hk => by
    rw [play, playTo_ans most win l k _ hk, max_now h h0 k hk]
  rw [hok i hi, allow_snd, inv_acc h h0 (play most win l) hok i (by omega) (l.getD i 0) hle, acc_cnt _ win i hle i (Nat.le_refl _)]
theorem trim_smaller (l : List Int) (n : Int) {w v : Int} (hv : v ≤ w) : (trim l n v).length ≤ (trim l n w).length := by
  rw [← trim_trim l (Int.le_refl n) hv]; exact trim_le _ _ _
theorem allow_full (l : List Int) (n w : Int) : allow l (trim l n w).length n w = (trim l n w, false) := allow_no (by omega)
end Bu
end Go.Proofs.Ytfejefndcckdbaa
