/-
  A text that matches goes on to match; lines before do not count. Plain lists, no program in sight.
-/
import Derived.Test.YtaajgdhoffhdcaaLnF
namespace Go.Proofs.Ytaajgdhoffhdcaa
open Go.RowKit
set_option linter.unusedVariables false

theorem firstF_bd (l : List Nd) (t : List Nat) : ∀ (f i : Nat) (L : List Nat), t.length < f + i → i ≤ t.length → firstF l t f i L = -1 ∨ ((i : Int) ≤ firstF l t f i L ∧ firstF l t f i L ≤ t.length)
  | 0, i, L, hf, hi => by omega
  | f + 1, i, L, hf, hi => by
    rw [firstF_go l t (f + 1) i L hf hi, Nat.add_sub_cancel]
    by_cases h1 : doneM l (spreadM l (bolT t i) false (enterM L (2 * (l.length - 1)))) = true
    · rw [if_pos h1]; right; omega
    rw [if_neg h1]
    by_cases h2 : i = t.length
    · rw [if_pos h2]; exact Or.inl rfl
    rw [if_neg h2]
    by_cases h3 : t.getD i 0 = 10
    · rw [if_pos h3]
      by_cases h4 : doneM l (spreadM l (bolT t i) true (spreadM l (bolT t i) false (enterM L (2 * (l.length - 1))))) = true
      · rw [if_pos h4]; right; omega
      · rw [if_neg h4]
        rcases firstF_bd l t f (i + 1) (stepM l (t.getD i 0) (spreadM l (bolT t i) true (spreadM l (bolT t i) false (enterM L (2 * (l.length - 1)))))) (by omega) (by omega) with h | ⟨h, h'⟩
        · exact Or.inl h
        · exact Or.inr ⟨by omega, h'⟩
    · rw [if_neg h3]
      rcases firstF_bd l t f (i + 1) (stepM l (t.getD i 0) (spreadM l (bolT t i) false (enterM L (2 * (l.length - 1))))) (by omega) (by omega) with h | ⟨h, h'⟩
      · exact Or.inl h
      · exact Or.inr ⟨by omega, h'⟩
theorem bolT_eq {t t' : List Nat} {k i : Nat} (h : ∀ j, j < k → t'.getD j 0 = t.getD j 0) (hi : i ≤ k) : bolT t' i = bolT t i := by
  unfold bolT
  rcases Nat.eq_zero_or_pos i with rfl | h0
  · rfl
  · rw [h (i - 1) (by omega)]
theorem firstF_same (l : List Nd) (t t' : List Nat) (k : Nat) (hag : ∀ j, j < k → t'.getD j 0 = t.getD j 0) (hk' : k ≤ t'.length) : ∀ (f f' i : Nat) (L : List Nat), t.length < f + i → i ≤ t.length → t'.length < f' + i → firstF l t f i L = (k : Int) → firstF l t' f' i L = (k : Int)
  | 0, f', i, L, hf, hi, hf', h => by omega
  | f + 1, f', i, L, hf, hi, hf', h => by
    have hik : i ≤ k := by
      rcases firstF_bd l t (f + 1) i L hf hi with e | ⟨e, _⟩
      · rw [h] at e; omega
      · rw [h] at e; omega
    rw [firstF_go l t (f + 1) i L hf hi, Nat.add_sub_cancel] at h
    rw [firstF_go l t' f' i L hf' (by omega), bolT_eq hag hik]
    by_cases h1 : doneM l (spreadM l (bolT t i) false (enterM L (2 * (l.length - 1)))) = true
    · rw [if_pos h1] at h ⊢; exact h
    rw [if_neg h1] at h ⊢
    by_cases h2 : i = t.length
    · rw [if_pos h2] at h; omega
    rw [if_neg h2] at h
    by_cases h3 : t.getD i 0 = 10
    · rw [if_pos h3] at h
      by_cases h4 : doneM l (spreadM l (bolT t i) true (spreadM l (bolT t i) false (enterM L (2 * (l.length - 1))))) = true
      · rw [if_pos h4] at h
        rw [if_neg (by omega), hag i (by omega), if_pos h3, if_pos h4]
        exact h
      · rw [if_neg h4] at h
        have hlt : i < k := by
          rcases firstF_bd l t f (i + 1) _ (by omega) (by omega) with e | ⟨e, _⟩
          · rw [h] at e; omega
          · rw [h] at e; omega
        rw [if_neg (by omega), hag i hlt, if_pos h3, if_neg h4]
        exact firstF_same l t t' k hag hk' f (f' - 1) (i + 1) _ (by omega) (by omega) (by omega) h
    · rw [if_neg h3] at h
      have hlt : i < k := by
        rcases firstF_bd l t f (i + 1) _ (by omega) (by omega) with e | ⟨e, _⟩
        · rw [h] at e; omega
        · rw [h] at e; omega
      rw [if_neg (by omega), hag i hlt, if_neg h3]
      exact firstF_same l t t' k hag hk' f (f' - 1) (i + 1) _ (by omega) (by omega) (by omega) h
theorem firstM_bd (l : List Nd) (t : List Nat) : -1 ≤ firstM l t ∧ firstM l t ≤ t.length := by
  unfold firstM
  split
  · rcases firstF_bd l t (t.length + 1) 0 [] (by omega) (by omega) with e | ⟨e, e'⟩ <;> omega
  · omega
/-- What a text's first match is, does not depend on what comes after it. -/
theorem firstM_same (l : List Nd) (t t' : List Nat) (k : Nat) (hag : ∀ j, j < k → t'.getD j 0 = t.getD j 0) (hk' : k ≤ t'.length) (h : firstM l t = (k : Int)) : firstM l t' = (k : Int) := by
  unfold firstM at h ⊢
  split at h
  · rename_i hv
    rw [if_pos hv]
    exact firstF_same l t t' k hag hk' _ _ _ _ (by omega) (by omega) (by omega) h
  · omega
theorem first_app (l : List Nd) (t tail : List Nat) (k : Nat) (h : firstM l t = (k : Int)) : firstM l (t ++ tail) = (k : Int) := by
  have hb := firstM_bd l t
  refine firstM_same l t _ k (fun j hj => ?_) (by rw [List.length_append]; omega) h
  rw [List.getD_eq_getElem?_getD, List.getD_eq_getElem?_getD, List.getElem?_append_left (by omega)]
theorem first_take (l : List Nd) (t : List Nat) (k : Nat) (h : firstM l t = (k : Int)) : firstM l (t.take k) = (k : Int) := by
  have hb := firstM_bd l t
  refine firstM_same l t _ k (fun j hj => ?_) (by rw [List.length_take]; omega) h
  rw [List.getD_eq_getElem?_getD, List.getD_eq_getElem?_getD, List.getElem?_take, if_pos hj]
/-- Ends behind a line. -/
theorem endsF_shift (l : List Nd) (h t : List Nat) (hh : h.getD (h.length - 1) 0 = 10) (h0 : 0 < h.length) : ∀ (f f' i : Nat) (L E : List Nat), t.length < f + i → i ≤ t.length → (h ++ t).length < f' + (i + h.length) →
    endsF l (h ++ t) f' (i + h.length) L (E.map (· + h.length)) = (endsF l t f i L E).map (· + h.length)
  | 0, f', i, L, E, hf, hi, hf' => by omega
  | f + 1, f', i, L, E, hf, hi, hf' => by
    by_cases hL : L.length = 0
    · rw [endsF_nil _ _ _ _ _ _ hL, endsF_nil _ _ _ _ _ _ hL]
    rw [List.length_append] at hf'
    rw [endsF_go l t (f + 1) i L E hL hf hi, Nat.add_sub_cancel, endsF_go l (h ++ t) f' (i + h.length) L _ hL (by rw [List.length_append]; omega) (by rw [List.length_append]; omega)]
    have gd : ∀ j, (h ++ t).getD (j + h.length) 0 = t.getD j 0 := fun j => by
      rw [List.getD_eq_getElem?_getD, List.getD_eq_getElem?_getD, List.getElem?_append_right (by omega), Nat.add_sub_cancel]
    have hb : bolT (h ++ t) (i + h.length) = bolT t i := by
      unfold bolT
      rcases Nat.eq_zero_or_pos i with rfl | hi0
      · have : (h ++ t).getD (0 + h.length - 1) 0 = 10 := by
          rw [Nat.zero_add, List.getD_eq_getElem?_getD, List.getElem?_append_left (by omega), ← List.getD_eq_getElem?_getD]; exact hh
        rw [this]; simp
      · have := gd (i - 1)
        rw [show i - 1 + h.length = i + h.length - 1 by omega] at this
        rw [this]
        have e1 : (i + h.length == 0) = false := by simp; omega
        have e2 : (i == 0) = false := by simp; omega
        rw [e1, e2]
    have he : eolT (h ++ t) (i + h.length) = eolT t i := by
      unfold eolT
      rw [gd, List.length_append]
      congr 1
      rw [Bool.eq_iff_iff]; simp; omega
    rw [hb, he, gd]
    have hE : (if doneM l (spreadM l (bolT t i) (eolT t i) L) = true then List.map (· + h.length) E ++ [i + h.length] else List.map (· + h.length) E) = (if doneM l (spreadM l (bolT t i) (eolT t i) L) = true then E ++ [i] else E).map (· + h.length) := by
      split
      · rw [List.map_append]; rfl
      · rfl
    rw [hE]
    by_cases hit : i = t.length
    · rw [if_pos hit, if_pos (by rw [List.length_append]; omega)]
    · rw [if_neg hit, if_neg (by rw [List.length_append]; omega)]
      have := endsF_shift l h t hh h0 f (f' - 1) (i + 1) (stepM l (t.getD i 0) (spreadM l (bolT t i) (eolT t i) L)) (if doneM l (spreadM l (bolT t i) (eolT t i) L) = true then E ++ [i] else E) (by omega) (by omega) (by rw [List.length_append]; omega)
      rw [show i + 1 + h.length = i + h.length + 1 by omega] at this
      exact this
theorem ends_lines (l : List Nd) (b t : List Nat) : endsM l (b ++ [10] ++ t) ((b ++ [10]).length : Nat) = (endsM l t 0).map (· + (b ++ [10]).length) := by
  have hl : 0 < (b ++ [10]).length := by simp
  have hg : (b ++ [10]).getD ((b ++ [10]).length - 1) 0 = 10 := by
    rw [List.getD_eq_getElem?_getD]; simp
  unfold endsM
  by_cases hv : validM l = true
  · rw [if_pos ⟨hv, by omega, by have : (b ++ [10] ++ t).length = (b ++ [10]).length + t.length := List.length_append; omega⟩, if_pos ⟨hv, by omega, by omega⟩]
    have := endsF_shift l (b ++ [10]) t hg hl (t.length + 1) ((b ++ [10] ++ t).length + 1) 0 [2 * (l.length - 1)] [] (by omega) (by omega) (by omega)
    rw [Nat.zero_add] at this
    rw [Int.toNat_natCast]
    exact this
  · rw [if_neg (fun h => hv h.1), if_neg (fun h => hv h.1)]
    rfl
end Go.Proofs.Ytaajgdhoffhdcaa
