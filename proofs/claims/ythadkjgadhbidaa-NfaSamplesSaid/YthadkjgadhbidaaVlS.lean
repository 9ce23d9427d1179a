/-
  Nodes that are valid are one tree. No program in sight.
-/
import Derived.Test.YthadkjgadhbidaaVlP
namespace Go.Proofs.Ythadkjgadhbidaa
open Go.RowKit
set_option linter.unusedVariables false

theorem validM_run {l : List Nd} (h : validM l = true) : l.length ≤ 256 ∧ ∃ r, vrun l l.length = some [r] := by
  unfold validM at h
  rw [Bool.and_eq_true] at h
  refine ⟨of_decide_eq_true h.1, ?_⟩
  cases hr : vrun l l.length with
  | none => rw [hr] at h; exact absurd h.2 (by decide)
  | some rs =>
    rw [hr] at h
    have h2 : rs.length = 1 := by simpa using h.2
    obtain ⟨r, rfl⟩ := List.length_eq_one_iff.mp h2
    exact ⟨r, rfl⟩
theorem validM_len {l : List Nd} (h : validM l = true) : 1 ≤ l.length ∧ l.length ≤ 256 := by
  obtain ⟨h1, r, h2⟩ := validM_run h
  have := vrun_len h2
  exact ⟨by simpa using this, h1⟩
/-- The stack of roots (the last one first): trees that lie one after the other from 0 to n. -/
inductive Stk (l : List Nd) : List Int → Nat → Prop
  | nil : Stk l [] 0
  | cons (R : List Int) (a n : Nat) : Stk l R a → Sub l a n → Stk l ((n : Int) :: R) (n + 1)
theorem vstep_leaf {rs rs' : List Int} {i : Nat} {x : Nd} (h : vstep rs i x = some rs') : (x.kind ≠ 2 → x.set = 0) ∧ 0 ≤ kidsI x.kind ∧ kidsI x.kind ≤ rs.length ∧
    x.left = (rs.drop (rs.length - (kidsI x.kind).toNat)).getD 0 0 ∧ x.right = (rs.drop (rs.length - (kidsI x.kind).toNat)).getD 1 0 ∧ rs' = rs.take (rs.length - (kidsI x.kind).toNat) ++ [(i : Int)] := by
  unfold vstep at h
  split at h
  · cases h
  rename_i h1
  split at h
  · cases h
  rename_i h2
  split at h
  · cases h
  rename_i h3
  injection h with h
  refine ⟨fun e => ?_, by omega, by omega, Classical.not_not.mp (fun e => h3 (Or.inl e)), Classical.not_not.mp (fun e => h3 (Or.inr e)), h.symm⟩
  exact Classical.not_not.mp (fun e2 => h1 ⟨e, e2⟩)
theorem kidsI_cases (k : Int) (h : 0 ≤ kidsI k) : (kidsI k = 0 ∧ (k = 1 ∨ k = 2 ∨ k = 8 ∨ k = 9)) ∨ (kidsI k = 1 ∧ (k = 5 ∨ k = 6 ∨ k = 7)) ∨ (kidsI k = 2 ∧ (k = 3 ∨ k = 4)) := by
  unfold kidsI at h ⊢
  split
  · exact Or.inl ⟨rfl, by assumption⟩
  · split
    · exact Or.inr (Or.inl ⟨rfl, by assumption⟩)
    · split
      · exact Or.inr (Or.inr ⟨rfl, by assumption⟩)
      · rename_i a b c
        rw [if_neg a, if_neg b, if_neg c] at h
        omega
theorem vstep_stk {l : List Nd} {rs rs' : List Int} {k : Nat} (hk : k < l.length) (h : vstep rs k (nd l k) = some rs') (hs : Stk l rs.reverse k) : Stk l rs'.reverse (k + 1) := by
  obtain ⟨h1, h2, h3, h4, h5, rfl⟩ := vstep_leaf h
  rcases kidsI_cases _ h2 with ⟨e, hk'⟩ | ⟨e, hk'⟩ | ⟨e, hk'⟩
  · rw [e] at h4 h5 ⊢
    simp at h4 h5 ⊢
    rw [show l = l from rfl]
    exact .cons _ k k hs (.leaf k hk hk' h4 h5 h1)
  · rw [e] at h3 h4 h5 ⊢
    have hne : rs ≠ [] := by intro e; rw [e] at h3; simp at h3
    obtain ⟨q, r, rfl⟩ : ∃ q r, rs = q ++ [r] := ⟨rs.dropLast, rs.getLast hne, (List.dropLast_concat_getLast hne).symm⟩
    simp at h4 h5 ⊢
    rw [List.reverse_append] at hs
    simp at hs
    generalize hR : q.reverse = R at *
    cases hs with
    | cons _ a n hs hsub =>
      exact .cons _ a (n + 1) hs (.one a n hk hk' h4 h5 (h1 (by omega)) hsub)
  · rw [e] at h3 h4 h5 ⊢
    have hne : rs ≠ [] := by intro e; rw [e] at h3; simp at h3
    obtain ⟨q, r, rfl⟩ : ∃ q r, rs = q ++ [r] := ⟨rs.dropLast, rs.getLast hne, (List.dropLast_concat_getLast hne).symm⟩
    have hne2 : q ≠ [] := by intro e; rw [e] at h3; simp at h3
    obtain ⟨q2, r2, rfl⟩ : ∃ q2 r2, q = q2 ++ [r2] := ⟨q.dropLast, q.getLast hne2, (List.dropLast_concat_getLast hne2).symm⟩
    have hd : ((q2 ++ [r2] ++ [r]).length - (2 : Int).toNat) = q2.length := by simp
    rw [hd] at h4 h5 ⊢
    rw [List.append_assoc, List.drop_left] at h4 h5
    rw [List.append_assoc, List.take_left]
    simp at h4 h5 ⊢
    simp at hs
    generalize hR : q2.reverse = R at *
    cases hs with
    | cons _ a n hs hsub =>
      cases hs with
      | cons _ a2 m hs hsub2 =>
        exact .cons _ a2 (n + 1) hs (.two a2 m n hk hk' h4 h5 (h1 (by omega)) hsub2 hsub)
theorem vrun_stk {l : List Nd} : ∀ (k : Nat) (rs : List Int), k ≤ l.length → vrun l k = some rs → Stk l rs.reverse k
  | 0, rs, _, h => by injection h with h; subst h; exact .nil
  | k + 1, rs, hk, h => by
    rw [vrun] at h
    cases hr : vrun l k with
    | none => rw [hr] at h; cases h
    | some r0 =>
      rw [hr] at h
      exact vstep_stk (by omega) h (vrun_stk k r0 (by omega) hr)
theorem validM_sub {l : List Nd} (h : validM l = true) : Sub l 0 (l.length - 1) := by
  obtain ⟨h1, r, h2⟩ := validM_run h
  have := vrun_stk _ _ (Nat.le_refl _) h2
  simp at this
  generalize hn : l.length = n at this
  cases this with
  | cons _ a m hs hsub =>
    cases hs with
    | nil => exact hsub
theorem validM_neat {l : List Nd} (h : validM l = true) : Neat l (l.length - 1) := (validM_sub h).neat (by have := (validM_len h).1; omega)
end Go.Proofs.Ythadkjgadhbidaa
