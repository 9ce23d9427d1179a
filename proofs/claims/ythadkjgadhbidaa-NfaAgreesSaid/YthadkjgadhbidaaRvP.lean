/-
  The reference's test of a list of nodes, on plain lists: it comes to the program's test. No program in sight.
-/
import Derived.Test.YthadkjgadhbidaaRgN
import Derived.Test.YthadkjgadhbidaaVlS
namespace Go.Proofs.Ythadkjgadhbidaa
open Go.RowKit
set_option linter.unusedVariables false

theorem kidsN_bd2 (k : Int) : 0 ≤ kidsN k ∧ kidsN k ≤ 2 := by unfold kidsN; split <;> (try split) <;> omega
def badNd (x : Nd) : Prop := x.kind < 1 ∨ 9 < x.kind ∨ (x.kind ≠ 2 ∧ x.set ≠ 0)
instance (x : Nd) : Decidable (badNd x) := by unfold badNd; infer_instance
def bentNd (x : Nd) : Prop := (kidsN x.kind < 2 ∧ x.right ≠ 0) ∨ (kidsN x.kind < 1 ∧ x.left ≠ 0)
instance (x : Nd) : Decidable (bentNd x) := by unfold bentNd; infer_instance
def treeS (x : Nd) (k : Int) (g : Int → Int) : Int :=
  if badNd x ∨ bentNd x then -1
  else if kidsN x.kind = 0 then k
  else if kidsN x.kind = 2 then
    if x.right ≠ k - 1 then -1
    else if g (k - 1) - 1 < 0 ∨ x.left ≠ g (k - 1) - 1 then -1 else g (g (k - 1) - 1)
  else if k - 1 < 0 ∨ x.left ≠ k - 1 then -1 else g (k - 1)
/-- Where the tree whose root is node k begins, or -1. -/
def treeF (l : List Nd) : Nat → Int → Int
  | 0, _ => -1
  | f + 1, k => if k < 0 then -1 else treeS (nd l k.toNat) k (treeF l f)
theorem treeF_bd (l : List Nd) : ∀ (f : Nat) (k : Int), -1 ≤ treeF l f k ∧ (-1 ≤ k → treeF l f k ≤ k)
  | 0, k => ⟨Int.le_refl _, fun h => h⟩
  | f + 1, k => by
    have a1 := treeF_bd l f (k - 1)
    have a2 := treeF_bd l f (treeF l f (k - 1) - 1)
    rw [treeF]
    split
    · exact ⟨by omega, by omega⟩
    unfold treeS
    split
    · exact ⟨by omega, by omega⟩
    split
    · exact ⟨by omega, by omega⟩
    split
    · split
      · exact ⟨by omega, by omega⟩
      split
      · exact ⟨by omega, by omega⟩
      · exact ⟨a2.1, fun h => by have := a2.2 (by omega); have := a1.2 (by omega); omega⟩
    · split
      · exact ⟨by omega, by omega⟩
      · exact ⟨a1.1, fun h => by have := a1.2 (by omega); omega⟩
theorem treeF_neg (l : List Nd) (f : Nat) (k : Int) (h : k < 0) : treeF l f k = -1 := by
  cases f with
  | zero => rfl
  | succ f => rw [treeF, if_pos h]
theorem sub_treeF {l : List Nd} {a n : Nat} (h : Sub l a n) : ∀ f, n + 1 ≤ f → treeF l f n = a := by
  induction h with
  | leaf n h hk h1 h2 h3 =>
    intro f hf
    obtain ⟨f, rfl⟩ : ∃ g, f = g + 1 := ⟨f - 1, by omega⟩
    have hkk : kidsN (nd l n).kind = 0 := by unfold kidsN; rw [if_neg (by omega), if_neg (by omega)]
    rw [treeF, if_neg (by omega), Int.toNat_natCast]
    unfold treeS
    rw [if_neg, if_pos hkk]
    rintro (hb | hb)
    · rcases hb with hb | hb | ⟨hb, hc⟩
      · omega
      · omega
      · exact hc (h3 hb)
    · rcases hb with ⟨_, hb⟩ | ⟨_, hb⟩
      · exact hb h2
      · exact hb h1
  | one a n h hk h1 h2 h3 hs ih =>
    intro f hf
    obtain ⟨f, rfl⟩ : ∃ g, f = g + 1 := ⟨f - 1, by omega⟩
    have hkk : kidsN (nd l (n + 1)).kind = 1 := by unfold kidsN; rw [if_neg (by omega), if_pos (by omega)]
    have i1 := ih f (by omega)
    have e : ((n + 1 : Nat) : Int) - 1 = n := by omega
    rw [treeF, if_neg (by omega), Int.toNat_natCast]
    unfold treeS
    rw [e, if_neg, if_neg (by omega), if_neg (by omega), if_neg (by omega), i1]
    rintro (hb | hb)
    · rcases hb with hb | hb | ⟨hb, hc⟩
      · omega
      · omega
      · exact hc h3
    · rcases hb with ⟨_, hb⟩ | ⟨hb, _⟩
      · exact hb h2
      · omega
  | two a m n h hk h1 h2 h3 hs1 hs2 ih1 ih2 =>
    intro f hf
    obtain ⟨f, rfl⟩ : ∃ g, f = g + 1 := ⟨f - 1, by omega⟩
    have hkk : kidsN (nd l (n + 1)).kind = 2 := by unfold kidsN; rw [if_pos (by omega)]
    have b1 := hs1.le
    have b2 := hs2.le
    have i1 := ih1 f (by omega)
    have i2 := ih2 f (by omega)
    have e : ((n + 1 : Nat) : Int) - 1 = n := by omega
    have e2 : ((m + 1 : Nat) : Int) - 1 = m := by omega
    rw [treeF, if_neg (by omega), Int.toNat_natCast]
    unfold treeS
    rw [e, i2, e2, i1, if_neg, if_neg (by omega), if_pos hkk, if_neg (by omega), if_neg (by omega)]
    rintro (hb | hb)
    · rcases hb with hb | hb | ⟨hb, hc⟩
      · omega
      · omega
      · exact hc h3
    · rcases hb with ⟨hb, _⟩ | ⟨hb, _⟩ <;> omega
theorem treeF_sub {l : List Nd} : ∀ (f n : Nat), n < l.length → ∀ a : Nat, treeF l f n = a → Sub l a n
  | 0, n, hn, a, h => by rw [treeF] at h; omega
  | f + 1, n, hn, a, h => by
    rw [treeF, if_neg (by omega), Int.toNat_natCast] at h
    unfold treeS at h
    split at h
    · omega
    rename_i hb
    have hb1 : ¬ badNd (nd l n) := fun x => hb (Or.inl x)
    have hb2 : ¬ bentNd (nd l n) := fun x => hb (Or.inr x)
    unfold badNd at hb1
    unfold bentNd at hb2
    have hk1 : 1 ≤ (nd l n).kind := by omega
    have hk2 : (nd l n).kind ≤ 9 := by omega
    have hset : (nd l n).kind ≠ 2 → (nd l n).set = 0 := fun hx => Decidable.byContradiction fun hy => hb1 (Or.inr (Or.inr ⟨hx, hy⟩))
    split at h
    · rename_i hk
      obtain rfl : n = a := by omega
      have hkk : (nd l n).kind = 1 ∨ (nd l n).kind = 2 ∨ (nd l n).kind = 8 ∨ (nd l n).kind = 9 := by
        unfold kidsN at hk; split at hk
        · omega
        split at hk <;> omega
      exact .leaf n hn hkk (by omega) (by omega) hset
    split at h
    · rename_i hk
      have hkk : (nd l n).kind = 3 ∨ (nd l n).kind = 4 := by
        unfold kidsN at hk; split at hk
        · assumption
        split at hk <;> omega
      split at h
      · omega
      rename_i hr
      split at h
      · omega
      rename_i hl
      have hbd := treeF_bd l f ((n : Int) - 1)
      have h1 : 1 ≤ n := by
        have := hbd.2
        rcases Nat.eq_zero_or_pos n with e | e
        · subst e
          rw [treeF_neg l f _ (by omega)] at hl
          omega
        · exact e
      obtain ⟨n, rfl⟩ : ∃ k, n = k + 1 := ⟨n - 1, by omega⟩
      have e : ((n + 1 : Nat) : Int) - 1 = n := by omega
      rw [e] at h hl hr hbd
      obtain ⟨t, ht⟩ : ∃ t : Nat, treeF l f n = (t + 1 : Nat) := ⟨(treeF l f n - 1).toNat, by omega⟩
      have s2 := treeF_sub f n (by omega) _ ht
      rw [ht] at h hl
      have e2 : ((t + 1 : Nat) : Int) - 1 = t := by omega
      rw [e2] at h hl
      have := s2.le
      have s1 := treeF_sub f t (by omega) _ h
      exact .two a t n hn hkk (by omega) (by omega) (hset (by omega)) s1 s2
    · rename_i hk0 hk2'
      have hkk : (nd l n).kind = 5 ∨ (nd l n).kind = 6 ∨ (nd l n).kind = 7 := by
        unfold kidsN at hk0 hk2'; split at hk0
        · omega
        split at hk0 <;> omega
      have hk1' : kidsN (nd l n).kind = 1 := by unfold kidsN; rw [if_neg (by omega), if_pos (by omega)]
      split at h
      · omega
      rename_i hl
      obtain ⟨n, rfl⟩ : ∃ k, n = k + 1 := ⟨n - 1, by omega⟩
      have e : ((n + 1 : Nat) : Int) - 1 = n := by omega
      rw [e] at h hl
      have s1 := treeF_sub f n (by omega) _ h
      exact .one a n hn hkk (by omega) (by omega) (hset (by omega)) s1
/-- The reference's test. -/
def rvalidM (l : List Nd) : Bool := decide (1 ≤ l.length ∧ l.length ≤ 256 ∧ treeF l l.length ((l.length : Int) - 1) = 0)
theorem rvalid_eq (l : List Nd) : rvalidM l = validM l := by
  by_cases h : validM l = true
  · have hs := validM_sub h
    have hl := validM_len h
    rw [h]
    refine decide_eq_true ⟨by omega, by omega, ?_⟩
    have := sub_treeF hs l.length (by omega)
    rw [show ((l.length : Int) - 1) = ((l.length - 1 : Nat) : Int) by omega]
    exact this
  · have hf : validM l = false := by simpa using h
    rw [hf]
    refine decide_eq_false ?_
    rintro ⟨h1, h2, h3⟩
    rw [show ((l.length : Int) - 1) = ((l.length - 1 : Nat) : Int) by omega] at h3
    have hs := treeF_sub l.length (l.length - 1) (by omega) 0 h3
    exact h (Tr.valid ⟨by omega, hs⟩ h2)
end Go.Proofs.Ythadkjgadhbidaa
