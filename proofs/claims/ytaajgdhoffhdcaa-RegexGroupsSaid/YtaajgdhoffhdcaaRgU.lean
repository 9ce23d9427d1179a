/-
  A pattern in parentheses has the nodes of the pattern. No program in sight.
-/
import Derived.Test.YtaajgdhoffhdcaaRgN
import Derived.Test.YtaajgdhoffhdcaaRxF
namespace Go.Proofs.Ytaajgdhoffhdcaa
open Go.RowKit
set_option linter.unusedVariables false

def parB (B : List Nat) : List Nat := 40 :: (B ++ [41])
theorem parB_len (B : List Nat) : (parB B).length = B.length + 2 := by simp [parB]
theorem bAt_par (B : List Nat) (a d d' : Nat) (e e' : Int) (h : a < B.length) : bAt (parB B) ⟨a + 1, d', e'⟩ = bAt B ⟨a, d, e⟩ := by
  simp [bAt, parB, List.getElem?_append_left h]
theorem bAt_par_end (B : List Nat) (d' : Nat) (e' : Int) : bAt (parB B) ⟨B.length + 1, d', e'⟩ = 41 := by
  simp [bAt, parB]
theorem moreP_at (B : List Nat) (a d : Nat) : moreP B ⟨a, d, 0⟩ = decide (a < B.length) := by simp [moreP]
theorem moreP_e (B : List Nat) (p : Ps) (h : p.e ≠ 0) : moreP B p = false := by simp [moreP, h]
theorem failP_ne (p : Ps) (c : Int) (hc : c ≠ 0) : (failP p c).e ≠ 0 := by unfold failP; split <;> simp_all
/-- What two readers have, one of them in parentheses. -/
def SimL {α : Type} (B : List Nat) (d : Nat) (R R' : α × Ps) : Prop := R.2.e = 0 → ∃ a, a ≤ B.length ∧ R.2 = ⟨a, d, 0⟩ ∧ R'.1 = R.1 ∧ R'.2 = ⟨a + 1, d + 1, 0⟩
def SimR (B : List Nat) (d : Nat) (R R' : List Nd × Ps) : Prop := R.2.e = 0 → R'.2.e = 84 ∨ ∃ a, a ≤ B.length ∧ R.2 = ⟨a, d, 0⟩ ∧ R'.1 = R.1 ∧ R'.2 = ⟨a + 1, d + 1, 0⟩
variable (B : List Nat)
theorem esc_sim (a d : Nat) : SimL B d (escP B ⟨a, d, 0⟩) (escP (parB B) ⟨a + 1, d + 1, 0⟩) := by
  intro he
  unfold escP at he ⊢
  by_cases h : a < B.length
  · have h2 : a + 1 < (parB B).length := by rw [parB_len]; omega
    simp only [h, if_true] at he ⊢
    simp only [h2, if_true]
    rw [bAt_par B a d (d + 1) 0 0 h]
    generalize namedB (bAt B ⟨a, d, 0⟩) = r at *
    by_cases hr : r.2.2 = true
    · simp only [hr, if_true]
      exact ⟨a + 1, h, rfl, (by first | rfl | trivial), (by first | rfl | trivial)⟩
    · simp only [hr] at he
      exact absurd he (failP_ne ⟨a, d, 0⟩ 82 (by decide))
  · simp only [h, if_false] at he
    exact absurd he (failP_ne ⟨a, d, 0⟩ 82 (by decide))
theorem single_sim (a d : Nat) (h : a < B.length) : SimL B d (singleP B ⟨a, d, 0⟩) (singleP (parB B) ⟨a + 1, d + 1, 0⟩) := by
  intro he
  unfold singleP at he ⊢
  rw [bAt_par B a d (d + 1) 0 0 h]
  by_cases h1 : bAt B ⟨a, d, 0⟩ = 92
  · simp only [h1, if_true] at he ⊢
    exact esc_sim B (a + 1) d he
  · simp only [h1, if_false] at he ⊢
    by_cases h2 : bAt B ⟨a, d, 0⟩ = 94 ∨ bAt B ⟨a, d, 0⟩ = 45 ∨ bAt B ⟨a, d, 0⟩ = 93
    · simp only [h2, if_true] at he
      exact absurd he (failP_ne _ 80 (by decide))
    · simp only [h2, if_false]
      exact ⟨a + 1, h, rfl, (by first | rfl | trivial), (by first | rfl | trivial)⟩
theorem elem_sim (a d : Nat) (h : a < B.length) : SimL B d (elemP B ⟨a, d, 0⟩) (elemP (parB B) ⟨a + 1, d + 1, 0⟩) := by
  intro he
  have hs := single_sim B a d h
  unfold elemP at he ⊢
  generalize singleP B ⟨a, d, 0⟩ = x at *
  generalize singleP (parB B) ⟨a + 1, d + 1, 0⟩ = x' at *
  obtain ⟨x1, x2⟩ := x
  obtain ⟨y1, y2⟩ := x'
  by_cases h0 : x2.e = 0
  · obtain ⟨a1, ha1, hx2, hy1, hy2⟩ := hs h0
    simp only at hx2 hy1 hy2 he ⊢
    subst hx2 hy1 hy2
    clear hs h0
    rw [moreP_at] at he ⊢
    rw [moreP_at, parB_len]
    by_cases hl : a1 < B.length
    · rw [bAt_par B a1 d (d + 1) 0 0 hl]
      have hl2 : a1 + 1 < B.length + 2 := by omega
      simp only [hl, hl2, decide_true, true_and] at he ⊢
      by_cases h45 : bAt B ⟨a1, d, 0⟩ = 45
      · simp only [h45, if_true] at he ⊢
        by_cases hb : y1.2 = false ∨ B.length ≤ (upP ⟨a1, d, 0⟩).at_
        · simp only [hb, if_true] at he
          exact absurd he (failP_ne _ 80 (by decide))
        · have hb2 : ¬ (y1.2 = false ∨ B.length + 2 ≤ (upP ⟨a1 + 1, d + 1, 0⟩).at_) := by
            simp only [upP, not_or] at hb ⊢
            exact ⟨hb.1, by omega⟩
          simp only [hb, if_false] at he ⊢
          simp only [hb2, if_false]
          have hl3 : a1 + 1 < B.length := by simp only [upP, not_or] at hb; omega
          have hs2 : SimL B d (singleP B (upP ⟨a1, d, 0⟩)) (singleP (parB B) (upP ⟨a1 + 1, d + 1, 0⟩)) := single_sim B (a1 + 1) d hl3
          generalize singleP B (upP ⟨a1, d, 0⟩) = z at *
          generalize singleP (parB B) (upP ⟨a1 + 1, d + 1, 0⟩) = z' at *
          obtain ⟨z1, z2⟩ := z
          obtain ⟨u1, u2⟩ := z'
          simp only at he ⊢
          by_cases hz : z2.e = 0
          · obtain ⟨a2, ha2, hz2, hu1, hu2⟩ := hs2 hz
            simp only at hz2 hu1 hu2
            subst hz2 hu1 hu2
            by_cases hc : u1.2 = false ∨ onlyB u1.1 < onlyB y1.1
            · simp only [hc, and_true, if_true] at he
              exact absurd he (failP_ne _ 80 (by decide))
            · simp only [hc, and_false, if_false]
              exact ⟨a2, ha2, rfl, (by first | rfl | trivial), (by first | rfl | trivial)⟩
          · simp only [hz, false_and, if_false] at he
      · simp only [h45, if_false]
        exact ⟨a1, ha1, rfl, (by first | rfl | trivial), (by first | rfl | trivial)⟩
    · obtain rfl : a1 = B.length := by omega
      rw [bAt_par_end]
      simp only [hl, decide_false, Bool.false_eq_true, false_and, if_false]
      rw [if_neg (by simp)]
      exact ⟨B.length, ha1, rfl, (by first | rfl | trivial), (by first | rfl | trivial)⟩
  · simp only at he
    rw [moreP_e B x2 h0] at he
    simp only [Bool.false_eq_true, false_and, if_false] at he
    exact absurd he h0
theorem class_stuck (neg : Bool) (f : Nat) (b : Bool) (s : BSet) (p : Ps) (h : p.e ≠ 0) (R : BSet × Ps) (hR : classLoop B neg f b s p = some R) : R.2.e ≠ 0 := by
  cases f with
  | zero => simp [classLoop] at hR
  | succ f =>
    rw [classLoop, moreP_e B p h] at hR
    simp only [Bool.false_eq_true, if_false, Option.some.injEq] at hR
    subst hR
    exact failP_ne _ 80 (by decide)
theorem classLoop_sim (neg : Bool) (d : Nat) : ∀ (f f' : Nat) (b : Bool) (s : BSet) (a : Nat) (R R' : BSet × Ps), classLoop B neg f b s ⟨a, d, 0⟩ = some R → classLoop (parB B) neg f' b s ⟨a + 1, d + 1, 0⟩ = some R' → SimL B d R R'
  | 0, _, _, _, _, _, _, h, _ => by simp [classLoop] at h
  | f + 1, 0, _, _, _, _, _, _, h => by simp [classLoop] at h
  | f + 1, f' + 1, b, s, a, R, R', h, h' => by
    intro he
    rw [classLoop, moreP_at] at h h'
    rw [parB_len] at h'
    by_cases hl : a < B.length
    · have hl2 : a + 1 < B.length + 2 := by omega
      simp only [hl, decide_true, if_true] at h
      simp only [hl2, decide_true, if_true] at h'
      rw [bAt_par B a d (d + 1) 0 0 hl] at h'
      by_cases h93 : bAt B ⟨a, d, 0⟩ = 93
      · simp only [h93, if_true, Option.some.injEq] at h h'
        subst h h'
        cases b
        · exact ⟨a + 1, hl, rfl, (by first | rfl | trivial), (by first | rfl | trivial)⟩
        · exact absurd he (failP_ne ⟨a, d, 0⟩ 80 (by decide))
      · simp only [h93, if_false] at h h'
        have hs := elem_sim B a d hl
        generalize elemP B ⟨a, d, 0⟩ = x at *
        generalize elemP (parB B) ⟨a + 1, d + 1, 0⟩ = x' at *
        by_cases h0 : x.2.e = 0
        · obtain ⟨a1, ha1, hx2, hy1, hy2⟩ := hs h0
          rw [hx2] at h
          rw [hy1, hy2] at h'
          exact classLoop_sim neg d f f' false _ a1 R R' h h' he
        · exact absurd he (class_stuck B neg f false _ _ h0 R h)
    · simp only [hl, decide_false, Bool.false_eq_true, if_false, Option.some.injEq] at h
      subst h
      exact absurd he (failP_ne _ 80 (by decide))
theorem class_sim (d f f' a : Nat) (ha : a ≤ B.length) (R R' : BSet × Ps) (h : classP B f ⟨a, d, 0⟩ = some R) (h' : classP (parB B) f' ⟨a + 1, d + 1, 0⟩ = some R') : SimL B d R R' := by
  unfold classP at h h'
  rw [moreP_at] at h h'
  rw [parB_len] at h'
  by_cases hl : a < B.length
  · have hl2 : a + 1 < B.length + 2 := by omega
    rw [bAt_par B a d (d + 1) 0 0 hl] at h'
    simp only [hl, decide_true, true_and] at h
    simp only [hl2, decide_true, true_and] at h'
    by_cases h94 : bAt B ⟨a, d, 0⟩ = 94
    · simp only [h94, if_true] at h h'
      exact classLoop_sim B true d f f' true 0 (a + 1) R R' h h'
    · simp only [h94, if_false] at h h'
      exact classLoop_sim B false d f f' true 0 a R R' h h'
  · obtain rfl : a = B.length := by omega
    rw [bAt_par_end] at h'
    simp only [hl, decide_false, Bool.false_eq_true, false_and, if_false] at h
    rw [if_neg (by simp)] at h'
    exact classLoop_sim B false d f f' true 0 _ R R' h h'
theorem altLoop_stuck (f : Nat) (l : List Nd) (p : Ps) (h : p.e ≠ 0) (R : List Nd × Ps) (hR : altLoop B f l p = some R) : R = (l, p) := by
  cases f with
  | zero => simp [altLoop] at hR
  | succ f =>
    rw [altLoop, moreP_e B p h] at hR
    simp only [Bool.false_eq_true, false_and, if_false, Option.some.injEq] at hR
    exact hR.symm
theorem partLoop_stuck (f : Nat) (l : List Nd) (p : Ps) (h : p.e ≠ 0) (R : List Nd × Ps) (hR : partLoop B f l p = some R) : R = (l, p) := by
  cases f with
  | zero => simp [partLoop] at hR
  | succ f =>
    rw [partLoop, moreP_e B p h] at hR
    simp only [Bool.false_eq_true, if_false, Option.some.injEq] at hR
    exact hR.symm
theorem ne_of_84 {p : Ps} (h : p.e = 84) : p.e ≠ 0 := by rw [h]; decide
theorem par_sim : ∀ f : Nat,
    (∀ f' a d R R', a ≤ B.length → altP B f ⟨a, d, 0⟩ = some R → altP (parB B) f' ⟨a + 1, d + 1, 0⟩ = some R' → SimR B d R R') ∧
    (∀ f' l a d R R', a ≤ B.length → altLoop B f l ⟨a, d, 0⟩ = some R → altLoop (parB B) f' l ⟨a + 1, d + 1, 0⟩ = some R' → SimR B d R R') ∧
    (∀ f' a d R R', a ≤ B.length → catP B f ⟨a, d, 0⟩ = some R → catP (parB B) f' ⟨a + 1, d + 1, 0⟩ = some R' → SimR B d R R') ∧
    (∀ f' l a d R R', a ≤ B.length → catLoop B f l ⟨a, d, 0⟩ = some R → catLoop (parB B) f' l ⟨a + 1, d + 1, 0⟩ = some R' → SimR B d R R') ∧
    (∀ f' a d R R', a < B.length → partP B f ⟨a, d, 0⟩ = some R → partP (parB B) f' ⟨a + 1, d + 1, 0⟩ = some R' → SimR B d R R') ∧
    (∀ f' l a d R R', a ≤ B.length → partLoop B f l ⟨a, d, 0⟩ = some R → partLoop (parB B) f' l ⟨a + 1, d + 1, 0⟩ = some R' → SimR B d R R') ∧
    (∀ f' a d R R', a < B.length → atomP B f ⟨a, d, 0⟩ = some R → atomP (parB B) f' ⟨a + 1, d + 1, 0⟩ = some R' → SimR B d R R') := by
  intro f
  induction f with
  | zero => exact ⟨fun _ _ _ _ _ _ h => by simp [altP] at h, fun _ _ _ _ _ _ _ h => by simp [altLoop] at h, fun _ _ _ _ _ _ h => by simp [catP] at h, fun _ _ _ _ _ _ _ h => by simp [catLoop] at h, fun _ _ _ _ _ _ h => by simp [partP] at h, fun _ _ _ _ _ _ _ h => by simp [partLoop] at h, fun _ _ _ _ _ _ h => by simp [atomP] at h⟩
  | succ f ih =>
  obtain ⟨iA, iAL, iC, iCL, iP, iPL, iT⟩ := ih
  refine ⟨?_, ?_, ?_, ?_, ?_, ?_, ?_⟩
  · intro f' a d R R' ha h h'
    cases f' with
    | zero => simp [altP] at h'
    | succ f' =>
    rw [altP] at h h'
    cases hc : catP B f ⟨a, d, 0⟩ with
    | none => rw [hc] at h; cases h
    | some x =>
    cases hc' : catP (parB B) f' ⟨a + 1, d + 1, 0⟩ with
    | none => rw [hc'] at h'; cases h'
    | some x' =>
    have hs := iC f' a d x x' ha hc hc'
    rw [hc] at h
    rw [hc'] at h'
    obtain ⟨l, q⟩ := x
    obtain ⟨l', q'⟩ := x'
    simp only at h h'
    intro he
    by_cases h0 : q.e = 0
    · rcases hs h0 with h84 | ⟨a1, ha1, e1, e2, e3⟩
      · rw [altLoop_stuck _ _ _ _ (ne_of_84 h84) _ h']
        exact Or.inl h84
      · simp only at e1 e2 e3
        subst e1 e2 e3
        exact iAL f' _ a1 d R R' ha1 h h' he
    · rw [altLoop_stuck _ _ _ _ h0 _ h] at he
      exact absurd he h0
  · intro f' l a d R R' ha h h'
    cases f' with
    | zero => simp [altLoop] at h'
    | succ f' =>
    rw [altLoop, moreP_at] at h h'
    rw [parB_len] at h'
    intro he
    by_cases hl : a < B.length
    · have hl2 : a + 1 < B.length + 2 := by omega
      rw [bAt_par B a d (d + 1) 0 0 hl] at h'
      simp only [hl, decide_true, true_and] at h
      simp only [hl2, decide_true, true_and] at h'
      by_cases hb : bAt B ⟨a, d, 0⟩ = 124
      · simp only [hb, if_true] at h h'
        cases hc : catP B f (upP ⟨a, d, 0⟩) with
        | none => rw [hc] at h; cases h
        | some x =>
        cases hc' : catP (parB B) f' (upP ⟨a + 1, d + 1, 0⟩) with
        | none => rw [hc'] at h'; cases h'
        | some x' =>
        have hs := iC f' (a + 1) d x x' hl hc hc'
        rw [hc] at h
        rw [hc'] at h'
        obtain ⟨l1, q⟩ := x
        obtain ⟨l1', q'⟩ := x'
        simp only at h h'
        by_cases h0 : q.e = 0
        · rw [if_pos h0] at h
          rcases hs h0 with h84 | ⟨a1, ha1, e1, e2, e3⟩
          · rw [if_neg (ne_of_84 h84)] at h'
            cases h'
            exact Or.inl h84
          · simp only at e1 e2 e3
            subst e1 e2 e3
            rw [if_pos rfl] at h'
            exact iAL f' _ a1 d R R' ha1 h h' he
        · rw [if_neg h0] at h
          cases h
          exact absurd he h0
      · simp only [hb, if_false, Option.some.injEq] at h h'
        subst h h'
        exact Or.inr ⟨a, ha, rfl, rfl, rfl⟩
    · obtain rfl : a = B.length := by omega
      rw [bAt_par_end] at h'
      rw [if_neg (by simp)] at h h'
      cases h; cases h'
      exact Or.inr ⟨_, ha, rfl, rfl, rfl⟩
  · intro f' a d R R' ha h h'
    cases f' with
    | zero => simp [catP] at h'
    | succ f' =>
    rw [catP] at h h'
    exact iCL f' [] a d R R' ha h h'
  · intro f' l a d R R' ha h h'
    cases f' with
    | zero => simp [catLoop] at h'
    | succ f' =>
    rw [catLoop, moreP_at] at h h'
    rw [parB_len] at h'
    intro he
    by_cases hl : a < B.length
    · have hl2 : a + 1 < B.length + 2 := by omega
      rw [bAt_par B a d (d + 1) 0 0 hl] at h'
      simp only [hl, decide_true, true_and] at h
      simp only [hl2, decide_true, true_and] at h'
      by_cases hb : bAt B ⟨a, d, 0⟩ ≠ 124 ∧ bAt B ⟨a, d, 0⟩ ≠ 41
      · rw [if_pos hb] at h h'
        cases hc : partP B f ⟨a, d, 0⟩ with
        | none => rw [hc] at h; cases h
        | some x =>
        cases hc' : partP (parB B) f' ⟨a + 1, d + 1, 0⟩ with
        | none => rw [hc'] at h'; cases h'
        | some x' =>
        have hs := iP f' a d x x' hl hc hc'
        rw [hc] at h
        rw [hc'] at h'
        obtain ⟨l1, q⟩ := x
        obtain ⟨l1', q'⟩ := x'
        simp only at h h'
        by_cases h0 : q.e = 0
        · rw [if_pos h0] at h
          rcases hs h0 with h84 | ⟨a1, ha1, e1, e2, e3⟩
          · rw [if_neg (ne_of_84 h84)] at h'
            cases h'
            exact Or.inl h84
          · simp only at e1 e2 e3
            subst e1 e2 e3
            rw [if_pos rfl] at h'
            exact iCL f' _ a1 d R R' ha1 h h' he
        · rw [if_neg h0] at h
          cases h
          exact absurd he h0
      · rw [if_neg hb] at h h'
        cases h; cases h'
        exact Or.inr ⟨a, ha, rfl, rfl, rfl⟩
    · obtain rfl : a = B.length := by omega
      rw [bAt_par_end] at h'
      rw [if_neg (by simp)] at h h'
      cases h; cases h'
      exact Or.inr ⟨_, ha, rfl, rfl, rfl⟩
  · intro f' a d R R' ha h h'
    cases f' with
    | zero => simp [partP] at h'
    | succ f' =>
    rw [partP] at h h'
    cases hc : atomP B f ⟨a, d, 0⟩ with
    | none => rw [hc] at h; cases h
    | some x =>
    cases hc' : atomP (parB B) f' ⟨a + 1, d + 1, 0⟩ with
    | none => rw [hc'] at h'; cases h'
    | some x' =>
    have hs := iT f' a d x x' ha hc hc'
    rw [hc] at h
    rw [hc'] at h'
    obtain ⟨l, q⟩ := x
    obtain ⟨l', q'⟩ := x'
    simp only at h h'
    intro he
    by_cases h0 : q.e = 0
    · rcases hs h0 with h84 | ⟨a1, ha1, e1, e2, e3⟩
      · rw [partLoop_stuck _ _ _ _ (ne_of_84 h84) _ h']
        exact Or.inl h84
      · simp only at e1 e2 e3
        subst e1 e2 e3
        exact iPL f' _ a1 d R R' ha1 h h' he
    · rw [partLoop_stuck _ _ _ _ h0 _ h] at he
      exact absurd he h0
  · intro f' l a d R R' ha h h'
    cases f' with
    | zero => simp [partLoop] at h'
    | succ f' =>
    rw [partLoop, moreP_at] at h h'
    rw [parB_len] at h'
    by_cases hl : a < B.length
    · have hl2 : a + 1 < B.length + 2 := by omega
      rw [bAt_par B a d (d + 1) 0 0 hl] at h'
      simp only [hl, decide_true, if_true] at h
      simp only [hl2, decide_true, if_true] at h'
      by_cases h1 : bAt B ⟨a, d, 0⟩ = 42
      · rw [if_pos h1] at h h'
        exact iPL f' _ (a + 1) d R R' hl h h'
      rw [if_neg h1] at h h'
      by_cases h2 : bAt B ⟨a, d, 0⟩ = 43
      · rw [if_pos h2] at h h'
        exact iPL f' _ (a + 1) d R R' hl h h'
      rw [if_neg h2] at h h'
      by_cases h3 : bAt B ⟨a, d, 0⟩ = 63
      · rw [if_pos h3] at h h'
        exact iPL f' _ (a + 1) d R R' hl h h'
      rw [if_neg h3] at h h'
      cases h; cases h'
      exact fun _ => Or.inr ⟨a, ha, rfl, rfl, rfl⟩
    · obtain rfl : a = B.length := by omega
      rw [bAt_par_end] at h'
      simp at h h'
      cases h; cases h'
      exact fun _ => Or.inr ⟨_, ha, rfl, rfl, rfl⟩
  · intro f' a d R R' ha h h'
    cases f' with
    | zero => simp [atomP] at h'
    | succ f' =>
    rw [atomP] at h h'
    rw [bAt_par B a d (d + 1) 0 0 ha] at h'
    generalize bAt B ⟨a, d, 0⟩ = b at *
    simp only at h h'
    have hup : ∀ x : List Nd, SimR B d (x, upP ⟨a, d, 0⟩) (x, upP ⟨a + 1, d + 1, 0⟩) := fun x _ => Or.inr ⟨a + 1, ha, rfl, rfl, rfl⟩
    by_cases h1 : b = 46
    · rw [if_pos h1] at h h'; cases h; cases h'; exact hup _
    rw [if_neg h1] at h h'
    by_cases h1 : b = 94
    · rw [if_pos h1] at h h'; cases h; cases h'; exact hup _
    rw [if_neg h1] at h h'
    by_cases h1 : b = 36
    · rw [if_pos h1] at h h'; cases h; cases h'; exact hup _
    rw [if_neg h1] at h h'
    by_cases h1 : b = 92
    · rw [if_pos h1] at h h'
      cases h; cases h'
      intro he
      obtain ⟨a1, ha1, e1, e2, e3⟩ := esc_sim B (a + 1) d he
      exact Or.inr ⟨a1, ha1, e1, congrArg (fun z => leafN 2 z.1) e2, e3⟩
    rw [if_neg h1] at h h'
    by_cases h1 : b = 91
    · rw [if_pos h1] at h h'
      cases hc : classP B f (upP ⟨a, d, 0⟩) with
      | none => rw [hc] at h; cases h
      | some x =>
      cases hc' : classP (parB B) f' (upP ⟨a + 1, d + 1, 0⟩) with
      | none => rw [hc'] at h'; cases h'
      | some x' =>
      have hs := class_sim B d f f' (a + 1) ha x x' hc hc'
      rw [hc] at h
      rw [hc'] at h'
      cases h; cases h'
      intro he
      obtain ⟨a1, ha1, e1, e2, e3⟩ := hs he
      exact Or.inr ⟨a1, ha1, e1, congrArg (leafN 2) e2, e3⟩
    rw [if_neg h1] at h h'
    by_cases h1 : b = 93
    · rw [if_pos h1] at h h'; cases h; cases h'; exact fun he => absurd he (failP_ne _ 80 (by decide))
    rw [if_neg h1] at h h'
    by_cases h1 : b = 42 ∨ b = 43 ∨ b = 63
    · rw [if_pos h1] at h h'; cases h; cases h'; exact fun he => absurd he (failP_ne _ 81 (by decide))
    rw [if_neg h1] at h h'
    by_cases h1 : b = 40
    · rw [if_pos h1] at h h'
      intro he
      by_cases hd : 24 < (upP ⟨a, d, 0⟩).deep + 1
      · rw [if_pos hd] at h
        cases h
        exact absurd he (failP_ne _ 84 (by decide))
      rw [if_neg hd] at h
      by_cases hd2 : 24 < (upP ⟨a + 1, d + 1, 0⟩).deep + 1
      · rw [if_pos hd2] at h'
        cases h'
        exact Or.inl rfl
      rw [if_neg hd2] at h'
      cases hc : altP B f ⟨(upP ⟨a, d, 0⟩).at_, (upP ⟨a, d, 0⟩).deep + 1, (upP ⟨a, d, 0⟩).e⟩ with
      | none => rw [hc] at h; cases h
      | some x =>
      cases hc' : altP (parB B) f' ⟨(upP ⟨a + 1, d + 1, 0⟩).at_, (upP ⟨a + 1, d + 1, 0⟩).deep + 1, (upP ⟨a + 1, d + 1, 0⟩).e⟩ with
      | none => rw [hc'] at h'; cases h'
      | some x' =>
      have hs := iA f' (a + 1) (d + 1) x x' ha hc hc'
      rw [hc] at h
      rw [hc'] at h'
      obtain ⟨l1, q⟩ := x
      obtain ⟨l1', q'⟩ := x'
      simp only [Option.some.injEq] at h h'
      subst h h'
      simp only at he ⊢
      by_cases h0 : q.e = 0
      · by_cases hq : q.e = 0 ∧ B.length ≤ q.at_
        · rw [if_pos hq] at he
          exact absurd he (failP_ne _ 83 (by decide))
        · rcases hs h0 with h84 | ⟨a1, ha1, e1, e2, e3⟩
          · refine Or.inl ?_
            have h84' : q'.e = 84 := h84
            rw [if_neg (fun z => by have := z.1; rw [h84'] at this; exact absurd this (by decide))]
            exact h84'
          · simp only at e1 e2 e3
            subst e1 e2 e3
            have hl : a1 < B.length := by simp at hq; exact hq
            rw [if_neg hq]
            rw [if_neg (by rw [parB_len]; simp; omega)]
            exact Or.inr ⟨a1 + 1, hl, rfl, rfl, rfl⟩
      · rw [if_neg (fun z => h0 z.1)] at he
        exact absurd he h0
    rw [if_neg h1] at h h'
    cases h; cases h'; exact hup _
theorem Tr.pos_ {l : List Nd} (h : Tr l) : l.length ≠ 0 := by have := h.1; omega
theorem bAt_par0 : bAt (parB B) ⟨0, 0, 0⟩ = 40 := rfl
theorem more_par0 : moreP (parB B) ⟨0, 0, 0⟩ = true := by rw [moreP_at, parB_len]; simp
theorem more_par_end : moreP (parB B) ⟨B.length + 2, 0, 0⟩ = false := by rw [moreP_at, parB_len]; simp
def ParR (l : List Nd) (X : List Nd × Ps) : Prop := X.2.e = 84 ∨ X = (l, ⟨B.length + 2, 0, 0⟩)
theorem par_atom {f f' : Nat} {l : List Nd} {X : List Nd × Ps} {p : Ps} (h : altP B f ⟨0, 0, 0⟩ = some (l, p)) (h0 : p.e = 0) (hp : ¬ p.at_ < B.length) (h' : atomP (parB B) f' ⟨0, 0, 0⟩ = some X) : ParR B l X := by
  cases f' with
  | zero => simp [atomP] at h'
  | succ f' =>
  rw [atomP] at h'
  rw [bAt_par0] at h'
  simp only at h'
  rw [if_neg (by decide), if_neg (by decide), if_neg (by decide), if_neg (by decide), if_neg (by decide), if_neg (by decide), if_neg (by decide), if_pos trivial, if_neg (by decide)] at h'
  cases hc' : altP (parB B) f' ⟨(upP ⟨0, 0, 0⟩).at_, (upP ⟨0, 0, 0⟩).deep + 1, (upP ⟨0, 0, 0⟩).e⟩ with
  | none => rw [hc'] at h'; cases h'
  | some x' =>
  have hs := (par_sim B f).1 f' 0 0 (l, p) x' (Nat.zero_le _) h hc' h0
  rw [hc'] at h'
  obtain ⟨l1', q'⟩ := x'
  simp only [Option.some.injEq] at h'
  subst h'
  rcases hs with h84 | ⟨a1, ha1, e1, e2, e3⟩
  · refine Or.inl ?_
    have h84' : q'.e = 84 := h84
    show (if q'.e = 0 ∧ (parB B).length ≤ q'.at_ then failP q' 83 else q').e = 84
    rw [if_neg (fun z => by have := z.1; rw [h84'] at this; exact absurd this (by decide))]
    exact h84'
  · simp only at e1 e2 e3
    subst e1 e2 e3
    obtain rfl : a1 = B.length := by simp at hp; omega
    rw [if_neg (by rw [parB_len]; simp)]
    exact Or.inr rfl
theorem par_part {f f' : Nat} {l : List Nd} {X : List Nd × Ps} {p : Ps} (h : altP B f ⟨0, 0, 0⟩ = some (l, p)) (h0 : p.e = 0) (hp : ¬ p.at_ < B.length) (h' : partP (parB B) f' ⟨0, 0, 0⟩ = some X) : ParR B l X := by
  cases f' with
  | zero => simp [partP] at h'
  | succ f' =>
  rw [partP] at h'
  cases hc' : atomP (parB B) f' ⟨0, 0, 0⟩ with
  | none => rw [hc'] at h'; cases h'
  | some x' =>
  have hs := par_atom B h h0 hp hc'
  rw [hc'] at h'
  obtain ⟨l', q'⟩ := x'
  simp only at h'
  rcases hs with h84 | he
  · rw [partLoop_stuck _ _ _ _ (ne_of_84 h84) _ h']
    exact Or.inl h84
  · cases he
    cases f' with
    | zero => simp [partLoop] at h'
    | succ f' =>
    rw [partLoop, more_par_end] at h'
    cases h'
    exact Or.inr rfl
theorem par_cat {f f' : Nat} {l : List Nd} (hl : l.length ≠ 0) {X : List Nd × Ps} {p : Ps} (h : altP B f ⟨0, 0, 0⟩ = some (l, p)) (h0 : p.e = 0) (hp : ¬ p.at_ < B.length) (h' : catP (parB B) f' ⟨0, 0, 0⟩ = some X) : ParR B l X := by
  cases f' with
  | zero => simp [catP] at h'
  | succ f' =>
  rw [catP] at h'
  cases f' with
  | zero => simp [catLoop] at h'
  | succ f' =>
  rw [catLoop, more_par0, bAt_par0, if_pos (by decide)] at h'
  cases hc' : partP (parB B) f' ⟨0, 0, 0⟩ with
  | none => rw [hc'] at h'; cases h'
  | some x' =>
  have hs := par_part B h h0 hp hc'
  rw [hc'] at h'
  obtain ⟨l', q'⟩ := x'
  simp only at h'
  rcases hs with h84 | he
  · rw [if_neg (ne_of_84 h84)] at h'
    cases h'
    exact Or.inl h84
  · cases he
    rw [if_pos rfl, if_pos (show ([] : List Nd).length = 0 from rfl)] at h'
    cases f' with
    | zero => simp [catLoop] at h'
    | succ f' =>
    rw [catLoop, more_par_end, if_neg (by simp), if_neg hl] at h'
    cases h'
    exact Or.inr rfl
theorem par_alt {f f' : Nat} {l : List Nd} (hl : l.length ≠ 0) {X : List Nd × Ps} {p : Ps} (h : altP B f ⟨0, 0, 0⟩ = some (l, p)) (h0 : p.e = 0) (hp : ¬ p.at_ < B.length) (h' : altP (parB B) f' ⟨0, 0, 0⟩ = some X) : ParR B l X := by
  cases f' with
  | zero => simp [altP] at h'
  | succ f' =>
  rw [altP] at h'
  cases hc' : catP (parB B) f' ⟨0, 0, 0⟩ with
  | none => rw [hc'] at h'; cases h'
  | some x' =>
  have hs := par_cat B hl h h0 hp hc'
  rw [hc'] at h'
  obtain ⟨l', q'⟩ := x'
  simp only at h'
  rcases hs with h84 | he
  · rw [altLoop_stuck _ _ _ _ (ne_of_84 h84) _ h']
    exact Or.inl h84
  · cases he
    cases f' with
    | zero => simp [altLoop] at h'
    | succ f' =>
    rw [altLoop, more_par_end, if_neg (by simp)] at h'
    cases h'
    exact Or.inr rfl
theorem par_law {f f' : Nat} {n : List Nd} {R : List Nd × Int} (h : parseF f B = some (n, 0)) (h' : parseF f' (parB B) = some R) : R = (n, 0) ∨ R.2 = 84 ∨ R.2 = 1 := by
  have htr := (parse_tr h).1.pos_
  unfold parseF at h h'
  rw [parB_len] at h'
  by_cases hl : 128 < B.length
  · rw [if_pos hl] at h
    cases h
  rw [if_neg hl] at h
  by_cases hl2 : 128 < B.length + 2
  · rw [if_pos hl2] at h'
    cases h'
    exact Or.inr (Or.inr rfl)
  rw [if_neg hl2] at h'
  cases hc : altP B f ⟨0, 0, 0⟩ with
  | none => rw [hc] at h; cases h
  | some x =>
  rw [hc] at h
  obtain ⟨l, p⟩ := x
  simp only at h
  by_cases hp : p.e = 0 ∧ p.at_ < B.length
  · rw [if_pos hp] at h
    have := failP_ne p 83 (by decide)
    simp only [this, false_and, if_false, Option.some.injEq, Prod.mk.injEq] at h
    exact h.2.elim
  rw [if_neg hp] at h
  by_cases h256 : p.e = 0 ∧ 256 < l.length
  · rw [if_pos h256] at h
    have := failP_ne p 1 (by decide)
    simp only [this, if_false, Option.some.injEq, Prod.mk.injEq] at h
    exact h.2.elim
  rw [if_neg h256] at h
  have h0 : p.e = 0 := by
    by_cases h0 : p.e = 0
    · exact h0
    · rw [if_neg h0] at h
      injection h with h
      injection h with _ h
  rw [if_pos h0] at h
  obtain rfl : l = n := by
    injection h with h
    injection h with h _
  cases hc' : altP (parB B) f' ⟨0, 0, 0⟩ with
  | none => rw [hc'] at h'; cases h'
  | some x' =>
  rw [hc'] at h'
  have hs := par_alt B htr hc h0 (fun z => hp ⟨h0, z⟩) hc'
  obtain ⟨l', q⟩ := x'
  simp only at h'
  rcases hs with h84 | he
  · have h84' : q.e = 84 := h84
    have hn : ¬ q.e = 0 := ne_of_84 h84'
    rw [if_neg (show ¬ (q.e = 0 ∧ q.at_ < B.length + 2) from fun z => hn z.1), if_neg (show ¬ (q.e = 0 ∧ 256 < l'.length) from fun z => hn z.1), if_neg hn] at h'
    cases h'
    exact Or.inr (Or.inl h84')
  · cases he
    rw [if_neg (show ¬ ((0 : Int) = 0 ∧ B.length + 2 < B.length + 2) from fun z => Nat.lt_irrefl _ z.2), if_neg (show ¬ ((0 : Int) = 0 ∧ 256 < l.length) from fun z => h256 ⟨h0, z.2⟩), if_pos rfl] at h'
    cases h'
    exact Or.inl rfl
end Go.Proofs.Ytaajgdhoffhdcaa
