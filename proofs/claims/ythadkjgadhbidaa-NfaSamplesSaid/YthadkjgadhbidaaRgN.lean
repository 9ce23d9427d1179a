/-
  What the reader gives is one tree; so it is valid, and each node but the last one belongs to another. No program in sight.
-/
import Derived.Test.YthadkjgadhbidaaVlP
import Derived.Test.YthadkjgadhbidaaRxF
namespace Go.Proofs.Ythadkjgadhbidaa
open Go.RowKit
set_option linter.unusedVariables false

theorem nd_append_left {l r : List Nd} {n : Nat} (h : n < l.length) : nd (l ++ r) n = nd l n := by
  unfold nd
  rw [List.getD_eq_getElem?_getD, List.getD_eq_getElem?_getD, List.getElem?_append_left h]
theorem Sub.ext_ {l : List Nd} (r : List Nd) {a n : Nat} (h : Sub l a n) : Sub (l ++ r) a n := by
  induction h with
  | leaf n h hk h1 h2 h3 =>
    have e := nd_append_left (r := r) h
    exact .leaf n (by rw [List.length_append]; omega) (by rw [e]; exact hk) (by rw [e]; exact h1) (by rw [e]; exact h2) (by rw [e]; exact h3)
  | one a n h hk h1 h2 h3 hs ih =>
    have e := nd_append_left (r := r) h
    exact .one a n (by rw [List.length_append]; omega) (by rw [e]; exact hk) (by rw [e]; exact h1) (by rw [e]; exact h2) (by rw [e]; exact h3) ih
  | two a m n h hk h1 h2 h3 hs1 hs2 i1 i2 =>
    have e := nd_append_left (r := r) h
    exact .two a m n (by rw [List.length_append]; omega) (by rw [e]; exact hk) (by rw [e]; exact h1) (by rw [e]; exact h2) (by rw [e]; exact h3) i1 i2
theorem nd_shift {l r : List Nd} {n : Nat} (h : n < r.length) : nd (l ++ r.map (shiftNd l.length)) (l.length + n) = shiftNd l.length (nd r n) := by
  unfold nd
  rw [List.getD_eq_getElem?_getD, List.getD_eq_getElem?_getD, List.getElem?_append_right (by omega), Nat.add_sub_cancel_left, List.getElem?_map, List.getElem?_eq_getElem h]
  rfl
theorem Sub.shift_ {l r : List Nd} {a n : Nat} (h : Sub r a n) : Sub (l ++ r.map (shiftNd l.length)) (l.length + a) (l.length + n) := by
  induction h with
  | leaf n h hk h1 h2 h3 =>
    have e := nd_shift (l := l) h
    have hkk : kidsN (nd r n).kind = 0 := by unfold kidsN; rw [if_neg (by omega), if_neg (by omega)]
    refine .leaf _ (by simp; omega) (by rw [e]; exact hk) (by rw [e]; simp [shiftNd, shiftN, hkk]) (by rw [e]; simp [shiftNd, shiftN, hkk]) (by rw [e]; exact h3)
  | one a n h hk h1 h2 h3 hs ih =>
    have e := nd_shift (l := l) h
    have hkk : kidsN (nd r (n + 1)).kind = 1 := by unfold kidsN; rw [if_neg (by omega), if_pos (by omega)]
    rw [← Nat.add_assoc] at e ⊢
    refine .one _ _ (by simp; omega) (by rw [e]; exact hk) (by rw [e]; simp [shiftNd, shiftN, hkk, h1]; omega) (by rw [e]; simp [shiftNd, shiftN, hkk]) (by rw [e]; exact h3) ih
  | two a m n h hk h1 h2 h3 hs1 hs2 i1 i2 =>
    have e := nd_shift (l := l) h
    have hkk : kidsN (nd r (n + 1)).kind = 2 := by unfold kidsN; rw [if_pos (by omega)]
    rw [← Nat.add_assoc] at e ⊢
    refine .two _ (l.length + m) _ (by simp; omega) (by rw [e]; exact hk) (by rw [e]; simp [shiftNd, shiftN, hkk, h1]; omega) (by rw [e]; simp [shiftNd, shiftN, hkk, h2]; omega) (by rw [e]; exact h3) i1 (by rw [← Nat.add_assoc] at i2; exact i2)
/-- One tree. -/
def Tr (l : List Nd) : Prop := 0 < l.length ∧ Sub l 0 (l.length - 1)
theorem nd_last (l : List Nd) (x : Nd) : nd (l ++ [x]) l.length = x := by
  unfold nd; rw [List.getD_eq_getElem?_getD]; simp
theorem Tr.leaf (k : Int) (z : BSet) (hk : k = 1 ∨ k = 2 ∨ k = 8 ∨ k = 9) (hz : k ≠ 2 → z = 0) : Tr (leafN k z) :=
  ⟨by simp [leafN], .leaf 0 (by simp [leafN]) hk rfl rfl hz⟩
theorem Tr.join1 {k : Int} {l : List Nd} (hk : k = 5 ∨ k = 6 ∨ k = 7) (hl : Tr l) : Tr (joinN k l []) := by
  obtain ⟨h0, h1⟩ := hl
  refine ⟨by rw [join_len]; omega, ?_⟩
  have e : joinN k l [] = l ++ [⟨k, (l.length : Int) - 1, 0, 0⟩] := by unfold joinN; simp
  have hlen : (joinN k l []).length - 1 = (l.length - 1) + 1 := by rw [join_len]; simp; omega
  rw [hlen, e]
  have hn : nd (l ++ [(⟨k, (l.length : Int) - 1, 0, 0⟩ : Nd)]) (l.length - 1 + 1) = ⟨k, (l.length : Int) - 1, 0, 0⟩ := by
    rw [show l.length - 1 + 1 = l.length by omega]; exact nd_last _ _
  exact .one 0 (l.length - 1) (by simp; omega) (by rw [hn]; exact hk) (by rw [hn]; simp only; omega) (by rw [hn]) (by rw [hn]) (h1.ext_ _)
theorem Tr.join2 {k : Int} {l r : List Nd} (hk : k = 3 ∨ k = 4) (hl : Tr l) (hr : Tr r) : Tr (joinN k l r) := by
  obtain ⟨h0, h1⟩ := hl
  obtain ⟨r0, r1⟩ := hr
  refine ⟨by rw [join_len]; omega, ?_⟩
  have e : joinN k l r = (l ++ r.map (shiftNd l.length)) ++ [⟨k, (l.length : Int) - 1, (l.length : Int) + r.length - 1, 0⟩] := by unfold joinN; rw [if_pos r0]
  have hlen : (joinN k l r).length - 1 = (l.length + (r.length - 1)) + 1 := by rw [join_len]; omega
  rw [hlen, e]
  have hL : (l ++ r.map (shiftNd l.length)).length = l.length + r.length := by simp
  have hn : nd ((l ++ r.map (shiftNd l.length)) ++ [(⟨k, (l.length : Int) - 1, (l.length : Int) + r.length - 1, 0⟩ : Nd)]) (l.length + (r.length - 1) + 1) = ⟨k, (l.length : Int) - 1, (l.length : Int) + r.length - 1, 0⟩ := by
    rw [show l.length + (r.length - 1) + 1 = (l ++ r.map (shiftNd l.length)).length by rw [hL]; omega]; exact nd_last _ _
  have s1 : Sub ((l ++ r.map (shiftNd l.length)) ++ [(⟨k, (l.length : Int) - 1, (l.length : Int) + r.length - 1, 0⟩ : Nd)]) 0 (l.length - 1) := by
    rw [List.append_assoc]; exact h1.ext_ _
  have s2 : Sub ((l ++ r.map (shiftNd l.length)) ++ [(⟨k, (l.length : Int) - 1, (l.length : Int) + r.length - 1, 0⟩ : Nd)]) (l.length - 1 + 1) (l.length + (r.length - 1)) := by
    rw [show l.length - 1 + 1 = l.length + 0 by omega]
    exact (r1.shift_).ext_ _
  exact .two 0 (l.length - 1) _ (by simp; omega) (by rw [hn]; exact hk) (by rw [hn]; simp only; omega) (by rw [hn]; simp only; omega) (by rw [hn]) s1 s2
/-- Every part that was read without an error is a tree. -/
theorem parse_tree (B : List Nat) : ∀ f : Nat,
    (∀ p R, altP B f p = some R → R.2.e = 0 → Tr R.1) ∧ (∀ l p R, Tr l → altLoop B f l p = some R → R.2.e = 0 → Tr R.1) ∧ (∀ p R, catP B f p = some R → R.2.e = 0 → Tr R.1) ∧
    (∀ l p R, (l = [] ∨ Tr l) → catLoop B f l p = some R → R.2.e = 0 → Tr R.1) ∧ (∀ p R, partP B f p = some R → R.2.e = 0 → Tr R.1) ∧ (∀ l p R, Tr l → partLoop B f l p = some R → R.2.e = 0 → Tr R.1) ∧
    (∀ p R, atomP B f p = some R → R.2.e = 0 → Tr R.1) := by
  intro f
  have bad1 : ∀ (f : Nat) (l : List Nd) (q : Ps) (R : List Nd × Ps), altLoop B f l q = some R → q.e ≠ 0 → R.2.e ≠ 0 := by
    intro f l q R h he
    cases f with
    | zero => simp [altLoop] at h
    | succ f =>
      rw [altLoop, if_neg (fun h => he ((moreP_iff _ _).1 h.1).1)] at h
      rw [← Option.some.inj h]; exact he
  have bad2 : ∀ (f : Nat) (l : List Nd) (q : Ps) (R : List Nd × Ps), partLoop B f l q = some R → q.e ≠ 0 → R.2.e ≠ 0 := by
    intro f l q R h he
    cases f with
    | zero => simp [partLoop] at h
    | succ f =>
      rw [partLoop, if_neg (fun h => he ((moreP_iff _ _).1 h).1)] at h
      rw [← Option.some.inj h]; exact he
  induction f with
  | zero =>
    refine ⟨?_, ?_, ?_, ?_, ?_, ?_, ?_⟩
    · intro p R h; simp [altP] at h
    · intro l p R _ h; simp [altLoop] at h
    · intro p R h; simp [catP] at h
    · intro l p R _ h; simp [catLoop] at h
    · intro p R h; simp [partP] at h
    · intro l p R _ h; simp [partLoop] at h
    · intro p R h; simp [atomP] at h
  | succ f ih =>
    obtain ⟨iAlt, iAltL, iCat, iCatL, iPart, iPartL, iAtom⟩ := ih
    refine ⟨?_, ?_, ?_, ?_, ?_, ?_, ?_⟩
    · intro p R h he
      rw [altP] at h
      split at h
      · cases h
      · rename_i l q hq
        by_cases hqe : q.e = 0
        · exact iAltL l q R (iCat p (l, q) hq hqe) h he
        · exact absurd he (bad1 f l q R h hqe)
    · intro l p R hl h he
      rw [altLoop] at h
      split at h
      · split at h
        · cases h
        · rename_i x q hq
          split at h
          · rename_i hqe
            exact iAltL _ q R (Tr.join2 (Or.inr rfl) hl (iCat _ (x, q) hq hqe)) h he
          · rename_i hqe
            injection h with h; subst h; exact absurd he hqe
      · injection h with h; subst h; exact hl
    · intro p R h he
      rw [catP] at h
      exact iCatL [] p R (Or.inl rfl) h he
    · intro l p R hl h he
      rw [catLoop] at h
      split at h
      · split at h
        · cases h
        · rename_i x q hq
          split at h
          · rename_i hqe
            refine iCatL _ q R (Or.inr ?_) h he
            split
            · exact iPart _ (x, q) hq hqe
            · rename_i hl0
              rcases hl with rfl | hl
              · exact absurd rfl hl0
              · exact Tr.join2 (Or.inl rfl) hl (iPart _ (x, q) hq hqe)
          · rename_i hqe
            injection h with h; subst h; exact absurd he hqe
      · injection h with h; subst h
        show Tr (if l.length = 0 then leafN 1 0 else l)
        split
        · exact Tr.leaf _ _ (Or.inl rfl) (fun _ => rfl)
        · rename_i hl0
          rcases hl with rfl | hl
          · exact absurd rfl hl0
          · exact hl
    · intro p R h he
      rw [partP] at h
      split at h
      · cases h
      · rename_i l q hq
        by_cases hqe : q.e = 0
        · exact iPartL l q R (iAtom p (l, q) hq hqe) h he
        · exact absurd he (bad2 f l q R h hqe)
    · intro l p R hl h he
      rw [partLoop] at h
      split at h
      · split at h
        · exact iPartL _ _ R (Tr.join1 (by decide) hl) h he
        · split at h
          · exact iPartL _ _ R (Tr.join1 (by decide) hl) h he
          · split at h
            · exact iPartL _ _ R (Tr.join1 (by decide) hl) h he
            · injection h with h; subst h; exact hl
      · injection h with h; subst h; exact hl
    · intro p R h he
      have two : ∀ z, Tr (leafN 2 z) := fun z => Tr.leaf _ _ (Or.inr (Or.inl rfl)) (fun h => absurd rfl h)
      rw [atomP] at h
      simp only at h
      split at h
      · injection h with h; subst h; exact two _
      split at h
      · injection h with h; subst h; exact Tr.leaf _ _ (by decide) (fun _ => rfl)
      split at h
      · injection h with h; subst h; exact Tr.leaf _ _ (by decide) (fun _ => rfl)
      split at h
      · injection h with h; subst h; exact two _
      split at h
      · split at h
        · cases h
        · injection h with h; subst h; exact two _
      split at h
      · injection h with h; subst h; exact two _
      split at h
      · injection h with h; subst h; exact two _
      split at h
      · split at h
        · injection h with h; subst h
          exact absurd he (failP_e _ _ (by decide))
        · split at h
          · cases h
          · rename_i l r hq
            injection h with h; subst h
            refine iAlt _ (l, r) hq ?_
            by_cases hre : r.e = 0
            · exact hre
            · simp [hre] at he
      · injection h with h; subst h; exact two _
theorem parse_tr {B : List Nat} {f : Nat} {l : List Nd} (h : parseF f B = some (l, 0)) : Tr l ∧ l.length ≤ 256 ∧ l.length ≤ 2 * B.length + 1 := by
  unfold parseF at h
  split at h
  · injection h with h
    injection h with h1 h2
    exact absurd h2 (by decide)
  split at h
  · cases h
  rename_i l' p hq
  obtain ⟨a, d, e⟩ := p
  simp only at h
  have hG : Good B.length ⟨0, 0, 0⟩ l' ⟨a, d, e⟩ 0 := (parse_good B f).1 ⟨0, 0, 0⟩ (l', ⟨a, d, e⟩) ⟨rfl, Nat.zero_le _, Nat.zero_le _⟩ hq
  by_cases he : e = 0
  · subst he
    have ht := (parse_tree B f).1 _ _ hq rfl
    by_cases ha : a < B.length
    · simp [ha, failP] at h
    · by_cases hl : 256 < l'.length
      · simp [ha, hl, failP] at h
      · simp [ha, hl] at h
        subst h
        obtain ⟨g1, g2, g3, g4, g5⟩ := hG.ok rfl
        replace g3 : a ≤ B.length := g3
        replace g5 : l'.length + 0 ≤ 2 * (a - 0) + 1 := g5
        exact ⟨ht, by omega, by omega⟩
  · simp [he] at h
theorem parseF_err {B : List Nat} {f : Nat} {l : List Nd} {c : Int} (h : parseF f B = some (l, c)) (hc : c ≠ 0) : l = [] := by
  unfold parseF at h
  split at h
  · injection h with h
    injection h with h1 h2
    exact h1.symm
  split at h
  · cases h
  rename_i l' p hq
  simp only at h
  have key : ∀ (q : Ps), some (if q.e = 0 then (l', (0 : Int)) else ([], q.e)) = some (l, c) → l = [] := by
    intro q hq
    by_cases he : q.e = 0
    · rw [if_pos he] at hq
      injection hq with hq
      injection hq with h1 h2
      exact absurd h2.symm hc
    · rw [if_neg he] at hq
      injection hq with hq
      injection hq with h1 h2
      exact h1.symm
  exact key _ h
/-- A tree is read by the stack. -/
theorem Sub.vrun_ {l : List Nd} {a n : Nat} (h : Sub l a n) : ∀ rs, vrun l a = some rs → vrun l (n + 1) = some (rs ++ [(n : Int)]) := by
  induction h with
  | leaf n h hk h1 h2 h3 =>
    intro rs hr
    have hkk : kidsI (nd l n).kind = 0 := by unfold kidsI; rw [if_pos hk]
    rw [vrun, hr]
    simp only
    unfold vstep
    rw [if_neg (fun h => h.2 (h3 h.1)), hkk, if_neg (by omega)]
    simp [h1, h2]
  | one a n h hk h1 h2 h3 hs ih =>
    intro rs hr
    have hkk : kidsI (nd l (n + 1)).kind = 1 := by unfold kidsI; rw [if_neg (by omega), if_pos hk]
    rw [vrun, ih rs hr]
    simp only
    unfold vstep
    rw [if_neg (fun h => h.2 h3), hkk, if_neg (by simp; omega)]
    simp [h1, h2]
  | two a m n h hk h1 h2 h3 hs1 hs2 i1 i2 =>
    intro rs hr
    have hkk : kidsI (nd l (n + 1)).kind = 2 := by unfold kidsI; rw [if_neg (by omega), if_neg (by omega), if_pos hk]
    rw [vrun, i2 _ (i1 rs hr)]
    simp only
    unfold vstep
    have e1 : (rs ++ [(m : Int)] ++ [(n : Int)]).length - (2 : Int).toNat = rs.length := by simp
    rw [if_neg (fun h => h.2 h3), hkk, if_neg (by simp; omega), e1, List.append_assoc, List.drop_left, List.take_left]
    simp [h1, h2]
theorem Tr.valid {l : List Nd} (h : Tr l) (hl : l.length ≤ 256) : validM l = true := by
  have := h.2.vrun_ [] rfl
  rw [show l.length - 1 + 1 = l.length by have := h.1; omega] at this
  unfold validM
  rw [this, decide_eq_true hl]
  rfl
/-- How many kids the nodes up to the k-th have. -/
def kidSum (l : List Nd) : Nat → Int
  | 0 => 0
  | k + 1 => kidSum l k + kidsN (nd l k).kind
theorem Sub.sum_ {l : List Nd} {a n : Nat} (h : Sub l a n) : kidSum l (n + 1) = kidSum l a + ((n : Int) - a) := by
  induction h with
  | leaf n h hk h1 h2 h3 =>
    have hkk : kidsN (nd l n).kind = 0 := by unfold kidsN; rw [if_neg (by omega), if_neg (by omega)]
    rw [kidSum, hkk]; omega
  | one a n h hk h1 h2 h3 hs ih =>
    have hkk : kidsN (nd l (n + 1)).kind = 1 := by unfold kidsN; rw [if_neg (by omega), if_pos (by omega)]
    rw [kidSum, hkk, ih]; omega
  | two a m n h hk h1 h2 h3 hs1 hs2 i1 i2 =>
    have hkk : kidsN (nd l (n + 1)).kind = 2 := by unfold kidsN; rw [if_pos (by omega)]
    rw [kidSum, hkk, i2, i1]; omega
theorem Tr.sum {l : List Nd} (h : Tr l) : kidSum l l.length = (l.length : Int) - 1 := by
  have := h.2.sum_
  have h0 := h.1
  rw [show l.length - 1 + 1 = l.length by omega] at this
  rw [this, show kidSum l 0 = 0 from rfl]
  omega
end Go.Proofs.Ythadkjgadhbidaa
