/-
  What a valid list has: kids in the list, parents in the list. No program in sight.
-/
import Derived.Test.YtaajgdhoffhdcaaLnZ
namespace Go.Proofs.Ytaajgdhoffhdcaa
open Go.RowKit
set_option linter.unusedVariables false

theorem kidsI_bd (k : Int) : (0 < kidsI k → (k = 3 ∨ k = 4 ∨ k = 5 ∨ k = 6 ∨ k = 7)) ∧ ((k = 3 ∨ k = 4) → kidsI k = 2) ∧ ((k = 5 ∨ k = 6 ∨ k = 7) → kidsI k = 1) ∧ kidsI k ≤ 2 := by
  unfold kidsI
  refine ⟨?_, ?_, ?_, ?_⟩
  all_goals (repeat' split) <;> omega
/-- The stack's entries are nodes that were read; the nodes' kids lie ahead of them. -/
theorem vrun_kin {l : List Nd} : ∀ (k : Nat) (rs : List Int), vrun l k = some rs → (∀ r ∈ rs, ∃ a : Nat, r = a ∧ a < k) ∧
    ∀ x, x < k → (((nd l x).kind = 3 ∨ (nd l x).kind = 4 ∨ (nd l x).kind = 5 ∨ (nd l x).kind = 6 ∨ (nd l x).kind = 7) → ∃ a : Nat, (nd l x).left = a ∧ a < x) ∧ (((nd l x).kind = 3 ∨ (nd l x).kind = 4) → ∃ a : Nat, (nd l x).right = a ∧ a < x)
  | 0, rs, h => by
    injection h with h
    subst h
    exact ⟨fun r hr => (by cases hr), fun x hx => (by omega)⟩
  | k + 1, rs, h => by
    rw [vrun] at h
    cases hr : vrun l k with
    | none => rw [hr] at h; cases h
    | some r0 =>
      rw [hr] at h
      obtain ⟨i1, i2⟩ := vrun_kin k r0 hr
      simp only at h
      unfold vstep at h
      split at h
      · cases h
      split at h
      · cases h
      rename_i hk
      split at h
      · cases h
      rename_i hlr
      injection h with h
      subst h
      obtain ⟨b1, b2, b3, b4⟩ := kidsI_bd (nd l k).kind
      have hin : ∀ j : Nat, j < (kidsI (nd l k).kind).toNat → ∃ a : Nat, (r0.drop (r0.length - (kidsI (nd l k).kind).toNat)).getD j 0 = a ∧ a < k := by
        intro j hj
        have hlt : j < (r0.drop (r0.length - (kidsI (nd l k).kind).toNat)).length := by rw [List.length_drop]; omega
        rw [List.getD_eq_getElem?_getD, List.getElem?_eq_getElem hlt]
        exact i1 _ (List.mem_of_mem_drop (List.getElem_mem hlt))
      refine ⟨fun r hr => ?_, fun x hx => ?_⟩
      · rcases List.mem_append.mp hr with hr | hr
        · obtain ⟨a, e, ha⟩ := i1 r (List.mem_of_mem_take hr)
          exact ⟨a, e, by omega⟩
        · simp at hr
          exact ⟨k, hr, by omega⟩
      · by_cases e : x = k
        · subst e
          have hl : (nd l x).left = _ := Classical.not_not.mp (fun e => hlr (Or.inl e))
          have hR : (nd l x).right = _ := Classical.not_not.mp (fun e => hlr (Or.inr e))
          refine ⟨fun hk' => ?_, fun hk' => ?_⟩
          · rw [hl]
            refine hin 0 ?_
            by_cases h34 : (nd l x).kind = 3 ∨ (nd l x).kind = 4
            · have := b2 h34; omega
            · have := b3 (by omega); omega
          · rw [hR]
            refine hin 1 ?_
            have := b2 hk'; omega
        · exact i2 x (by omega)
theorem validM_run {l : List Nd} (h : validM l = true) : l.length ≤ 256 ∧ ∃ r, vrun l l.length = some [r] := by
  unfold validM at h
  rw [Bool.and_eq_true] at h
  refine ⟨of_decide_eq_true h.1, ?_⟩
  cases hr : vrun l l.length with
  | none => rw [hr] at h; exact absurd h.2 (by decide)
  | some rs =>
    rw [hr] at h
    have h2 : rs.length = 1 := by simpa using h.2
    obtain ⟨r, rfl⟩ := List.length_eq_one_iff.mp h2
    exact ⟨r, rfl⟩
theorem validM_len {l : List Nd} (h : validM l = true) : 1 ≤ l.length ∧ l.length ≤ 256 := by
  obtain ⟨h1, r, h2⟩ := validM_run h
  have := vrun_len h2
  exact ⟨by simpa using this, h1⟩
theorem validM_kin {l : List Nd} (h : validM l = true) : Kin l := by
  obtain ⟨h1, r, h2⟩ := validM_run h
  obtain ⟨_, k⟩ := vrun_kin _ _ h2
  exact ⟨fun x hx hk => by obtain ⟨a, e, ha⟩ := (k x hx).1 hk; exact ⟨a, e, by omega⟩, fun x hx hk => by obtain ⟨a, e, ha⟩ := (k x hx).2 hk; exact ⟨a, e, by omega⟩⟩
theorem getD_set_ (ps : List Nat) (i v x : Nat) : (ps.set i v).getD x 0 = ps.getD x 0 ∨ (ps.set i v).getD x 0 = v := by
  rw [List.getD_eq_getElem?_getD, List.getD_eq_getElem?_getD, List.getElem?_set]
  split
  · split
    · exact Or.inr rfl
    · left; rename_i e1 e2; subst e1; rw [List.getElem?_eq_none (by omega)]
  · exact Or.inl rfl
theorem parM_lt (l : List Nd) (h : 1 ≤ l.length) : ∀ k, k ≤ l.length → ∀ x, (parM l k).getD x 0 < l.length
  | 0, _, x => by
    rw [parM, List.getD_eq_getElem?_getD, List.getElem?_replicate]
    split <;> simp <;> omega
  | k + 1, hk, x => by
    have ih := parM_lt l h k (by omega)
    rw [parM]
    split
    · rcases getD_set_ ((parM l k).set (rtN l k) k) (lfN l k) k x with e | e
      · rw [e]
        rcases getD_set_ (parM l k) (rtN l k) k x with e | e
        · rw [e]; exact ih x
        · rw [e]; omega
      · rw [e]; omega
    · split
      · rcases getD_set_ (parM l k) (lfN l k) k x with e | e
        · rw [e]; exact ih x
        · rw [e]; omega
      · exact ih x
theorem Spots.fold {l : List Nd} (c : Nat) : ∀ (S : List Nat) (acc : List Nat), (∀ s ∈ S, s < 2 * l.length) → Spots (2 * l.length) acc → Spots (2 * l.length) (S.foldl (fun acc s => overM l c s acc) acc)
  | [], acc, _, h => h
  | s :: S, acc, hS, h => by
    refine Spots.fold c S _ (fun x hx => hS x (by simp [hx])) ?_
    show Spots (2 * l.length) (overM l c s acc)
    unfold overM
    split
    · have := hS s (by simp)
      exact h.enter (by omega)
    · exact h
theorem Spots.step {l : List Nd} {L : List Nat} (h : Spots (2 * l.length) L) (c : Nat) : Spots (2 * l.length) (stepM l c L) := Spots.fold c L [] h.2 (Spots.nil _)
theorem Spots.visit {l : List Nd} (hK : Kin l) {ps : List Nat} (hpl : ∀ x, x < l.length → ps.getD x 0 < l.length) {s : Nat} (hs : s < 2 * l.length) {L : List Nat} (h : Spots (2 * l.length) L) (bol eol : Bool) : Spots (2 * l.length) (visitM l ps bol eol s L) := by
  unfold visitM
  split
  · exact h.intoM hK (by omega) bol eol
  · split
    · exact h.outOfM hK (by omega) (hpl _ (by omega))
    · exact h
theorem Spots.spreadF {l : List Nd} (hK : Kin l) {ps : List Nat} (hpl : ∀ x, x < l.length → ps.getD x 0 < l.length) (bol eol : Bool) : ∀ (f i : Nat) (L : List Nat), Spots (2 * l.length) L → Spots (2 * l.length) (spreadF l ps bol eol f i L)
  | 0, i, L, h => h
  | f + 1, i, L, h => by
    rw [Go.Proofs.Ytaajgdhoffhdcaa.spreadF]
    split
    · rename_i hi
      refine Spots.spreadF hK hpl bol eol f (i + 1) _ (h.visit hK hpl ?_ bol eol)
      rw [List.getD_eq_getElem?_getD, List.getElem?_eq_getElem hi]
      exact h.2 _ (List.getElem_mem hi)
    · exact h
theorem Spots.spread {l : List Nd} (hv : validM l = true) (bol eol : Bool) {L : List Nat} (h : Spots (2 * l.length) L) : Spots (2 * l.length) (spreadM l bol eol L) :=
  Spots.spreadF (validM_kin hv) (fun x _ => parM_lt l (validM_len hv).1 _ (Nat.le_refl _) x) bol eol _ _ _ h
end Go.Proofs.Ytaajgdhoffhdcaa
