/-
  The heap's order on plain lists: what up and down do. No program in sight.
-/
import Derived.Test.YtlpaemlgmmmbmaaTqP
namespace Go.Proofs.Ytlpaemlgmmmbmaa
open Go.RowKit
set_option linter.unusedVariables false

abbrev gt (L : List Tm) (i : Nat) : Tm := L.getD i (0, 0)
def upL : Nat → List Tm → Nat → List Tm
  | 0, L, _ => L
  | f + 1, L, j => if j = 0 then L else if lessB (gt L j) (gt L ((j - 1) / 2)) = true then upL f (swapL L ((j - 1) / 2) j) ((j - 1) / 2) else L
def kid (L : List Tm) (i n : Nat) : Nat := if 2 * i + 2 < n ∧ lessB (gt L (2 * i + 2)) (gt L (2 * i + 1)) = true then 2 * i + 2 else 2 * i + 1
def downL : Nat → List Tm → Nat → Nat → List Tm × Nat
  | 0, L, i, _ => (L, i)
  | f + 1, L, i, n => if 2 * i + 1 < n then (if lessB (gt L (kid L i n)) (gt L i) = true then downL f (swapL L i (kid L i n)) (kid L i n) n else (L, i)) else (L, i)

theorem kid_lt (L : List Tm) (i n : Nat) (h : 2 * i + 1 < n) : kid L i n < n ∧ i < kid L i n := by
  unfold kid; split <;> omega
theorem kid_or (L : List Tm) (i n : Nat) : kid L i n = 2 * i + 1 ∨ kid L i n = 2 * i + 2 := by
  unfold kid; split <;> simp
theorem upL_perm : ∀ (f : Nat) (L : List Tm) (j : Nat), j < L.length → (upL f L j).Perm L
  | 0, L, j, _ => List.Perm.refl _
  | f + 1, L, j, h => by
    rw [upL]
    split
    · exact List.Perm.refl _
    · split
      · exact (upL_perm f _ _ (by rw [swapL_length]; omega)).trans (swapL_perm L _ _ (by omega) h)
      · exact List.Perm.refl _
theorem downL_perm : ∀ (f : Nat) (L : List Tm) (i n : Nat), n ≤ L.length → (downL f L i n).1.Perm L
  | 0, L, i, n, _ => List.Perm.refl _
  | f + 1, L, i, n, h => by
    rw [downL]
    split
    · rename_i h1
      have := kid_lt L i n h1
      split
      · exact (downL_perm f _ _ _ (by rw [swapL_length]; omega)).trans (swapL_perm L _ _ (by omega) (by omega))
      · exact List.Perm.refl _
    · exact List.Perm.refl _
theorem swapL_gt (L : List Tm) (i k j : Nat) (hi : i < L.length) (hk : k < L.length) : gt (swapL L i k) j = if j = k then gt L i else if j = i then gt L k else gt L j := by
  unfold gt
  rw [List.getD_eq_getElem?_getD, swapL_get L i k j hi hk]
  split
  · rfl
  · split
    · rfl
    · rw [List.getD_eq_getElem?_getD]
theorem downL_far : ∀ (f : Nat) (L : List Tm) (i n : Nat), n ≤ L.length → ∀ j, n ≤ j → gt (downL f L i n).1 j = gt L j
  | 0, L, i, n, _, j, _ => rfl
  | f + 1, L, i, n, h, j, hj => by
    rw [downL]
    split
    · rename_i h1
      have := kid_lt L i n h1
      split
      · rw [downL_far f _ _ _ (by rw [swapL_length]; omega) j hj, swapL_gt L _ _ _ (by omega) (by omega), if_neg (by omega), if_neg (by omega)]
      · rfl
    · rfl
theorem upL_far : ∀ (f : Nat) (L : List Tm) (i : Nat), i < L.length → ∀ j, i < j → gt (upL f L i) j = gt L j
  | 0, L, i, _, j, _ => rfl
  | f + 1, L, i, h, j, hj => by
    rw [upL]
    split
    · rfl
    · split
      · rw [upL_far f _ _ (by rw [swapL_length]; omega) j (by omega), swapL_gt L _ _ _ (by omega) h, if_neg (by omega), if_neg (by omega)]
      · rfl

/-! the order -/
def le (p q : Tm) : Prop := lessB q p = false
theorem lessB_iff (p q : Tm) : lessB p q = true ↔ p.1 < q.1 ∨ (p.1 = q.1 ∧ p.2 < q.2) := by simp [lessB]
theorem le_iff (p q : Tm) : le p q ↔ p.1 < q.1 ∨ (p.1 = q.1 ∧ p.2 ≤ q.2) := by
  unfold le
  rw [← Bool.not_eq_true, lessB_iff]; omega
theorem le_trans {a b c : Tm} (h : le a b) (k : le b c) : le a c := by rw [le_iff] at *; omega
theorem le_refl (a : Tm) : le a a := by rw [le_iff]; omega
theorem le_of_less {a b : Tm} (h : lessB a b = true) : le a b := by rw [lessB_iff] at h; rw [le_iff]; omega
theorem le_anti {a b : Tm} (h : le a b) (k : le b a) : a = b := by
  rw [le_iff] at *
  exact Prod.ext (by omega) (by omega)
def Heap (L : List Tm) (n : Nat) : Prop := ∀ c, 0 < c → c < n → le (gt L ((c - 1) / 2)) (gt L c)
/-- All is well but between j and its parent. -/
def U (L : List Tm) (j n : Nat) : Prop := (∀ c, 0 < c → c < n → c ≠ j → le (gt L ((c - 1) / 2)) (gt L c)) ∧ (∀ c, 0 < c → c < n → (c - 1) / 2 = j → 0 < j → le (gt L ((j - 1) / 2)) (gt L c))
/-- All is well but between k and its kids. -/
def H3 (L : List Tm) (k n : Nat) : Prop := (∀ c, 0 < c → c < n → (c - 1) / 2 ≠ k → le (gt L ((c - 1) / 2)) (gt L c)) ∧ (∀ c, 0 < c → c < n → (c - 1) / 2 = k → 0 < k → le (gt L ((k - 1) / 2)) (gt L c))
/-- All is well but around i. -/
def H2 (L : List Tm) (i n : Nat) : Prop := (∀ c, 0 < c → c < n → (c - 1) / 2 ≠ i → c ≠ i → le (gt L ((c - 1) / 2)) (gt L c)) ∧ (∀ c, 0 < c → c < n → (c - 1) / 2 = i → 0 < i → le (gt L ((i - 1) / 2)) (gt L c))
theorem kid_le (L : List Tm) (i n c : Nat) (h : 2 * i + 1 < n) (h0 : 0 < c) (hc : c < n) (hp : (c - 1) / 2 = i) : le (gt L (kid L i n)) (gt L c) := by
  unfold kid
  have : c = 2 * i + 1 ∨ c = 2 * i + 2 := by omega
  split
  · rename_i hh
    rcases this with rfl | rfl
    · exact le_of_less hh.2
    · exact le_refl _
  · rename_i hh
    rcases this with rfl | rfl
    · exact le_refl _
    · show lessB _ _ = false
      cases hb : lessB (gt L (2 * i + 2)) (gt L (2 * i + 1)) with
      | false => rfl
      | true => exact absurd ⟨hc, hb⟩ hh
theorem step_H3 {L : List Tm} {i n : Nat} (hn : n ≤ L.length) (h : H2 L i n) (h1 : 2 * i + 1 < n) (hb : lessB (gt L (kid L i n)) (gt L i) = true) : H3 (swapL L i (kid L i n)) (kid L i n) n := by
  have hk := kid_lt L i n h1
  have hko := kid_or L i n
  have hkl := fun c h0 hc hp => kid_le L i n c h1 h0 hc hp
  have sg := fun j => swapL_gt L i (kid L i n) j (by omega) (by omega)
  have hp : (kid L i n - 1) / 2 = i := by omega
  obtain ⟨ha, hc2⟩ := h
  generalize kid L i n = k at *
  refine ⟨?_, ?_⟩
  · intro c h0 hc hne
    rw [sg, sg]
    by_cases e1 : c = k
    · subst e1
      rw [if_pos rfl, hp, if_neg (by omega), if_pos rfl]
      exact le_of_less hb
    · rw [if_neg e1, if_neg hne]
      by_cases e2 : c = i
      · subst e2
        rw [if_pos rfl, if_neg (by omega)]
        exact hc2 k (by omega) (by omega) hp h0
      · rw [if_neg e2]
        by_cases e3 : (c - 1) / 2 = i
        · rw [if_pos e3]; exact hkl c h0 hc e3
        · rw [if_neg e3]; exact ha c h0 hc e3 e2
  · intro c h0 hc he hk0
    rw [hp, sg, sg, if_neg (by omega), if_pos rfl, if_neg (by omega), if_neg (by omega)]
    rw [← he]
    exact ha c h0 hc (by omega) (by omega)
theorem H2_of_H3 {L : List Tm} {k n : Nat} (h : H3 L k n) : H2 L k n := ⟨fun c h0 hc hp _ => h.1 c h0 hc hp, h.2⟩
theorem kids_ok {L : List Tm} {i n : Nat} (h1 : 2 * i + 1 < n) (hb : lessB (gt L (kid L i n)) (gt L i) = false) (c : Nat) (h0 : 0 < c) (hc : c < n) (hp : (c - 1) / 2 = i) : le (gt L i) (gt L c) :=
  le_trans hb (kid_le L i n c h1 h0 hc hp)
theorem downL_heap : ∀ (f : Nat) (L : List Tm) (k n : Nat), n ≤ L.length → n + 1 ≤ k + f → H3 L k n → Heap (downL f L k n).1 n
  | 0, L, k, n, hn, hf, h => by
    intro c h0 hc
    exact h.1 c h0 hc (by omega)
  | f + 1, L, k, n, hn, hf, h => by
    rw [downL]
    split
    · rename_i h1
      have hk := kid_lt L k n h1
      cases hb : lessB (gt L (kid L k n)) (gt L k) with
      | true =>
        rw [if_pos rfl]
        exact downL_heap f _ _ _ (by rw [swapL_length]; omega) (by omega) (step_H3 hn (H2_of_H3 h) h1 hb)
      | false =>
        simp only [Bool.false_eq_true, if_false]
        intro c h0 hc
        by_cases e : (c - 1) / 2 = k
        · rw [e]; exact kids_ok h1 hb c h0 hc e
        · exact h.1 c h0 hc e
    · intro c h0 hc
      exact h.1 c h0 hc (by omega)
theorem downL_ge : ∀ (f : Nat) (L : List Tm) (k n : Nat), k ≤ (downL f L k n).2
  | 0, L, k, n => Nat.le_refl _
  | f + 1, L, k, n => by
    rw [downL]
    split
    · rename_i h1
      have hk := kid_lt L k n h1
      split
      · exact Nat.le_trans (by omega) (downL_ge f _ _ _)
      · exact Nat.le_refl _
    · exact Nat.le_refl _
theorem downL_two (f : Nat) (L : List Tm) (i n : Nat) (hn : n ≤ L.length) (hf : n + 1 ≤ i + f) (h : H2 L i n) :
    (i < (downL f L i n).2 → Heap (downL f L i n).1 n) ∧ (¬ i < (downL f L i n).2 → (downL f L i n).1 = L ∧ U L i n) := by
  cases f with
  | zero =>
    refine ⟨fun hh => absurd hh (Nat.lt_irrefl _), fun _ => ⟨rfl, ?_, ?_⟩⟩
    · intro c h0 hc hne; exact h.1 c h0 hc (by omega) hne
    · intro c h0 hc hp hi; omega
  | succ f =>
    rw [downL]
    split
    · rename_i h1
      have hk := kid_lt L i n h1
      cases hb : lessB (gt L (kid L i n)) (gt L i) with
      | true =>
        rw [if_pos rfl]
        refine ⟨fun _ => downL_heap f _ _ _ (by rw [swapL_length]; omega) (by omega) (step_H3 hn h h1 hb), fun hh => ?_⟩
        have := downL_ge f (swapL L i (kid L i n)) (kid L i n) n
        omega
      | false =>
        simp only [Bool.false_eq_true, if_false]
        refine ⟨fun hh => absurd hh (Nat.lt_irrefl _), fun _ => ⟨trivial, ?_, h.2⟩⟩
        intro c h0 hc hne
        by_cases e : (c - 1) / 2 = i
        · rw [e]; exact kids_ok h1 hb c h0 hc e
        · exact h.1 c h0 hc e hne
    · refine ⟨fun hh => absurd hh (Nat.lt_irrefl _), fun _ => ⟨rfl, ?_, h.2⟩⟩
      intro c h0 hc hne
      exact h.1 c h0 hc (by omega) hne
theorem upL_heap : ∀ (f : Nat) (L : List Tm) (j n : Nat), n ≤ L.length → j < n → j < f → U L j n → Heap (upL f L j) n
  | 0, L, j, n, hn, hj, hf, h => by omega
  | f + 1, L, j, n, hn, hj, hf, h => by
    rw [upL]
    split
    · rename_i h0
      subst h0
      intro c h0 hc
      exact h.1 c h0 hc (by omega)
    · rename_i hj0
      cases hb : lessB (gt L j) (gt L ((j - 1) / 2)) with
      | false =>
        simp only [Bool.false_eq_true, if_false]
        intro c h0 hc
        by_cases e : c = j
        · subst e; exact hb
        · exact h.1 c h0 hc e
      | true =>
        rw [if_pos rfl]
        have sg := fun i => swapL_gt L ((j - 1) / 2) j i (by omega) (by omega)
        refine upL_heap f _ _ n (by rw [swapL_length]; exact hn) (by omega) (by omega) ⟨?_, ?_⟩
        · intro c h0 hc hne
          rw [sg, sg]
          by_cases e1 : c = j
          · subst e1
            rw [if_pos rfl, if_neg (by omega), if_pos rfl]
            exact le_of_less hb
          · rw [if_neg e1, if_neg hne]
            by_cases e2 : (c - 1) / 2 = j
            · rw [if_pos e2]
              exact h.2 c h0 hc e2 (by omega)
            · rw [if_neg e2]
              by_cases e3 : (c - 1) / 2 = (j - 1) / 2
              · rw [if_pos e3]
                have := h.1 c h0 hc e1
                rw [e3] at this
                exact le_trans (le_of_less hb) this
              · rw [if_neg e3]; exact h.1 c h0 hc e1
        · intro c h0 hc hp hm
          rw [sg, sg]
          have h1 := h.1 ((j - 1) / 2) hm (by omega) (by omega)
          rw [if_neg (show ¬ ((j - 1) / 2 - 1) / 2 = j by omega), if_neg (show ¬ ((j - 1) / 2 - 1) / 2 = (j - 1) / 2 by omega)]
          by_cases e1 : c = j
          · rw [if_pos e1]; exact h1
          · rw [if_neg e1, if_neg (by omega)]
            have := h.1 c h0 hc e1
            rw [hp] at this
            exact le_trans h1 this
theorem Heap.root {L : List Tm} {n : Nat} (h : Heap L n) : ∀ c, c < n → le (gt L 0) (gt L c) := by
  intro c
  induction c using Nat.strongRecOn with
  | _ c ih =>
    intro hc
    by_cases h0 : c = 0
    · subst h0; exact le_refl _
    · exact le_trans (ih ((c - 1) / 2) (by omega) (by omega)) (h c (by omega) hc)

/-! what container/heap's functions do -/
def pushM (L : List Tm) (p : Tm) : List Tm := upL (L.length + 1) (L ++ [p]) L.length
def fixM (L : List Tm) (i n : Nat) : List Tm := if i < (downL (n + 1) L i n).2 then (downL (n + 1) L i n).1 else upL (i + 1) (downL (n + 1) L i n).1 i
def popM (L : List Tm) : List Tm := (downL (L.length - 1 + 1) (swapL L 0 (L.length - 1)) 0 (L.length - 1)).1.take (L.length - 1)
def removeM (L : List Tm) (i : Nat) : List Tm := (if L.length - 1 = i then L else fixM (swapL L i (L.length - 1)) i (L.length - 1)).take (L.length - 1)
theorem fixM_perm (L : List Tm) (i n : Nat) (hn : n ≤ L.length) (hi : i < L.length) : (fixM L i n).Perm L := by
  unfold fixM
  have hp := downL_perm (n + 1) L i n hn
  split
  · exact hp
  · exact (upL_perm _ _ _ (by rw [hp.length_eq]; exact hi)).trans hp
theorem fixM_heap (L : List Tm) (i n : Nat) (hn : n ≤ L.length) (hi : i < n) (h : H2 L i n) : Heap (fixM L i n) n := by
  obtain ⟨h1, h2⟩ := downL_two (n + 1) L i n hn (by omega) h
  unfold fixM
  split
  · rename_i hh; exact h1 hh
  · rename_i hh
    obtain ⟨e, hu⟩ := h2 hh
    rw [e]
    exact upL_heap _ _ _ _ hn hi (by omega) hu
theorem fixM_far (L : List Tm) (i n : Nat) (hn : n ≤ L.length) (hi : i < n) (j : Nat) (hj : n ≤ j) : gt (fixM L i n) j = gt L j := by
  unfold fixM
  split
  · exact downL_far _ _ _ _ hn j hj
  · rw [upL_far _ _ _ (by rw [(downL_perm _ L i n hn).length_eq]; omega) j (by omega), downL_far _ _ _ _ hn j hj]
theorem H2_set {L : List Tm} {n i : Nat} (h : Heap L n) (M : List Tm) (hM : ∀ j, j ≠ i → j < n → gt M j = gt L j) (hi : i < n) : H2 M i n := by
  refine ⟨fun c h0 hc hp hne => ?_, fun c h0 hc hp h1 => ?_⟩
  · rw [hM c hne hc, hM _ hp (by omega)]
    exact h c h0 hc
  · rw [hM c (by omega) hc, hM _ (by omega) (by omega)]
    have a := h i h1 hi
    have b := h c h0 hc
    rw [hp] at b
    exact le_trans a b
theorem gt_take (L : List Tm) (n j : Nat) (h : j < n) : gt (L.take n) j = gt L j := by
  unfold gt
  rw [List.getD_eq_getElem?_getD, List.getD_eq_getElem?_getD, List.getElem?_take, if_pos h]
theorem Heap.take_ {L : List Tm} {n : Nat} (h : Heap L n) : Heap (L.take n) n := by
  intro c h0 hc
  rw [gt_take L n _ (by omega), gt_take L n c hc]
  exact h c h0 hc
theorem Heap.less {L : List Tm} {n m : Nat} (h : Heap L n) (hm : m ≤ n) : Heap L m := fun c h0 hc => h c h0 (by omega)
theorem take_snoc (M : List Tm) (n : Nat) (h : M.length = n + 1) : M = M.take n ++ [gt M n] := by
  have h2 := List.take_append_drop n M
  rw [List.drop_eq_getElem_cons (by omega)] at h2
  rw [List.drop_eq_nil_of_le (by omega)] at h2
  unfold gt
  rw [List.getD_eq_getElem?_getD, List.getElem?_eq_getElem (by omega)]
  exact h2.symm
/-- Push: the same timers, and the new one. -/
theorem pushM_spec (L : List Tm) (p : Tm) (h : Heap L L.length) : (pushM L p).Perm (L ++ [p]) ∧ Heap (pushM L p) (L.length + 1) := by
  unfold pushM
  refine ⟨upL_perm _ _ _ (by simp), upL_heap _ _ _ _ (by simp) (by omega) (by omega) ⟨?_, ?_⟩⟩
  · intro c h0 hc hne
    have e : ∀ j, j < L.length → gt (L ++ [p]) j = gt L j := by
      intro j hj
      unfold gt
      rw [List.getD_eq_getElem?_getD, List.getD_eq_getElem?_getD, List.getElem?_append_left hj]
    rw [e _ (by omega), e c (by omega)]
    exact h c h0 (by omega)
  · intro c h0 hc hp hl; omega
/-- Pop: the first one goes. -/
theorem popM_spec (L : List Tm) (h : Heap L L.length) (h0 : 0 < L.length) :
    gt (downL (L.length - 1 + 1) (swapL L 0 (L.length - 1)) 0 (L.length - 1)).1 (L.length - 1) = gt L 0 ∧ (popM L ++ [gt L 0]).Perm L ∧ Heap (popM L) (L.length - 1) ∧ (popM L).length = L.length - 1 := by
  have sl := swapL_length L 0 (L.length - 1)
  have sp := swapL_perm L 0 (L.length - 1) h0 (by omega)
  have sg := fun j => swapL_gt L 0 (L.length - 1) j h0 (by omega)
  have dp := downL_perm (L.length - 1 + 1) (swapL L 0 (L.length - 1)) 0 (L.length - 1) (by omega)
  have hg : gt (downL (L.length - 1 + 1) (swapL L 0 (L.length - 1)) 0 (L.length - 1)).1 (L.length - 1) = gt L 0 := by
    rw [downL_far _ _ _ _ (by omega) _ (Nat.le_refl _), sg, if_pos rfl]
  have hh : Heap (downL (L.length - 1 + 1) (swapL L 0 (L.length - 1)) 0 (L.length - 1)).1 (L.length - 1) := by
    refine downL_heap _ _ _ _ (by omega) (by omega) ⟨?_, ?_⟩
    · intro c hc0 hc hp
      rw [sg, sg, if_neg (by omega), if_neg (by omega), if_neg (by omega), if_neg (by omega)]
      exact h c hc0 (by omega)
    · intro c _ _ _ hk; omega
  have hlen : (downL (L.length - 1 + 1) (swapL L 0 (L.length - 1)) 0 (L.length - 1)).1.length = L.length - 1 + 1 := by rw [dp.length_eq]; omega
  refine ⟨hg, ?_, hh.take_, by unfold popM; rw [List.length_take]; omega⟩
  have := take_snoc _ _ hlen
  rw [hg] at this
  unfold popM
  rw [← this]
  exact dp.trans sp
theorem removeM_spec (L : List Tm) (i : Nat) (h : Heap L L.length) (hi : i < L.length) :
    gt (if L.length - 1 = i then L else fixM (swapL L i (L.length - 1)) i (L.length - 1)) (L.length - 1) = gt L i ∧ (removeM L i ++ [gt L i]).Perm L ∧ Heap (removeM L i) (L.length - 1) ∧ (removeM L i).length = L.length - 1 ∧
      (if L.length - 1 = i then L else fixM (swapL L i (L.length - 1)) i (L.length - 1)).Perm L := by
  have sl := swapL_length L i (L.length - 1)
  have sp := swapL_perm L i (L.length - 1) hi (by omega)
  have sg := fun j => swapL_gt L i (L.length - 1) j hi (by omega)
  have hP : (if L.length - 1 = i then L else fixM (swapL L i (L.length - 1)) i (L.length - 1)).Perm L := by
    split
    · exact List.Perm.refl _
    · exact (fixM_perm _ _ _ (by omega) (by omega)).trans sp
  have hg : gt (if L.length - 1 = i then L else fixM (swapL L i (L.length - 1)) i (L.length - 1)) (L.length - 1) = gt L i := by
    split
    · rename_i e; rw [e]
    · rw [fixM_far _ _ _ (by omega) (by omega) _ (Nat.le_refl _), sg, if_pos rfl]
  have hh : Heap (if L.length - 1 = i then L else fixM (swapL L i (L.length - 1)) i (L.length - 1)) (L.length - 1) := by
    split
    · exact h.less (by omega)
    · refine fixM_heap _ _ _ (by omega) (by omega) (H2_set (h.less (by omega)) _ ?_ (by omega))
      intro j hj hjn
      rw [sg, if_neg (by omega), if_neg hj]
  refine ⟨hg, ?_, hh.take_, by unfold removeM; rw [List.length_take, hP.length_eq]; omega, hP⟩
  have := take_snoc (if L.length - 1 = i then L else fixM (swapL L i (L.length - 1)) i (L.length - 1)) (L.length - 1) (by rw [hP.length_eq]; omega)
  rw [hg] at this
  unfold removeM
  rw [← this]
  exact hP
end Go.Proofs.Ytlpaemlgmmmbmaa
