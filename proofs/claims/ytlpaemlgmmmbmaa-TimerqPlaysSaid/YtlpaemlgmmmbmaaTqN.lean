/-
  What the model's steps do to the set of timers. No program in sight.
-/
import Derived.Test.YtlpaemlgmmmbmaaTqM
namespace Go.Proofs.Ytlpaemlgmmmbmaa
open Go.RowKit
set_option linter.unusedVariables false

theorem mem_of_ids {L : List Tm} (h : (L.map (·.2)).Nodup) {p q : Tm} (hp : p ∈ L) (hq : q ∈ L) (he : p.2 = q.2) : p = q := by
  obtain ⟨i, hi⟩ := List.getElem?_of_mem hp
  obtain ⟨j, hj⟩ := List.getElem?_of_mem hq
  have := nodup_get h hi hj he
  subst this
  rw [hi] at hj
  exact Option.some.inj hj
theorem mem_set_iff {L : List Tm} (h : (L.map (·.2)).Nodup) {i : Nat} {b id a : Int} (hi : L[i]? = some (b, id)) (p : Tm) : p ∈ L.set i (a, id) ↔ p = (a, id) ∨ (p ∈ L ∧ p.2 ≠ id) := by
  have il := (List.getElem?_eq_some_iff.1 hi).1
  constructor
  · intro hp
    obtain ⟨j, hj⟩ := List.getElem?_of_mem hp
    rw [List.getElem?_set] at hj
    split at hj
    · try rw [if_pos il] at hj
      exact Or.inl (Option.some.inj hj).symm
    · rename_i hne
      refine Or.inr ⟨List.mem_of_getElem? hj, fun e => hne ?_⟩
      exact nodup_get h hi hj e.symm
  · rintro (rfl | ⟨hp, hne⟩)
    · exact List.mem_of_getElem? (i := i) (by rw [List.getElem?_set, if_pos rfl, if_pos il])
    · obtain ⟨j, hj⟩ := List.getElem?_of_mem hp
      refine List.mem_of_getElem? (i := j) ?_
      rw [List.getElem?_set, if_neg]
      · exact hj
      · intro e
        subst e
        rw [hi] at hj
        exact hne (by rw [← Option.some.inj hj])
theorem setM_mem {L : List Tm} (h : QI L) {id a : Int} (h0 : 0 ≤ id) (ha : 0 ≤ a ∧ a < 18446744073709551616) (hid : id ≤ 9223372036854775807) (hn : id ∉ L.map (·.2) → L.length < 256) :
    (setM L id a).1 = 0 ∧ ∀ p, p ∈ (setM L id a).2 ↔ p = (a, id) ∨ (p ∈ L ∧ p.2 ≠ id) := by
  unfold setM
  rw [if_neg (by omega)]
  cases hx : idx L id with
  | some i =>
    obtain ⟨b, hb⟩ := idx_some L id i hx
    refine ⟨rfl, fun p => ?_⟩
    simp only
    rw [(h.fix hb ha).2.mem_iff, mem_set_iff h.1.2.1 hb]
  | none =>
    have hm := idx_none L id hx
    have := hn hm
    simp only
    rw [if_neg (by omega)]
    refine ⟨rfl, fun p => ?_⟩
    simp only
    rw [(pushM_spec L (a, id) h.2).1.mem_iff]
    simp only [List.mem_append, List.mem_singleton]
    constructor
    · rintro (hp | hp)
      · exact Or.inr ⟨hp, fun e => hm (List.mem_map.2 ⟨p, hp, e⟩)⟩
      · exact Or.inl hp
    · rintro (hp | hp)
      · exact Or.inr hp
      · exact Or.inl hp.1
theorem mem_sub {L M : List Tm} {q : Tm} (h : TL L) (hp : (M ++ [q]).Perm L) (p : Tm) : p ∈ M ↔ p ∈ L ∧ p.2 ≠ q.2 := by
  have hn := ((hp.map (·.2)).nodup_iff).2 h.2.1
  rw [List.map_append, List.nodup_append] at hn
  rw [← hp.mem_iff]
  constructor
  · intro hm
    exact ⟨List.mem_append_left _ hm, fun e => hn.2.2 _ (List.mem_map.2 ⟨p, hm, rfl⟩) q.2 (by simp) e⟩
  · rintro ⟨hm, hne⟩
    rcases List.mem_append.1 hm with hm | hm
    · exact hm
    · simp at hm; subst hm; exact absurd rfl hne
theorem popM_mem {L : List Tm} (h : QI L) (h0 : 0 < L.length) (p : Tm) : p ∈ popM L ↔ p ∈ L ∧ p.2 ≠ (gt L 0).2 := mem_sub h.1 (popM_spec L h.2 h0).2.1 p
theorem cancelM_mem {L : List Tm} (h : QI L) (id : Int) : (cancelM L id).1 = (if id ∈ L.map (·.2) then 0 else 4) ∧ ∀ p, p ∈ (cancelM L id).2 ↔ p ∈ L ∧ p.2 ≠ id := by
  unfold cancelM
  cases hx : idx L id with
  | some i =>
    obtain ⟨b, hb⟩ := idx_some L id i hx
    have il := (List.getElem?_eq_some_iff.1 hb).1
    have hg : gt L i = (b, id) := by have := getD_of il; rw [hb] at this; exact (Option.some.inj this).symm
    refine ⟨by rw [if_pos (List.mem_map.2 ⟨_, List.mem_of_getElem? hb, rfl⟩)], fun p => ?_⟩
    have := mem_sub h.1 (removeM_spec L i h.2 il).2.1 p
    rw [hg] at this
    exact this
  | none =>
    have hm := idx_none L id hx
    refine ⟨by rw [if_neg hm], fun p => ?_⟩
    simp only
    exact ⟨fun hp => ⟨hp, fun e => hm (List.mem_map.2 ⟨p, hp, e⟩)⟩, fun hp => hp.1⟩
theorem gt_mem {L : List Tm} {i : Nat} (h : i < L.length) : gt L i ∈ L := List.mem_of_getElem? (getD_of h)
theorem root_le {L : List Tm} (h : QI L) {p : Tm} (hp : p ∈ L) : le (gt L 0) p := by
  obtain ⟨j, hj⟩ := List.getElem?_of_mem hp
  have jl := (List.getElem?_eq_some_iff.1 hj).1
  have := h.2.root j jl
  rw [show gt L j = p by have e := getD_of jl; rw [hj] at e; exact (Option.some.inj e).symm] at this
  exact this

/-- The timers after k pops. -/
def popN : Nat → List Tm → List Tm
  | 0, L => L
  | k + 1, L => popN k (popM L)
theorem popN_succ : ∀ (k : Nat) (L : List Tm), popN (k + 1) L = popM (popN k L)
  | 0, L => rfl
  | k + 1, L => popN_succ k (popM L)
theorem fireM_get : ∀ (f : Nat) (L : List Tm) (c : Int), QI L → L.length ≤ f →
    (∀ k, k < (fireM f L c).1.length → QI (popN k L) ∧ 0 < (popN k L).length ∧ (gt (popN k L) 0).1 ≤ c ∧ (fireM f L c).1[k]? = some (gt (popN k L) 0).2) ∧
      (fireM f L c).2 = popN (fireM f L c).1.length L ∧ (0 < (fireM f L c).2.length → c < (gt (fireM f L c).2 0).1)
  | 0, L, c, h, hf => by
    refine ⟨fun k hk => by simp [fireM] at hk, rfl, fun h0 => ?_⟩
    simp [fireM] at h0; omega
  | f + 1, L, c, h, hf => by
    rw [fireM]
    split
    · rename_i hh
      have hp := h.pop hh.1
      obtain ⟨_, _, _, s4⟩ := popM_spec L h.2 hh.1
      obtain ⟨k1, k2, k3⟩ := fireM_get f (popM L) c hp (by omega)
      refine ⟨fun k hk => ?_, k2, k3⟩
      cases k with
      | zero => exact ⟨h, hh.1, hh.2, rfl⟩
      | succ k =>
        obtain ⟨a1, a2, a3, a4⟩ := k1 k (by simpa using hk)
        exact ⟨a1, a2, a3, by rw [List.getElem?_cons_succ]; exact a4⟩
    · rename_i hh
      refine ⟨fun k hk => by simp at hk, rfl, fun h0 => ?_⟩
      simp only at h0 ⊢
      by_cases hc : (gt L 0).1 ≤ c
      · exact absurd ⟨h0, hc⟩ hh
      · omega
theorem nodup_length : ∀ (n : Nat) (l : List Int), l.Nodup → (∀ x ∈ l, 0 ≤ x ∧ x < n) → l.length ≤ n
  | 0, l, _, h => by
    cases l with
    | nil => simp
    | cons a l => have := h a (by simp); omega
  | n + 1, l, hn, h => by
    by_cases hm : (n : Int) ∈ l
    · have h1 := List.length_erase_of_mem hm
      have := nodup_length n (l.erase (n : Int)) (hn.erase _) (fun x hx => by
        have hx' := List.mem_of_mem_erase hx
        have := h x hx'
        have hne : x ≠ (n : Int) := by
          intro e; subst e
          exact (hn.not_mem_erase) hx
        omega)
      have := List.length_pos_of_mem hm
      omega
    · have := nodup_length n l hn (fun x hx => by
        have := h x hx
        have hne : x ≠ (n : Int) := fun e => hm (e ▸ hx)
        omega)
      omega
theorem nodup_of_ids {L : List Tm} (h : (L.map (·.2)).Nodup) : L.Nodup := List.Pairwise.of_map (·.2) (fun a b hne e => hne (by rw [e])) h
/-- The same timers in another order. -/
theorem perm_of_mem {L R : List Tm} (h1 : (L.map (·.2)).Nodup) (h2 : (R.map (·.2)).Nodup) (h : ∀ p, p ∈ L ↔ p ∈ R) : L.Perm R :=
  (List.perm_ext_iff_of_nodup (nodup_of_ids h1) (nodup_of_ids h2)).2 h
end Go.Proofs.Ytlpaemlgmmmbmaa
