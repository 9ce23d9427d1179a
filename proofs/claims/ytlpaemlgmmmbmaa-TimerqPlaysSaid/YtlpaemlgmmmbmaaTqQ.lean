/-
  The reference's steps on plain lists, and that they answer as the heap's do. No program in sight.
-/
import Derived.Test.YtlpaemlgmmmbmaaTqN
namespace Go.Proofs.Ytlpaemlgmmmbmaa
open Go.RowKit
set_option linter.unusedVariables false

/-- The place of the first timer among the first n, if there is one. -/
def firstN (R : List Tm) : Nat → Option Nat
  | 0 => none
  | n + 1 => match firstN R n with
    | none => some n
    | some k => if lessB (gt R n) (gt R k) = true then some n else some k
def firstR (R : List Tm) : Option Nat := firstN R R.length
def setR (R : List Tm) (id a : Int) : Int × List Tm :=
  if id < 0 then (2, R) else match idx R id with
    | some i => (0, R.eraseIdx i ++ [(a, id)])
    | none => if 256 ≤ R.length then (1, R) else (0, R ++ [(a, id)])
def cancelR (R : List Tm) (id : Int) : Int × List Tm := match idx R id with
  | none => (4, R)
  | some i => (0, R.eraseIdx i)
def fireR : Nat → List Tm → Int → List Int × List Tm
  | 0, R, _ => ([], R)
  | f + 1, R, c => match firstR R with
    | none => ([], R)
    | some k => if (gt R k).1 ≤ c then ((gt R k).2 :: (fireR f (R.eraseIdx k) c).1, (fireR f (R.eraseIdx k) c).2) else ([], R)
def nextR (R : List Tm) : Rep := match firstR R with
  | none => ⟨4, [], 0⟩
  | some k => ⟨0, [(gt R k).2], (gt R k).1⟩
def stepR (R : List Tm) (now : Int) (o : TOp) : List Tm × Int × Rep :=
  if o.kind = 1 then ((setR R o.id o.at_).2, now, ⟨(setR R o.id o.at_).1, [], 0⟩)
  else if o.kind = 2 then ((cancelR R o.id).2, now, ⟨(cancelR R o.id).1, [], 0⟩)
  else if o.kind = 3 then ((fireR R.length R (max now o.at_)).2, max now o.at_, ⟨0, (fireR R.length R (max now o.at_)).1, max now o.at_⟩)
  else if o.kind = 4 then (R, now, nextR R)
  else (R, now, ⟨3, [], 0⟩)
def nextSR (s : (List Tm × Int) × List Rep) (o : TOp) : (List Tm × Int) × List Rep := (((stepR s.1.1 s.1.2 o).1, (stepR s.1.1 s.1.2 o).2.1), s.2 ++ [(stepR s.1.1 s.1.2 o).2.2])
def runR (ops : List TOp) : (List Tm × Int) × List Rep := ops.foldl nextSR (([], 0), [])
theorem runR_snoc (l : List TOp) (o : TOp) : runR (l ++ [o]) = nextSR (runR l) o := by simp [runR, List.foldl_append]

/-! the two agree -/
theorem firstN_spec (R : List Tm) : ∀ (n : Nat), n ≤ R.length → (firstN R n = none → n = 0) ∧ ∀ k, firstN R n = some k → k < n ∧ ∀ j, j < n → le (gt R k) (gt R j)
  | 0, _ => ⟨fun _ => rfl, fun k h => by cases h⟩
  | n + 1, h => by
    obtain ⟨i1, i2⟩ := firstN_spec R n (by omega)
    rw [firstN]
    cases hf : firstN R n with
    | none =>
      have h0 := i1 hf
      subst h0
      refine ⟨fun h => (by cases h), fun k hk => ?_⟩
      simp only at hk
      injection hk with hk
      subst hk
      refine ⟨by omega, fun j hj => ?_⟩
      have hj0 : j = 0 := by omega
      subst hj0
      exact le_refl _
    | some m =>
      obtain ⟨j1, j2⟩ := i2 m hf
      simp only
      refine ⟨fun h => (by split at h <;> cases h), fun k hk => ?_⟩
      split at hk
      · rename_i hl
        injection hk with hk
        subst hk
        refine ⟨by omega, fun j hj => ?_⟩
        by_cases e : j = n
        · subst e; exact le_refl _
        · exact le_trans (le_of_less hl) (j2 j (by omega))
      · rename_i hl
        injection hk with hk
        subst hk
        refine ⟨by omega, fun j hj => ?_⟩
        by_cases e : j = n
        · subst e
          show lessB _ _ = false
          cases hb : lessB (gt R j) (gt R m) with
          | false => rfl
          | true => exact absurd hb hl
        · exact j2 j (by omega)
theorem firstR_perm {L R : List Tm} (h : QI L) (hp : L.Perm R) : (L.length = 0 → firstR R = none) ∧ (0 < L.length → ∃ k, firstR R = some k ∧ k < R.length ∧ gt R k = gt L 0) := by
  obtain ⟨i1, i2⟩ := firstN_spec R R.length (Nat.le_refl _)
  have hl := hp.length_eq
  refine ⟨fun h0 => ?_, fun h0 => ?_⟩
  · unfold firstR
    rw [show R.length = 0 by omega]; rfl
  · unfold firstR
    cases hf : firstN R R.length with
    | none => have := i1 hf; omega
    | some k =>
      obtain ⟨k1, k2⟩ := i2 k hf
      refine ⟨k, rfl, k1, ?_⟩
      have m1 : gt R k ∈ L := hp.mem_iff.2 (gt_mem k1)
      have m2 : gt L 0 ∈ R := hp.mem_iff.1 (gt_mem h0)
      obtain ⟨j, hj⟩ := List.getElem?_of_mem m2
      have jl := (List.getElem?_eq_some_iff.1 hj).1
      have e : gt R j = gt L 0 := by have e := getD_of jl; rw [hj] at e; exact (Option.some.inj e).symm
      have := k2 j jl
      rw [e] at this
      exact le_anti this (root_le h m1)
theorem mem_eraseIdx {R : List Tm} (h : (R.map (·.2)).Nodup) {k : Nat} (hk : k < R.length) (p : Tm) : p ∈ R.eraseIdx k ↔ p ∈ R ∧ p.2 ≠ (gt R k).2 := by
  have hg := getD_of hk
  constructor
  · intro hp
    obtain ⟨j, hj⟩ := List.getElem?_of_mem hp
    rw [List.getElem?_eraseIdx] at hj
    split at hj
    · rename_i hjk
      exact ⟨List.mem_of_getElem? hj, fun e => by have := nodup_get h hj hg e; omega⟩
    · rename_i hjk
      exact ⟨List.mem_of_getElem? hj, fun e => by have := nodup_get h hj hg e; omega⟩
  · rintro ⟨hp, hne⟩
    obtain ⟨j, hj⟩ := List.getElem?_of_mem hp
    have hjk : j ≠ k := fun e => hne (by subst e; rw [hj] at hg; rw [Option.some.inj hg])
    by_cases hlt : j < k
    · exact List.mem_of_getElem? (i := j) (by rw [List.getElem?_eraseIdx, if_pos hlt]; exact hj)
    · refine List.mem_of_getElem? (i := j - 1) ?_
      rw [List.getElem?_eraseIdx, if_neg (by omega), show j - 1 + 1 = j by omega]; exact hj
theorem nodup_eraseIdx {R : List Tm} (h : (R.map (·.2)).Nodup) (k : Nat) : ((R.eraseIdx k).map (·.2)).Nodup :=
  List.Nodup.sublist ((List.eraseIdx_sublist R k).map _) h
theorem idx_mem {R : List Tm} {id : Int} : (idx R id = none ↔ id ∉ R.map (·.2)) ∧ ∀ i, idx R id = some i → i < R.length ∧ (gt R i).2 = id := by
  refine ⟨⟨idx_none R id, fun h => ?_⟩, fun i hi => ?_⟩
  · cases hx : idx R id with
    | none => rfl
    | some i =>
      obtain ⟨b, hb⟩ := idx_some R id i hx
      exact absurd (List.mem_map.2 ⟨_, List.mem_of_getElem? hb, rfl⟩) h
  · obtain ⟨b, hb⟩ := idx_some R id i hi
    have hl := (List.getElem?_eq_some_iff.1 hb).1
    refine ⟨hl, ?_⟩
    have := getD_of hl
    rw [hb] at this
    unfold gt
    rw [← Option.some.inj this]
def Same (L R : List Tm) : Prop := QI L ∧ L.Perm R
theorem Same.tl {L R : List Tm} (h : Same L R) : TL R := h.1.1.perm h.2.symm
theorem Same.set_ {L R : List Tm} (h : Same L R) {id a : Int} (ha : 0 ≤ a ∧ a < 18446744073709551616) (hid : id ≤ 9223372036854775807) : (setM L id a).1 = (setR R id a).1 ∧ Same (setM L id a).2 (setR R id a).2 := by
  have hq := h.1.set_ (id := id) (a := a) ha hid
  have hlen := h.2.length_eq
  have hids : id ∈ L.map (·.2) ↔ id ∈ R.map (·.2) := (h.2.map _).mem_iff
  by_cases h0 : id < 0
  · have e1 : setM L id a = (2, L) := by unfold setM; rw [if_pos h0]
    have e2 : setR R id a = (2, R) := by unfold setR; rw [if_pos h0]
    rw [e1, e2]; exact ⟨rfl, h⟩
  · by_cases hm : id ∈ L.map (·.2)
    · obtain ⟨s1, s2⟩ := setM_mem h.1 (by omega) ha hid (fun hn => absurd hm hn)
      cases hx : idx R id with
      | none => exact absurd (hids.1 hm) (idx_mem.1.1 hx)
      | some i =>
        obtain ⟨il, ig⟩ := idx_mem.2 i hx
        have e2 : setR R id a = (0, R.eraseIdx i ++ [(a, id)]) := by unfold setR; rw [if_neg h0, hx]
        have hme := mem_eraseIdx h.tl.2.1 il
        rw [ig] at hme
        have hnd : ((R.eraseIdx i ++ [(a, id)]).map (·.2)).Nodup := by
          rw [List.map_append, List.nodup_append]
          refine ⟨nodup_eraseIdx h.tl.2.1 i, by simp, ?_⟩
          intro x hx' y hy e
          simp at hy
          subst hy e
          obtain ⟨p, hp, hpe⟩ := List.mem_map.1 hx'
          exact ((hme p).1 hp).2 hpe
        rw [e2]
        refine ⟨s1, hq, perm_of_mem hq.1.2.1 hnd (fun p => ?_)⟩
        rw [s2 p, List.mem_append, hme p, h.2.mem_iff]
        simp only [List.mem_singleton]
        constructor
        · rintro (h | h)
          · exact Or.inr h
          · exact Or.inl h
        · rintro (h | h)
          · exact Or.inr h
          · exact Or.inl h
    · have hx : idx R id = none := idx_mem.1.2 (fun hh => hm (hids.2 hh))
      have hxL : idx L id = none := idx_mem.1.2 hm
      by_cases hf : 256 ≤ L.length
      · have e1 : setM L id a = (1, L) := by unfold setM; rw [if_neg h0, hxL]; simp only; rw [if_pos hf]
        have e2 : setR R id a = (1, R) := by unfold setR; rw [if_neg h0, hx]; simp only; rw [if_pos (by omega)]
        rw [e1, e2]; exact ⟨rfl, h⟩
      · obtain ⟨s1, s2⟩ := setM_mem h.1 (by omega) ha hid (fun _ => by omega)
        have e2 : setR R id a = (0, R ++ [(a, id)]) := by unfold setR; rw [if_neg h0, hx]; simp only; rw [if_neg (by omega)]
        have hnd : ((R ++ [(a, id)]).map (·.2)).Nodup := by
          rw [List.map_append, List.nodup_append]
          refine ⟨h.tl.2.1, by simp, ?_⟩
          intro x hx' y hy e
          simp at hy
          subst hy e
          exact idx_mem.1.1 hx hx'
        rw [e2]
        refine ⟨s1, hq, perm_of_mem hq.1.2.1 hnd (fun p => ?_)⟩
        rw [s2 p, List.mem_append, h.2.mem_iff]
        simp only [List.mem_singleton]
        constructor
        · rintro (hh | hh)
          · exact Or.inr hh
          · exact Or.inl hh.1
        · rintro (hh | hh)
          · exact Or.inr ⟨hh, fun e => idx_mem.1.1 hx (List.mem_map.2 ⟨p, hh, e⟩)⟩
          · exact Or.inl hh
theorem Same.cancel {L R : List Tm} (h : Same L R) (id : Int) : (cancelM L id).1 = (cancelR R id).1 ∧ Same (cancelM L id).2 (cancelR R id).2 := by
  obtain ⟨c1, c2⟩ := cancelM_mem h.1 id
  have hids : id ∈ L.map (·.2) ↔ id ∈ R.map (·.2) := (h.2.map _).mem_iff
  have hq := h.1.cancel id
  unfold cancelR
  cases hx : idx R id with
  | none =>
    have hm : id ∉ L.map (·.2) := fun hh => idx_mem.1.1 hx (hids.1 hh)
    rw [if_neg hm] at c1
    refine ⟨c1, hq, perm_of_mem hq.1.2.1 h.tl.2.1 (fun p => ?_)⟩
    rw [c2 p, h.2.mem_iff]
    exact ⟨fun hh => hh.1, fun hh => ⟨hh, fun e => idx_mem.1.1 hx (List.mem_map.2 ⟨p, hh, e⟩)⟩⟩
  | some i =>
    obtain ⟨il, ig⟩ := idx_mem.2 i hx
    have hm : id ∈ L.map (·.2) := hids.2 (List.mem_map.2 ⟨_, gt_mem il, ig⟩)
    rw [if_pos hm] at c1
    refine ⟨c1, hq, perm_of_mem hq.1.2.1 (nodup_eraseIdx h.tl.2.1 i) (fun p => ?_)⟩
    rw [c2 p, mem_eraseIdx h.tl.2.1 il p, ig, h.2.mem_iff]
theorem Same.pop {L R : List Tm} (h : Same L R) (h0 : 0 < L.length) {k : Nat} (hk : k < R.length) (hg : gt R k = gt L 0) : Same (popM L) (R.eraseIdx k) := by
  have hq := h.1.pop h0
  refine ⟨hq, perm_of_mem hq.1.2.1 (nodup_eraseIdx h.tl.2.1 k) (fun p => ?_)⟩
  rw [popM_mem h.1 h0 p, mem_eraseIdx h.tl.2.1 hk p, hg, h.2.mem_iff]
theorem Same.fire : ∀ (f : Nat) {L R : List Tm} (h : Same L R) (c : Int), (fireM f L c).1 = (fireR f R c).1 ∧ Same (fireM f L c).2 (fireR f R c).2
  | 0, L, R, h, c => ⟨rfl, h⟩
  | f + 1, L, R, h, c => by
    obtain ⟨f1, f2⟩ := firstR_perm h.1 h.2
    by_cases h0 : 0 < L.length
    · obtain ⟨k, k1, k2, k3⟩ := f2 h0
      rw [fireM, fireR, k1]
      simp only
      rw [k3]
      by_cases hc : (gt L 0).1 ≤ c
      · rw [if_pos ⟨h0, hc⟩, if_pos hc]
        obtain ⟨i1, i2⟩ := Same.fire f (h.pop h0 k2 k3) c
        exact ⟨by simp only; rw [i1], i2⟩
      · rw [if_neg (fun e => hc e.2), if_neg hc]
        exact ⟨rfl, h⟩
    · have hf := f1 (by omega)
      rw [fireM, fireR, hf, if_neg (fun e => h0 e.1)]
      exact ⟨rfl, h⟩
theorem Same.next {L R : List Tm} (h : Same L R) : nextM L = nextR R := by
  obtain ⟨f1, f2⟩ := firstR_perm h.1 h.2
  unfold nextM nextR
  by_cases h0 : L.length = 0
  · rw [if_pos h0, f1 h0]
  · obtain ⟨k, k1, k2, k3⟩ := f2 (by omega)
    rw [if_neg h0, k1]
    simp only
    rw [k3]
theorem Same.step {L R : List Tm} (h : Same L R) (now : Int) {o : TOp} (ho : o.ok) : (stepM L now o).2 = (stepR R now o).2 ∧ Same (stepM L now o).1 (stepR R now o).1 := by
  unfold stepM stepR
  by_cases h1 : o.kind = 1
  · rw [if_pos h1, if_pos h1]
    obtain ⟨a, b⟩ := h.set_ (id := o.id) ho.2.2 ho.2.1.2
    exact ⟨by simp only; rw [a], b⟩
  · rw [if_neg h1, if_neg h1]
    by_cases h2 : o.kind = 2
    · rw [if_pos h2, if_pos h2]
      obtain ⟨a, b⟩ := h.cancel o.id
      exact ⟨by simp only; rw [a], b⟩
    · rw [if_neg h2, if_neg h2]
      by_cases h3 : o.kind = 3
      · rw [if_pos h3, if_pos h3]
        obtain ⟨a, b⟩ := Same.fire L.length h (max now o.at_)
        rw [← h.2.length_eq]
        exact ⟨by simp only; rw [a], b⟩
      · rw [if_neg h3, if_neg h3]
        by_cases h4 : o.kind = 4
        · rw [if_pos h4, if_pos h4]
          exact ⟨by simp only; rw [h.next], h⟩
        · rw [if_neg h4, if_neg h4]
          exact ⟨rfl, h⟩
theorem same_run : ∀ (n : Nat) (x : List TOp), x.length = n → (∀ o ∈ x, o.ok) → Same (runM x).1.1 (runR x).1.1 ∧ (runM x).1.2 = (runR x).1.2 ∧ (runM x).2 = (runR x).2
  | 0, x, h, _ => by
    have : x = [] := List.eq_nil_of_length_eq_zero h
    subst this
    exact ⟨⟨⟨⟨by simp [runM], by simp [runM], by simp [runM]⟩, fun c h0 hc => by simp [runM] at hc⟩, List.Perm.refl _⟩, rfl, rfl⟩
  | n + 1, x, h, hok => by
    have hne : x ≠ [] := by intro e; subst e; simp at h
    have e := List.dropLast_concat_getLast hne
    rw [← e] at hok ⊢
    have hl : x.dropLast.length = n := by simp [h]
    obtain ⟨i1, i2, i3⟩ := same_run n _ hl (fun o ho => hok o (List.mem_append_left _ ho))
    have ho := hok (x.getLast hne) (by simp)
    rw [runM_snoc, runR_snoc]
    obtain ⟨s1, s2⟩ := i1.step (runM x.dropLast).1.2 ho
    unfold nextS nextSR
    rw [← i2, ← i3, ← s1]
    exact ⟨s2, rfl, rfl⟩
end Go.Proofs.Ytlpaemlgmmmbmaa
