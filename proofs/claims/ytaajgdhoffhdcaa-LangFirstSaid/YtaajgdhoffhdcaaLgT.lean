/-
  What the walker's places are: those to which the root leads. No program in sight.
-/
import Derived.Test.YtaajgdhoffhdcaaLgS
import Derived.Test.YtaajgdhoffhdcaaLnF
namespace Go.Proofs.Ytaajgdhoffhdcaa
open Go.RowKit Classical
set_option linter.unusedVariables false

section
variable {l : List Nd} (hv : validM l = true)
include hv
theorem mem_visit (bol eol : Bool) {s : Nat} (hs : s < 2 * l.length) (L : List Nat) (s' : Nat) : s' ∈ visitM l (parM l l.length) bol eol s L ↔ s' ∈ L ∨ Eps l bol eol s s' := by
  have hK := validM_kin hv
  have hN := validM_neat hv
  have h1 := (validM_len hv).1
  unfold visitM
  by_cases h2 : s % 2 = 0
  · rw [if_pos h2]
    have := mem_into hK (x := s / 2) (by omega) bol eol L s'
    rw [show 2 * (s / 2) = s by omega] at this
    exact this
  · rw [if_neg h2]
    by_cases hr : s / 2 = l.length - 1
    · rw [if_neg (by omega)]
      constructor
      · exact Or.inl
      · rintro (h | h)
        · exact h
        · rw [show s = 2 * (l.length - 1) + 1 by omega] at h
          obtain ⟨p, hp, hkd, _⟩ := eps_odd h
          exact absurd hkd (hN.top p hp)
    · rw [if_pos hr]
      obtain ⟨p, hp1, hp2, hkd, _⟩ := (validM_sub hv).parent (s / 2) (Nat.zero_le _) (by omega)
      have hpar := parM_parent hK hN (by omega) (by omega) hkd l.length (by omega) (Nat.le_refl _)
      rw [hpar]
      have := mem_outOf hK hN (x := s / 2) (p := p) (by omega) hkd bol eol L s'
      rw [show 2 * (s / 2) + 1 = s by omega] at this
      exact this
theorem spreadF_spec (bol eol : Bool) : ∀ (f i : Nat) (L : List Nat), Spots (2 * l.length) L → 2 * l.length ≤ f + i →
    (∀ j, j < i → ∀ h : j < L.length, ∀ s', Eps l bol eol L[j] s' → s' ∈ L) →
    (∀ s ∈ L, s ∈ spreadF l (parM l l.length) bol eol f i L) ∧
    (∀ s ∈ spreadF l (parM l l.length) bol eol f i L, ∀ s', Eps l bol eol s s' → s' ∈ spreadF l (parM l l.length) bol eol f i L) ∧
    (∀ P : Nat → Prop, (∀ s s', P s → Eps l bol eol s s' → P s') → (∀ s ∈ L, P s) → ∀ s ∈ spreadF l (parM l l.length) bol eol f i L, P s)
  | 0, i, L, hS, hf, hc => by
    have hlen := hS.len
    refine ⟨fun s h => h, fun s hs s' he => ?_, fun P _ hP => hP⟩
    rw [Go.Proofs.Ytaajgdhoffhdcaa.spreadF] at hs ⊢
    obtain ⟨j, hj, rfl⟩ := List.mem_iff_getElem.mp hs
    exact hc j (by omega) hj s' he
  | f + 1, i, L, hS, hf, hc => by
    have hlen := hS.len
    rw [spreadF]
    by_cases hi : i < L.length
    · rw [if_pos hi]
      have hg : L.getD i 0 = L[i] := by rw [List.getD_eq_getElem?_getD, List.getElem?_eq_getElem hi]; rfl
      have hsl : L[i] < 2 * l.length := hS.2 _ (List.getElem_mem hi)
      rw [hg]
      obtain ⟨e, he⟩ := visitM_ext l (parM l l.length) bol eol L[i] L
      have hm := fun s' => mem_visit hv bol eol hsl L s'
      have hS' := hS.visit (validM_kin hv) (fun x _ => parM_lt l (validM_len hv).1 _ (Nat.le_refl _) x) hsl bol eol
      obtain ⟨q1, q2, q3⟩ := spreadF_spec bol eol f (i + 1) (visitM l (parM l l.length) bol eol L[i] L) hS' (by omega) (by
        intro j hj h s' hs'
        by_cases hjL : j < L.length
        · have hjj : (visitM l (parM l l.length) bol eol L[i] L)[j] = L[j] := by
            simp only [he]
            exact List.getElem_append_left hjL
          rw [hjj] at hs'
          rw [hm]
          by_cases hji : j = i
          · subst hji
            exact Or.inr hs'
          · exact Or.inl (hc j (by omega) hjL s' hs')
        · omega)
      refine ⟨fun s h => q1 s ((hm s).2 (Or.inl h)), q2, fun P hP hL => q3 P hP (fun s hs => ?_)⟩
      rcases (hm s).1 hs with h | h
      · exact hL s h
      · exact hP _ _ (hL _ (List.getElem_mem hi)) h
    · rw [if_neg hi]
      refine ⟨fun s h => h, fun s hs s' he => ?_, fun P _ hP => hP⟩
      obtain ⟨j, hj, rfl⟩ := List.mem_iff_getElem.mp hs
      exact hc j (by omega) hj s' he
/-- The walker's spread: all spots that can be reached without a byte, and no others. -/
theorem spreadM_spec (bol eol : Bool) {L : List Nat} (hS : Spots (2 * l.length) L) :
    (∀ s ∈ L, s ∈ spreadM l bol eol L) ∧ (∀ s ∈ spreadM l bol eol L, ∀ s', Eps l bol eol s s' → s' ∈ spreadM l bol eol L) ∧
    (∀ P : Nat → Prop, (∀ s s', P s → Eps l bol eol s s' → P s') → (∀ s ∈ L, P s) → ∀ s ∈ spreadM l bol eol L, P s) :=
  spreadF_spec hv bol eol (2 * l.length) 0 L hS (by omega) (fun j hj => by omega)
end
theorem mem_stepF (l : List Nd) (c : Nat) : ∀ (S acc : List Nat) (s' : Nat), s' ∈ S.foldl (fun acc s => overM l c s acc) acc ↔ s' ∈ acc ∨ ∃ s ∈ S, s % 2 = 0 ∧ (nd l (s / 2)).kind = 2 ∧ hasB (nd l (s / 2)).set c = true ∧ s' = 2 * (s / 2) + 1
  | [], acc, s' => by simp
  | s :: S, acc, s' => by
    rw [List.foldl_cons, mem_stepF l c S]
    have : s' ∈ overM l c s acc ↔ s' ∈ acc ∨ (s % 2 = 0 ∧ (nd l (s / 2)).kind = 2 ∧ hasB (nd l (s / 2)).set c = true ∧ s' = 2 * (s / 2) + 1) := by
      unfold overM
      split
      · rename_i h
        rw [mem_enter]
        constructor
        · rintro (h' | h')
          · exact Or.inl h'
          · exact Or.inr ⟨h.1, h.2.1, h.2.2, h'⟩
        · rintro (h' | ⟨_, _, _, h'⟩)
          · exact Or.inl h'
          · exact Or.inr h'
      · rename_i h
        constructor
        · exact Or.inl
        · rintro (h' | ⟨h1, h2, h3, _⟩)
          · exact h'
          · exact absurd ⟨h1, h2, h3⟩ h
    rw [this]
    constructor
    · rintro ((h | h) | ⟨x, hx, h⟩)
      · exact Or.inl h
      · exact Or.inr ⟨s, by simp, h⟩
      · exact Or.inr ⟨x, by simp [hx], h⟩
    · rintro (h | ⟨x, hx, h⟩)
      · exact Or.inl (Or.inl h)
      · rcases List.mem_cons.mp hx with rfl | hx
        · exact Or.inl (Or.inr h)
        · exact Or.inr ⟨x, hx, h⟩
theorem mem_step (l : List Nd) (c : Nat) (L : List Nat) (s' : Nat) : s' ∈ stepM l c L ↔ ∃ s ∈ L, s % 2 = 0 ∧ (nd l (s / 2)).kind = 2 ∧ hasB (nd l (s / 2)).set c = true ∧ s' = 2 * (s / 2) + 1 := by
  unfold stepM
  rw [mem_stepF]
  simp
/-- Each place between the first and the last one is passed. -/
theorem Way.through {l : List Nd} {t : List Nat} {s0 i0 s j : Nat} (h : Way l t s0 i0 s j) : ∀ i, i0 ≤ i → i ≤ j → ∃ s', Way l t s0 i0 s' i := by
  induction h with
  | here => intro i h1 h2; obtain rfl : i = i0 := by omega
            exact ⟨s0, .here⟩
  | eps s s' i h he ih => exact ih
  | byte x i h h1 h2 h3 ih =>
    intro k hk1 hk2
    by_cases e : k = i + 1
    · subst e; exact ⟨_, .byte x i h h1 h2 h3⟩
    · exact ih k hk1 (by omega)
/-- What a set of spots holds before it is spread: those that a byte leads to, and the first one. -/
structure At (l : List Nd) (t : List Nat) (s0 i0 i : Nat) (L : List Nat) : Prop where
  sound : ∀ s ∈ L, Way l t s0 i0 s i
  first : i = i0 → s0 ∈ L
  bytes : ∀ x j, j + 1 = i → Way l t s0 i0 (2 * x) j → (nd l x).kind = 2 → j < t.length → hasB (nd l x).set (t.getD j 0) = true → 2 * x + 1 ∈ L
theorem At.spread {l : List Nd} (hv : validM l = true) {t : List Nat} {s0 i0 i : Nat} {L : List Nat} (h : At l t s0 i0 i L) (hS : Spots (2 * l.length) L) (s : Nat) : s ∈ spreadM l (bolT t i) (eolT t i) L ↔ Way l t s0 i0 s i := by
  obtain ⟨q1, q2, q3⟩ := spreadM_spec hv (bolT t i) (eolT t i) hS
  constructor
  · exact q3 (fun s => Way l t s0 i0 s i) (fun s s' hw he => .eps s s' i hw he) h.sound s
  · intro hw
    have key : ∀ {s k : Nat}, Way l t s0 i0 s k → k = i → s ∈ spreadM l (bolT t i) (eolT t i) L := by
      intro s k hw
      induction hw with
      | here => intro e; exact q1 _ (h.first e.symm)
      | eps s s' k hw he ih => intro e; subst e; exact q2 _ (ih rfl) _ he
      | byte x k hw h1 h2 h3 ih => intro e; exact q1 _ (h.bytes x k e hw h1 h2 h3)
    exact key hw rfl
theorem At.step {l : List Nd} (hv : validM l = true) {t : List Nat} {s0 i0 i : Nat} {L : List Nat} (h : At l t s0 i0 i L) (hS : Spots (2 * l.length) L) (hi : i < t.length) (h0 : i0 ≤ i) : At l t s0 i0 (i + 1) (stepM l (t.getD i 0) (spreadM l (bolT t i) (eolT t i) L)) := by
  refine ⟨fun s hs => ?_, fun e => by omega, fun x j hj hw hk hjt hb => ?_⟩
  · obtain ⟨s1, h1, h2, h3, h4, rfl⟩ := (mem_step _ _ _ _).1 hs
    have hw := (h.spread hv hS s1).1 h1
    rw [show s1 = 2 * (s1 / 2) by omega] at hw
    exact .byte _ _ hw h3 hi h4
  · obtain rfl : j = i := by omega
    rw [mem_step]
    exact ⟨2 * x, (h.spread hv hS _).2 hw, by omega, by rw [show 2 * x / 2 = x by omega]; exact hk, by rw [show 2 * x / 2 = x by omega]; exact hb, by omega⟩
theorem endsF_spec {l : List Nd} (hv : validM l = true) (t : List Nat) (s0 i0 : Nat) : ∀ (f i : Nat) (L E : List Nat), Spots (2 * l.length) L → At l t s0 i0 i L → i0 ≤ i → i ≤ t.length → t.length < f + i →
    endsF l t f i L E = E ++ (List.range' i (t.length + 1 - i)).filter (fun k => decide (Way l t s0 i0 (2 * (l.length - 1) + 1) k))
  | 0, i, L, E, hS, hA, h0, hi, hf => by omega
  | f + 1, i, L, E, hS, hA, h0, hi, hf => by
    by_cases hL : L.length = 0
    · rw [endsF_nil _ _ _ _ _ _ hL]
      have hno : ∀ s, ¬ Way l t s0 i0 s i := by
        intro s hw
        obtain rfl := List.eq_nil_of_length_eq_zero hL
        have := (spreadM_spec hv (bolT t i) (eolT t i) hS).2.2 (fun _ => False) (fun _ _ h _ => h) (fun s h => by cases h) s ((hA.spread hv hS s).2 hw)
        exact this
      have : (List.range' i (t.length + 1 - i)).filter (fun k => decide (Way l t s0 i0 (2 * (l.length - 1) + 1) k)) = [] := by
        rw [List.filter_eq_nil_iff]
        intro k hk hw
        have hk1 := (List.mem_range'_1.mp hk).1
        obtain ⟨s', hs'⟩ := (of_decide_eq_true hw).through i h0 hk1
        exact hno s' hs'
      rw [this, List.append_nil]
    · rw [endsF_go l t (f + 1) i L E hL hf hi, Nat.add_sub_cancel]
      have hd : doneM l (spreadM l (bolT t i) (eolT t i) L) = decide (Way l t s0 i0 (2 * (l.length - 1) + 1) i) := by
        unfold doneM
        rw [Bool.eq_iff_iff, decide_eq_true_iff, decide_eq_true_iff]
        exact hA.spread hv hS _
      rw [hd]
      have hr : List.range' i (t.length + 1 - i) = i :: List.range' (i + 1) (t.length + 1 - (i + 1)) := by
        rw [show t.length + 1 - i = (t.length + 1 - (i + 1)) + 1 by omega, List.range'_succ]
      rw [hr, List.filter_cons]
      by_cases hit : i = t.length
      · rw [if_pos hit]
        rw [show t.length + 1 - (i + 1) = 0 by omega]
        split
        · simp
        · simp
      · rw [if_neg hit]
        rw [endsF_spec hv t s0 i0 f (i + 1) _ _ ((hS.spread hv _ _).step _) (hA.step hv hS (by omega) h0) (by omega) (by omega) (by omega)]
        split
        · simp
        · simp
/-- The places to which a pattern leads. -/
theorem ends_law {l : List Nd} (hv : validM l = true) (t : List Nat) (a : Nat) (ha : a ≤ t.length) : endsM l t a = (List.range (t.length + 1)).filter (fun k => decide (Leads l t (l.length - 1) a k)) := by
  have h1 := (validM_len hv).1
  unfold endsM
  rw [if_pos ⟨hv, by omega, by omega⟩, Int.toNat_natCast]
  have hS : Spots (2 * l.length) [2 * (l.length - 1)] := ⟨by simp, fun s hs => by simp at hs; omega⟩
  rw [endsF_spec hv t (2 * (l.length - 1)) a (t.length + 1) a _ _ hS ⟨fun s hs => by simp at hs; subst hs; exact .here, fun _ => by simp, fun x j hj hw => by have := hw.le; omega⟩ (Nat.le_refl _) ha (by omega)]
  have hf : (fun k => decide (Way l t (2 * (l.length - 1)) a (2 * (l.length - 1) + 1) k)) = (fun k => decide (Leads l t (l.length - 1) a k)) := by
    funext k
    rw [Bool.eq_iff_iff, decide_eq_true_iff, decide_eq_true_iff]
    exact way_iff (validM_neat hv)
  rw [hf, List.nil_append]
  have hr : List.range (t.length + 1) = List.range' 0 a ++ List.range' a (t.length + 1 - a) := by
    have := List.range'_append_1 (s := 0) (m := a) (n := t.length + 1 - a)
    rw [Nat.zero_add] at this
    rw [this, List.range_eq_range', show a + (t.length + 1 - a) = t.length + 1 by omega]
  rw [hr, List.filter_append]
  have : (List.range' 0 a).filter (fun k => decide (Leads l t (l.length - 1) a k)) = [] := by
    rw [List.filter_eq_nil_iff]
    intro k hk hw
    have := (List.mem_range'_1.mp hk).2
    have := (of_decide_eq_true hw).le
    omega
  rw [this, List.nil_append]
end Go.Proofs.Ytaajgdhoffhdcaa
