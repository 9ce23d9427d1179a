/-
  A graph of spots that is run over a text, from its first spot at each place: after how many bytes it accepts. No program in sight.
-/
import Derived.Test.YthadkjgadhbidaaLgP
namespace Go.Proofs.Ythadkjgadhbidaa
open Go.RowKit
set_option linter.unusedVariables false

/-- A graph of spots: its steps without a byte, its steps over a byte, its first spot, the spots at which it accepts. -/
structure Gr where
  eps : Bool → Bool → Nat → Nat → Prop
  byt : Nat → Nat → Nat → Prop
  s0 : Nat
  fin : Nat → Prop
/-- Which spot can be reached at which place, from the first spot at any place. -/
inductive GWay (g : Gr) (t : List Nat) : Nat → Nat → Prop
  | start (i : Nat) : i ≤ t.length → GWay g t g.s0 i
  | eps (s s' i : Nat) : GWay g t s i → g.eps (bolT t i) (eolT t i) s s' → GWay g t s' i
  | byte (s s' i : Nat) : GWay g t s i → i < t.length → g.byt (t.getD i 0) s s' → GWay g t s' (i + 1)
theorem GWay.len {g : Gr} {t : List Nat} {s i : Nat} (h : GWay g t s i) : i ≤ t.length := by
  induction h with
  | start i h => exact h
  | eps s s' i _ _ ih => exact ih
  | byte s s' i _ h _ ih => omega
/-- What a set of spots leads to without a byte. -/
inductive Clo (g : Gr) (bol eol : Bool) (S : Nat → Prop) : Nat → Prop
  | here (s : Nat) : S s → Clo g bol eol S s
  | step (s s' : Nat) : Clo g bol eol S s → g.eps bol eol s s' → Clo g bol eol S s'
/-- The graph accepts when n bytes are there. -/
def GAcc (g : Gr) (t : List Nat) (n : Nat) : Prop := ∃ s k, GWay g (t.take n) s k ∧ g.fin s
/-- A step stays one when the line's end comes. -/
def GMono (g : Gr) : Prop := ∀ bol s s', g.eps bol false s s' → g.eps bol true s s'
/-- The least number of bytes, or -1. -/
def GLeast (g : Gr) (t : List Nat) (r : Int) : Prop :=
  (∃ n : Nat, n ≤ t.length ∧ r = n ∧ GAcc g t n ∧ ∀ m, m < n → ¬ GAcc g t m) ∨ (r = -1 ∧ ∀ n, n ≤ t.length → ¬ GAcc g t n)
theorem GLeast.one {g : Gr} {t : List Nat} {r r' : Int} (h : GLeast g t r) (h' : GLeast g t r') : r = r' := by
  rcases h with ⟨n, hn, rfl, ha, hb⟩ | ⟨rfl, hb⟩
  · rcases h' with ⟨n', hn', rfl, ha', hb'⟩ | ⟨rfl, hb'⟩
    · rcases Nat.lt_trichotomy n n' with e | e | e
      · exact absurd ha (hb' n e)
      · rw [e]
      · exact absurd ha' (hb n' e)
    · exact absurd ha (hb' n hn)
  · rcases h' with ⟨n', hn', rfl, ha', hb'⟩ | ⟨rfl, hb'⟩
    · exact absurd ha' (hb n' hn')
    · rfl
theorem getD_take {t : List Nat} {n i : Nat} (h : i < n) : (t.take n).getD i 0 = t.getD i 0 := by
  rw [List.getD_eq_getElem?_getD, List.getD_eq_getElem?_getD, List.getElem?_take, if_pos h]
theorem bolT_take {t : List Nat} {n i : Nat} (h : i ≤ n) : bolT (t.take n) i = bolT t i := by
  unfold bolT
  rcases Nat.eq_zero_or_pos i with e | e
  · subst e; rfl
  · rw [getD_take (by omega)]
theorem eolT_take {t : List Nat} {n i : Nat} (h : i < n) : eolT (t.take n) i = eolT t i := by
  unfold eolT
  rw [getD_take h, List.length_take]
  have : decide (i < min n t.length) = decide (i < t.length) := by
    rw [Bool.eq_iff_iff, decide_eq_true_iff, decide_eq_true_iff]; omega
  rw [this]
theorem eolT_end (t : List Nat) (n : Nat) : eolT (t.take n) n = false := by
  unfold eolT
  rw [List.length_take, decide_eq_false (by omega)]
  rfl
/-- What is reached at a place ahead of the text's end hangs on no more than the place's own byte. -/
theorem GWay.more {g : Gr} {t : List Nat} {n m s i : Nat} (h : GWay g (t.take n) s i) (hin : i < n) (him : i < m) : GWay g (t.take m) s i := by
  have hl := h.len
  rw [List.length_take] at hl
  induction h with
  | start i h => exact .start i (by rw [List.length_take]; omega)
  | eps s s' i h he ih =>
    rw [bolT_take (by omega), eolT_take hin] at he
    refine .eps s s' i (ih hin him hl) ?_
    rw [bolT_take (by omega), eolT_take him]
    exact he
  | byte s s' i h hi hb ih =>
    rw [getD_take (by omega)] at hb
    refine .byte s s' i (ih (by omega) (by omega) (by omega)) (by rw [List.length_take]; omega) ?_
    rw [getD_take (by omega)]
    exact hb
theorem GWay.grow {g : Gr} (hm : GMono g) {t : List Nat} {n s i : Nat} (h : GWay g (t.take n) s i) : GWay g (t.take (n + 1)) s i := by
  have hl := h.len
  rw [List.length_take] at hl
  induction h with
  | start i h => exact .start i (by rw [List.length_take]; omega)
  | eps s s' i h he ih =>
    rw [bolT_take (by omega)] at he
    refine .eps s s' i (ih hl) ?_
    rw [bolT_take (by omega)]
    by_cases e : i < n
    · rw [eolT_take e] at he
      rw [eolT_take (by omega)]
      exact he
    · obtain rfl : i = n := by omega
      rw [eolT_end] at he
      cases eolT (t.take (i + 1)) i
      · exact he
      · exact hm _ _ _ he
  | byte s s' i h hi hb ih =>
    rw [getD_take (by omega)] at hb
    refine .byte s s' i (ih (by omega)) (by rw [List.length_take]; omega) ?_
    rw [getD_take (by omega)]
    exact hb
/-- The spots to which a byte has led at a place. -/
def GPre (g : Gr) (t : List Nat) (i s : Nat) : Prop := ∃ j s1, i = j + 1 ∧ GWay g (t.take i) s1 j ∧ g.byt (t.getD j 0) s1 s
theorem way_end {g : Gr} {t : List Nat} {i s : Nat} (hi : i ≤ t.length) : GWay g (t.take i) s i ↔ Clo g (bolT t i) false (fun s => GPre g t i s ∨ s = g.s0) s := by
  constructor
  · intro h
    suffices h' : ∀ {s k : Nat}, GWay g (t.take i) s k → i = k → Clo g (bolT t i) false (fun s => GPre g t i s ∨ s = g.s0) s from h' h rfl
    intro s k h'
    intro hk
    induction h' with
    | start k h => exact .here _ (Or.inr rfl)
    | eps s s' k h he ih =>
      subst hk
      refine .step s s' (ih rfl) ?_
      rw [bolT_take (by omega), eolT_end] at he
      exact he
    | byte s s' k h hkl hb ih =>
      subst hk
      refine .here _ (Or.inl ⟨k, s, rfl, h, ?_⟩)
      rw [getD_take (by omega)] at hb
      exact hb
  · intro h
    induction h with
    | here s h =>
      rcases h with ⟨j, s1, rfl, h1, h2⟩ | rfl
      · refine .byte s1 s j h1 (by rw [List.length_take]; omega) ?_
        rw [getD_take (by omega)]
        exact h2
      · exact .start i (by rw [List.length_take]; omega)
    | step s s' _ he ih =>
      refine .eps s s' i ih ?_
      rw [bolT_take (by omega), eolT_end]
      exact he
theorem way_next {g : Gr} (hm : GMono g) {t : List Nat} {i s : Nat} (hi : i < t.length) : GWay g (t.take (i + 1)) s i ↔ Clo g (bolT t i) (eolT t i) (fun s => GWay g (t.take i) s i) s := by
  constructor
  · intro h
    suffices h' : ∀ {s k : Nat}, GWay g (t.take (i + 1)) s k → i = k → Clo g (bolT t i) (eolT t i) (fun s => GWay g (t.take i) s i) s from h' h rfl
    intro s k h'
    intro hk
    induction h' with
    | start k h => subst hk; exact .here _ (.start i (by rw [List.length_take]; omega))
    | eps s s' k h he ih =>
      subst hk
      refine .step s s' (ih rfl) ?_
      rw [bolT_take (by omega), eolT_take (by omega)] at he
      exact he
    | byte s s' k h hkl hb ih =>
      subst hk
      refine .here _ ?_
      have := h.more (m := k + 1) (by omega) (by omega)
      refine .byte s s' k this (by rw [List.length_take]; omega) ?_
      rw [getD_take (by omega)] at hb ⊢
      exact hb
  · intro h
    induction h with
    | here s h => exact h.grow hm
    | step s s' _ he ih =>
      refine .eps s s' i ih ?_
      rw [bolT_take (by omega), eolT_take (by omega)]
      exact he
/-- No spot that accepts was reached at a place ahead of i, its byte known. -/
def GClean (g : Gr) (t : List Nat) (i : Nat) : Prop := ∀ s k, k < i → GWay g (t.take (k + 1)) s k → ¬ g.fin s
theorem GClean.acc {g : Gr} (hm : GMono g) {t : List Nat} {i m : Nat} (h : GClean g t i) (hmi : m < i) : ¬ GAcc g t m := by
  rintro ⟨s, k, hw, hf⟩
  have hl := hw.len
  rw [List.length_take] at hl
  by_cases e : k < m
  · exact h s k (by omega) (hw.more e (by omega)) hf
  · obtain rfl : k = m := by omega
    exact h s k hmi (hw.grow hm) hf
theorem GClean.at_ {g : Gr} {t : List Nat} {i : Nat} (h : GClean g t i) : GAcc g t i ↔ ∃ s, GWay g (t.take i) s i ∧ g.fin s := by
  constructor
  · rintro ⟨s, k, hw, hf⟩
    have hl := hw.len
    rw [List.length_take] at hl
    by_cases e : k < i
    · exact absurd hf (h s k e (hw.more e (by omega)))
    · obtain rfl : k = i := by omega
      exact ⟨s, hw, hf⟩
  · rintro ⟨s, hw, hf⟩
    exact ⟨s, i, hw, hf⟩
/-- How a run goes, from a place on, with what the bytes led to. -/
inductive Runs (g : Gr) (t : List Nat) : Nat → (Nat → Prop) → Int → Prop
  | done (i : Nat) (S A : Nat → Prop) : (∀ s, A s ↔ Clo g (bolT t i) false (fun s => S s ∨ s = g.s0) s) → (∃ s, A s ∧ g.fin s) → Runs g t i S i
  | stop (i : Nat) (S A : Nat → Prop) : (∀ s, A s ↔ Clo g (bolT t i) false (fun s => S s ∨ s = g.s0) s) → (∀ s, A s → ¬ g.fin s) → i = t.length → Runs g t i S (-1)
  | late (i : Nat) (S A B : Nat → Prop) : (∀ s, A s ↔ Clo g (bolT t i) false (fun s => S s ∨ s = g.s0) s) → (∀ s, A s → ¬ g.fin s) → i < t.length →
      (∀ s, B s ↔ Clo g (bolT t i) (eolT t i) A s) → (∃ s, B s ∧ g.fin s) → Runs g t i S (i + 1)
  | step (i : Nat) (S A B S' : Nat → Prop) (r : Int) : (∀ s, A s ↔ Clo g (bolT t i) false (fun s => S s ∨ s = g.s0) s) → (∀ s, A s → ¬ g.fin s) → i < t.length →
      (∀ s, B s ↔ Clo g (bolT t i) (eolT t i) A s) → (∀ s, B s → ¬ g.fin s) → (∀ s, S' s ↔ ∃ s1, B s1 ∧ g.byt (t.getD i 0) s1 s) → Runs g t (i + 1) S' r → Runs g t i S r
theorem Clo.congr {g : Gr} {bol eol : Bool} {S T : Nat → Prop} (h : ∀ s, S s → T s) {s : Nat} (hc : Clo g bol eol S s) : Clo g bol eol T s := by
  induction hc with
  | here s hs => exact .here s (h s hs)
  | step s s' _ he ih => exact .step s s' ih he
theorem Clo.iff_ {g : Gr} {bol eol : Bool} {S T : Nat → Prop} (h : ∀ s, S s ↔ T s) (s : Nat) : Clo g bol eol S s ↔ Clo g bol eol T s :=
  ⟨Clo.congr fun s hs => (h s).1 hs, Clo.congr fun s hs => (h s).2 hs⟩
/-- A closed set leads to no more. -/
theorem Clo.closed {g : Gr} {bol eol : Bool} {S : Nat → Prop} (h : ∀ s s', S s → g.eps bol eol s s' → S s') (s : Nat) : S s ↔ Clo g bol eol S s := by
  constructor
  · exact .here s
  · intro hc
    induction hc with
    | here s hs => exact hs
    | step s s' _ he ih => exact h s s' ih he
theorem Runs.law {g : Gr} (hm : GMono g) {t : List Nat} {i : Nat} {S : Nat → Prop} {r : Int} (h : Runs g t i S r) : i ≤ t.length → (∀ s, S s ↔ GPre g t i s) → GClean g t i → GLeast g t r := by
  have key : ∀ {i : Nat} {S A : Nat → Prop}, i ≤ t.length → (∀ s, S s ↔ GPre g t i s) → (∀ s, A s ↔ Clo g (bolT t i) false (fun s => S s ∨ s = g.s0) s) → ∀ s, A s ↔ GWay g (t.take i) s i := by
    intro i S A hi hS hA s
    rw [hA, way_end hi]
    exact Clo.iff_ (fun s => by rw [hS]) s
  have key2 : ∀ {i : Nat} {A B : Nat → Prop}, i < t.length → (∀ s, A s ↔ GWay g (t.take i) s i) → (∀ s, B s ↔ Clo g (bolT t i) (eolT t i) A s) → ∀ s, B s ↔ GWay g (t.take (i + 1)) s i := by
    intro i A B hi hA hB s
    rw [hB, way_next hm hi]
    exact Clo.iff_ (fun s => hA s) s
  have key3 : ∀ {i : Nat} {B : Nat → Prop}, GClean g t i → (∀ s, B s ↔ GWay g (t.take (i + 1)) s i) → (∀ s, B s → ¬ g.fin s) → GClean g t (i + 1) := by
    intro i B hc hB hf s k hk hw
    by_cases e : k < i
    · exact hc s k e hw
    · obtain rfl : k = i := by omega
      exact hf s ((hB s).2 hw)
  induction h with
  | done i S A hA hf =>
    intro hi hS hc
    obtain ⟨s, h1, h2⟩ := hf
    exact Or.inl ⟨i, hi, rfl, hc.at_.2 ⟨s, (key hi hS hA s).1 h1, h2⟩, fun m hmi => hc.acc hm hmi⟩
  | stop i S A hA hf he =>
    intro hi hS hc
    refine Or.inr ⟨rfl, fun n hn ha => ?_⟩
    by_cases e : n < i
    · exact hc.acc hm e ha
    · obtain rfl : n = i := by omega
      obtain ⟨s, h1, h2⟩ := hc.at_.1 ha
      exact hf s ((key hi hS hA s).2 h1) h2
  | late i S A B hA hf hil hB hfb =>
    intro hi hS hc
    have hAw := key hi hS hA
    have hBw := key2 hil hAw hB
    obtain ⟨s, h1, h2⟩ := hfb
    refine Or.inl ⟨i + 1, by omega, by omega, ⟨s, i, (hBw s).1 h1, h2⟩, fun m hmi => ?_⟩
    by_cases e : m < i
    · exact hc.acc hm e
    · obtain rfl : m = i := by omega
      rintro ha
      obtain ⟨s, h1, h2⟩ := hc.at_.1 ha
      exact hf s ((hAw s).2 h1) h2
  | step i S A B S' r hA hf hil hB hfb hS' _ ih =>
    intro hi hS hc
    have hAw := key hi hS hA
    have hBw := key2 hil hAw hB
    refine ih (by omega) (fun s => ?_) (key3 hc hBw hfb)
    rw [hS']
    constructor
    · rintro ⟨s1, h1, h2⟩
      exact ⟨i, s1, rfl, (hBw s1).1 h1, h2⟩
    · rintro ⟨j, s1, hj, h1, h2⟩
      obtain rfl : i = j := by omega
      exact ⟨s1, (hBw s1).2 h1, h2⟩
theorem Runs.law0 {g : Gr} (hm : GMono g) {t : List Nat} {r : Int} (h : Runs g t 0 (fun _ => False) r) : GLeast g t r := by
  refine h.law hm (Nat.zero_le _) (fun s => ⟨fun h => h.elim, ?_⟩) (fun s k hk => by omega)
  rintro ⟨j, s1, hj, _⟩
  omega
end Go.Proofs.Ythadkjgadhbidaa
