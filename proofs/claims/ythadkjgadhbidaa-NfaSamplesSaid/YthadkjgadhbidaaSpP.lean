/-
  The least text that an automaton accepts, found by layers of spots; no program in sight.
-/
import Derived.Test.YthadkjgadhbidaaMtP
namespace Go.Proofs.Ythadkjgadhbidaa
open Go.RowKit
set_option linter.unusedVariables false

/-- A state, whether its place is the beginning of a line, whether it must be the end of one. -/
structure Sp where
  s : Nat
  b : Bool
  e : Bool
  deriving DecidableEq
/-- How a spot was reached. -/
structure Og where
  from_ : Sp
  root : Bool
  over : Bool
  c : Nat
def outS (st : List Nd) (s : Nat) : Nat := (nd st s).left.toNat
def othS (st : List Nd) (s : Nat) : Nat := (nd st s).right.toNat
/-- A step without a byte; over a byte. -/
def SE (st : List Nd) (p q : Sp) : Prop :=
  ((nd st p.s).kind = 2 ∧ (q = ⟨outS st p.s, p.b, p.e⟩ ∨ q = ⟨othS st p.s, p.b, p.e⟩)) ∨ ((nd st p.s).kind = 3 ∧ p.b = true ∧ q = ⟨outS st p.s, p.b, p.e⟩) ∨ ((nd st p.s).kind = 4 ∧ q = ⟨outS st p.s, p.b, true⟩)
def SB (st : List Nd) (p : Sp) (c : Nat) (q : Sp) : Prop :=
  (nd st p.s).kind = 1 ∧ hasB (nd st p.s).set c = true ∧ c < 256 ∧ ((c = 10 ∧ q = ⟨outS st p.s, true, false⟩) ∨ (c ≠ 10 ∧ p.e = false ∧ q = ⟨outS st p.s, false, false⟩))
def sp0 : Sp := ⟨0, true, false⟩
/-- A text leads to a spot. -/
inductive SR (st : List Nd) : List Nat → Sp → Prop
  | start : SR st [] sp0
  | eps (t : List Nat) (p q : Sp) : SR st t p → SE st p q → SR st t q
  | byt (t : List Nat) (p q : Sp) (c : Nat) : SR st t p → SB st p c q → SR st (t ++ [c]) q
def SAcc (st : List Nd) (t : List Nat) : Prop :=
  (∃ p, SR st t p ∧ (nd st p.s).kind = 5 ∧ p.e = false) ∨ ∃ t' p, t = t' ++ [10] ∧ SR st t' p ∧ (nd st p.s).kind = 5 ∧ p.e = true
/-- The answer: a shortest accepted text, or none is accepted. -/
def SMin (st : List Nd) : Option (List Nat) → Prop
  | some a => SAcc st a ∧ (∀ t, SAcc st t → a.length ≤ t.length)
  | none => ∀ t, ¬ SAcc st t

theorem bolT_app (t u : List Nat) : bolT (t ++ u) t.length = bolT t t.length := by
  unfold bolT
  rcases Nat.eq_zero_or_pos t.length with h | h
  · rw [h]; rfl
  · have e : (t ++ u).getD (t.length - 1) 0 = t.getD (t.length - 1) 0 := by
      rw [List.getD_eq_getElem?_getD, List.getElem?_append_left (by omega), ← List.getD_eq_getElem?_getD]
    rw [e]
theorem bolT_snoc (t : List Nat) (c : Nat) : bolT (t ++ [c]) (t ++ [c]).length = (c == 10) := by
  have e : (t ++ [c]).length = t.length + 1 := by simp
  rw [e, bolT_next]
  have : (t ++ [c]).getD t.length 0 = c := by
    rw [List.getD_eq_getElem?_getD, List.getElem?_append_right (by omega)]
    simp
  rw [this]
theorem eolT_head (t u : List Nat) (h : u.head? = some 10) : eolT (t ++ u) t.length = true := by
  cases u with
  | nil => simp at h
  | cons x u =>
    simp at h
    subst h
    unfold eolT
    have e : (t ++ 10 :: u).getD t.length 0 = 10 := by
      rw [List.getD_eq_getElem?_getD, List.getElem?_append_right (by omega)]
      simp
    rw [e, decide_eq_true (by simp)]
    rfl
theorem SR.bytes {st : List Nd} {t : List Nat} {p : Sp} (h : SR st t p) : ∀ x ∈ t, x < 256 := by
  induction h with
  | start => intro x hx; simp at hx
  | eps t p q _ _ ih => exact ih
  | byt t p q c _ hb ih =>
    intro x hx
    rcases List.mem_append.mp hx with hx | hx
    · exact ih x hx
    · simp at hx; subst hx; exact hb.2.2.1
theorem SAcc.bytes {st : List Nd} {t : List Nat} (h : SAcc st t) : ∀ x ∈ t, x < 256 := by
  rcases h with ⟨p, h, _⟩ | ⟨t', p, rfl, h, _⟩
  · exact h.bytes
  · intro x hx
    rcases List.mem_append.mp hx with hx | hx
    · exact h.bytes x hx
    · simp at hx; omega
section
variable {st : List Nd} (hv : svalid st = true)
include hv
theorem SR.lt {t : List Nat} {p : Sp} (h : SR st t p) : p.s < st.length := by
  obtain ⟨h1, _, hok⟩ := svalid_ok hv
  have key : ∀ p q : Sp, p.s < st.length → SE st p q → q.s < st.length := by
    intro p q hp he
    obtain ⟨k1, k2, k3, k4⟩ := hok p.s hp
    rcases he with ⟨a, rfl | rfl⟩ | ⟨a, _, rfl⟩ | ⟨a, rfl⟩
    · have := k3 (by omega); show outS st p.s < _; unfold outS; omega
    · have := k4 a; show othS st p.s < _; unfold othS; omega
    · have := k3 (by omega); show outS st p.s < _; unfold outS; omega
    · have := k3 (by omega); show outS st p.s < _; unfold outS; omega
  induction h with
  | start => exact h1
  | eps t p q _ he ih => exact key p q ih he
  | byt t p q c _ hb ih =>
    obtain ⟨k1, k2, k3, k4⟩ := hok p.s ih
    have hq : q.s = outS st p.s := by rcases hb.2.2.2 with ⟨_, rfl⟩ | ⟨_, _, rfl⟩ <;> rfl
    have := k3 (by rw [hb.1]; decide)
    rw [hq]; unfold outS; omega
theorem SR.way {t : List Nat} {p : Sp} (h : SR st t p) : p.b = bolT t t.length ∧ ∀ u : List Nat, (p.e = true → u.head? = some 10) → GWay (nfaG st) (t ++ u) p.s t.length := by
  obtain ⟨_, _, hok⟩ := svalid_ok hv
  have hlt := fun {t p} (h : SR st t p) => SR.lt hv h
  induction h with
  | start => exact ⟨rfl, fun u _ => .start 0 (Nat.zero_le _)⟩
  | eps t p q hp he ih =>
    obtain ⟨ih1, ih2⟩ := ih
    obtain ⟨k1, k2, k3, k4⟩ := hok p.s (hlt hp)
    rcases he with ⟨a, rfl | rfl⟩ | ⟨a, hb, rfl⟩ | ⟨a, rfl⟩
    · refine ⟨ih1, fun u hu => .eps _ _ _ (ih2 u hu) (Or.inl ⟨a, Or.inl ?_⟩)⟩
      have := k3 (by omega); show ((outS st p.s : Nat) : Int) = _; unfold outS; omega
    · refine ⟨ih1, fun u hu => .eps _ _ _ (ih2 u hu) (Or.inl ⟨a, Or.inr ?_⟩)⟩
      have := k4 a; show ((othS st p.s : Nat) : Int) = _; unfold othS; omega
    · refine ⟨ih1, fun u hu => .eps _ _ _ (ih2 u hu) (Or.inr (Or.inl ⟨a, ?_, ?_⟩))⟩
      · rw [bolT_app, ← ih1]; exact hb
      · have := k3 (by omega); show ((outS st p.s : Nat) : Int) = _; unfold outS; omega
    · refine ⟨ih1, fun u hu => .eps _ _ _ (ih2 u (fun _ => hu rfl)) (Or.inr (Or.inr ⟨a, eolT_head _ _ (hu rfl), ?_⟩))⟩
      have := k3 (by omega); show ((outS st p.s : Nat) : Int) = _; unfold outS; omega
  | byt t p q c hp hb ih =>
    obtain ⟨ih1, ih2⟩ := ih
    obtain ⟨k1, k2, k3, k4⟩ := hok p.s (hlt hp)
    obtain ⟨a, hc, _, hq⟩ := hb
    have hout : ((outS st p.s : Nat) : Int) = (nd st p.s).left := by have := k3 (by omega); unfold outS; omega
    have hget : ∀ u : List Nat, (t ++ c :: u).getD t.length 0 = c := fun u => by
      rw [List.getD_eq_getElem?_getD, List.getElem?_append_right (by omega)]
      simp
    have hstep : ∀ u : List Nat, (p.e = true → c = 10) → GWay (nfaG st) (t ++ [c] ++ u) (outS st p.s) (t ++ [c]).length := by
      intro u he
      have h1 := ih2 (c :: u) (fun h => by rw [he h]; rfl)
      have h2 := GWay.byte p.s (outS st p.s) t.length h1 (by simp) (by rw [hget]; exact ⟨a, hc, hout⟩)
      rw [List.append_assoc]
      simpa using h2
    rcases hq with ⟨rfl, rfl⟩ | ⟨hne, hpe, rfl⟩
    · exact ⟨by rw [bolT_snoc]; rfl, fun u _ => hstep u (fun _ => rfl)⟩
    · refine ⟨?_, fun u _ => hstep u (fun h => by rw [hpe] at h; cases h)⟩
      rw [bolT_snoc]
      show false = (c == 10)
      simpa using hne
/-- What is found is accepted. -/
theorem SAcc.acc {t : List Nat} (h : SAcc st t) : GAcc (nfaG st) t t.length := by
  rcases h with ⟨p, h, hk, he⟩ | ⟨t', p, rfl, h, hk, he⟩
  · refine ⟨p.s, t.length, ?_, hk⟩
    have := (h.way hv).2 [] (fun h => by rw [he] at h; cases h)
    rw [List.append_nil] at this
    rwa [List.take_length]
  · refine ⟨p.s, t'.length, ?_, hk⟩
    have := (h.way hv).2 [10] (fun _ => rfl)
    rwa [List.take_length]
omit hv in
/-- What is reached in a text is reached from the text's beginning, by no more bytes. -/
theorem way_sr {t : List Nat} {s k : Nat} (h : GWay (nfaG st) t s k) (h8 : ∀ x ∈ t, x < 256) : ∃ t' p, SR st t' p ∧ p.s = s ∧ t'.length ≤ k ∧ (bolT t k = true → p.b = true) ∧ (p.e = true → eolT t k = true) := by
  induction h with
  | start i hi => exact ⟨[], sp0, .start, rfl, Nat.zero_le _, fun _ => rfl, fun h => by cases h⟩
  | eps s s' i hw he ih =>
    obtain ⟨t', p, h1, rfl, h3, h4, h5⟩ := ih
    rcases he with ⟨a, hl | hr⟩ | ⟨a, hb, hl⟩ | ⟨a, hb, hl⟩
    · exact ⟨t', ⟨outS st p.s, p.b, p.e⟩, .eps _ _ _ h1 (Or.inl ⟨a, Or.inl rfl⟩), by show outS st p.s = s'; unfold outS; omega, h3, h4, h5⟩
    · exact ⟨t', ⟨othS st p.s, p.b, p.e⟩, .eps _ _ _ h1 (Or.inl ⟨a, Or.inr rfl⟩), by show othS st p.s = s'; unfold othS; omega, h3, h4, h5⟩
    · exact ⟨t', ⟨outS st p.s, p.b, p.e⟩, .eps _ _ _ h1 (Or.inr (Or.inl ⟨a, h4 hb, rfl⟩)), by show outS st p.s = s'; unfold outS; omega, h3, h4, h5⟩
    · exact ⟨t', ⟨outS st p.s, p.b, true⟩, .eps _ _ _ h1 (Or.inr (Or.inr ⟨a, rfl⟩)), by show outS st p.s = s'; unfold outS; omega, h3, h4, fun _ => hb⟩
  | byte s s' i hw hi hb ih =>
    obtain ⟨t', p, h1, rfl, h3, h4, h5⟩ := ih
    obtain ⟨a, hc, hl⟩ := hb
    have hc8 : t.getD i 0 < 256 := by rw [List.getD_eq_getElem?_getD, List.getElem?_eq_getElem hi]; exact h8 _ (List.getElem_mem hi)
    by_cases h10 : t.getD i 0 = 10
    · refine ⟨t' ++ [10], ⟨outS st p.s, true, false⟩, .byt _ _ _ _ h1 ⟨a, by rw [← h10]; exact hc, by omega, Or.inl ⟨rfl, rfl⟩⟩, by show outS st p.s = s'; unfold outS; omega, by rw [List.length_append, List.length_singleton]; omega, fun _ => rfl, fun h => by cases h⟩
    · have he : p.e = false := by
        cases hp : p.e with
        | false => rfl
        | true =>
          have := h5 hp
          unfold eolT at this
          rw [Bool.and_eq_true, beq_iff_eq] at this
          exact absurd this.2 h10
      refine ⟨t' ++ [t.getD i 0], ⟨outS st p.s, false, false⟩, .byt _ _ _ _ h1 ⟨a, hc, hc8, Or.inr ⟨h10, he, rfl⟩⟩, by show outS st p.s = s'; unfold outS; omega, by rw [List.length_append, List.length_singleton]; omega, fun h => ?_, fun h => by cases h⟩
      rw [bolT_next, beq_iff_eq] at h
      exact absurd h h10
omit hv in
theorem acc_sacc {t : List Nat} {n : Nat} (hn : n ≤ t.length) (h8 : ∀ x ∈ t, x < 256) (h : GAcc (nfaG st) t n) : ∃ t', SAcc st t' ∧ t'.length ≤ n := by
  obtain ⟨s, k, hw, hf⟩ := h
  have hk := hw.len
  rw [List.length_take] at hk
  obtain ⟨t', p, h1, h2, h3, _, h5⟩ := way_sr hw (fun x hx => h8 x (List.mem_of_mem_take hx))
  have hf' : (nd st p.s).kind = 5 := by rw [h2]; exact hf
  cases he : p.e with
  | false => exact ⟨t', Or.inl ⟨p, h1, hf', he⟩, by omega⟩
  | true =>
    have := h5 he
    unfold eolT at this
    rw [Bool.and_eq_true, decide_eq_true_iff, List.length_take] at this
    exact ⟨t' ++ [10], Or.inr ⟨t', p, rfl, h1, hf', he⟩, by rw [List.length_append, List.length_singleton]; omega⟩
/-- The sample is accepted as a whole. -/
theorem smin_run {a : List Nat} (h : SMin st (some a)) : nrunM st a = a.length := by
  refine GLeast.one (nrun_least hv a) (Or.inl ⟨a.length, Nat.le_refl _, rfl, SAcc.acc hv h.1, fun m hm ha => ?_⟩)
  obtain ⟨t', h1, h2⟩ := acc_sacc (by omega) h.1.bytes ha
  have := h.2 t' h1
  omega
end
theorem smin_same {st : List Nd} {r r' : Option (List Nat)} (h : SMin st r) (h' : SMin st r') : r.isSome = r'.isSome ∧ (r.getD []).length = (r'.getD []).length := by
  cases r with
  | none =>
    cases r' with
    | none => exact ⟨rfl, rfl⟩
    | some a => exact absurd h'.1 (h a)
  | some a =>
    cases r' with
    | none => exact absurd h.1 (h' a)
    | some b =>
      have h1 := h.2 b h'.1
      have h2 := h'.2 a h.1
      exact ⟨rfl, Nat.le_antisymm h1 h2⟩
end Go.Proofs.Ythadkjgadhbidaa
