/-
  What a pattern means: nodes that form a tree, to which places a node leads; and the graph of spots that comes to the same. No program in sight.
-/
import Derived.Test.YthadkjgadhbidaaRxP
namespace Go.Proofs.Ythadkjgadhbidaa
open Go.RowKit
set_option linter.unusedVariables false

def nd (l : List Nd) (n : Nat) : Nd := l.getD n ⟨0, 0, 0, 0⟩
/-- The nodes from a to n are one tree with the root n. -/
inductive Sub (l : List Nd) : Nat → Nat → Prop
  | leaf (n : Nat) : n < l.length → ((nd l n).kind = 1 ∨ (nd l n).kind = 2 ∨ (nd l n).kind = 8 ∨ (nd l n).kind = 9) → (nd l n).left = 0 → (nd l n).right = 0 → ((nd l n).kind ≠ 2 → (nd l n).set = 0) → Sub l n n
  | one (a n : Nat) : n + 1 < l.length → ((nd l (n + 1)).kind = 5 ∨ (nd l (n + 1)).kind = 6 ∨ (nd l (n + 1)).kind = 7) → (nd l (n + 1)).left = n → (nd l (n + 1)).right = 0 → (nd l (n + 1)).set = 0 → Sub l a n → Sub l a (n + 1)
  | two (a m n : Nat) : n + 1 < l.length → ((nd l (n + 1)).kind = 3 ∨ (nd l (n + 1)).kind = 4) → (nd l (n + 1)).left = m → (nd l (n + 1)).right = n → (nd l (n + 1)).set = 0 → Sub l a m → Sub l (m + 1) n → Sub l a (n + 1)
theorem Sub.le {l : List Nd} {a n : Nat} (h : Sub l a n) : a ≤ n ∧ n < l.length := by
  induction h with
  | leaf n h => exact ⟨Nat.le_refl _, h⟩
  | one a n h _ _ _ _ _ ih => omega
  | two a m n h _ _ _ _ _ _ i1 i2 => omega
/-- x is a kid of p. -/
def Kid (l : List Nd) (p x : Nat) : Prop :=
  (((nd l p).kind = 3 ∨ (nd l p).kind = 4 ∨ (nd l p).kind = 5 ∨ (nd l p).kind = 6 ∨ (nd l p).kind = 7) ∧ (nd l p).left = x) ∨ (((nd l p).kind = 3 ∨ (nd l p).kind = 4) ∧ (nd l p).right = x)
theorem Sub.kids {l : List Nd} {a n : Nat} (h : Sub l a n) : ∀ p, a ≤ p → p ≤ n → ∀ x : Nat, Kid l p x → a ≤ x ∧ x < p := by
  induction h with
  | leaf n h hk h1 h2 h3 =>
    intro p hp1 hp2 x hx
    obtain rfl : p = n := by omega
    rcases hx with ⟨hx, _⟩ | ⟨hx, _⟩ <;> omega
  | one a n h hk h1 h2 h3 hs ih =>
    intro p hp1 hp2 x hx
    by_cases e : p = n + 1
    · subst e
      have := hs.le
      rcases hx with ⟨hx, e⟩ | ⟨hx, e⟩ <;> omega
    · exact ih p hp1 (by omega) x hx
  | two a m n h hk h1 h2 h3 hs1 hs2 i1 i2 =>
    intro p hp1 hp2 x hx
    have l1 := hs1.le
    have l2 := hs2.le
    by_cases e : p = n + 1
    · subst e
      rcases hx with ⟨hx, e⟩ | ⟨hx, e⟩ <;> omega
    · by_cases hm : p ≤ m
      · exact i1 p hp1 hm x hx
      · have := i2 p (by omega) (by omega) x hx
        omega
theorem Sub.parent {l : List Nd} {a n : Nat} (h : Sub l a n) : ∀ x, a ≤ x → x < n → ∃ p, x < p ∧ p ≤ n ∧ Kid l p x ∧ ∀ q, a ≤ q → q ≤ n → Kid l q x → q = p := by
  induction h with
  | leaf n h hk h1 h2 h3 => intro x h1 h2; omega
  | one a n h hk h1 h2 h3 hs ih =>
    intro x hx1 hx2
    have hl := hs.le
    by_cases e : x = n
    · subst e
      refine ⟨x + 1, by omega, Nat.le_refl _, Or.inl ⟨by omega, h1⟩, fun q hq1 hq2 hq => ?_⟩
      by_cases eq : q = x + 1
      · exact eq
      · have := hs.kids q hq1 (by omega) x hq; omega
    · obtain ⟨p, p1, p2, p3, p4⟩ := ih x hx1 (by omega)
      refine ⟨p, p1, by omega, p3, fun q hq1 hq2 hq => ?_⟩
      by_cases eq : q = n + 1
      · subst eq
        rcases hq with ⟨hq, e2⟩ | ⟨hq, e2⟩ <;> omega
      · exact p4 q hq1 (by omega) hq
  | two a m n h hk h1 h2 h3 hs1 hs2 i1 i2 =>
    intro x hx1 hx2
    have l1 := hs1.le
    have l2 := hs2.le
    by_cases e : x = m ∨ x = n
    · refine ⟨n + 1, by omega, Nat.le_refl _, ?_, fun q hq1 hq2 hq => ?_⟩
      · rcases e with rfl | rfl
        · exact Or.inl ⟨by omega, h1⟩
        · exact Or.inr ⟨by omega, h2⟩
      · by_cases eq : q = n + 1
        · exact eq
        · by_cases hm : q ≤ m
          · have := hs1.kids q hq1 hm x hq; omega
          · have := hs2.kids q (by omega) (by omega) x hq; omega
    · by_cases hm : x < m
      · obtain ⟨p, p1, p2, p3, p4⟩ := i1 x hx1 hm
        refine ⟨p, p1, by omega, p3, fun q hq1 hq2 hq => ?_⟩
        by_cases eq : q = n + 1
        · subst eq
          rcases hq with ⟨hq, e2⟩ | ⟨hq, e2⟩ <;> omega
        · by_cases hqm : q ≤ m
          · exact p4 q hq1 hqm hq
          · have := hs2.kids q (by omega) (by omega) x hq; omega
      · obtain ⟨p, p1, p2, p3, p4⟩ := i2 x (by omega) (by omega)
        refine ⟨p, p1, by omega, p3, fun q hq1 hq2 hq => ?_⟩
        by_cases eq : q = n + 1
        · subst eq
          rcases hq with ⟨hq, e2⟩ | ⟨hq, e2⟩ <;> omega
        · by_cases hqm : q ≤ m
          · have := hs1.kids q hq1 hqm x hq; omega
          · exact p4 q (by omega) (by omega) hq

/-- The beginning of a line. -/
def bolT (t : List Nat) (i : Nat) : Bool := i == 0 || t.getD (i - 1) 0 == 10
/-- The end of a line. -/
def eolT (t : List Nat) (i : Nat) : Bool := decide (i < t.length) && t.getD i 0 == 10
/-- To which places a node leads. -/
inductive Leads (l : List Nd) (t : List Nat) : Nat → Nat → Nat → Prop
  | empty (n i : Nat) : (nd l n).kind = 1 → Leads l t n i i
  | set (n i : Nat) : (nd l n).kind = 2 → i < t.length → hasB (nd l n).set (t.getD i 0) = true → Leads l t n i (i + 1)
  | bol (n i : Nat) : (nd l n).kind = 8 → bolT t i = true → Leads l t n i i
  | eol (n i : Nat) : (nd l n).kind = 9 → eolT t i = true → Leads l t n i i
  | cat (n a b i j k : Nat) : (nd l n).kind = 3 → (nd l n).left = a → (nd l n).right = b → Leads l t a i j → Leads l t b j k → Leads l t n i k
  | altL (n a i k : Nat) : (nd l n).kind = 4 → (nd l n).left = a → Leads l t a i k → Leads l t n i k
  | altR (n b i k : Nat) : (nd l n).kind = 4 → (nd l n).right = b → Leads l t b i k → Leads l t n i k
  | star0 (n i : Nat) : (nd l n).kind = 5 → Leads l t n i i
  | star1 (n a i j k : Nat) : (nd l n).kind = 5 → (nd l n).left = a → Leads l t a i j → Leads l t n j k → Leads l t n i k
  | plus0 (n a i k : Nat) : (nd l n).kind = 6 → (nd l n).left = a → Leads l t a i k → Leads l t n i k
  | plus1 (n a i j k : Nat) : (nd l n).kind = 6 → (nd l n).left = a → Leads l t a i j → Leads l t n j k → Leads l t n i k
  | opt0 (n i : Nat) : (nd l n).kind = 7 → Leads l t n i i
  | opt1 (n a i k : Nat) : (nd l n).kind = 7 → (nd l n).left = a → Leads l t a i k → Leads l t n i k
theorem Leads.le {l : List Nd} {t : List Nat} {n i k : Nat} (h : Leads l t n i k) : i ≤ k := by
  induction h <;> omega
theorem Leads.len {l : List Nd} {t : List Nat} {n i k : Nat} (h : Leads l t n i k) : i ≤ t.length → k ≤ t.length := by
  induction h <;> intro hi
  all_goals first | exact hi | omega | (rename_i h1 h2; exact h2 (h1 hi)) | (rename_i h1; exact h1 hi)

/-- A step from spot to spot without a byte. -/
inductive Eps (l : List Nd) (bol eol : Bool) : Nat → Nat → Prop
  | empty (x : Nat) : (nd l x).kind = 1 → Eps l bol eol (2 * x) (2 * x + 1)
  | bol (x : Nat) : (nd l x).kind = 8 → bol = true → Eps l bol eol (2 * x) (2 * x + 1)
  | eol (x : Nat) : (nd l x).kind = 9 → eol = true → Eps l bol eol (2 * x) (2 * x + 1)
  | skip (x : Nat) : (nd l x).kind = 5 ∨ (nd l x).kind = 7 → Eps l bol eol (2 * x) (2 * x + 1)
  | left (x a : Nat) : (nd l x).kind = 3 ∨ (nd l x).kind = 4 ∨ (nd l x).kind = 5 ∨ (nd l x).kind = 6 ∨ (nd l x).kind = 7 → (nd l x).left = a → Eps l bol eol (2 * x) (2 * a)
  | right (x b : Nat) : (nd l x).kind = 4 → (nd l x).right = b → Eps l bol eol (2 * x) (2 * b)
  | over (x a b : Nat) : x < l.length → (nd l x).kind = 3 → (nd l x).left = a → (nd l x).right = b → Eps l bol eol (2 * a + 1) (2 * b)
  | up (p x : Nat) : p < l.length → ((nd l p).kind = 4 ∨ (nd l p).kind = 6 ∨ (nd l p).kind = 7) → Kid l p x → Eps l bol eol (2 * x + 1) (2 * p + 1)
  | upR (p x : Nat) : p < l.length → (nd l p).kind = 3 → (nd l p).right = x → Eps l bol eol (2 * x + 1) (2 * p + 1)
  | star (p x : Nat) : p < l.length → (nd l p).kind = 5 → (nd l p).left = x → Eps l bol eol (2 * x + 1) (2 * p)
  | again (p x : Nat) : p < l.length → (nd l p).kind = 6 → (nd l p).left = x → Eps l bol eol (2 * x + 1) (2 * x)
/-- Paths of spots and places. -/
inductive Way (l : List Nd) (t : List Nat) (s0 i0 : Nat) : Nat → Nat → Prop
  | here : Way l t s0 i0 s0 i0
  | eps (s s' i : Nat) : Way l t s0 i0 s i → Eps l (bolT t i) (eolT t i) s s' → Way l t s0 i0 s' i
  | byte (x i : Nat) : Way l t s0 i0 (2 * x) i → (nd l x).kind = 2 → i < t.length → hasB (nd l x).set (t.getD i 0) = true → Way l t s0 i0 (2 * x + 1) (i + 1)
theorem Way.trans {l : List Nd} {t : List Nat} {s0 i0 s1 i1 s2 i2 : Nat} (h : Way l t s0 i0 s1 i1) (k : Way l t s1 i1 s2 i2) : Way l t s0 i0 s2 i2 := by
  induction k with
  | here => exact h
  | eps s s' i _ he ih => exact .eps s s' i ih he
  | byte x i _ h1 h2 h3 ih => exact .byte x i ih h1 h2 h3
theorem Way.le {l : List Nd} {t : List Nat} {s0 i0 s1 i1 : Nat} (h : Way l t s0 i0 s1 i1) : i0 ≤ i1 := by
  induction h <;> omega
/-- Whoever leads, has a path. -/
theorem Leads.way {l : List Nd} {t : List Nat} {n i k : Nat} (h : Leads l t n i k) : n < l.length → (∀ p, p < l.length → ∀ x : Nat, Kid l p x → x < p) →
    Way l t (2 * n) i (2 * n + 1) k ∧ ((nd l n).kind = 6 → ∀ a : Nat, (nd l n).left = a → Way l t (2 * a) i (2 * n + 1) k) := by
  induction h with
  | empty n i hk => intro hn hK; exact ⟨.eps _ _ _ .here (.empty n hk), fun h => by omega⟩
  | set n i hk hi hs => intro hn hK; exact ⟨.byte _ _ .here hk hi hs, fun h => by omega⟩
  | bol n i hk hb => intro hn hK; exact ⟨.eps _ _ _ .here (.bol n hk hb), fun h => by omega⟩
  | eol n i hk hb => intro hn hK; exact ⟨.eps _ _ _ .here (.eol n hk hb), fun h => by omega⟩
  | cat n a b i j k hk ha hb _ _ i1 i2 =>
    intro hn hK
    have ka := hK n hn a (Or.inl ⟨Or.inl hk, ha⟩)
    have kb := hK n hn b (Or.inr ⟨Or.inl hk, hb⟩)
    refine ⟨?_, fun h => by omega⟩
    have w1 : Way l t (2 * n) i (2 * a) i := .eps _ _ _ .here (.left n a (Or.inl hk) ha)
    have w2 := w1.trans (i1 (by omega) hK).1
    have w3 : Way l t (2 * n) i (2 * b) j := .eps _ _ _ w2 (.over n a b hn hk ha hb)
    exact .eps _ _ _ (w3.trans (i2 (by omega) hK).1) (.upR n b hn hk hb)
  | altL n a i k hk ha _ i1 =>
    intro hn hK
    have kd : Kid l n a := Or.inl ⟨Or.inr (Or.inl hk), ha⟩
    have ka := hK n hn a kd
    refine ⟨?_, fun h => by omega⟩
    have w1 : Way l t (2 * n) i (2 * a) i := .eps _ _ _ .here (.left n a (Or.inr (Or.inl hk)) ha)
    exact .eps _ _ _ (w1.trans (i1 (by omega) hK).1) (.up n a hn (Or.inl hk) kd)
  | altR n b i k hk hb _ i1 =>
    intro hn hK
    have kd : Kid l n b := Or.inr ⟨Or.inr hk, hb⟩
    have kb := hK n hn b kd
    refine ⟨?_, fun h => by omega⟩
    have w1 : Way l t (2 * n) i (2 * b) i := .eps _ _ _ .here (.right n b hk hb)
    exact .eps _ _ _ (w1.trans (i1 (by omega) hK).1) (.up n b hn (Or.inl hk) kd)
  | star0 n i hk => intro hn hK; exact ⟨.eps _ _ _ .here (.skip n (Or.inl hk)), fun h => by omega⟩
  | star1 n a i j k hk ha _ _ i1 i2 =>
    intro hn hK
    have ka := hK n hn a (Or.inl ⟨Or.inr (Or.inr (Or.inl hk)), ha⟩)
    refine ⟨?_, fun h => by omega⟩
    have w1 : Way l t (2 * n) i (2 * a) i := .eps _ _ _ .here (.left n a (Or.inr (Or.inr (Or.inl hk))) ha)
    have w2 : Way l t (2 * n) i (2 * n) j := .eps _ _ _ (w1.trans (i1 (by omega) hK).1) (.star n a hn hk ha)
    exact w2.trans (i2 hn hK).1
  | plus0 n a i k hk ha _ i1 =>
    intro hn hK
    have kd : Kid l n a := Or.inl ⟨Or.inr (Or.inr (Or.inr (Or.inl hk))), ha⟩
    have ka := hK n hn a kd
    have w2 : Way l t (2 * a) i (2 * n + 1) k := .eps _ _ _ (i1 (by omega) hK).1 (.up n a hn (Or.inr (Or.inl hk)) kd)
    have w1 : Way l t (2 * n) i (2 * a) i := .eps _ _ _ .here (.left n a (Or.inr (Or.inr (Or.inr (Or.inl hk)))) ha)
    refine ⟨w1.trans w2, fun _ a' ha' => ?_⟩
    obtain rfl : a = a' := by omega
    exact w2
  | plus1 n a i j k hk ha _ _ i1 i2 =>
    intro hn hK
    have kd : Kid l n a := Or.inl ⟨Or.inr (Or.inr (Or.inr (Or.inl hk))), ha⟩
    have ka := hK n hn a kd
    have w2 : Way l t (2 * a) i (2 * a) j := .eps _ _ _ (i1 (by omega) hK).1 (.again n a hn hk ha)
    have w3 := w2.trans ((i2 hn hK).2 hk a ha)
    have w1 : Way l t (2 * n) i (2 * a) i := .eps _ _ _ .here (.left n a (Or.inr (Or.inr (Or.inr (Or.inl hk)))) ha)
    refine ⟨w1.trans w3, fun _ a' ha' => ?_⟩
    obtain rfl : a = a' := by omega
    exact w3
  | opt0 n i hk => intro hn hK; exact ⟨.eps _ _ _ .here (.skip n (Or.inr hk)), fun h => by omega⟩
  | opt1 n a i k hk ha _ i1 =>
    intro hn hK
    have kd : Kid l n a := Or.inl ⟨Or.inr (Or.inr (Or.inr (Or.inr hk))), ha⟩
    have ka := hK n hn a kd
    refine ⟨?_, fun h => by omega⟩
    have w1 : Way l t (2 * n) i (2 * a) i := .eps _ _ _ .here (.left n a (Or.inr (Or.inr (Or.inr (Or.inr hk)))) ha)
    exact .eps _ _ _ (w1.trans (i1 (by omega) hK).1) (.up n a hn (Or.inr (Or.inr hk)) kd)

/-- What is left to be done behind a node, up to the end of the root. -/
inductive Cont (l : List Nd) (t : List Nat) (root : Nat) : Nat → Nat → Nat → Prop
  | done (i : Nat) : Cont l t root root i i
  | catL (p x b i j k : Nat) : p < l.length → (nd l p).kind = 3 → (nd l p).left = x → (nd l p).right = b → Leads l t b i j → Cont l t root p j k → Cont l t root x i k
  | catR (p x i k : Nat) : p < l.length → (nd l p).kind = 3 → (nd l p).right = x → Cont l t root p i k → Cont l t root x i k
  | up (p x i k : Nat) : p < l.length → ((nd l p).kind = 4 ∨ (nd l p).kind = 6 ∨ (nd l p).kind = 7) → Kid l p x → Cont l t root p i k → Cont l t root x i k
  | star (p x i j k : Nat) : p < l.length → (nd l p).kind = 5 → (nd l p).left = x → Leads l t p i j → Cont l t root p j k → Cont l t root x i k
  | again (p x i j k : Nat) : p < l.length → (nd l p).kind = 6 → (nd l p).left = x → Leads l t p i j → Cont l t root p j k → Cont l t root x i k
/-- From a spot on. -/
def From (l : List Nd) (t : List Nat) (root s i k : Nat) : Prop :=
  (s % 2 = 0 → ∃ j, Leads l t (s / 2) i j ∧ Cont l t root (s / 2) j k) ∧ (s % 2 = 1 → Cont l t root (s / 2) i k)
theorem from_even {l : List Nd} {t : List Nat} {root x i k : Nat} : From l t root (2 * x) i k ↔ ∃ j, Leads l t x i j ∧ Cont l t root x j k := by
  unfold From
  rw [show 2 * x / 2 = x by omega]
  exact ⟨fun h => h.1 (by omega), fun h => ⟨fun _ => h, fun e => by omega⟩⟩
theorem from_odd {l : List Nd} {t : List Nat} {root x i k : Nat} : From l t root (2 * x + 1) i k ↔ Cont l t root x i k := by
  unfold From
  rw [show (2 * x + 1) / 2 = x by omega]
  exact ⟨fun h => h.2 (by omega), fun h => ⟨fun e => by omega, fun _ => h⟩⟩
theorem nd_lt {l : List Nd} {p : Nat} (h : (nd l p).kind ≠ 0) : p < l.length := by
  by_cases hp : p < l.length
  · exact hp
  · exact absurd (by unfold nd; rw [List.getD_eq_getElem?_getD, List.getElem?_eq_none (by omega)]; rfl) h
/-- What is asked of the nodes. -/
structure Neat (l : List Nd) (root : Nat) : Prop where
  lt : root < l.length
  below : ∀ p, p < l.length → ∀ x : Nat, Kid l p x → x < p
  one : ∀ p q x : Nat, p < l.length → q < l.length → Kid l p x → Kid l q x → p = q
  top : ∀ p, p < l.length → ¬ Kid l p root
  two : ∀ p, p < l.length → (nd l p).kind = 3 → (nd l p).left ≠ (nd l p).right
theorem Eps.back {l : List Nd} {t : List Nat} {root s s' i k : Nat} (hN : Neat l root) (h : Eps l (bolT t i) (eolT t i) s s') (hf : From l t root s' i k) : From l t root s i k := by
  cases h with
  | empty x hk => rw [from_odd] at hf; rw [from_even]; exact ⟨i, .empty x i hk, hf⟩
  | bol x hk hb => rw [from_odd] at hf; rw [from_even]; exact ⟨i, .bol x i hk hb, hf⟩
  | eol x hk hb => rw [from_odd] at hf; rw [from_even]; exact ⟨i, .eol x i hk hb, hf⟩
  | skip x hk =>
    rw [from_odd] at hf; rw [from_even]
    rcases hk with hk | hk
    · exact ⟨i, .star0 x i hk, hf⟩
    · exact ⟨i, .opt0 x i hk, hf⟩
  | left x a hk ha =>
    rw [from_even] at hf ⊢
    obtain ⟨j, h1, h2⟩ := hf
    have hx : x < l.length := nd_lt (by omega)
    have kd : Kid l x a := Or.inl ⟨hk, ha⟩
    cases h2 with
    | done => exact absurd kd (hN.top x hx)
    | catL p _ b _ j' _ hp hpk hpa hpb hl hc =>
      obtain rfl := hN.one p x a hp hx (Or.inl ⟨Or.inl hpk, hpa⟩) kd
      exact ⟨j', .cat p a b i j j' hpk hpa hpb h1 hl, hc⟩
    | catR p _ _ _ hp hpk hpa hc =>
      obtain rfl := hN.one p x a hp hx (Or.inr ⟨Or.inl hpk, hpa⟩) kd
      exact absurd (ha.trans hpa.symm) (hN.two p hp hpk)
    | up p _ _ _ hp hpk hkd hc =>
      obtain rfl := hN.one p x a hp hx hkd kd
      rcases hpk with hpk | hpk | hpk
      · exact ⟨j, .altL p a i j hpk ha h1, hc⟩
      · exact ⟨j, .plus0 p a i j hpk ha h1, hc⟩
      · exact ⟨j, .opt1 p a i j hpk ha h1, hc⟩
    | star p _ _ j' _ hp hpk hpa hl hc =>
      obtain rfl := hN.one p x a hp hx (Or.inl ⟨Or.inr (Or.inr (Or.inl hpk)), hpa⟩) kd
      exact ⟨j', .star1 p a i j j' hpk ha h1 hl, hc⟩
    | again p _ _ j' _ hp hpk hpa hl hc =>
      obtain rfl := hN.one p x a hp hx (Or.inl ⟨Or.inr (Or.inr (Or.inr (Or.inl hpk))), hpa⟩) kd
      exact ⟨j', .plus1 p a i j j' hpk ha h1 hl, hc⟩
  | right x b hk hb =>
    rw [from_even] at hf ⊢
    obtain ⟨j, h1, h2⟩ := hf
    have hx : x < l.length := nd_lt (by omega)
    have kd : Kid l x b := Or.inr ⟨Or.inr hk, hb⟩
    cases h2 with
    | done => exact absurd kd (hN.top x hx)
    | catL p _ _ _ _ _ hp hpk hpa hpb hl hc =>
      obtain rfl := hN.one p x b hp hx (Or.inl ⟨Or.inl hpk, hpa⟩) kd
      omega
    | catR p _ _ _ hp hpk hpa hc =>
      obtain rfl := hN.one p x b hp hx (Or.inr ⟨Or.inl hpk, hpa⟩) kd
      omega
    | up p _ _ _ hp hpk hkd hc =>
      obtain rfl := hN.one p x b hp hx hkd kd
      exact ⟨j, .altR p b i j hk hb h1, hc⟩
    | star p _ _ j' _ hp hpk hpa hl hc =>
      obtain rfl := hN.one p x b hp hx (Or.inl ⟨Or.inr (Or.inr (Or.inl hpk)), hpa⟩) kd
      omega
    | again p _ _ j' _ hp hpk hpa hl hc =>
      obtain rfl := hN.one p x b hp hx (Or.inl ⟨Or.inr (Or.inr (Or.inr (Or.inl hpk))), hpa⟩) kd
      omega
  | over x a b hx hk ha hb =>
    rw [from_even] at hf
    rw [from_odd]
    obtain ⟨j, h1, h2⟩ := hf
    have kd : Kid l x b := Or.inr ⟨Or.inl hk, hb⟩
    cases h2 with
    | done => exact absurd kd (hN.top x hx)
    | catL p _ _ _ _ _ hp hpk hpa hpb hl hc =>
      obtain rfl := hN.one p x b hp hx (Or.inl ⟨Or.inl hpk, hpa⟩) kd
      exact absurd (hpa.trans hb.symm) (hN.two p hp hpk)
    | catR p _ _ _ hp hpk hpa hc =>
      obtain rfl := hN.one p x b hp hx (Or.inr ⟨Or.inl hpk, hpa⟩) kd
      exact .catL p a b i j k hp hk ha hb h1 hc
    | up p _ _ _ hp hpk hkd hc =>
      obtain rfl := hN.one p x b hp hx hkd kd
      omega
    | star p _ _ j' _ hp hpk hpa hl hc =>
      obtain rfl := hN.one p x b hp hx (Or.inl ⟨Or.inr (Or.inr (Or.inl hpk)), hpa⟩) kd
      omega
    | again p _ _ j' _ hp hpk hpa hl hc =>
      obtain rfl := hN.one p x b hp hx (Or.inl ⟨Or.inr (Or.inr (Or.inr (Or.inl hpk))), hpa⟩) kd
      omega
  | up p x hp hk hkd => rw [from_odd] at hf ⊢; exact .up p x i k hp hk hkd hf
  | upR p x hp hk hx => rw [from_odd] at hf ⊢; exact .catR p x i k hp hk hx hf
  | star p x hp hk hx =>
    rw [from_even] at hf
    rw [from_odd]
    obtain ⟨j, h1, h2⟩ := hf
    exact .star p x i j k hp hk hx h1 h2
  | again p x hp hk hx =>
    rw [from_even] at hf
    rw [from_odd]
    obtain ⟨j, h1, h2⟩ := hf
    have kd : Kid l p x := Or.inl ⟨Or.inr (Or.inr (Or.inr (Or.inl hk))), hx⟩
    cases h2 with
    | done => exact absurd kd (hN.top p hp)
    | catL q _ _ _ _ _ hq hpk hpa hpb hl hc =>
      obtain rfl := hN.one q p x hq hp (Or.inl ⟨Or.inl hpk, hpa⟩) kd
      omega
    | catR q _ _ _ hq hpk hpa hc =>
      obtain rfl := hN.one q p x hq hp (Or.inr ⟨Or.inl hpk, hpa⟩) kd
      omega
    | up q _ _ _ hq hpk hkd hc =>
      obtain rfl := hN.one q p x hq hp hkd kd
      exact .again q x i j k hp hk hx (.plus0 q x i j hk hx h1) hc
    | star q _ _ j' _ hq hpk hpa hl hc =>
      obtain rfl := hN.one q p x hq hp (Or.inl ⟨Or.inr (Or.inr (Or.inl hpk)), hpa⟩) kd
      omega
    | again q _ _ j' _ hq hpk hpa hl hc =>
      obtain rfl := hN.one q p x hq hp (Or.inl ⟨Or.inr (Or.inr (Or.inr (Or.inl hpk))), hpa⟩) kd
      exact .again q x i j' k hp hk hx (.plus1 q x i j j' hk hx h1 hl) hc
theorem Way.from_ {l : List Nd} {t : List Nat} {root s0 i0 s i k : Nat} (hN : Neat l root) (h : Way l t s0 i0 s i) : From l t root s i k → From l t root s0 i0 k := by
  induction h with
  | here => exact fun h => h
  | eps s s' i _ he ih => exact fun h => ih (he.back hN h)
  | byte x i _ h1 h2 h3 ih =>
    intro h
    rw [from_odd] at h
    exact ih (from_even.2 ⟨i + 1, .set x i h1 h2 h3, h⟩)
/-- Paths from the root's beginning to its end are what the root leads to. -/
theorem way_iff {l : List Nd} {t : List Nat} {root i k : Nat} (hN : Neat l root) : Way l t (2 * root) i (2 * root + 1) k ↔ Leads l t root i k := by
  constructor
  · intro h
    obtain ⟨j, h1, h2⟩ := from_even.1 (h.from_ hN (from_odd.2 (.done k)))
    have : j = k := by
      cases h2 with
      | done => rfl
      | catL p _ b _ j' _ hp hpk hpa hpb hl hc => exact absurd (Or.inl ⟨Or.inl hpk, hpa⟩) (hN.top p hp)
      | catR p _ _ _ hp hpk hpa hc => exact absurd (Or.inr ⟨Or.inl hpk, hpa⟩) (hN.top p hp)
      | up p _ _ _ hp hpk hkd hc => exact absurd hkd (hN.top p hp)
      | star p _ _ j' _ hp hpk hpa hl hc => exact absurd (Or.inl ⟨Or.inr (Or.inr (Or.inl hpk)), hpa⟩) (hN.top p hp)
      | again p _ _ j' _ hp hpk hpa hl hc => exact absurd (Or.inl ⟨Or.inr (Or.inr (Or.inr (Or.inl hpk))), hpa⟩) (hN.top p hp)
    rw [← this]; exact h1
  · exact fun h => (h.way hN.lt hN.below).1
theorem Sub.neat {l : List Nd} {n : Nat} (h : Sub l 0 n) (hl : l.length = n + 1) : Neat l n := by
  refine ⟨by omega, fun p hp x hx => (h.kids p (by omega) (by omega) x hx).2, fun p q x hp hq h1 h2 => ?_, fun p hp hx => ?_, ?_⟩
  · have := (h.kids p (by omega) (by omega) x h1).2
    obtain ⟨r, _, _, _, r4⟩ := h.parent x (by omega) (by omega)
    rw [r4 p (by omega) (by omega) h1, r4 q (by omega) (by omega) h2]
  · have := (h.kids p (by omega) (by omega) n hx).2
    omega
  · have key : ∀ {a m : Nat}, Sub l a m → ∀ p, a ≤ p → p ≤ m → (nd l p).kind = 3 → (nd l p).left ≠ (nd l p).right := by
      intro a m hs
      induction hs with
      | leaf n h hk h1 h2 h3 => intro p hp1 hp2 hk; obtain rfl : p = n := by omega
                                omega
      | one a n h hk h1 h2 h3 hs ih =>
        intro p hp1 hp2 hk
        by_cases e : p = n + 1
        · subst e; omega
        · exact ih p hp1 (by omega) hk
      | two a m n h hk h1 h2 h3 hs1 hs2 i1 i2 =>
        intro p hp1 hp2 hkp
        have l1 := hs1.le
        have l2 := hs2.le
        by_cases e : p = n + 1
        · subst e; omega
        · by_cases hm : p ≤ m
          · exact i1 p hp1 hm hkp
          · exact i2 p (by omega) (by omega) hkp
    exact fun p hp hk => key h p (by omega) (by omega) hk
end Go.Proofs.Ythadkjgadhbidaa
