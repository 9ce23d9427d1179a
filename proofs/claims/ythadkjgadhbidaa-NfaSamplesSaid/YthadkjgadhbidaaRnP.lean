/-
  What a pattern means by relations between places: the reference's reckoning on plain functions; it comes to what the nodes lead to. No program in sight.
-/
import Derived.Test.YthadkjgadhbidaaGrP
import Derived.Test.YthadkjgadhbidaaVlS
namespace Go.Proofs.Ythadkjgadhbidaa
open Go.RowKit
set_option linter.unusedVariables false

def emptyR : (Nat → Nat → Bool) := fun _ _ => false
def bothR (a b : (Nat → Nat → Bool)) : (Nat → Nat → Bool) := fun i k => a i k || b i k
/-- Is there a place below m, by which a and b lead on? -/
def midR (a b : (Nat → Nat → Bool)) (i k : Nat) : Nat → Bool
  | 0 => false
  | j + 1 => midR a b i k j || (a i j && b j k)
def thenR (m : Nat) (a b : (Nat → Nat → Bool)) : (Nat → Nat → Bool) := fun i k => midR a b i k m
def stayR : (Nat → Nat → Bool) := fun i k => i == k
/-- Behind j rounds. -/
def warR (a : (Nat → Nat → Bool)) : Nat → Nat → Nat → Bool
  | 0, i, k => (i == k) || a i k
  | j + 1, i, k => warR a j i k || (warR a j i j && warR a j j k)
def starR (m : Nat) (a : (Nat → Nat → Bool)) : (Nat → Nat → Bool) := warR a m
def leafR (x : Nd) (t : List Nat) : (Nat → Nat → Bool) := fun i k =>
  if x.kind = 1 then i == k
  else if x.kind = 8 then i == k && bolT t i
  else if x.kind = 9 then i == k && eolT t i
  else if x.kind = 2 then decide (i < t.length) && hasB x.set (t.getD i 0) && (k == i + 1)
  else false
def nodeR (x : Nd) (t : List Nat) (all : Nat → Nat → Nat → Bool) : Nat → Nat → Bool :=
  if x.kind = 3 then thenR (t.length + 1) (all x.left.toNat) (all x.right.toNat)
  else if x.kind = 4 then bothR (all x.left.toNat) (all x.right.toNat)
  else if x.kind = 5 then starR (t.length + 1) (all x.left.toNat)
  else if x.kind = 6 then thenR (t.length + 1) (all x.left.toNat) (starR (t.length + 1) (all x.left.toNat))
  else if x.kind = 7 then bothR stayR (all x.left.toNat)
  else leafR x t
/-- The relations of the first n nodes. -/
def allR (l : List Nd) (t : List Nat) : Nat → Nat → Nat → Nat → Bool
  | 0 => fun _ => emptyR
  | n + 1 => fun i => if i = n then nodeR (nd l n) t (allR l t n) else allR l t n i
theorem allR_lt (l : List Nd) (t : List Nat) (i : Nat) : ∀ n, i < n → allR l t n i = allR l t (i + 1) i
  | 0, h => by omega
  | n + 1, h => by
    by_cases e : i = n
    · subst e; rfl
    · rw [allR]
      simp only
      rw [if_neg e]
      exact allR_lt l t i n (by omega)
def rootR (l : List Nd) (t : List Nat) : (Nat → Nat → Bool) := allR l t l.length (l.length - 1)
/-- Does a relation have a pair of places below m? -/
def someR (m : Nat) (R : (Nat → Nat → Bool)) : Bool := (List.range m).any fun i => (List.range m).any fun k => R i k
def rfirstF (l : List Nd) (t : List Nat) : Nat → Nat → Int
  | 0, _ => -1
  | f + 1, n => if n ≤ t.length then (if someR (n + 1) (rootR l (t.take n)) = true then (n : Int) else rfirstF l t f (n + 1)) else -1
def rfirstM (l : List Nd) (t : List Nat) : Int := if validM l = true then rfirstF l t (t.length + 2) 0 else -1

theorem midR_iff (a b : (Nat → Nat → Bool)) (i k : Nat) : ∀ m, midR a b i k m = true ↔ ∃ j, j < m ∧ a i j = true ∧ b j k = true
  | 0 => ⟨fun h => (by cases h), fun ⟨j, h, _⟩ => by omega⟩
  | m + 1 => by
    rw [midR, Bool.or_eq_true, Bool.and_eq_true, midR_iff a b i k m]
    constructor
    · rintro (⟨j, h1, h2⟩ | h)
      · exact ⟨j, by omega, h2⟩
      · exact ⟨m, by omega, h⟩
    · rintro ⟨j, h1, h2⟩
      by_cases e : j = m
      · subst e; exact Or.inr h2
      · exact Or.inl ⟨j, by omega, h2⟩
theorem warR_base (a : (Nat → Nat → Bool)) (i k : Nat) : ∀ j, (i = k ∨ a i k = true) → warR a j i k = true
  | 0, h => by
    rw [warR]
    rcases h with rfl | h
    · simp
    · simp [h]
  | j + 1, h => by
    rw [warR, warR_base a i k j h, Bool.true_or]
theorem warR_tr (a : (Nat → Nat → Bool)) : ∀ j i k x, x < j → warR a j i x = true → warR a j x k = true → warR a j i k = true
  | 0, i, k, x, h, _, _ => by omega
  | j + 1, i, k, x, h, h1, h2 => by
    rw [warR, Bool.or_eq_true, Bool.and_eq_true] at h1 h2 ⊢
    have ih := warR_tr a j
    by_cases e : x = j
    · subst e
      have g1 : warR a x i x = true := by rcases h1 with h1 | h1; exact h1; exact h1.1
      have g2 : warR a x x k = true := by rcases h2 with h2 | h2; exact h2; exact h2.2
      exact Or.inr ⟨g1, g2⟩
    · have hx : x < j := by omega
      rcases h1 with h1 | ⟨h1, h1'⟩
      · rcases h2 with h2 | ⟨h2, h2'⟩
        · exact Or.inl (ih i k x hx h1 h2)
        · exact Or.inr ⟨ih i j x hx h1 h2, h2'⟩
      · rcases h2 with h2 | ⟨h2, h2'⟩
        · exact Or.inr ⟨h1, ih j k x hx h1' h2⟩
        · exact Or.inr ⟨h1, h2'⟩
theorem warR_sound (a : (Nat → Nat → Bool)) (P : Nat → Nat → Prop) (m : Nat) (h0 : ∀ i, i < m → P i i) (h1 : ∀ i k, i < m → k < m → a i k = true → P i k) (h2 : ∀ i j k, i < m → j < m → k < m → P i j → P j k → P i k) :
    ∀ j, j ≤ m → ∀ i k, i < m → k < m → warR a j i k = true → P i k
  | 0, _, i, k, hi, hk, h => by
    rw [warR, Bool.or_eq_true, beq_iff_eq] at h
    rcases h with rfl | h
    · exact h0 i hi
    · exact h1 i k hi hk h
  | j + 1, hj, i, k, hi, hk, h => by
    have ih := warR_sound a P m h0 h1 h2 j (by omega)
    rw [warR, Bool.or_eq_true, Bool.and_eq_true] at h
    rcases h with h | ⟨ha, hb⟩
    · exact ih i k hi hk h
    · exact h2 i j k hi (by omega) hk (ih i j hi (by omega) ha) (ih j k (by omega) hk hb)
theorem Leads.star_trans {l : List Nd} {t : List Nat} {n i j k : Nat} (hk : (nd l n).kind = 5) (h1 : Leads l t n i j) (h2 : Leads l t n j k) : Leads l t n i k := by
  have key : ∀ {n' i j : Nat}, Leads l t n' i j → n' = n → Leads l t n j k → Leads l t n i k := by
    clear h1 h2
    intro n' i j h
    induction h with
    | star0 n' i _ => intro e h2; exact h2
    | star1 n' a i j k' hk' ha h1 h2' i1 i2 => intro e h2; subst e; exact .star1 _ a i j _ hk' ha h1 (i2 rfl h2)
    | empty n' i hk' => intro e; subst e; omega
    | set n' i hk' => intro e; subst e; omega
    | bol n' i hk' => intro e; subst e; omega
    | eol n' i hk' => intro e; subst e; omega
    | cat n' _ _ _ _ _ hk' => intro e; subst e; omega
    | altL n' _ _ _ hk' => intro e; subst e; omega
    | altR n' _ _ _ hk' => intro e; subst e; omega
    | plus0 n' _ _ _ hk' => intro e; subst e; omega
    | plus1 n' _ _ _ _ hk' => intro e; subst e; omega
    | opt0 n' _ hk' => intro e; subst e; omega
    | opt1 n' _ _ _ hk' => intro e; subst e; omega
  exact key h1 rfl h2
theorem Sub.kids_lt {l : List Nd} (h : Sub l 0 (l.length - 1)) {p : Nat} (hp : p < l.length) :
    ((nd l p).kind = 1 ∨ (nd l p).kind = 2 ∨ (nd l p).kind = 8 ∨ (nd l p).kind = 9) ∨
    (((nd l p).kind = 5 ∨ (nd l p).kind = 6 ∨ (nd l p).kind = 7) ∧ ∃ a : Nat, (nd l p).left = a ∧ a < p) ∨
    (((nd l p).kind = 3 ∨ (nd l p).kind = 4) ∧ ∃ a b : Nat, (nd l p).left = a ∧ (nd l p).right = b ∧ a < p ∧ b < p) := by
  have key : ∀ {a n : Nat}, Sub l a n → ∀ p, a ≤ p → p ≤ n → ((nd l p).kind = 1 ∨ (nd l p).kind = 2 ∨ (nd l p).kind = 8 ∨ (nd l p).kind = 9) ∨
    (((nd l p).kind = 5 ∨ (nd l p).kind = 6 ∨ (nd l p).kind = 7) ∧ ∃ a : Nat, (nd l p).left = a ∧ a < p) ∨
    (((nd l p).kind = 3 ∨ (nd l p).kind = 4) ∧ ∃ a b : Nat, (nd l p).left = a ∧ (nd l p).right = b ∧ a < p ∧ b < p) := by
    intro a n hs
    induction hs with
    | leaf n h hk h1 h2 h3 => intro p hp1 hp2; obtain rfl : p = n := by omega
                              exact Or.inl hk
    | one a n h hk h1 h2 h3 hs ih =>
      intro p hp1 hp2
      by_cases e : p = n + 1
      · subst e; exact Or.inr (Or.inl ⟨hk, n, h1, by omega⟩)
      · exact ih p hp1 (by omega)
    | two a m n h hk h1 h2 h3 hs1 hs2 i1 i2 =>
      intro p hp1 hp2
      have := hs1.le
      have := hs2.le
      by_cases e : p = n + 1
      · subst e; exact Or.inr (Or.inr ⟨hk, m, n, h1, h2, by omega, by omega⟩)
      · by_cases e2 : p ≤ m
        · exact i1 p hp1 e2
        · exact i2 p (by omega) (by omega)
  exact key h p (Nat.zero_le _) (by omega)
theorem allR_leads {l : List Nd} (hv : validM l = true) (t : List Nat) : ∀ n, n < l.length → ∀ i k, i ≤ t.length → k ≤ t.length → (allR l t (n + 1) n i k = true ↔ Leads l t n i k) := by
  intro n
  induction n using Nat.strongRecOn with
  | _ n ih =>
    intro hn i k hi hk
    have hsub := validM_sub hv
    have e : allR l t (n + 1) n = nodeR (nd l n) t (allR l t n) := by rw [allR]; simp
    rw [e]
    have IH : ∀ a, a < n → ∀ i k, i ≤ t.length → k ≤ t.length → (allR l t n a i k = true ↔ Leads l t a i k) := by
      intro a ha i k hi hk
      rw [allR_lt l t a n ha]
      exact ih a ha (by omega) i k hi hk
    unfold nodeR
    rcases hsub.kids_lt hn with hkd | ⟨hkd, a, hL, ha⟩ | ⟨hkd, a, b, hL, hR, ha, hb⟩
    · rw [if_neg (by omega), if_neg (by omega), if_neg (by omega), if_neg (by omega), if_neg (by omega)]
      unfold leafR
      rcases hkd with hkd | hkd | hkd | hkd
      · rw [if_pos hkd, beq_iff_eq]
        constructor
        · rintro rfl; exact .empty n i hkd
        · intro h
          cases h <;> first | rfl | omega
      · rw [if_neg (by omega), if_neg (by omega), if_neg (by omega), if_pos hkd, Bool.and_eq_true, Bool.and_eq_true, decide_eq_true_iff, beq_iff_eq]
        constructor
        · rintro ⟨⟨h1, h2⟩, rfl⟩; exact .set n i hkd h1 h2
        · intro h
          cases h with
          | set _ _ _ h1 h2 => exact ⟨⟨h1, h2⟩, rfl⟩
          | _ => omega
      · rw [if_neg (by omega), if_pos hkd, Bool.and_eq_true, beq_iff_eq]
        constructor
        · rintro ⟨rfl, h2⟩; exact .bol n i hkd h2
        · intro h
          cases h with
          | bol _ _ _ h1 => exact ⟨rfl, h1⟩
          | _ => omega
      · rw [if_neg (by omega), if_neg (by omega), if_pos hkd, Bool.and_eq_true, beq_iff_eq]
        constructor
        · rintro ⟨rfl, h2⟩; exact .eol n i hkd h2
        · intro h
          cases h with
          | eol _ _ _ h1 => exact ⟨rfl, h1⟩
          | _ => omega
    · have hL' : (nd l n).left.toNat = a := by omega
      rw [hL']
      have hst : ∀ i k, i ≤ t.length → k ≤ t.length → ∀ j, warR (allR l t n a) j i k = true → True := fun _ _ _ _ _ _ => trivial
      -- the star of the kid's relation
      have hS : ∀ i k, i ≤ t.length → k ≤ t.length → ∀ (P : Nat → Nat → Prop), (∀ i, P i i) → (∀ i j k, Leads l t a i j → P j k → P i k) → starR (t.length + 1) (allR l t n a) i k = true → P i k := by
        intro i k hi hk P p0 p1 h
        have := warR_sound (allR l t n a) (fun i k => ∀ x, P k x → P i x) (t.length + 1) (fun i _ x h => h) (fun i k hi hk h x hx => p1 i k x ((IH a ha i k (by omega) (by omega)).1 h) hx) (fun i j k _ _ _ h1 h2 x hx => h1 x (h2 x hx)) (t.length + 1) (Nat.le_refl _) i k (by omega) (by omega) h
        exact this k (p0 k)
      have hS0 : ∀ i, starR (t.length + 1) (allR l t n a) i i = true := fun i => warR_base _ _ _ _ (Or.inl rfl)
      have hS1 : ∀ i j k, i ≤ t.length → Leads l t a i j → starR (t.length + 1) (allR l t n a) j k = true → starR (t.length + 1) (allR l t n a) i k = true := by
        intro i j k hi h1 h2
        have hj := h1.len hi
        exact warR_tr _ _ i k j (by omega) (warR_base _ _ _ _ (Or.inr ((IH a ha i j hi hj).2 h1))) h2
      rcases hkd with hkd | hkd | hkd
      · rw [if_neg (by omega), if_neg (by omega), if_pos hkd]
        constructor
        · exact hS i k hi hk (fun i k => Leads l t n i k) (fun i => .star0 n i hkd) (fun i j k h1 h2 => .star1 n a i j k hkd hL h1 h2)
        · intro h
          have key : ∀ {n' i k : Nat}, Leads l t n' i k → n' = n → i ≤ t.length → starR (t.length + 1) (allR l t n a) i k = true := by
            intro n' i k h
            induction h with
            | star0 n' i _ => intro e _; exact hS0 i
            | star1 n' a' i j k hk' ha' h1 h2 i1 i2 =>
              intro e hi
              subst e
              obtain rfl : a' = a := by omega
              exact hS1 i j k hi h1 (i2 rfl (h1.len hi))
            | empty n' i hk' => intro e; subst e; omega
            | set n' i hk' => intro e; subst e; omega
            | bol n' i hk' => intro e; subst e; omega
            | eol n' i hk' => intro e; subst e; omega
            | cat n' _ _ _ _ _ hk' => intro e; subst e; omega
            | altL n' _ _ _ hk' => intro e; subst e; omega
            | altR n' _ _ _ hk' => intro e; subst e; omega
            | plus0 n' _ _ _ hk' => intro e; subst e; omega
            | plus1 n' _ _ _ _ hk' => intro e; subst e; omega
            | opt0 n' _ hk' => intro e; subst e; omega
            | opt1 n' _ _ _ hk' => intro e; subst e; omega
          exact key h rfl hi
      · rw [if_neg (by omega), if_neg (by omega), if_neg (by omega), if_pos hkd]
        unfold thenR
        rw [midR_iff]
        constructor
        · rintro ⟨j, hj, h1, h2⟩
          have h1' := (IH a ha i j hi (by omega)).1 h1
          have := hS j k (by omega) hk (fun j k => ∀ i, Leads l t a i j → Leads l t n i k) (fun j i h => .plus0 n a i j hkd hL h) (fun j j' k h hP i hi => .plus1 n a i j k hkd hL hi (hP j h)) h2
          exact this i h1'
        · intro h
          have key : ∀ {n' i k : Nat}, Leads l t n' i k → n' = n → i ≤ t.length → ∃ j, j < t.length + 1 ∧ allR l t n a i j = true ∧ starR (t.length + 1) (allR l t n a) j k = true := by
            intro n' i k h
            induction h with
            | plus0 n' a' i k hk' ha' h1 _ =>
              intro e hi; subst e; obtain rfl : a' = a := by omega
              have := h1.len hi
              exact ⟨k, by omega, (IH a' ha i k hi this).2 h1, hS0 k⟩
            | plus1 n' a' i j k hk' ha' h1 _ _ i2 =>
              intro e hi; subst e; obtain rfl : a' = a := by omega
              have hj := h1.len hi
              obtain ⟨j', q0, q1, q2⟩ := i2 rfl hj
              exact ⟨j, by omega, (IH a' ha i j hi hj).2 h1, hS1 j j' k hj ((IH a' ha j j' hj (by omega)).1 q1) q2⟩
            | empty n' i hk' => intro e; subst e; omega
            | set n' i hk' => intro e; subst e; omega
            | bol n' i hk' => intro e; subst e; omega
            | eol n' i hk' => intro e; subst e; omega
            | cat n' _ _ _ _ _ hk' => intro e; subst e; omega
            | altL n' _ _ _ hk' => intro e; subst e; omega
            | altR n' _ _ _ hk' => intro e; subst e; omega
            | star0 n' _ hk' => intro e; subst e; omega
            | star1 n' _ _ _ _ hk' => intro e; subst e; omega
            | opt0 n' _ hk' => intro e; subst e; omega
            | opt1 n' _ _ _ hk' => intro e; subst e; omega
          exact key h rfl hi
      · rw [if_neg (by omega), if_neg (by omega), if_neg (by omega), if_neg (by omega), if_pos hkd]
        unfold bothR stayR
        rw [Bool.or_eq_true, beq_iff_eq, IH a ha i k hi hk]
        constructor
        · rintro (rfl | h)
          · exact .opt0 n i hkd
          · exact .opt1 n a i k hkd hL h
        · intro h
          cases h with
          | opt0 => exact Or.inl rfl
          | opt1 _ a' _ _ _ ha' h => obtain rfl : a' = a := by omega
                                     exact Or.inr h
          | _ => omega
    · have hL' : (nd l n).left.toNat = a := by omega
      have hR' : (nd l n).right.toNat = b := by omega
      rw [hL', hR']
      rcases hkd with hkd | hkd
      · rw [if_pos hkd]
        unfold thenR
        rw [midR_iff]
        constructor
        · rintro ⟨j, hj, h1, h2⟩
          exact .cat n a b i j k hkd hL hR ((IH a ha i j hi (by omega)).1 h1) ((IH b hb j k (by omega) hk).1 h2)
        · intro h
          cases h with
          | cat _ a' b' _ j _ _ ha' hb' h1 h2 =>
            obtain rfl : a' = a := by omega
            obtain rfl : b' = b := by omega
            have hj := h1.len hi
            exact ⟨j, by omega, (IH a' ha i j hi hj).2 h1, (IH b' hb j k hj hk).2 h2⟩
          | _ => omega
      · rw [if_neg (by omega), if_pos hkd]
        unfold bothR
        rw [Bool.or_eq_true, IH a ha i k hi hk, IH b hb i k hi hk]
        constructor
        · rintro (h | h)
          · exact .altL n a i k hkd hL h
          · exact .altR n b i k hkd hR h
        · intro h
          cases h with
          | altL _ a' _ _ _ ha' h => obtain rfl : a' = a := by omega
                                     exact Or.inl h
          | altR _ b' _ _ _ hb' h => obtain rfl : b' = b := by omega
                                     exact Or.inr h
          | _ => omega
theorem rootR_leads {l : List Nd} (hv : validM l = true) (t : List Nat) (i k : Nat) (hi : i ≤ t.length) (hk : k ≤ t.length) : rootR l t i k = true ↔ Leads l t (l.length - 1) i k := by
  have h1 := (validM_len hv).1
  unfold rootR
  rw [allR_lt l t (l.length - 1) l.length (by omega)]
  exact allR_leads hv t (l.length - 1) (by omega) i k hi hk
theorem someR_iff (m : Nat) (R : (Nat → Nat → Bool)) : someR m R = true ↔ ∃ i k, i < m ∧ k < m ∧ R i k = true := by
  unfold someR
  simp only [List.any_eq_true, List.mem_range]
  exact ⟨fun ⟨i, hi, k, hk, h⟩ => ⟨i, k, hi, hk, h⟩, fun ⟨i, k, hi, hk, h⟩ => ⟨i, hi, k, hk, h⟩⟩
/-- The pattern matches within n bytes. -/
def Hit (l : List Nd) (t : List Nat) (n : Nat) : Prop := ∃ i k, i ≤ n ∧ Leads l (t.take n) (l.length - 1) i k
theorem someR_hit {l : List Nd} (hv : validM l = true) (t : List Nat) (n : Nat) (hn : n ≤ t.length) : someR (n + 1) (rootR l (t.take n)) = true ↔ Hit l t n := by
  have hl : (t.take n).length = n := by rw [List.length_take]; omega
  rw [someR_iff]
  constructor
  · rintro ⟨i, k, hi, hk, h⟩
    exact ⟨i, k, by omega, (rootR_leads hv _ i k (by omega) (by omega)).1 h⟩
  · rintro ⟨i, k, hi, h⟩
    have := h.len (by omega)
    exact ⟨i, k, by omega, by omega, (rootR_leads hv _ i k (by omega) (by omega)).2 h⟩
/-- The least number of bytes within which a pattern matches, or -1. -/
def LeastHit (l : List Nd) (t : List Nat) (r : Int) : Prop :=
  (∃ n : Nat, n ≤ t.length ∧ r = n ∧ Hit l t n ∧ ∀ m, m < n → ¬ Hit l t m) ∨ (r = -1 ∧ ∀ n, n ≤ t.length → ¬ Hit l t n)
theorem rfirstF_least {l : List Nd} (hv : validM l = true) (t : List Nat) : ∀ f n, t.length + 1 < f + n → (∀ m, m < n → ¬ Hit l t m) → LeastHit l t (rfirstF l t f n)
  | 0, n, hf, h => Or.inr ⟨rfl, fun m hm => h m (by omega)⟩
  | f + 1, n, hf, h => by
    rw [rfirstF]
    split
    · rename_i hn
      split
      · rename_i hs
        exact Or.inl ⟨n, hn, rfl, (someR_hit hv t n hn).1 hs, h⟩
      · rename_i hs
        refine rfirstF_least hv t f (n + 1) (by omega) (fun m hm => ?_)
        by_cases e : m = n
        · subst e; exact fun hh => hs ((someR_hit hv t m hn).2 hh)
        · exact h m (by omega)
    · exact Or.inr ⟨rfl, fun m hm => h m (by omega)⟩
theorem rfirst_least {l : List Nd} (hv : validM l = true) (t : List Nat) : LeastHit l t (rfirstM l t) := by
  unfold rfirstM
  rw [if_pos hv]
  exact rfirstF_least hv t _ 0 (by omega) (fun m hm => by omega)
/-- A graph that accepts whenever the pattern matches. -/
theorem least_hit {g : Gr} {l : List Nd} {t : List Nat} {r : Int} (h : ∀ n, n ≤ t.length → (GAcc g t n ↔ Hit l t n)) : GLeast g t r ↔ LeastHit l t r := by
  constructor
  · rintro (⟨n, hn, hr, h1, h2⟩ | ⟨hr, h1⟩)
    · exact Or.inl ⟨n, hn, hr, (h n hn).1 h1, fun m hm hh => h2 m hm ((h m (by omega)).2 hh)⟩
    · exact Or.inr ⟨hr, fun n hn hh => h1 n hn ((h n hn).2 hh)⟩
  · rintro (⟨n, hn, hr, h1, h2⟩ | ⟨hr, h1⟩)
    · exact Or.inl ⟨n, hn, hr, (h n hn).2 h1, fun m hm hh => h2 m hm ((h m (by omega)).1 hh)⟩
    · exact Or.inr ⟨hr, fun n hn hh => h1 n hn ((h n hn).1 hh)⟩
theorem LeastHit.one {l : List Nd} {t : List Nat} {r r' : Int} (h : LeastHit l t r) (h' : LeastHit l t r') : r = r' := by
  rcases h with ⟨n, hn, rfl, ha, hb⟩ | ⟨rfl, hb⟩
  · rcases h' with ⟨n', hn', rfl, ha', hb'⟩ | ⟨rfl, hb'⟩
    · rcases Nat.lt_trichotomy n n' with e | e | e
      · exact absurd ha (hb' n e)
      · rw [e]
      · exact absurd ha' (hb n' e)
    · exact absurd ha (hb' n hn)
  · rcases h' with ⟨n', hn', rfl, ha', hb'⟩ | ⟨rfl, hb'⟩
    · exact absurd ha' (hb n' hn')
    · rfl
end Go.Proofs.Ythadkjgadhbidaa
