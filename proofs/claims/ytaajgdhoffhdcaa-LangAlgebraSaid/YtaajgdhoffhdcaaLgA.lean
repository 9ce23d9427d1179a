/-
  Patterns as trees: what alternatives, sequences and repetitions lead to. No program in sight.
-/
import Derived.Test.YtaajgdhoffhdcaaLgT
import Derived.Test.YtaajgdhoffhdcaaLwB
namespace Go.Proofs.Ytaajgdhoffhdcaa
open Go.RowKit
set_option linter.unusedVariables false

inductive Rx
  | eps | set (s : BSet) | bol | eol | cat (a b : Rx) | alt (a b : Rx) | star (a : Rx) | plus (a : Rx) | opt (a : Rx)
deriving DecidableEq
inductive Den (t : List Nat) : Rx → Nat → Nat → Prop
  | eps (i : Nat) : Den t .eps i i
  | set (s : BSet) (i : Nat) : i < t.length → hasB s (t.getD i 0) = true → Den t (.set s) i (i + 1)
  | bol (i : Nat) : bolT t i = true → Den t .bol i i
  | eol (i : Nat) : eolT t i = true → Den t .eol i i
  | cat (a b : Rx) (i j k : Nat) : Den t a i j → Den t b j k → Den t (.cat a b) i k
  | altL (a b : Rx) (i k : Nat) : Den t a i k → Den t (.alt a b) i k
  | altR (a b : Rx) (i k : Nat) : Den t b i k → Den t (.alt a b) i k
  | star0 (a : Rx) (i : Nat) : Den t (.star a) i i
  | star1 (a : Rx) (i j k : Nat) : Den t a i j → Den t (.star a) j k → Den t (.star a) i k
  | plus0 (a : Rx) (i k : Nat) : Den t a i k → Den t (.plus a) i k
  | plus1 (a : Rx) (i j k : Nat) : Den t a i j → Den t (.plus a) j k → Den t (.plus a) i k
  | opt0 (a : Rx) (i : Nat) : Den t (.opt a) i i
  | opt1 (a : Rx) (i k : Nat) : Den t a i k → Den t (.opt a) i k
/-- The tree of a node. -/
def toRx (l : List Nd) : Nat → Nat → Rx
  | 0, _ => .eps
  | f + 1, n =>
    if (nd l n).kind = 2 then .set (nd l n).set
    else if (nd l n).kind = 8 then .bol
    else if (nd l n).kind = 9 then .eol
    else if (nd l n).kind = 3 then .cat (toRx l f (lfN l n)) (toRx l f (rtN l n))
    else if (nd l n).kind = 4 then .alt (toRx l f (lfN l n)) (toRx l f (rtN l n))
    else if (nd l n).kind = 5 then .star (toRx l f (lfN l n))
    else if (nd l n).kind = 6 then .plus (toRx l f (lfN l n))
    else if (nd l n).kind = 7 then .opt (toRx l f (lfN l n))
    else .eps
/-- What one turn of a repetition leads to, is what the repetition of its leads is. -/
theorem den_of_leads {l : List Nd} {t : List Nat} (hb : ∀ p, p < l.length → ∀ x : Nat, Kid l p x → x < p) {n i k : Nat} (h : Leads l t n i k) : ∀ f, n < f → n < l.length → Den t (toRx l f n) i k := by
  have unf : ∀ f n, toRx l (f + 1) n = _ := fun f n => rfl
  induction h with
  | empty n i hk =>
    intro f hf hn
    obtain ⟨f, rfl⟩ : ∃ g, f = g + 1 := ⟨f - 1, by omega⟩
    rw [toRx, if_neg (by omega), if_neg (by omega), if_neg (by omega), if_neg (by omega), if_neg (by omega), if_neg (by omega), if_neg (by omega), if_neg (by omega)]
    exact .eps i
  | set n i hk hi hs =>
    intro f hf hn
    obtain ⟨f, rfl⟩ : ∃ g, f = g + 1 := ⟨f - 1, by omega⟩
    rw [toRx, if_pos hk]
    exact .set _ i hi hs
  | bol n i hk hbb =>
    intro f hf hn
    obtain ⟨f, rfl⟩ : ∃ g, f = g + 1 := ⟨f - 1, by omega⟩
    rw [toRx, if_neg (by omega), if_pos hk]
    exact .bol i hbb
  | eol n i hk hbb =>
    intro f hf hn
    obtain ⟨f, rfl⟩ : ∃ g, f = g + 1 := ⟨f - 1, by omega⟩
    rw [toRx, if_neg (by omega), if_neg (by omega), if_pos hk]
    exact .eol i hbb
  | cat n a b i j k hk ha hb' _ _ i1 i2 =>
    intro f hf hn
    obtain ⟨f, rfl⟩ : ∃ g, f = g + 1 := ⟨f - 1, by omega⟩
    have ka := hb n hn a (Or.inl ⟨Or.inl hk, ha⟩)
    have kb := hb n hn b (Or.inr ⟨Or.inl hk, hb'⟩)
    rw [toRx, if_neg (by omega), if_neg (by omega), if_neg (by omega), if_pos hk, show lfN l n = a by unfold lfN; omega, show rtN l n = b by unfold rtN; omega]
    exact .cat _ _ i j k (i1 f (by omega) (by omega)) (i2 f (by omega) (by omega))
  | altL n a i k hk ha _ i1 =>
    intro f hf hn
    obtain ⟨f, rfl⟩ : ∃ g, f = g + 1 := ⟨f - 1, by omega⟩
    have ka := hb n hn a (Or.inl ⟨Or.inr (Or.inl hk), ha⟩)
    rw [toRx, if_neg (by omega), if_neg (by omega), if_neg (by omega), if_neg (by omega), if_pos hk, show lfN l n = a by unfold lfN; omega]
    exact .altL _ _ i k (i1 f (by omega) (by omega))
  | altR n b i k hk hb' _ i1 =>
    intro f hf hn
    obtain ⟨f, rfl⟩ : ∃ g, f = g + 1 := ⟨f - 1, by omega⟩
    have kb := hb n hn b (Or.inr ⟨Or.inr hk, hb'⟩)
    rw [toRx, if_neg (by omega), if_neg (by omega), if_neg (by omega), if_neg (by omega), if_pos hk, show rtN l n = b by unfold rtN; omega]
    exact .altR _ _ i k (i1 f (by omega) (by omega))
  | star0 n i hk =>
    intro f hf hn
    obtain ⟨f, rfl⟩ : ∃ g, f = g + 1 := ⟨f - 1, by omega⟩
    rw [toRx, if_neg (by omega), if_neg (by omega), if_neg (by omega), if_neg (by omega), if_neg (by omega), if_pos hk]
    exact .star0 _ i
  | star1 n a i j k hk ha _ _ i1 i2 =>
    intro f hf hn
    have h2 := i2 f hf hn
    obtain ⟨f, rfl⟩ : ∃ g, f = g + 1 := ⟨f - 1, by omega⟩
    have ka := hb n hn a (Or.inl ⟨Or.inr (Or.inr (Or.inl hk)), ha⟩)
    rw [toRx, if_neg (by omega), if_neg (by omega), if_neg (by omega), if_neg (by omega), if_neg (by omega), if_pos hk, show lfN l n = a by unfold lfN; omega] at h2 ⊢
    exact .star1 _ i j k (i1 f (by omega) (by omega)) h2
  | plus0 n a i k hk ha _ i1 =>
    intro f hf hn
    obtain ⟨f, rfl⟩ : ∃ g, f = g + 1 := ⟨f - 1, by omega⟩
    have ka := hb n hn a (Or.inl ⟨Or.inr (Or.inr (Or.inr (Or.inl hk))), ha⟩)
    rw [toRx, if_neg (by omega), if_neg (by omega), if_neg (by omega), if_neg (by omega), if_neg (by omega), if_neg (by omega), if_pos hk, show lfN l n = a by unfold lfN; omega]
    exact .plus0 _ i k (i1 f (by omega) (by omega))
  | plus1 n a i j k hk ha _ _ i1 i2 =>
    intro f hf hn
    have h2 := i2 f hf hn
    obtain ⟨f, rfl⟩ : ∃ g, f = g + 1 := ⟨f - 1, by omega⟩
    have ka := hb n hn a (Or.inl ⟨Or.inr (Or.inr (Or.inr (Or.inl hk))), ha⟩)
    rw [toRx, if_neg (by omega), if_neg (by omega), if_neg (by omega), if_neg (by omega), if_neg (by omega), if_neg (by omega), if_pos hk, show lfN l n = a by unfold lfN; omega] at h2 ⊢
    exact .plus1 _ i j k (i1 f (by omega) (by omega)) h2
  | opt0 n i hk =>
    intro f hf hn
    obtain ⟨f, rfl⟩ : ∃ g, f = g + 1 := ⟨f - 1, by omega⟩
    rw [toRx, if_neg (by omega), if_neg (by omega), if_neg (by omega), if_neg (by omega), if_neg (by omega), if_neg (by omega), if_neg (by omega), if_pos hk]
    exact .opt0 _ i
  | opt1 n a i k hk ha _ i1 =>
    intro f hf hn
    obtain ⟨f, rfl⟩ : ∃ g, f = g + 1 := ⟨f - 1, by omega⟩
    have ka := hb n hn a (Or.inl ⟨Or.inr (Or.inr (Or.inr (Or.inr hk))), ha⟩)
    rw [toRx, if_neg (by omega), if_neg (by omega), if_neg (by omega), if_neg (by omega), if_neg (by omega), if_neg (by omega), if_neg (by omega), if_pos hk, show lfN l n = a by unfold lfN; omega]
    exact .opt1 _ i k (i1 f (by omega) (by omega))
theorem leads_of_den {l : List Nd} {t : List Nat} (hK : Kin l) (hb : ∀ p, p < l.length → ∀ x : Nat, Kid l p x → x < p) (hk : ∀ n, n < l.length → (nd l n).kind = 1 ∨ (nd l n).kind = 2 ∨ (nd l n).kind = 3 ∨ (nd l n).kind = 4 ∨ (nd l n).kind = 5 ∨ (nd l n).kind = 6 ∨ (nd l n).kind = 7 ∨ (nd l n).kind = 8 ∨ (nd l n).kind = 9) :
    ∀ (f n : Nat), n < f → n < l.length → ∀ i k, Den t (toRx l f n) i k → Leads l t n i k
  | 0, n, hf, hn => by omega
  | f + 1, n, hf, hn => by
    intro i k h
    have ih := fun m hm => leads_of_den (t := t) hK hb hk f m hm
    have lf : ((nd l n).kind = 3 ∨ (nd l n).kind = 4 ∨ (nd l n).kind = 5 ∨ (nd l n).kind = 6 ∨ (nd l n).kind = 7) → lfN l n < n ∧ (nd l n).left = lfN l n := fun h => by
      have := Kid.of_lf hK hn h
      exact ⟨hb n hn _ this.1, this.2.2⟩
    have rt : ((nd l n).kind = 3 ∨ (nd l n).kind = 4) → rtN l n < n ∧ (nd l n).right = rtN l n := fun h => by
      have := Kid.of_rt hK hn h
      exact ⟨hb n hn _ this.1, this.2.2⟩
    rw [toRx] at h
    by_cases h2 : (nd l n).kind = 2
    · rw [if_pos h2] at h
      cases h with
      | set _ _ hi hs => exact .set n i h2 hi hs
    rw [if_neg h2] at h
    by_cases h8 : (nd l n).kind = 8
    · rw [if_pos h8] at h
      cases h with
      | bol _ hb' => exact .bol n i h8 hb'
    rw [if_neg h8] at h
    by_cases h9 : (nd l n).kind = 9
    · rw [if_pos h9] at h
      cases h with
      | eol _ hb' => exact .eol n i h9 hb'
    rw [if_neg h9] at h
    by_cases h3 : (nd l n).kind = 3
    · rw [if_pos h3] at h
      obtain ⟨l1, l2⟩ := lf (by omega)
      obtain ⟨r1, r2⟩ := rt (by omega)
      cases h with
      | cat _ _ _ j _ hA hB => exact .cat n _ _ i j k h3 l2 r2 (ih _ (by omega) (by omega) _ _ hA) (ih _ (by omega) (by omega) _ _ hB)
    rw [if_neg h3] at h
    by_cases h4 : (nd l n).kind = 4
    · rw [if_pos h4] at h
      obtain ⟨l1, l2⟩ := lf (by omega)
      obtain ⟨r1, r2⟩ := rt (by omega)
      cases h with
      | altL _ _ _ _ hA => exact .altL n _ i k h4 l2 (ih _ (by omega) (by omega) _ _ hA)
      | altR _ _ _ _ hB => exact .altR n _ i k h4 r2 (ih _ (by omega) (by omega) _ _ hB)
    rw [if_neg h4] at h
    by_cases h5 : (nd l n).kind = 5
    · rw [if_pos h5] at h
      obtain ⟨l1, l2⟩ := lf (by omega)
      have key : ∀ {r : Rx} {i k : Nat}, Den t r i k → r = .star (toRx l f (lfN l n)) → Leads l t n i k := by
        intro r i k hd
        induction hd with
        | star0 a i => intro e; exact .star0 n i h5
        | star1 a i j k hA hS _ ihS =>
          intro e
          injection e with e
          subst e
          exact .star1 n _ i j k h5 l2 (ih _ (by omega) (by omega) _ _ hA) (ihS rfl)
        | _ => intro e; cases e
      exact key h rfl
    rw [if_neg h5] at h
    by_cases h6 : (nd l n).kind = 6
    · rw [if_pos h6] at h
      obtain ⟨l1, l2⟩ := lf (by omega)
      have key : ∀ {r : Rx} {i k : Nat}, Den t r i k → r = .plus (toRx l f (lfN l n)) → Leads l t n i k := by
        intro r i k hd
        induction hd with
        | plus0 a i k hA _ =>
          intro e
          injection e with e
          subst e
          exact .plus0 n _ i k h6 l2 (ih _ (by omega) (by omega) _ _ hA)
        | plus1 a i j k hA hS _ ihS =>
          intro e
          injection e with e
          subst e
          exact .plus1 n _ i j k h6 l2 (ih _ (by omega) (by omega) _ _ hA) (ihS rfl)
        | _ => intro e; cases e
      exact key h rfl
    rw [if_neg h6] at h
    by_cases h7 : (nd l n).kind = 7
    · rw [if_pos h7] at h
      obtain ⟨l1, l2⟩ := lf (by omega)
      cases h with
      | opt0 _ _ => exact .opt0 n i h7
      | opt1 _ _ _ hA => exact .opt1 n _ i k h7 l2 (ih _ (by omega) (by omega) _ _ hA)
    rw [if_neg h7] at h
    cases h with
    | eps _ => exact .empty n i (by have := hk n hn; omega)
/-- The tree of a valid list. -/
def rxOf (l : List Nd) : Rx := toRx l l.length (l.length - 1)
theorem Sub.kinds {l : List Nd} {a n : Nat} (h : Sub l a n) : ∀ m, a ≤ m → m ≤ n → (nd l m).kind = 1 ∨ (nd l m).kind = 2 ∨ (nd l m).kind = 3 ∨ (nd l m).kind = 4 ∨ (nd l m).kind = 5 ∨ (nd l m).kind = 6 ∨ (nd l m).kind = 7 ∨ (nd l m).kind = 8 ∨ (nd l m).kind = 9 := by
  induction h with
  | leaf n h hk h1 h2 h3 =>
    intro m hm1 hm2
    obtain rfl : m = n := by omega
    omega
  | one a n h hk h1 h2 h3 hs ih =>
    intro m hm1 hm2
    by_cases e : m = n + 1
    · subst e; omega
    · exact ih m hm1 (by omega)
  | two a q n h hk h1 h2 h3 hs1 hs2 i1 i2 =>
    intro m hm1 hm2
    by_cases e : m = n + 1
    · subst e; omega
    · by_cases e2 : m ≤ q
      · exact i1 m hm1 e2
      · exact i2 m (by omega) (by omega)
theorem leads_den {l : List Nd} (hv : validM l = true) (t : List Nat) (i k : Nat) : Leads l t (l.length - 1) i k ↔ Den t (rxOf l) i k := by
  have h1 := (validM_len hv).1
  have hN := validM_neat hv
  constructor
  · intro h; exact den_of_leads hN.below h _ (by omega) (by omega)
  · exact leads_of_den (validM_kin hv) hN.below (fun n hn => (validM_sub hv).kinds n (Nat.zero_le _) (by omega)) _ _ (by omega) (by omega) i k
theorem den_plus {t : List Nat} {a : Rx} {i k : Nat} : Den t (.plus a) i k ↔ Den t (.cat a (.star a)) i k := by
  constructor
  · intro h
    have key : ∀ {r : Rx} {i k : Nat}, Den t r i k → r = .plus a → ∃ j, Den t a i j ∧ Den t (.star a) j k := by
      intro r i k hd
      induction hd with
      | plus0 b i k hA _ =>
        intro e
        injection e with e
        subst e
        exact ⟨k, hA, .star0 _ k⟩
      | plus1 b i j k hA hS _ ihS =>
        intro e
        injection e with e
        subst e
        obtain ⟨j', h1, h2⟩ := ihS rfl
        exact ⟨j, hA, .star1 _ j j' k h1 h2⟩
      | _ => intro e; cases e
    obtain ⟨j, h1, h2⟩ := key h rfl
    exact .cat _ _ i j k h1 h2
  · intro h
    cases h with
    | cat _ _ _ j _ hA hS =>
      have key : ∀ {r : Rx} {j k : Nat}, Den t r j k → r = .star a → ∀ i, Den t a i j → Den t (.plus a) i k := by
        intro r j k hd
        induction hd with
        | star0 b j => intro e i hi; exact .plus0 _ i j hi
        | star1 b j j' k hB hS' _ ihS =>
          intro e i hi
          injection e with e
          subst e
          exact .plus1 _ i j k hi (ihS rfl j hB)
        | _ => intro e; cases e
      exact key hS rfl i hA
theorem den_cat {t : List Nat} {a b : Rx} {i k : Nat} : Den t (.cat a b) i k ↔ ∃ j, Den t a i j ∧ Den t b j k := by
  constructor
  · intro h
    cases h with
    | cat _ _ _ j _ h1 h2 => exact ⟨j, h1, h2⟩
  · rintro ⟨j, h1, h2⟩; exact .cat _ _ i j k h1 h2
theorem den_alt {t : List Nat} {a b : Rx} {i k : Nat} : Den t (.alt a b) i k ↔ Den t a i k ∨ Den t b i k := by
  constructor
  · intro h
    cases h with
    | altL _ _ _ _ h => exact Or.inl h
    | altR _ _ _ _ h => exact Or.inr h
  · rintro (h | h)
    · exact .altL _ _ i k h
    · exact .altR _ _ i k h
def altJ (a b : Rx) : Rx := match b with
  | .alt c d => .alt (.alt a c) d
  | b => .alt a b
theorem den_altJ {t : List Nat} {a b : Rx} {i k : Nat} : Den t (altJ a b) i k ↔ Den t a i k ∨ Den t b i k := by
  cases b with
  | alt c d => show Den t (.alt (.alt a c) d) i k ↔ _; rw [den_alt, den_alt, den_alt, or_assoc]
  | _ => exact den_alt
def rp (s : List Nat) : List Nd := (parseR s).1
def pt (i : Nat) : List Nat := pats.getD i []
def sAlt (i k : Nat) : List Nat := pt i ++ [124] ++ pt k
def sCat (i k : Nat) : List Nat := [40] ++ pt i ++ [41, 40] ++ pt k ++ [41]
def sPlus (i : Nat) : List Nat := [40] ++ pt i ++ [41, 43]
def sTwice (i : Nat) : List Nat := [40] ++ pt i ++ [41, 40] ++ pt i ++ [41, 42]
theorem pt_valid : ∀ i, i < 7 → validM (rp (pt i)) = true ∧ validM (rp (sPlus i)) = true ∧ validM (rp (sTwice i)) = true ∧ rxOf (rp (sPlus i)) = .plus (rxOf (rp (pt i))) ∧ rxOf (rp (sTwice i)) = .cat (rxOf (rp (pt i))) (.star (rxOf (rp (pt i)))) := by decide +kernel
theorem pt_valid2 : ∀ i, i < 7 → ∀ k, k < 7 → validM (rp (sAlt i k)) = true ∧ validM (rp (sCat i k)) = true ∧ rxOf (rp (sAlt i k)) = altJ (rxOf (rp (pt i))) (rxOf (rp (pt k))) ∧ rxOf (rp (sCat i k)) = .cat (rxOf (rp (pt i))) (rxOf (rp (pt k))) := by decide +kernel
end Go.Proofs.Ytaajgdhoffhdcaa
