/-
  The plain functions behind package ticks and its reference: saturating sums, differences, doublings, delays, over Int. No program in sight.
-/
import Derived.Lib.BitFns
namespace Go.Proofs.Ytpknglclcdgfbaa
namespace Tk

/-- The greatest number of 64 bits. -/
def M : Int := 18446744073709551615
theorem M_eq : M = 18446744073709551615 := rfl

/-- A number of 64 bits. -/
def U (x : Int) : Prop := 0 ≤ x ∧ x ≤ 18446744073709551615

def add (a b : Int) : Int := if a + b ≤ 18446744073709551615 then a + b else 18446744073709551615
def sub (a b : Int) : Int := if a < b then 0 else a - b
def dblN : Nat → Int → Int
  | 0, a => a
  | n + 1, a => dblN n (add a a)
def dbl (a n : Int) : Int := dblN n.toNat a
def low (a b : Int) : Int := if b < a then b else a
def delay (base limit n jitter : Int) : Int := add (low limit (dbl base n)) jitter

theorem U_add {a b : Int} (ha : U a) (hb : U b) : U (add a b) := by
  unfold U add at *; split <;> omega
theorem U_sub {a b : Int} (ha : U a) (hb : U b) : U (sub a b) := by
  unfold U sub at *; split <;> omega
theorem U_dblN (n : Nat) : ∀ {a : Int}, U a → U (dblN n a) := by
  induction n with
  | zero => intro a h; exact h
  | succ n ih => intro a h; exact ih (U_add h h)
theorem U_dbl {a : Int} (n : Int) (h : U a) : U (dbl a n) := U_dblN _ h
theorem U_low {a b : Int} (ha : U a) (hb : U b) : U (low a b) := by
  unfold U low at *; split <;> omega
theorem U_delay {a b c : Int} (n : Int) (ha : U a) (hb : U b) (hc : U c) : U (delay a b n c) := U_add (U_low hb (U_dbl n ha)) hc

/-- The closed form of doubling. -/
theorem dblN_eq (n : Nat) : ∀ {a : Int}, U a → dblN n a = if a * 2 ^ n ≤ 18446744073709551615 then a * 2 ^ n else 18446744073709551615 := by
  induction n with
  | zero => intro a h; unfold U at h; simp [dblN]; omega
  | succ n ih =>
    intro a h
    have hp : (1 : Int) ≤ 2 ^ n := by
      have := Int.pow_pos (n := 2) (m := n) (by omega)
      omega
    rw [dblN, ih (U_add h h)]
    have e : a * 2 ^ (n + 1) = (a + a) * 2 ^ n := by rw [Int.pow_succ, Int.add_mul, ← Int.mul_assoc]; omega
    rw [e]
    unfold U at h
    unfold add
    by_cases h1 : a + a ≤ 18446744073709551615
    · rw [if_pos h1]
    · rw [if_neg h1]
      have h2 : (18446744073709551615 : Int) * 1 ≤ 18446744073709551615 * 2 ^ n := Int.mul_le_mul_of_nonneg_left hp (by omega)
      have h3 : (a + a) * 1 ≤ (a + a) * 2 ^ n := Int.mul_le_mul_of_nonneg_left hp (by omega)
      have hA : ¬ (a + a) * 2 ^ n ≤ 18446744073709551615 := by omega
      rw [if_neg hA]
      by_cases h4 : (18446744073709551615 : Int) * 2 ^ n ≤ 18446744073709551615
      · rw [if_pos h4]; omega
      · rw [if_neg h4]

theorem dblN_zero (n : Nat) : dblN n 0 = 0 := by
  induction n with
  | zero => rfl
  | succ n ih => exact ih
theorem dblN_max (n : Nat) : dblN n 18446744073709551615 = 18446744073709551615 := by
  induction n with
  | zero => rfl
  | succ n ih =>
    have : add 18446744073709551615 18446744073709551615 = 18446744073709551615 := rfl
    rw [dblN, this]; exact ih
theorem dblN_add (n m : Nat) : ∀ a : Int, dblN (n + m) a = dblN m (dblN n a) := by
  induction n with
  | zero => intro a; simp [dblN]
  | succ n ih => intro a; rw [Nat.succ_add, dblN, ih]; rfl
/-- One doubling more, at the end. -/
theorem dblN_succ (n : Nat) (a : Int) : dblN (n + 1) a = add (dblN n a) (dblN n a) := by
  rw [dblN_add n 1 a]; rfl

/-! ### What Double's test on the leading zeros decides -/
theorem lenAux_bounds : ∀ (f x : Nat), x < 2 ^ f → x ≠ 0 → 1 ≤ Lib.bitLenAux f x ∧ 2 ^ (Lib.bitLenAux f x - 1) ≤ x ∧ x < 2 ^ Lib.bitLenAux f x ∧ Lib.bitLenAux f x ≤ f := by
  intro f
  induction f with
  | zero => intro x h h0; simp at h; omega
  | succ f ih =>
    intro x h h0
    rw [Lib.bitLenAux, if_neg h0]
    by_cases h1 : x / 2 = 0
    · have hx : x = 1 := by omega
      subst hx
      have hz : Lib.bitLenAux f 0 = 0 := by cases f <;> simp [Lib.bitLenAux]
      have : (1 : Nat) / 2 = 0 := rfl
      rw [this, hz]; simp
    · obtain ⟨a1, a2, a3, a4⟩ := ih (x / 2) (by rw [Nat.pow_succ] at h; omega) h1
      generalize Lib.bitLenAux f (x / 2) = L at *
      obtain ⟨l, rfl⟩ : ∃ l, L = l + 1 := ⟨L - 1, by omega⟩
      have e1 : 1 + (l + 1) - 1 = l + 1 := by omega
      have e2 : l + 1 - 1 = l := by omega
      rw [e1]; rw [e2] at a2
      have e3 : (2 : Nat) ^ (1 + (l + 1)) = 2 * 2 ^ (l + 1) := by rw [Nat.add_comm, Nat.pow_succ]; omega
      have e4 : (2 : Nat) ^ (l + 1) = 2 * 2 ^ l := by rw [Nat.pow_succ]; omega
      rw [e3]
      omega
theorem bitLen_bounds {a : Int} (h : U a) (h0 : ¬ a = 0) : 1 ≤ Lib.bitLen a.toNat ∧ (2 : Int) ^ (Lib.bitLen a.toNat - 1) ≤ a ∧ a < (2 : Int) ^ Lib.bitLen a.toNat ∧ Lib.bitLen a.toNat ≤ 64 := by
  obtain ⟨h1, h2⟩ := h
  obtain ⟨n, rfl⟩ := Int.eq_ofNat_of_zero_le h1
  have hb := lenAux_bounds 64 n (by omega) (by omega)
  have hl := hb.2.2.2
  rw [Int.toNat_natCast]
  refine ⟨hb.1, ?_, ?_, hl⟩
  · have := hb.2.1
    exact_mod_cast this
  · have := hb.2.2.1
    exact_mod_cast this
theorem dbl_big {a n : Int} (h : U a) (h0 : ¬ a = 0) (hn : 64 - (Lib.bitLen a.toNat : Int) < n) : dbl a n = 18446744073709551615 := by
  obtain ⟨b1, b2, b3, b4⟩ := bitLen_bounds h h0
  unfold dbl
  rw [dblN_eq n.toNat h, if_neg ?_]
  have hk : 65 - Lib.bitLen a.toNat ≤ n.toNat := by omega
  have e1 : (2 : Int) ^ (65 - Lib.bitLen a.toNat) ≤ 2 ^ n.toNat := by
    have := Nat.pow_le_pow_right (n := 2) (by omega) hk
    exact_mod_cast this
  have e2 : (2 : Int) ^ (Lib.bitLen a.toNat - 1) * 2 ^ (65 - Lib.bitLen a.toNat) = 18446744073709551616 := by
    rw [← Int.pow_add, show Lib.bitLen a.toNat - 1 + (65 - Lib.bitLen a.toNat) = 64 from by omega]; rfl
  have p1 : (0 : Int) ≤ 2 ^ (65 - Lib.bitLen a.toNat) := Int.le_of_lt (Int.pow_pos (by omega))
  have e3 := Int.mul_le_mul_of_nonneg_right b2 p1
  have e4 := Int.mul_le_mul_of_nonneg_left e1 h.1
  omega
theorem dbl_fit {a n : Int} (h : U a) (h0 : ¬ a = 0) (h1 : 0 < n) (hn : n ≤ 64 - (Lib.bitLen a.toNat : Int)) : a * 2 ^ n.toNat = dbl a n ∧ U (a * 2 ^ n.toNat) := by
  obtain ⟨b1, b2, b3, b4⟩ := bitLen_bounds h h0
  have hk : n.toNat ≤ 64 - Lib.bitLen a.toNat := by omega
  have e1 : (2 : Int) ^ n.toNat ≤ 2 ^ (64 - Lib.bitLen a.toNat) := by
    have := Nat.pow_le_pow_right (n := 2) (by omega) hk
    exact_mod_cast this
  have e2 : (2 : Int) ^ Lib.bitLen a.toNat * 2 ^ (64 - Lib.bitLen a.toNat) = 18446744073709551616 := by
    rw [← Int.pow_add, show Lib.bitLen a.toNat + (64 - Lib.bitLen a.toNat) = 64 from by omega]; rfl
  have p1 : (0 : Int) < 2 ^ (64 - Lib.bitLen a.toNat) := Int.pow_pos (by omega)
  have e3 := Int.mul_lt_mul_of_pos_right b3 p1
  have e4 := Int.mul_le_mul_of_nonneg_left e1 h.1
  have e5 : 0 ≤ a * 2 ^ n.toNat := Int.mul_nonneg h.1 (Int.le_of_lt (Int.pow_pos (by omega)))
  have hu : U (a * 2 ^ n.toNat) := ⟨e5, by omega⟩
  refine ⟨?_, hu⟩
  unfold dbl
  rw [dblN_eq n.toNat h, if_pos hu.2]
theorem dbl_low {a n : Int} (hn : n ≤ 0) : dbl a n = a := by
  unfold dbl; rw [Int.toNat_of_nonpos hn]; rfl
theorem dbl_zero (n : Int) : dbl 0 n = 0 := dblN_zero _
/-- What is left when the loop of the reference ends after k rounds. -/
theorem dbl_from {a n : Int} (k : Nat) (hk : (k : Int) ≤ max n 0) : dbl a n = dblN (n.toNat - k) (dblN k a) := by
  unfold dbl
  rw [← dblN_add, show k + (n.toNat - k) = n.toNat by omega]
theorem dbl_end {a n : Int} (k : Nat) (hk : (k : Int) ≤ max n 0) (hge : ¬ (k : Int) < n) : dblN k a = dbl a n := by
  unfold dbl
  rw [show n.toNat = k by omega]
theorem dbl_end0 {a n : Int} (k : Nat) (hk : (k : Int) ≤ max n 0) (h : dblN k a = 0) : dbl a n = 0 := by
  rw [dbl_from k hk, h, dblN_zero]
theorem dbl_endM {a n : Int} (k : Nat) (hk : (k : Int) ≤ max n 0) (h : dblN k a = 18446744073709551615) : dbl a n = 18446744073709551615 := by
  rw [dbl_from k hk, h, dblN_max]

/-! ### Monotony -/
theorem add_mono {a b c d : Int} (h1 : a ≤ c) (h2 : b ≤ d) : add a b ≤ add c d := by
  unfold add; repeat' split
  all_goals omega
theorem le_add {a b : Int} (ha : U a) (hb : U b) : a ≤ add a b ∧ b ≤ add a b := by
  obtain ⟨_, _⟩ := ha; obtain ⟨_, _⟩ := hb
  unfold add; split <;> omega
theorem low_mono {a b c d : Int} (h1 : a ≤ c) (h2 : b ≤ d) : low a b ≤ low c d := by
  unfold low; repeat' split
  all_goals omega
theorem dblN_mono (n : Nat) : ∀ {a b : Int}, a ≤ b → dblN n a ≤ dblN n b := by
  induction n with
  | zero => intro a b h; exact h
  | succ n ih => intro a b h; exact ih (add_mono h h)
theorem le_dblN (n : Nat) : ∀ {a : Int}, U a → a ≤ dblN n a := by
  induction n with
  | zero => intro a _; exact Int.le_refl _
  | succ n ih => intro a h; exact Int.le_trans (le_add h h).1 (ih (U_add h h))
theorem dbl_mono {a b n m : Int} (ha : U a) (hab : a ≤ b) (hnm : n ≤ m) : dbl a n ≤ dbl b m := by
  unfold dbl
  have e : m.toNat = n.toNat + (m.toNat - n.toNat) := by omega
  rw [e, dblN_add]
  exact Int.le_trans (le_dblN (m.toNat - n.toNat) (U_dblN _ ha)) (dblN_mono _ (dblN_mono _ hab))
theorem delay_mono {a b l k n m j i : Int} (ha : U a) (hab : a ≤ b) (hl : l ≤ k) (hnm : n ≤ m) (hj : j ≤ i) : delay a l n j ≤ delay b k m i :=
  add_mono (low_mono hl (dbl_mono ha hab hnm)) hj
theorem low_eq {a b : Int} : low a b = min a b := by unfold low; split <;> omega
theorem delay_least {a l n j : Int} (ha : U a) (hl : U l) (hj : U j) : min a l ≤ delay a l n j ∧ j ≤ delay a l n j := by
  unfold delay
  have hd : a ≤ dbl a n := le_dblN _ ha
  have h := le_add (U_low hl (U_dbl n ha)) hj
  rw [low_eq] at *
  refine ⟨?_, h.2⟩
  omega
theorem delay_full {a l n m j : Int} (ha : U a) (hnm : n ≤ m) (h : ¬ dbl a n < l) : delay a l m j = add l j := by
  unfold delay
  have := dbl_mono ha (Int.le_refl a) hnm
  rw [show low l (dbl a m) = l by rw [low_eq]; omega]
theorem dbl_twice {a n m : Int} (hn : 0 ≤ n) (hm : 0 ≤ m) : dbl (dbl a n) m = dbl a (n + m) := by
  unfold dbl
  rw [show (n + m).toNat = n.toNat + m.toNat by omega, dblN_add]

end Tk
end Go.Proofs.Ytpknglclcdgfbaa
