/-
  The plain functions behind package frame. No program in sight.
-/
import Derived.Laws.BitsAllLaws
import Derived.IntWalk
namespace Go.Proofs.Ytlpaemlgmmmbmaa
set_option linter.unusedVariables false
namespace Fr
abbrev B := List UInt8
def enc (b : B) : B := [0, 0, UInt8.ofNat (b.length / 256), UInt8.ofNat b.length] ++ b
/-- The number in the first four bytes. -/
def num (l : B) : Nat := (l.getD 0 0).toNat * 16777216 + (l.getD 1 0).toNat * 65536 + (l.getD 2 0).toNat * 256 + (l.getD 3 0).toNat
/-- 0: fewer bytes are left than a frame has; 1: too great a number; 2: a frame. -/
def look (l : B) : Nat := if l.length < 4 then 0 else if 4096 < num l then 1 else if l.length < 4 + num l then 0 else 2
/-- Payloads and bytes behind k frames. -/
def st (b : B) : Nat → List B × Nat
  | 0 => ([], 0)
  | k + 1 => if look (b.drop (st b k).2) = 2 then ((st b k).1 ++ [((b.drop (st b k).2).drop 4).take (num (b.drop (st b k).2))], (st b k).2 + 4 + num (b.drop (st b k).2)) else st b k
def fin (b : B) : List B × Nat := st b b.length
def code (b : B) : Int := if look (b.drop (fin b).2) = 1 then 1 else 0
theorem look_frame {l : B} (h : look l = 2) : 4 + num l ≤ l.length ∧ num l ≤ 4096 := by
  unfold look at h
  split at h
  · cases h
  · split at h
    · cases h
    · split at h
      · cases h
      · omega
theorem st_go {b : B} {k : Nat} (h : look (b.drop (st b k).2) = 2) : st b (k + 1) = ((st b k).1 ++ [((b.drop (st b k).2).drop 4).take (num (b.drop (st b k).2))], (st b k).2 + 4 + num (b.drop (st b k).2)) := by
  rw [st, if_pos h]
theorem st_stop {b : B} {k : Nat} (h : look (b.drop (st b k).2) ≠ 2) : ∀ j, st b (k + j) = st b k := by
  intro j
  induction j with
  | zero => rfl
  | succ j ih => rw [← Nat.add_assoc, st, ih, if_neg h]
theorem st_le (b : B) (k : Nat) : (st b k).2 ≤ b.length := by
  induction k with
  | zero => exact Nat.zero_le _
  | succ k ih =>
    by_cases h : look (b.drop (st b k).2) = 2
    · rw [st_go h]
      have := (look_frame h).1
      simp at this; simp only; omega
    · rw [st_stop h 1]; exact ih
/-- Where it stops it is what comes of all. -/
theorem fin_of {b : B} {k : Nat} (h : look (b.drop (st b k).2) ≠ 2) (hk : k ≤ b.length) : fin b = st b k := by
  have := st_stop h (b.length - k)
  rw [show k + (b.length - k) = b.length by omega] at this
  exact this
theorem st_len (b : B) (k : Nat) : (st b k).1.length ≤ k := by
  induction k with
  | zero => exact Nat.le_refl _
  | succ k ih =>
    by_cases h : look (b.drop (st b k).2) = 2
    · rw [st_go h]; simp; omega
    · rw [st_stop h 1]; omega
theorem num_lt (l : B) : num l < 4294967296 := by
  unfold num
  have h0 := (l.getD 0 0).toNat_lt
  have h1 := (l.getD 1 0).toNat_lt
  have h2 := (l.getD 2 0).toNat_lt
  have h3 := (l.getD 3 0).toNat_lt
  omega
/-- Four bytes by shifts. -/
theorem joined (a b c d : Nat) (hb : b < 256) (hc : c < 256) (hd : d < 256) : ((a * 16777216 ||| b * 65536) ||| c * 256) ||| d = a * 16777216 + b * 65536 + c * 256 + d := by
  rw [Go.nat_join 24 (a * 16777216) (b * 65536) (by simp) (by omega)]
  rw [Go.nat_join 16 (a * 16777216 + b * 65536) (c * 256) (by omega) (by omega)]
  rw [Go.nat_join 8 _ d (by omega) (by omega)]
theorem or4_u32 (a b c d : Nat) (ha : a < 256) (hb : b < 256) (hc : c < 256) (hd : d < 256) :
    Go.bits .or .u32 (Go.bits .or .u32 (Go.bits .or .u32 ((a : Int) * 16777216) ((b : Int) * 65536)) ((c : Int) * 256)) (d : Int) = ((a * 16777216 + b * 65536 + c * 256 + d : Nat) : Int) := by
  have h1 : ((a : Int) * 16777216) = ((a * 16777216 : Nat) : Int) := by omega
  have h2 : ((b : Int) * 65536) = ((b * 65536 : Nat) : Int) := by omega
  have h3 : ((c : Int) * 256) = ((c * 256 : Nat) : Int) := by omega
  have e1 := Go.nat_join 24 (a * 16777216) (b * 65536) (by omega) (by omega)
  have e2 := Go.nat_join 16 (a * 16777216 + b * 65536) (c * 256) (by omega) (by omega)
  have e3 := Go.nat_join 8 (a * 16777216 + b * 65536 + c * 256) d (by omega) (by omega)
  rw [h1, h2, h3, Go.u32_or_nat _ _ (by omega) (by omega), e1, Go.u32_or_nat _ _ (by omega) (by omega), e2, Go.u32_or_nat _ _ (by omega) (by omega), e3]
theorem ofInt_i64 (a : Nat) (ha : a < 9223372036854775808) : (BitVec.ofInt 64 (a : Int)).toNat = a := by
  rw [BitVec.ofInt_natCast, BitVec.toNat_ofNat]; exact Nat.mod_eq_of_lt (by omega)
theorem i64_or (a b : Nat) (ha : a < 9223372036854775808) (hb : b < 9223372036854775808) : Go.bits .or .i64 (a : Int) (b : Int) = ((a ||| b : Nat) : Int) := by
  have hx : a ||| b < 2 ^ 63 := Nat.or_lt_two_pow (by omega) (by omega)
  show Go.IntKind.i64.wrap ((BitVec.ofInt 64 (a : Int) ||| BitVec.ofInt 64 (b : Int)).toNat : Int) = _
  rw [BitVec.toNat_or, ofInt_i64 a ha, ofInt_i64 b hb, Go.IntKind.wrap_i64]
  omega
theorem or4_i64 (a b c d : Nat) (ha : a < 256) (hb : b < 256) (hc : c < 256) (hd : d < 256) :
    Go.bits .or .i64 (Go.bits .or .i64 (Go.bits .or .i64 ((a : Int) * 16777216) ((b : Int) * 65536)) ((c : Int) * 256)) (d : Int) = ((a * 16777216 + b * 65536 + c * 256 + d : Nat) : Int) := by
  have h1 : ((a : Int) * 16777216) = ((a * 16777216 : Nat) : Int) := by omega
  have h2 : ((b : Int) * 65536) = ((b * 65536 : Nat) : Int) := by omega
  have h3 : ((c : Int) * 256) = ((c * 256 : Nat) : Int) := by omega
  have e1 := Go.nat_join 24 (a * 16777216) (b * 65536) (by omega) (by omega)
  have e2 := Go.nat_join 16 (a * 16777216 + b * 65536) (c * 256) (by omega) (by omega)
  have e3 := Go.nat_join 8 (a * 16777216 + b * 65536 + c * 256) d (by omega) (by omega)
  rw [h1, h2, h3, i64_or _ _ (by omega) (by omega), e1, i64_or _ _ (by omega) (by omega), e2, i64_or _ _ (by omega) (by omega), e3]
end Fr
end Go.Proofs.Ytlpaemlgmmmbmaa
