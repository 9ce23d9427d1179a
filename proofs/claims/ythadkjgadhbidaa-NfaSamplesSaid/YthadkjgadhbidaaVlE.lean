/-
  Two sets are compared.
-/
import Derived.Test.YthadkjgadhbidaaRxN
import Derived.Laws.StructEq
namespace Go.Proofs.Ythadkjgadhbidaa
open Go.RowKit
set_option linter.unusedVariables false

theorem run_equalIn_arr4 {P : Program} (n : Nat) (t u : TypeId) (ht : P.underlying t = some (.array 4 u)) (hsz : ∀ W : World, (sizeOf u).run P W = .ok 1 W) (hia : ∀ W : World, (isAgg u).run P W = .ok false W)
    (hi : ∀ (x y : Int) (W : World), (Op.equalIn n u (.int .u64 x) (.int .u64 y)).run P W = .ok (x == y) W) (a b c d e f g h : Int) (W : World) :
    (Op.equalIn (n + 1) t (.agg #[.int .u64 a, .int .u64 b, .int .u64 c, .int .u64 d]) (.agg #[.int .u64 e, .int .u64 f, .int .u64 g, .int .u64 h])).run P W = .ok (a == e && (b == f && (c == g && d == h))) W := by
  simp only [Op.equalIn, Sem.run_bind, run_underlying ht, Result.andThen_ok, hsz]
  rw [Std.Legacy.Range.forIn_eq_forIn_range']
  simp only [Std.Legacy.Range.size, show (4 - 0 + 1 - 1) / 1 = 4 by rfl, show List.range' 0 4 1 = [0, 1, 2, 3] by rfl, List.forIn_cons, List.forIn_nil, part, Sem.run_bind, hia, Result.andThen_ok, Bool.false_eq_true, if_false]
  have k0 : ∀ (v0 v1 v2 v3 : Value), #[v0, v1, v2, v3][0 * 1]? = some v0 := fun _ _ _ _ => rfl
  have k1 : ∀ (v0 v1 v2 v3 : Value), #[v0, v1, v2, v3][1 * 1]? = some v1 := fun _ _ _ _ => rfl
  have k2 : ∀ (v0 v1 v2 v3 : Value), #[v0, v1, v2, v3][2 * 1]? = some v2 := fun _ _ _ _ => rfl
  have k3 : ∀ (v0 v1 v2 v3 : Value), #[v0, v1, v2, v3][3 * 1]? = some v3 := fun _ _ _ _ => rfl
  simp only [k0, k1, k2, k3, Sem.run_pure, Result.andThen_ok, hi]
  cases he1 : (a == e)
  · simp
  simp only [Bool.not_true, Bool.false_eq_true, if_false, Sem.run_pure, Result.andThen_ok, Sem.run_bind, hia, hi]
  cases he2 : (b == f)
  · simp
  simp only [Bool.not_true, Bool.false_eq_true, if_false, Sem.run_pure, Result.andThen_ok, Sem.run_bind, hia, hi]
  cases he3 : (c == g)
  · simp
  simp only [Bool.not_true, Bool.false_eq_true, if_false, Sem.run_pure, Result.andThen_ok, Sem.run_bind, hia, hi]
  cases he4 : (d == h)
  · simp
  simp
set_option maxRecDepth 100000 in
theorem set_eq (a b c d e f g h : Int) (W : World) : (Op.equalIn 10000 40 (.agg #[.int .u64 a, .int .u64 b, .int .u64 c, .int .u64 d]) (.agg #[.int .u64 e, .int .u64 f, .int .u64 g, .int .u64 h])).run Try.prog W = .ok (a == e && (b == f && (c == g && d == h))) W :=
  run_equalIn_arr4 9999 _ _ Try.underlying39 (fun _ => by kernel_rfl) (fun _ => by kernel_rfl) (fun x y W => run_equalIn_int W 9998 _ .u64 .u64 x y Try.underlying38) a b c d e f g h W
/-- Whether a set has no byte. -/
theorem set_zero (s : BSet) (hs : setOk s) (W : World) : (Op.equalIn 10000 40 (.agg #[.int .u64 (setW s 0), .int .u64 (setW s 1), .int .u64 (setW s 2), .int .u64 (setW s 3)]) (.agg #[.int .u64 0, .int .u64 0, .int .u64 0, .int .u64 0])).run Try.prog W = .ok (decide (s = 0)) W := by
  rw [set_eq]
  congr 1
  rw [Bool.eq_iff_iff]
  simp only [Bool.and_eq_true, beq_iff_eq, decide_eq_true_eq]
  constructor
  · rintro ⟨h0, h1, h2, h3⟩
    refine set_ext hs (by decide) (fun i hi => ?_)
    rw [setW_zero]
    have : i = 0 ∨ i = 1 ∨ i = 2 ∨ i = 3 := by omega
    rcases this with rfl | rfl | rfl | rfl <;> omega
  · rintro rfl
    rw [setW_zero, setW_zero, setW_zero, setW_zero]
    exact ⟨rfl, rfl, rfl, rfl⟩
end Go.Proofs.Ythadkjgadhbidaa
