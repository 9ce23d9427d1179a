/-
  Helpers of the statement LangAlgebra: has; the lists that it makes.
-/
import Derived.Test.YtaajgdhoffhdcaaLwL
import Derived.Test.YtaajgdhoffhdcaaLgA
namespace Go.Proofs.Ytaajgdhoffhdcaa
open Go.RowKit Classical
set_option linter.unusedVariables false

set_option maxHeartbeats 2000000 in
set_option maxRecDepth 100000 in
theorem hasIn (A : Option Addr) (c : Nat) (x : List Nat) (n : Nat) (w : World) (hr : Rs w A (spz x)) (hm : x.length ≤ 1000000) : Calls Try.prog 23 #[.slice A x.length c, .int .i64 (n : Int)] w (ValSame (.bool (decide (n ∈ x))) w) := by
  go_enter Try.func23, Try.ntmps23
  go_wp2_with fail
  go_loop [9] (fun s9 => ∃ k : Nat, s9 = .int .i64 k ∧ k ≤ x.length ∧ Hid (n ∉ x.take k)) (fun s9 => x.length - (intOf s9).toNat)
  case atStart => exact ⟨0, rfl, Nat.zero_le _, Lib.hid (by simp)⟩
  case round =>
    obtain ⟨k, rfl, hk, HN⟩ := hrel
    by_cases hlt : k < x.length
    · obtain ⟨b, off, rfl, _, hcl⟩ := hr.at_ (by rw [spz_length]; omega)
      have q1 := hcl _ _ (spz_get x k hlt)
      have hx : x[k]? = some (x.getD k 0) := by rw [List.getD_eq_getElem?_getD, List.getElem?_eq_getElem hlt]; rfl
      have HX := Lib.hid hx
      have i1 : (0 : Int) ≤ (k : Int) := by omega
      have i2 : (k : Int) < (x.length : Int) := by omega
      clear hcl hx
      generalize x.getD k 0 = y at *
      by_cases hy : y = n
      · have e1 : ((y : Int) == (n : Int)) = true := by simp; omega
        have HM : Hid (decide (n ∈ x) = true) := Lib.hid (decide_eq_true (hy ▸ List.mem_of_getElem? HX.out))
        clear hy
        go_wp2_with fail
        go_ret
        rw [HM.out]
        exact ⟨rfl, rfl⟩
      · have e1 : ((y : Int) == (n : Int)) = false := by simp; omega
        have HN2 : Hid (n ∉ x.take (k + 1)) := Lib.hid (by
          rw [List.take_add_one, HX.out, List.mem_append]
          rintro (h | h)
          · exact HN.out h
          · simp at h; exact hy h.symm)
        clear hy
        go_wp2_with fail
        go_round
        case rel => exact ⟨k + 1, by go_num, by omega, HN2⟩
        case measure => simp [intOf]; omega
    · have HM : Hid (decide (n ∈ x) = false) := Lib.hid (decide_eq_false (by have := HN.out; rwa [List.take_of_length_le (by omega)] at this))
      go_wp2_with fail
      go_ret
      rw [HM.out]
      exact ⟨rfl, rfl⟩
theorem mem_ends {l : List Nd} (hv : validM l = true) (t : List Nat) (a : Nat) (ha : a ≤ t.length) (n : Nat) : n ∈ endsM l t a ↔ n < t.length + 1 ∧ Den t (rxOf l) a n := by
  rw [ends_law hv t a ha, List.mem_filter, List.mem_range, decide_eq_true_iff, leads_den hv]
theorem filter_same (n : Nat) (p q : Nat → Bool) (h : ∀ k, k < n → p k = q k) : (List.range n).filter p = (List.range n).filter q :=
  List.filter_congr (fun k hk => h k (List.mem_range.mp hk))
/-- The places of either. -/
def zM (x y : List Nat) (n : Nat) : List Nat := (List.range n).filter (fun j => decide (j ∈ x) || decide (j ∈ y))
def anyM (b : List Nd) (t x : List Nat) (n : Nat) : Bool := x.any (fun m => decide (n ∈ endsM b t m))
/-- The places of one after the other. -/
def wM (b : List Nd) (t x : List Nat) (n : Nat) : List Nat := (List.range n).filter (anyM b t x)
theorem zM_succ (x y : List Nat) (n : Nat) : zM x y (n + 1) = if (decide (n ∈ x) || decide (n ∈ y)) = true then zM x y n ++ [n] else zM x y n := by
  unfold zM
  rw [List.range_succ, List.filter_append]
  split
  · rename_i h; simp [h]
  · rename_i h; simp [h]
theorem wM_succ (b : List Nd) (t x : List Nat) (n : Nat) : wM b t x (n + 1) = if anyM b t x n = true then wM b t x n ++ [n] else wM b t x n := by
  unfold wM
  rw [List.range_succ, List.filter_append]
  split
  · rename_i h; simp [h]
  · rename_i h; simp [h]
theorem wM_lt (b : List Nd) (t x : List Nat) (n : Nat) : n ∉ wM b t x n := by
  unfold wM
  intro h
  have := List.mem_range.mp (List.mem_filter.mp h).1
  omega
theorem zM_len (x y : List Nat) (n : Nat) : (zM x y n).length ≤ n := by
  unfold zM; exact Nat.le_trans (List.length_filter_le _ _) (by simp)
theorem wM_len (b : List Nd) (t x : List Nat) (n : Nat) : (wM b t x n).length ≤ n := by
  unfold wM; exact Nat.le_trans (List.length_filter_le _ _) (by simp)
theorem alg_alt {i k : Nat} (hi : i < 7) (hk : k < 7) (t : List Nat) (a : Nat) (ha : a ≤ t.length) : endsM (rp (sAlt i k)) t a = zM (endsM (rp (pt i)) t a) (endsM (rp (pt k)) t a) (t.length + 1) := by
  obtain ⟨v1, v2, e1, e2⟩ := pt_valid2 i hi k hk
  have vi := (pt_valid i hi).1
  have vk := (pt_valid k hk).1
  rw [ends_law v1 t a ha]
  unfold zM
  refine filter_same _ _ _ (fun n hn => ?_)
  rw [Bool.eq_iff_iff, Bool.or_eq_true, decide_eq_true_iff, decide_eq_true_iff, decide_eq_true_iff, leads_den v1, e1, den_altJ, mem_ends vi t a ha, mem_ends vk t a ha]
  constructor
  · rintro (h | h)
    · exact Or.inl ⟨hn, h⟩
    · exact Or.inr ⟨hn, h⟩
  · rintro (h | h)
    · exact Or.inl h.2
    · exact Or.inr h.2
theorem Den.le_ {t : List Nat} {r : Rx} {i k : Nat} (h : Den t r i k) : i ≤ k ∧ (i ≤ t.length → k ≤ t.length) := by
  induction h <;> constructor <;> omega
theorem alg_cat {i k : Nat} (hi : i < 7) (hk : k < 7) (t : List Nat) (a : Nat) (ha : a ≤ t.length) : endsM (rp (sCat i k)) t a = wM (rp (pt k)) t (endsM (rp (pt i)) t a) (t.length + 1) := by
  obtain ⟨v1, v2, e1, e2⟩ := pt_valid2 i hi k hk
  have vi := (pt_valid i hi).1
  have vk := (pt_valid k hk).1
  rw [ends_law v2 t a ha]
  unfold wM anyM
  refine filter_same _ _ _ (fun n hn => ?_)
  rw [Bool.eq_iff_iff, List.any_eq_true, decide_eq_true_iff, leads_den v2, e2, den_cat]
  constructor
  · rintro ⟨m, h1, h2⟩
    have hm := h1.le_.2 ha
    exact ⟨m, (mem_ends vi t a ha m).2 ⟨by omega, h1⟩, decide_eq_true ((mem_ends vk t m hm n).2 ⟨hn, h2⟩)⟩
  · rintro ⟨m, h1, h2⟩
    have h3 := (mem_ends vi t a ha m).1 h1
    exact ⟨m, h3.2, ((mem_ends vk t m (by omega) n).1 (of_decide_eq_true h2)).2⟩
theorem alg_plus {i : Nat} (hi : i < 7) (t : List Nat) (a : Nat) (ha : a ≤ t.length) : endsM (rp (sPlus i)) t a = endsM (rp (sTwice i)) t a := by
  obtain ⟨v1, v2, v3, e1, e2⟩ := pt_valid i hi
  rw [ends_law v2 t a ha, ends_law v3 t a ha]
  refine filter_same _ _ _ (fun n hn => ?_)
  rw [Bool.eq_iff_iff, decide_eq_true_iff, decide_eq_true_iff, leads_den v2, leads_den v3, e1, e2, den_plus]
theorem anyM_take (b : List Nd) (t x : List Nat) (n k : Nat) (hk : k < x.length) : anyM b t (x.take (k + 1)) n = (anyM b t (x.take k) n || decide (n ∈ endsM b t (x.getD k 0))) := by
  unfold anyM
  rw [List.take_add_one, List.getElem?_eq_getElem hk, List.any_append, List.getD_eq_getElem?_getD, List.getElem?_eq_getElem hk]
  simp
end Go.Proofs.Ytaajgdhoffhdcaa
