/-
  The statement TimerqDivides: it returns true for all arguments; no condition.
-/
import Derived.Test.YtlpaemlgmmmbmaaOpenB
import Derived.Test.YtlpaemlgmmmbmaaTqD
namespace Go.Proofs.Ytlpaemlgmmmbmaa
open Go.ChangeShapes Go.WideShapes Go.ChangeAt Go.RowKit Rw
set_option linter.unusedVariables false

theorem open_u64l {H : Type} {enc : TypeId × Value → H} {w : World} {base : Nat} {spare : Nat → Bool} {held : Bool} {a : Option Addr} {len cap : Nat} {d : DataW H} {p : List MemPlace}
    (h : DataW.Trod enc Try.prog w base spare held 68 (.slice a len cap) d p) :
    ∃ l : List Int, l.length = len ∧ len ≤ maxLen ∧ Rs w a (u64v l) ∧ ∀ t ∈ l, 0 ≤ t ∧ t < 18446744073709551616 := by
  obtain ⟨cells, hl, hc1, hc2, hr, hc⟩ := open_elems Try.underlying68 (show 0 < Try.prog.cellsOf 45 by decide +kernel) h
  obtain ⟨l, rfl, hp⟩ := list_choose (fun x : Int => [Value.int .u64 x]) (fun x => 0 ≤ x ∧ x < 18446744073709551616) cells (fun cs hcs => by
    obtain ⟨_, n, y, hy⟩ := hc cs hcs
    obtain ⟨x, h1, h2⟩ := open_one Try.underlying45 hy
    have := u64 h2
    exact ⟨x, h1, by omega, by omega⟩)
  refine ⟨l, by simpa using hl, by omega, ?_, hp⟩
  rw [flat_singles] at hr
  exact hr
theorem divides_row {Al A2 : Option Addr} {len1 c1 len2 c2 : Nat} {W : World} (h : ∃ l : List Int, l.length = len1 ∧ len1 ≤ maxLen ∧ Rs W Al (ints l)) (h2 : ∃ l : List Int, l.length = len2 ∧ len2 ≤ maxLen ∧ Rs W A2 (u64v l) ∧ ∀ t ∈ l, 0 ≤ t ∧ t < 18446744073709551616) :
    Calls Try.prog 11 #[.slice Al len1 c1, .slice A2 len2 c2] W fun e w' => e = .returned (.bool true) ∧ Below W.heap.size W w' := by
  obtain ⟨l, rfl, hm, hr⟩ := h
  obtain ⟨T, rfl, hm2, hr2, hT⟩ := h2
  exact divides_ Al A2 c1 c2 l T W hr hm hr2 hm2 hT
set_option maxRecDepth 100000 in
theorem timerqDivides_lifted (os : Os) (started : os.Started) (H : Type) (enc : TypeId × Value → H) :
    ReturnsInHanded {} Try.checked os 11 .any (Rows.timerqDividesSpec.pre6 enc Try.prog Try.f11 Rows.timerqDividesRow.domain false) (Rows.timerqDividesSpec.post enc Try.prog Try.f11 false true false false) := by
  refine returnsInHanded_of_change (C := Try.checked) own started (by kernel_rfl) Try.func11
    (ChangeSpec.witness6 (enc := enc) (C := Try.checked) false ⟨#[], #[.slice none 0 0, .slice none 0 0], []⟩ 8 (by kernel_rfl) (by kernel_rfl) (by kernel_rfl) (by kernel_rfl)) ?_
  intro W base args ds gs before hval0 hW hcnd _
  have hval : ∀ (j : Nat) t v, Try.f11.params[j]? = some t → args[j]? = some v → Value.okWide Try.prog W .any base t v := hval0
  have hW' := hW
  obtain ⟨p, q, hA0, hV, rfl, hfz, hnd⟩ := hW
  have hA : DataW.TrodAll enc Try.prog W 0 (fun _ => true) true Try.f11.params.toList args.toList ds p := hA0
  rw [Try.params11] at hA hval
  obtain ⟨v0, vs0, d0, ds0, p0, q0, hargs, rfl, rfl, h0, r0⟩ := trodAll_cons hA
  obtain ⟨v1, vs1, d1, ds1, p1, q1, rfl, rfl, rfl, h1, r1⟩ := trodAll_cons r0
  obtain ⟨rfl, rfl, rfl⟩ := trodAll_nil r1
  obtain rfl : args = #[v0, v1] := by cases args; simp_all
  obtain ⟨rfl, rfl⟩ := trodVars_none hV
  obtain ⟨a0, len0, cap0, rfl⟩ := okWide_slice Try.underlying22 (hval 0 22 v0 rfl rfl)
  have lt0 : ∀ x ∈ p0, x.block < W.heap.size := by obtain ⟨m, hm⟩ := h0; exact DataW.trod_lt m _ _ _ hm
  have w0 := open_intl h0
  obtain ⟨a1, len1, cap1, rfl⟩ := okWide_slice Try.underlying68 (hval 1 68 v1 rfl rfl)
  have lt1 : ∀ x ∈ p1, x.block < W.heap.size := by obtain ⟨m, hm⟩ := h1; exact DataW.trod_lt m _ _ _ hm
  have w1 := open_u64l h1
  clear hA0 hval0
  refine (divides_row w0 w1).mono fun e W' ⟨he, bel⟩ => ?_
  subst he
  exact ⟨_, rfl, _, _, _, [], _, [], hW', trodAll_mk1 (shut_bool Try.underlying4 _), (trodAll_cons_mk (Below.trod laidOut (by kernel_rfl) (of_decide_eq_true (by kernel_rfl)) h0 bel lt0) (trodAll_cons_mk (Below.trod laidOut (by kernel_rfl) (of_decide_eq_true (by kernel_rfl)) h1 bel lt1) trodAll_mk0)), rfl, bel.frame _, fun h => by cases h⟩

theorem timerqDivides_holds : Rows.TimerqDividesSaid :=
  OpenClaim.holds_of_wide 11 Try.f11 rfl rfl rfl rfl rfl rfl rfl ⟨rfl, rfl, rfl, rfl, rfl⟩ rfl rfl rfl rfl rfl (by kernel_rfl) Try.func11 (by kernel_rfl)
    (of_decide_eq_true (by kernel_rfl)) (by unfold Func.isWrapper; first | (rw [if_pos (by decide +kernel)]; kernel_rfl) | (rw [if_neg (by decide +kernel)]; exact ⟨rfl, rfl⟩))
    (fun os started H enc _ => timerqDivides_lifted os started H enc)

end Go.Proofs.Ytlpaemlgmmmbmaa
