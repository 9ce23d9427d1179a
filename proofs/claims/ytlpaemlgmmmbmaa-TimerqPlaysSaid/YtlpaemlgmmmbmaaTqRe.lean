/-
  The statement TimerqPlays: it returns true for all arguments; no condition.
-/
import Derived.Test.YtlpaemlgmmmbmaaOpenB
import Derived.Test.YtlpaemlgmmmbmaaTqPl
namespace Go.Proofs.Ytlpaemlgmmmbmaa
open Go.ChangeShapes Go.WideShapes Go.ChangeAt Go.RowKit Go.Deep Rw
set_option linter.unusedVariables false

section
variable {H : Type} {enc : TypeId × Value → H} {P : Program} {w : World} {base : Nat} {spare : Nat → Bool} {held : Bool}
theorem open_three {t : TypeId} {f0 f1 f2 : Field} {k0 k1 k2 : IntKind} {cs : List Value} {n : Nat} {y : DataW H × List MemPlace} (ht : P.underlying t = some (.struct #[f0, f1, f2])) (hone : oneCellFields P #[f0, f1, f2] = true)
    (hC : P.cellsOf t = 3) (h0 : P.underlying f0.type = some (.int k0)) (h1 : P.underlying f1.type = some (.int k1)) (h2 : P.underlying f2.type = some (.int k2)) (h : DataW.trod enc P w base spare held n t cs = some y) :
    ∃ r : Int × Int × Int, cs = [.int k0 r.1, .int k1 r.2.1, .int k2 r.2.2] ∧ (Lit.int k0 r.1).wf = true ∧ (Lit.int k1 r.2.1).wf = true ∧ (Lit.int k2 r.2.2).wf = true := by
  obtain ⟨xs, m, _, _, hlen, hxl, hf⟩ := DataW.trod_struct ht h
  rw [hC] at hlen
  obtain ⟨o0, q0⟩ := hone_of hone 0 f0 rfl
  obtain ⟨o1, q1⟩ := hone_of hone 1 f1 rfl
  obtain ⟨o2, q2⟩ := hone_of hone 2 f2 rfl
  match cs, hlen with
  | [c0, c1, c2], _ =>
    have g0 := hf 0 f0 rfl
    have g1 := hf 1 f1 rfl
    have g2 := hf 2 f2 rfl
    rw [o0, q0] at g0
    rw [o1, q1] at g1
    rw [o2, q2] at g2
    have l0 : 0 < xs.length := by rw [hxl]; simp
    have l1 : 1 < xs.length := by rw [hxl]; simp
    have l2 : 2 < xs.length := by rw [hxl]; simp
    rw [List.getElem?_eq_getElem l0] at g0
    rw [List.getElem?_eq_getElem l1] at g1
    rw [List.getElem?_eq_getElem l2] at g2
    obtain ⟨a, ha, _, wa⟩ := DataW.trod_int h0 g0
    obtain ⟨b, hb, _, wb⟩ := DataW.trod_int h1 g1
    obtain ⟨c, hc, _, wc⟩ := DataW.trod_int h2 g2
    simp at ha hb hc
    exact ⟨(a, b, c), by rw [ha, hb, hc], wa, wb, wc⟩
end
theorem flat_opv : ∀ l : List TOp, (l.map fun o => [Value.int .i64 o.kind, .int .i64 o.id, .int .u64 o.at_]).flatten = opv l
  | [] => rfl
  | o :: l => by rw [List.map_cons, List.flatten_cons, flat_opv l]; rfl
theorem open_opl {H : Type} {enc : TypeId × Value → H} {w : World} {base : Nat} {spare : Nat → Bool} {held : Bool} {a : Option Addr} {len cap : Nat} {d : DataW H} {p : List MemPlace}
    (h : DataW.Trod enc Try.prog w base spare held 59 (.slice a len cap) d p) :
    ∃ l : List TOp, l.length = len ∧ len ≤ maxLen ∧ Rs w a (opv l) ∧ ∀ o ∈ l, o.ok := by
  obtain ⟨cells, hl, hc1, hc2, hr, hc⟩ := open_elems Try.underlying59 (show 0 < Try.prog.cellsOf 66 by decide +kernel) h
  obtain ⟨l, rfl, hp⟩ := list_choose (fun o : TOp => [Value.int .i64 o.kind, .int .i64 o.id, .int .u64 o.at_]) TOp.ok cells (fun cs hcs => by
    obtain ⟨_, n, y, hy⟩ := hc cs hcs
    obtain ⟨r, h1, h2, h3, h4⟩ := open_three Try.underlying66 (by decide +kernel) (by decide +kernel) Try.underlying3 Try.underlying3 Try.underlying45 hy
    have z2 := i64 h2
    have z3 := i64 h3
    have z4 := u64 h4
    exact ⟨⟨r.1, r.2.1, r.2.2⟩, h1, by unfold TOp.ok; simp only; omega⟩)
  refine ⟨l, by simpa using hl, by omega, ?_, hp⟩
  rw [flat_opv] at hr
  exact hr
theorem plays_row {Al A2 : Option Addr} {len1 c1 len2 c2 : Nat} {W : World} (h : ∃ l : List Int, l.length = len1 ∧ len1 ≤ maxLen ∧ Rs W Al (ints l)) (h2 : ∃ l : List TOp, l.length = len2 ∧ len2 ≤ maxLen ∧ Rs W A2 (opv l) ∧ ∀ o ∈ l, o.ok) :
    Calls Try.prog 8 #[.slice Al len1 c1, .slice A2 len2 c2] W fun e w' => e = .returned (.bool true) ∧ Below W.heap.size W w' := by
  obtain ⟨l, rfl, hm, hr⟩ := h
  obtain ⟨raw, rfl, hm2, hr2, ho⟩ := h2
  exact plays_ Al A2 c1 c2 l raw W hr hm hr2 ho hm2
set_option maxRecDepth 100000 in
theorem timerqPlays_lifted (os : Os) (started : os.Started) (H : Type) (enc : TypeId × Value → H) :
    ReturnsInHanded {} Try.checked os 8 .any (Rows.timerqPlaysSpec.pre6 enc Try.prog Try.f8 Rows.timerqPlaysRow.domain false) (Rows.timerqPlaysSpec.post enc Try.prog Try.f8 false true false false) := by
  refine returnsInHanded_of_change (C := Try.checked) own started (by kernel_rfl) Try.func8
    (ChangeSpec.witness6 (enc := enc) (C := Try.checked) false ⟨#[], #[.slice none 0 0, .slice none 0 0], []⟩ 8 (by kernel_rfl) (by kernel_rfl) (by kernel_rfl) (by kernel_rfl)) ?_
  intro W base args ds gs before hval0 hW hcnd _
  have hval : ∀ (j : Nat) t v, Try.f8.params[j]? = some t → args[j]? = some v → Value.okWide Try.prog W .any base t v := hval0
  have hW' := hW
  obtain ⟨p, q, hA0, hV, rfl, hfz, hnd⟩ := hW
  have hA : DataW.TrodAll enc Try.prog W 0 (fun _ => true) true Try.f8.params.toList args.toList ds p := hA0
  rw [Try.params8] at hA hval
  obtain ⟨v0, vs0, d0, ds0, p0, q0, hargs, rfl, rfl, h0, r0⟩ := trodAll_cons hA
  obtain ⟨v1, vs1, d1, ds1, p1, q1, rfl, rfl, rfl, h1, r1⟩ := trodAll_cons r0
  obtain ⟨rfl, rfl, rfl⟩ := trodAll_nil r1
  obtain rfl : args = #[v0, v1] := by cases args; simp_all
  obtain ⟨rfl, rfl⟩ := trodVars_none hV
  obtain ⟨a0, len0, cap0, rfl⟩ := okWide_slice Try.underlying22 (hval 0 22 v0 rfl rfl)
  have lt0 : ∀ x ∈ p0, x.block < W.heap.size := by obtain ⟨m, hm⟩ := h0; exact DataW.trod_lt m _ _ _ hm
  have w0 := open_intl h0
  obtain ⟨a1, len1, cap1, rfl⟩ := okWide_slice Try.underlying59 (hval 1 59 v1 rfl rfl)
  have lt1 : ∀ x ∈ p1, x.block < W.heap.size := by obtain ⟨m, hm⟩ := h1; exact DataW.trod_lt m _ _ _ hm
  have w1 := open_opl h1
  clear hA0 hval0
  refine (plays_row w0 w1).mono fun e W' ⟨he, bel⟩ => ?_
  subst he
  exact ⟨_, rfl, _, _, _, [], _, [], hW', trodAll_mk1 (shut_bool Try.underlying4 _), (trodAll_cons_mk (Below.trod laidOut (by kernel_rfl) (of_decide_eq_true (by kernel_rfl)) h0 bel lt0) (trodAll_cons_mk (Below.trod laidOut (by kernel_rfl) (of_decide_eq_true (by kernel_rfl)) h1 bel lt1) trodAll_mk0)), rfl, bel.frame _, fun h => by cases h⟩

theorem timerqPlays_holds : Rows.TimerqPlaysSaid :=
  OpenClaim.holds_of_wide 8 Try.f8 rfl rfl rfl rfl rfl rfl rfl ⟨rfl, rfl, rfl, rfl, rfl⟩ rfl rfl rfl rfl rfl (by kernel_rfl) Try.func8 (by kernel_rfl)
    (of_decide_eq_true (by kernel_rfl)) (by unfold Func.isWrapper; first | (rw [if_pos (by decide +kernel)]; kernel_rfl) | (rw [if_neg (by decide +kernel)]; exact ⟨rfl, rfl⟩))
    (fun os started H enc _ => timerqPlays_lifted os started H enc)

end Go.Proofs.Ytlpaemlgmmmbmaa
