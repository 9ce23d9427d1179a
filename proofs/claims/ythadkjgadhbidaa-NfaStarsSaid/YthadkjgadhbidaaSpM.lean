/-
  The search's map in memory: spots to how they were reached (nfa).
-/
import Derived.Test.YthadkjgadhbidaaSpS
import Derived.Test.YthadkjgadhbidaaNrT
import Derived.Maps.OwnSet
import Derived.DeepKeys4
namespace Go.Proofs.Ythadkjgadhbidaa
open Go.RowKit Go.Maps Go.WideMaps
set_option linter.unusedVariables false

theorem laid_out : laidOutB Try.prog = true := by kernel_rfl
theorem spot_row : (90 : TypeId) < Try.prog.types.size := of_decide_eq_true (by kernel_rfl)
theorem spot_wide : (match Try.prog.underlying 90 with | some (.array _ _) | some (.struct _) => true | _ => false) = true := by rw [Try.underlying90]
set_option maxRecDepth 100000 in
theorem spot_law : Keyed Try.prog 90 := Keyed.of_law (deep_law_laid laid_out (m := 2) (by omega) spot_row (by kernel_rfl) spot_wide)
def spv (p : Sp) : Value := .agg #[.int .i64 (p.s : Int), .bool p.b, .bool p.e]
def klS (p : Sp) : Lit := .string (keyBytes [.int .i64 (p.s : Int), .bool p.b, .bool p.e])
theorem pos_size {n k : Nat} (h : k < n) : ∃ m, n = m + 1 := ⟨n - 1, by omega⟩
theorem spot_types : ∃ m, Try.prog.types.size = m + 1 := pos_size spot_row
theorem spot_cells : Try.prog.cellsOf 90 = 3 := by kernel_rfl
theorem spot_kt : Try.prog.keyType 90 = true := by kernel_rfl
theorem int_cells : Try.prog.cellsOf 3 = 1 := by kernel_rfl
theorem bool_cells : Try.prog.cellsOf 4 = 1 := by kernel_rfl
theorem keyOf_spot (p : Sp) (hp : p.s < 1000000) : keyOf Try.prog 90 (spv p) = some (klS p) := by
  obtain ⟨s, b, e⟩ := p
  simp only at hp
  have hw : (Lit.int .i64 (s : Int)).wf = true := WalkArith.wf_i64 (by omega)
  obtain ⟨m, hm⟩ := spot_types
  unfold keyOf spv klS
  simp only [Try.underlying90]
  rw [if_pos (by simp [spot_kt, Value.formed, Try.underlying90, spot_cells]), hm]
  unfold Program.keyLits
  simp only [Try.underlying90, Value.cells]
  rw [if_pos (by rw [spot_cells]; exact ⟨rfl, by decide +kernel⟩)]
  simp [Program.keyLits, int_cells, bool_cells, Try.underlying3, Try.underlying4, hw]
theorem klS_inj {p q : Sp} (hp : p.s < 1000000) (hq : q.s < 1000000) (h : klS p = klS q) : p = q := by
  have h1 := keyOf_spot p hp
  rw [h] at h1
  have := spot_law.inj h1 (keyOf_spot q hq)
  obtain ⟨s, b, e⟩ := p
  obtain ⟨s', b', e'⟩ := q
  unfold spv at this
  simp at this
  obtain ⟨h1, h2, h3⟩ := this
  rw [h2, h3, show s = s' by omega]
def orv (o : Og) : Value := .agg #[.int .i64 (o.from_.s : Int), .bool o.from_.b, .bool o.from_.e, .bool o.root, .bool o.over, .int .u8 (o.c : Int)]
def orD (o : Og) : DataW Unit := .agg [.lit (.int .i64 (o.from_.s : Int)), .lit (.bool o.from_.b), .lit (.bool o.from_.e), .lit (.bool o.root), .lit (.bool o.over), .lit (.int .u8 (o.c : Int))]
def orL : List Value → Option (DataW Unit × List MemPlace)
  | [.int .i64 s, .bool b, .bool e, .bool r, .bool v, .int .u8 c] => some (.agg [.lit (.int .i64 s), .lit (.bool b), .lit (.bool e), .lit (.bool r), .lit (.bool v), .lit (.int .u8 c)], [])
  | _ => none
def orR : Value → Option (DataW Unit × List MemPlace)
  | .agg cs => orL cs.toList
  | _ => none
theorem orR_mk (o : Og) : orR (orv o) = some (orD o, []) := rfl
theorem orR_inv {v : Value} {z : DataW Unit × List MemPlace} (h : orR v = some z) : ∃ s b e r o c, v = .agg #[.int .i64 s, .bool b, .bool e, .bool r, .bool o, .int .u8 c] ∧ z = (.agg [.lit (.int .i64 s), .lit (.bool b), .lit (.bool e), .lit (.bool r), .lit (.bool o), .lit (.int .u8 c)], []) := by
  cases v <;> try (cases h; done)
  rename_i cs
  obtain ⟨l⟩ := cs
  change orL l = some z at h
  unfold orL at h
  split at h
  · cases h; exact ⟨_, _, _, _, _, _, rfl, rfl⟩
  · cases h
/-- Block b is a map of these spots. -/
def SMap (w : World) (b : Nat) (al : List (Sp × Og)) : Prop :=
  ∃ D : DataW Unit, w.ownsMap Try.prog 90 orR b al.length D ∧ ∀ p : Sp, p.s < 1000000 → Maps.has D (klS p) = (lk al p).isSome ∧ ∀ o, lk al p = some o → D.atKey (klS p) (orD ⟨⟨0, false, false⟩, false, false, 0⟩) = orD o
theorem SMap.up {w w' : World} {b : Nat} {al : List (Sp × Og)} (h : SMap w b al) (ho : Old w w') : SMap w' b al := by
  obtain ⟨D, h1, h2⟩ := h
  refine ⟨D, h1.kept (row := none) ⟨ho.out.os, ho.out.tape, ho.out.output, ho.out.size, fun k hk _ => ho.out.block k hk⟩ (by simp), h2⟩
theorem SMap.made (w : World) : SMap (w.alloc (.map #[] 0)) w.heap.size [] := ⟨.map [], World.ownsMap_made w _ _ _, fun p _ => ⟨rfl, fun o h => by cases h⟩⟩
theorem SMap.lt {w : World} {b : Nat} {al : List (Sp × Og)} (h : SMap w b al) : b < w.heap.size := by obtain ⟨D, h1, _⟩ := h; exact h1.lt
theorem zero_origin (w : World) : (zeroValue 92).run Try.prog w = .ok (orv ⟨⟨0, false, false⟩, false, false, 0⟩) w := by kernel_rfl
/-- 'v, ok := m[p]'. -/
theorem SMap.look_ok {w : World} {b : Nat} {al : List (Sp × Og)} (h : SMap w b al) {p : Sp} (hp : p.s < 1000000) :
    ∃ s bb e r o c, (Instr.lookup 84 (.map (some b)) (spv p) true).run Try.prog w = .ok (.tuple #[.agg #[.int .i64 s, .bool bb, .bool e, .bool r, .bool o, .int .u8 c], .bool (lk al p).isSome]) w := by
  obtain ⟨D, h1, h2⟩ := h
  obtain ⟨v, ps, hrun, hv⟩ := h1.look_ok spot_law Try.underlying84 (zero_origin w) (orR_mk _) (keyOf_spot p hp)
  obtain ⟨s, bb, e, r, o, c, rfl, _⟩ := orR_inv hv
  rw [(h2 p hp).1] at hrun
  exact ⟨s, bb, e, r, o, c, hrun⟩
/-- 'm[p]' of a spot that is there. -/
theorem SMap.look {w : World} {b : Nat} {al : List (Sp × Og)} (h : SMap w b al) {p : Sp} (hp : p.s < 1000000) {o : Og} (ho : lk al p = some o) :
    (Instr.lookup 84 (.map (some b)) (spv p) false).run Try.prog w = .ok (orv o) w := by
  obtain ⟨D, h1, h2⟩ := h
  obtain ⟨v, ps, hrun, hv⟩ := h1.lookup spot_law Try.underlying84 (zero_origin w) (orR_mk _) (keyOf_spot p hp)
  obtain ⟨s, bb, e, r, o', c, rfl, hz⟩ := orR_inv hv
  rw [(h2 p hp).2 o ho] at hz
  unfold orD at hz
  simp at hz
  obtain ⟨⟨q1, q2, q3, q4, q5, q6⟩, _⟩ := hz
  rw [hrun]
  unfold orv
  rw [q1, q2, q3, q4, q5, q6]
/-- 'm[p] = o' of a spot that is not there. -/
theorem SMap.put {w : World} {b : Nat} {al : List (Sp × Og)} (h : SMap w b al) (hn : al.length < 1000000) {p : Sp} (hp : p.s < 1000000) (o : Og) (hno : lk al p = none) :
    ∃ w', (Instr.mapUpdate 84 (.map (some b)) (spv p) (orv o)).run Try.prog w = .ok () w' ∧ SMap w' b (al ++ [(p, o)]) ∧ w.grownBy w' (some b) := by
  obtain ⟨D, h1, h2⟩ := h
  obtain ⟨w', hrun, h3, hg⟩ := h1.update spot_law Try.underlying84 (by unfold maxLen; omega) (keyOf_spot p hp) (orR_mk o)
  refine ⟨w', hrun, ⟨_, by simpa using h3, fun q hq => ?_⟩, hg⟩
  by_cases e : p = q
  · subst e
    have hk := spot_law.key (keyOf_spot p hp)
    rw [has_put_same h1.isMap hk, lk_snoc, hno, if_pos rfl]
    refine ⟨rfl, fun o' ho' => ?_⟩
    simp at ho'
    subst ho'
    exact atKey_put_same h1.isMap hk _ _
  · have hne : klS q ≠ klS p := fun h => e (klS_inj hp hq h.symm)
    rw [has_put_other hne, lk_snoc, if_neg e, (h2 q hq).1]
    refine ⟨by simp, fun o' ho' => ?_⟩
    rw [atKey_put_other hne]
    exact (h2 q hq).2 o' (by simpa using ho')
end Go.Proofs.Ythadkjgadhbidaa
