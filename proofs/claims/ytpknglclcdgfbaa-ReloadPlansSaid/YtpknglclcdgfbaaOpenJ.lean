/-
  Arguments that are slices of jobs.
-/
import Derived.Test.YtpknglclcdgfbaaOpenL
import Derived.Test.YtpknglclcdgfbaaRlQ
namespace Go.Proofs.Ytpknglclcdgfbaa
open Go.ChangeShapes Go.WideShapes Go.ChangeAt Go.RowKit Go.Deep Rw
set_option linter.unusedVariables false

section
variable {H : Type} {enc : TypeId × Value → H} {P : Program} {w : World} {base : Nat} {spare : Nat → Bool} {held : Bool}
/-- A struct of two strings. -/
theorem open_twoS {t : TypeId} {f0 f1 : Field} {cs : List Value} {n : Nat} {y : DataW H × List MemPlace} (ht : P.underlying t = some (.struct #[f0, f1])) (hone : oneCellFields P #[f0, f1] = true)
    (hC : P.cellsOf t = 2) (h0 : P.underlying f0.type = some .string) (h1 : P.underlying f1.type = some .string) (h : DataW.trod enc P w base spare held n t cs = some y) :
    ∃ r : ByteArray × ByteArray, cs = [.string r.1, .string r.2] := by
  obtain ⟨hl, m, hf⟩ := open_fields ht hone h
  rw [hC] at hl
  match cs, hl with
  | [c0, c1], _ =>
    obtain ⟨_, g0⟩ := hf 0 _ c0 rfl rfl
    obtain ⟨_, g1⟩ := hf 1 _ c1 rfl rfl
    obtain ⟨a, ha, _⟩ := DataW.trod_string h0 g0
    obtain ⟨b, hb, _⟩ := DataW.trod_string h1 g1
    simp at ha hb
    exact ⟨(a, b), by rw [ha, hb]⟩
end
section
variable {H : Type} {enc : TypeId × Value → H} {w : World} {base : Nat} {spare : Nat → Bool} {held : Bool}
theorem flat_vars (l : List (ByteArray × ByteArray)) : (l.map fun p => [Value.string p.1, .string p.2]).flatten = varsV l := by
  unfold varsV
  rw [List.flatMap_def]
theorem flat_rungs (l : List (Int × Int)) : (l.map fun r => [Value.int .i64 r.1, .int .u64 r.2]).flatten = rungs l := by
  unfold rungs
  rw [List.flatMap_def]
theorem slice_form {t e : TypeId} {c : Value} {n : Nat} {y : DataW H × List MemPlace} (ht : Try.prog.underlying t = some (.slice e)) (h : DataW.trod enc Try.prog w base spare held n t [c] = some y) : ∃ (A : Option Addr) (len cap : Nat), c = .slice A len cap := by
  rcases open_slice ht h with ⟨hc, _⟩ | ⟨a, len, cap, _, _, _, _, hc, _⟩
  · exact ⟨none, 0, 0, by simpa using hc⟩
  · exact ⟨some a, len, cap, by simpa using hc⟩
theorem open_varl {a : Option Addr} {len cap n : Nat} {y : DataW H × List MemPlace} (h : DataW.trod enc Try.prog w base spare held n 28 [.slice a len cap] = some y) : ∃ l : List (ByteArray × ByteArray), l.length = len ∧ len ≤ maxLen ∧ Rs w a (varsV l) := by
  obtain ⟨cells, hl, h1, h2, hr, hc⟩ := open_elems (a := a) (len := len) (cap := cap) Try.underlying28 (show 0 < Try.prog.cellsOf 85 by decide +kernel) ⟨_, h⟩
  obtain ⟨l, rfl, _⟩ := list_choose (fun p : ByteArray × ByteArray => [Value.string p.1, .string p.2]) (fun _ => True) cells (fun cs hcs => by
    obtain ⟨_, n, y, hy⟩ := hc cs hcs
    obtain ⟨r, hr⟩ := open_twoS Try.underlying85 (by decide +kernel) (by decide +kernel) Try.underlying9 Try.underlying9 hy
    exact ⟨r, hr, trivial⟩)
  rw [flat_vars] at hr
  exact ⟨l, by simpa using hl, by omega, hr⟩
theorem open_rungl {a : Option Addr} {len cap n : Nat} {y : DataW H × List MemPlace} (h : DataW.trod enc Try.prog w base spare held n 31 [.slice a len cap] = some y) : ∃ l : List (Int × Int), l.length = len ∧ len ≤ maxLen ∧ Rs w a (rungs l) := by
  obtain ⟨cells, hl, h1, h2, hr, hc⟩ := open_elems (a := a) (len := len) (cap := cap) Try.underlying31 (show 0 < Try.prog.cellsOf 74 by decide +kernel) ⟨_, h⟩
  obtain ⟨l, rfl, _⟩ := list_choose (fun r : Int × Int => [Value.int .i64 r.1, .int .u64 r.2]) (fun _ => True) cells (fun cs hcs => by
    obtain ⟨_, n, y, hy⟩ := hc cs hcs
    obtain ⟨r, hr, _, _⟩ := open_two Try.underlying74 (by decide +kernel) (by decide +kernel) Try.underlying3 Try.underlying30 hy
    exact ⟨r, hr, trivial⟩)
  rw [flat_rungs] at hr
  exact ⟨l, by simpa using hl, by omega, hr⟩
theorem open_strl {a : Option Addr} {len cap n : Nat} {y : DataW H × List MemPlace} (h : DataW.trod enc Try.prog w base spare held n 29 [.slice a len cap] = some y) : ∃ l : List ByteArray, l.length = len ∧ len ≤ maxLen ∧ Rs w a (strsV l) := by
  obtain ⟨cells, hl, h1, h2, hr, hc⟩ := open_elems (a := a) (len := len) (cap := cap) Try.underlying29 (show 0 < Try.prog.cellsOf 9 by decide +kernel) ⟨_, h⟩
  obtain ⟨l, rfl, _⟩ := list_choose (fun s : ByteArray => [Value.string s]) (fun _ => True) cells (fun cs hcs => by
    obtain ⟨_, n, y, hy⟩ := hc cs hcs
    obtain ⟨s, hs, _⟩ := DataW.trod_string Try.underlying9 hy
    exact ⟨s, hs, trivial⟩)
  rw [flat_singles] at hr
  exact ⟨l, by simpa using hl, by omega, hr⟩
theorem open_job {cs : List Value} {n : Nat} {y : DataW H × List MemPlace} (h : DataW.trod enc Try.prog w base spare held n 33 cs = some y) : ∃ j : Jd, cs = jdCells j ∧ JM w j := by
  obtain ⟨hl, m, hf⟩ := open_fields Try.underlying33 (by decide +kernel) h
  rw [show Try.prog.cellsOf 33 = 15 by decide +kernel] at hl
  match cs, hl with
  | [c0, c1, c2, c3, c4, c5, c6, c7, c8, c9, c10, c11, c12, c13, c14], _ =>
    obtain ⟨_, g0⟩ := hf 0 _ c0 rfl rfl
    obtain ⟨_, g1⟩ := hf 1 _ c1 rfl rfl
    obtain ⟨_, g2⟩ := hf 2 _ c2 rfl rfl
    obtain ⟨_, g3⟩ := hf 3 _ c3 rfl rfl
    obtain ⟨_, g4⟩ := hf 4 _ c4 rfl rfl
    obtain ⟨_, g5⟩ := hf 5 _ c5 rfl rfl
    obtain ⟨_, g6⟩ := hf 6 _ c6 rfl rfl
    obtain ⟨_, g7⟩ := hf 7 _ c7 rfl rfl
    obtain ⟨_, g8⟩ := hf 8 _ c8 rfl rfl
    obtain ⟨_, g9⟩ := hf 9 _ c9 rfl rfl
    obtain ⟨_, g10⟩ := hf 10 _ c10 rfl rfl
    obtain ⟨_, g11⟩ := hf 11 _ c11 rfl rfl
    obtain ⟨_, g12⟩ := hf 12 _ c12 rfl rfl
    obtain ⟨_, g13⟩ := hf 13 _ c13 rfl rfl
    obtain ⟨_, g14⟩ := hf 14 _ c14 rfl rfl
    obtain ⟨v0, e0, _⟩ := DataW.trod_string Try.underlying9 g0
    obtain ⟨v1, e1, _⟩ := DataW.trod_string Try.underlying9 g1
    obtain ⟨A2, n2, k2, rfl⟩ := slice_form Try.underlying28 g2
    obtain ⟨A3, n3, k3, rfl⟩ := slice_form Try.underlying29 g3
    obtain ⟨v4, e4, _⟩ := DataW.trod_bool Try.underlying4 g4
    obtain ⟨v5, e5, _⟩ := DataW.trod_string Try.underlying9 g5
    obtain ⟨v6, e6, _, _⟩ := DataW.trod_int Try.underlying3 g6
    obtain ⟨v7, e7, _, _⟩ := DataW.trod_int Try.underlying30 g7
    obtain ⟨v8, e8, _, _⟩ := DataW.trod_int Try.underlying30 g8
    obtain ⟨v9, e9, _, _⟩ := DataW.trod_int Try.underlying30 g9
    obtain ⟨v10, e10, _, _⟩ := DataW.trod_int Try.underlying3 g10
    obtain ⟨v11, e11, _, _⟩ := DataW.trod_int Try.underlying30 g11
    obtain ⟨A12, n12, k12, rfl⟩ := slice_form Try.underlying31 g12
    obtain ⟨v13, e13, _, _⟩ := DataW.trod_int Try.underlying3 g13
    obtain ⟨v14, e14, _, _⟩ := DataW.trod_int Try.underlying3 g14
    simp only [List.cons.injEq, and_true] at e0 e1 e4 e5 e6 e7 e8 e9 e10 e11 e13 e14
    obtain ⟨l2, rfl, hm2, hr2⟩ := open_varl g2
    obtain ⟨l3, rfl, hm3, hr3⟩ := open_strl g3
    obtain ⟨l12, rfl, hm12, hr12⟩ := open_rungl g12
    unfold maxLen at hm2 hm3 hm12
    refine ⟨⟨v0, v1, A2, l2, k2, A3, l3, k3, v4, v5, v6, v7, v8, v9, v10, v11, A12, l12, k12, v13, v14⟩, ?_, ⟨hr2, hr3, hr12, by omega, by omega, by omega⟩⟩
    unfold jdCells
    rw [e0, e1, e4, e5, e6, e7, e8, e9, e10, e11, e13, e14]
theorem open_jobl {a : Option Addr} {len cap : Nat} {d : DataW H} {p : List MemPlace} (h : DataW.Trod enc Try.prog w base spare held 23 (.slice a len cap) d p) :
    ∃ l : List Jd, l.length = len ∧ len ≤ maxLen ∧ Rs w a (jdsV l) ∧ ∀ j ∈ l, JM w j := by
  obtain ⟨cells, hl, hc1, hc2, hr, hc⟩ := open_elems Try.underlying23 (show 0 < Try.prog.cellsOf 33 by decide +kernel) h
  obtain ⟨l, rfl, hp⟩ := list_choose jdCells (fun j => JM w j) cells (fun cs hcs => by
    obtain ⟨_, n, y, hy⟩ := hc cs hcs
    exact open_job hy)
  refine ⟨l, by simpa using hl, by omega, ?_, hp⟩
  rw [show (l.map jdCells).flatten = jdsV l by unfold jdsV; rw [List.flatMap_def]] at hr
  exact hr
end
end Go.Proofs.Ytpknglclcdgfbaa
