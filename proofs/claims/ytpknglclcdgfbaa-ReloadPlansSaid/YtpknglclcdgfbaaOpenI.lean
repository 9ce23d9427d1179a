/-
  Arguments that are slices of ints.
-/
import Derived.Test.YtpknglclcdgfbaaRowS
import Derived.Test.YtpknglclcdgfbaaMillC
namespace Go.Proofs.Ytpknglclcdgfbaa
open Go.ChangeShapes Go.WideShapes Go.ChangeAt Go.RowKit Rw
set_option linter.unusedVariables false

theorem flat_singles {α : Type} (f : α → Value) (l : List α) : (l.map fun x => [f x]).flatten = l.map f := by
  induction l with
  | nil => rfl
  | cons x l ih => simp only [List.map_cons, List.flatten_cons, ih]; rfl
theorem open_intl {H : Type} {enc : TypeId × Value → H} {w : World} {base : Nat} {spare : Nat → Bool} {held : Bool} {a : Option Addr} {len cap : Nat} {d : DataW H} {p : List MemPlace}
    (h : DataW.Trod enc Try.prog w base spare held 22 (.slice a len cap) d p) :
    ∃ l : List Int, l.length = len ∧ len ≤ maxLen ∧ Rs w a (ints l) := by
  obtain ⟨cells, hl, hc1, hc2, hr, hc⟩ := open_elems Try.underlying22 (show 0 < Try.prog.cellsOf 3 by decide +kernel) h
  obtain ⟨l, rfl, hp⟩ := list_choose (fun x : Int => [Value.int .i64 x]) (fun _ => True) cells (fun cs hcs => by
    obtain ⟨_, n, y, hy⟩ := hc cs hcs
    obtain ⟨x, h1, h2⟩ := open_one Try.underlying3 hy
    exact ⟨x, h1, trivial⟩)
  refine ⟨l, by simpa using hl, by omega, ?_⟩
  rw [flat_singles] at hr
  exact hr
end Go.Proofs.Ytpknglclcdgfbaa
