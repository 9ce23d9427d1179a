/-
  An argument that is a life.
-/
import Derived.Test.YtpknglclcdgfbaaOpenI
import Derived.Test.YtpknglclcdgfbaaLfB
namespace Go.Proofs.Ytpknglclcdgfbaa
open Go.ChangeShapes Go.WideShapes Go.ChangeAt Go.RowKit Go.Deep Rw
set_option linter.unusedVariables false

section
variable {H : Type} {enc : TypeId × Value → H} {P : Program} {w : World} {base : Nat} {spare : Nat → Bool} {held : Bool}
/-- The fields of a struct whose fields have one cell each. -/
theorem open_fields {t : TypeId} {fs : Array Field} {cs : List Value} {n : Nat} {y : DataW H × List MemPlace} (ht : P.underlying t = some (.struct fs)) (hone : oneCellFields P fs = true) (h : DataW.trod enc P w base spare held n t cs = some y) :
    cs.length = P.cellsOf t ∧ ∃ m, ∀ (i : Nat) (f : Field) (c : Value), fs[i]? = some f → cs[i]? = some c → ∃ z, DataW.trod enc P w base spare held m f.type [c] = some z := by
  obtain ⟨xs, m, _, _, hlen, hxl, hf⟩ := DataW.trod_struct ht h
  refine ⟨hlen, m, fun i f c hi hc => ?_⟩
  have g := hf i f hi
  obtain ⟨o, q⟩ := hone_of hone i f hi
  rw [o, q] at g
  have hl : i < cs.length := (List.getElem?_eq_some_iff.1 hc).1
  have e : (cs.drop i).take 1 = [c] := by
    rw [List.drop_eq_getElem_cons hl, (List.getElem?_eq_some_iff.1 hc).2]
    rfl
  rw [e] at g
  have l : i < xs.length := by
    have := (Array.getElem?_eq_some_iff.1 hi).1
    rw [hxl]
    simpa using this
  rw [List.getElem?_eq_getElem l] at g
  exact ⟨_, g⟩
end
section
variable {H : Type} {enc : TypeId × Value → H} {w : World} {base : Nat} {spare : Nat → Bool} {held : Bool}
theorem open_life {cs : List Value} {n : Nat} {y : DataW H × List MemPlace} (h : DataW.trod enc Try.prog w base spare held n 48 cs = some y) :
    ∃ (x : Lf.T) (A : Option Addr) (c : Nat), Value.agg cs.toArray = lfA x A c ∧ Rs w A (u64s x.times) := by
  obtain ⟨hl, m, hf⟩ := open_fields Try.underlying48 (by decide +kernel) h
  rw [show Try.prog.cellsOf 48 = 10 by decide +kernel] at hl
  match cs, hl with
  | [c0, c1, c2, c3, c4, c5, c6, c7, c8, c9], _ =>
    obtain ⟨_, g0⟩ := hf 0 _ c0 rfl rfl
    obtain ⟨_, g1⟩ := hf 1 _ c1 rfl rfl
    obtain ⟨_, g2⟩ := hf 2 _ c2 rfl rfl
    obtain ⟨_, g3⟩ := hf 3 _ c3 rfl rfl
    obtain ⟨_, g4⟩ := hf 4 _ c4 rfl rfl
    obtain ⟨_, g5⟩ := hf 5 _ c5 rfl rfl
    obtain ⟨_, g6⟩ := hf 6 _ c6 rfl rfl
    obtain ⟨_, g7⟩ := hf 7 _ c7 rfl rfl
    obtain ⟨_, g8⟩ := hf 8 _ c8 rfl rfl
    obtain ⟨_, g9⟩ := hf 9 _ c9 rfl rfl
    obtain ⟨v0, e0, _, _⟩ := DataW.trod_int Try.underlying3 g0
    obtain ⟨v1, e1, _, _⟩ := DataW.trod_int Try.underlying3 g1
    obtain ⟨v2, e2, _, _⟩ := DataW.trod_int Try.underlying3 g2
    obtain ⟨v3, e3, _, _⟩ := DataW.trod_int Try.underlying30 g3
    obtain ⟨v5, e5, _, _⟩ := DataW.trod_int Try.underlying30 g5
    obtain ⟨v6, e6, _⟩ := DataW.trod_bool Try.underlying4 g6
    obtain ⟨v7, e7, _, _⟩ := DataW.trod_int Try.underlying3 g7
    obtain ⟨v8, e8, _⟩ := DataW.trod_bool Try.underlying4 g8
    obtain ⟨v9, e9, _⟩ := DataW.trod_bool Try.underlying4 g9
    simp only [List.cons.injEq, and_true] at e0 e1 e2 e3 e5 e6 e7 e8 e9
    have h4 : ∃ (A : Option Addr) (len cap : Nat), c4 = .slice A len cap := by
      rcases open_slice Try.underlying46 g4 with ⟨hc, _⟩ | ⟨a, len, cap, _, _, _, _, hc, _⟩
      · exact ⟨none, 0, 0, by simpa using hc⟩
      · exact ⟨some a, len, cap, by simpa using hc⟩
    obtain ⟨A, len, cap, rfl⟩ := h4
    obtain ⟨cells, hll, hc1, hc2, hr, hcc⟩ := open_elems (a := A) (len := len) (cap := cap) Try.underlying46 (show 0 < Try.prog.cellsOf 30 by decide +kernel) ⟨_, g4⟩
    obtain ⟨l, rfl, hp⟩ := list_choose (fun x : Int => [Value.int .u64 x]) (fun _ => True) cells (fun cs hcs => by
      obtain ⟨_, n, y, hy⟩ := hcc cs hcs
      obtain ⟨x, h1, h2⟩ := open_one Try.underlying30 hy
      exact ⟨x, h1, trivial⟩)
    rw [flat_singles] at hr
    have hlen : l.length = len := by simpa using hll
    refine ⟨⟨v0, v1, v2, v3, l, v5, v6, v7, v8, v9⟩, A, cap, ?_, hr⟩
    unfold lfA
    rw [e0, e1, e2, e3, e5, e6, e7, e8, e9, hlen]
set_option maxRecDepth 100000 in
theorem open_lifeA {b0 : Nat} {r : Reach} {v : Value} {d : DataW H} {p : List MemPlace} (hv : Value.okWide Try.prog w r b0 48 v) (h : DataW.Trod enc Try.prog w base spare held 48 v d p) :
    ∃ (x : Lf.T) (A : Option Addr) (c : Nat), v = lfA x A c ∧ Rs w A (u64s x.times) := by
  have hx : ∃ cs : Array Value, v = .agg cs := by
    have h2 := okWide_struct (P := Try.prog) (r := r) Try.underlying48 hv
    exact h2.imp fun _ k => k.1
  obtain ⟨cs, rfl⟩ := hx
  obtain ⟨n, hn⟩ := h
  exact open_life (cs := cs.toList) hn
end
end Go.Proofs.Ytpknglclcdgfbaa
