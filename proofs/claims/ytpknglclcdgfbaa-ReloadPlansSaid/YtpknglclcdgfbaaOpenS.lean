/-
  A slice that came in, read as data: its cells, element by element. No program in sight.
-/
import Derived.Test.YtpknglclcdgfbaaWords
import Derived.Deep.Slices
import Derived.Deep.Fields
import Derived.ProofKit
import Derived.ChangeSame
namespace Go.Proofs.Ytpknglclcdgfbaa
open Go.RowKit Go.ChangeShapes Go.WideShapes Go.Deep

/-- The cells of equal pieces, one behind the other. -/
theorem flatten_at {α : Type} {C : Nat} (hC : 0 < C) : ∀ (cells : List (List α)), (∀ cs ∈ cells, cs.length = C) → ∀ j u, cells.flatten[j]? = some u → ∃ cs, cells[j / C]? = some cs ∧ cs[j % C]? = some u := by
  intro cells
  induction cells with
  | nil => intro _ j u h; simp at h
  | cons a cells ih =>
    intro hl j u h
    have ha : a.length = C := hl a (by simp)
    rw [List.flatten_cons, List.getElem?_append] at h
    by_cases hj : j < C
    · rw [ha, if_pos hj] at h
      rw [Nat.div_eq_of_lt hj, Nat.mod_eq_of_lt hj]
      exact ⟨a, rfl, h⟩
    · rw [ha, if_neg hj] at h
      obtain ⟨cs, h1, h2⟩ := ih (fun cs hcs => hl cs (by simp [hcs])) _ _ h
      obtain ⟨i, rfl⟩ : ∃ i, j = i + C := ⟨j - C, by omega⟩
      rw [Nat.add_sub_cancel] at h1 h2
      rw [Nat.add_div_right _ hC, Nat.add_mod_right]
      exact ⟨cs, by simpa using h1, h2⟩
/-- From 'each element has an x' to a list of x. -/
theorem list_choose {α β : Type} (f : β → α) (p : β → Prop) : ∀ (l : List α), (∀ a ∈ l, ∃ b, a = f b ∧ p b) → ∃ m : List β, l = m.map f ∧ ∀ b ∈ m, p b := by
  intro l
  induction l with
  | nil => intro _; exact ⟨[], rfl, by simp⟩
  | cons a l ih =>
    intro h
    obtain ⟨b, hb, hp⟩ := h a (by simp)
    obtain ⟨m, hm, hq⟩ := ih (fun x hx => h x (by simp [hx]))
    refine ⟨b :: m, by rw [hb, hm]; rfl, fun x hx => ?_⟩
    rcases List.mem_cons.mp hx with rfl | hx
    · exact hp
    · exact hq x hx

section
variable {H : Type} {enc : TypeId × Value → H} {P : Program} {w : World} {base : Nat} {spare : Nat → Bool} {held : Bool}
theorem open_elems {t e : TypeId} {a : Option Addr} {len cap : Nat} {d : DataW H} {p : List MemPlace} (ht : P.underlying t = some (.slice e)) (hC : 0 < P.cellsOf e)
    (h : DataW.Trod enc P w base spare held t (.slice a len cap) d p) :
    ∃ cells : List (List Value), cells.length = len ∧ len ≤ cap ∧ cap ≤ maxLen ∧ Rs w a cells.flatten ∧ ∀ cs ∈ cells, cs.length = P.cellsOf e ∧ ∃ n y, DataW.trod enc P w base spare held n e cs = some y := by
  obtain ⟨fuel, hf⟩ := h
  rcases open_slice ht hf with ⟨hcs, _⟩ | ⟨x, l, c, m, n, D, Pl, hcs, _, hl, hm, hmm, _, hi⟩
  · simp [Value.cells] at hcs
    obtain ⟨rfl, rfl, rfl⟩ := hcs
    exact ⟨[], rfl, Nat.zero_le _, Nat.zero_le _, Rs.nil_, by simp⟩
  · simp [Value.cells] at hcs
    obtain ⟨rfl, rfl, rfl⟩ := hcs
    have hlm : len ≤ m := by rw [hmm]; split <;> omega
    obtain ⟨f, hf'⟩ := choose_lt (n := len) (p := fun i cs' => w.cells? base (x.add (i * P.cellsOf e)) (P.cellsOf e) = some cs' ∧ DataW.trod enc P w base spare held n e cs' = some (D i, Pl i)) (fun i hil => hi i (by omega))
    have hlen : ∀ cs ∈ (List.range len).map f, cs.length = P.cellsOf e := by
      intro cs hcs
      simp only [List.mem_map, List.mem_range] at hcs
      obtain ⟨i, hil, rfl⟩ := hcs
      exact (World.cells?_some (hf' i hil).1).2.1
    refine ⟨(List.range len).map f, by simp, hl, hm, ?_, fun cs hcs => ⟨hlen cs hcs, ?_⟩⟩
    · have hcell : ∀ j u, ((List.range len).map f).flatten[j]? = some u → w.cell? (x.add j) = some u := by
        intro j u hu
        obtain ⟨cs, h1, h2⟩ := flatten_at hC _ hlen j u hu
        have hj : j / P.cellsOf e < len := by
          have := (List.getElem?_eq_some_iff.mp h1).1
          simpa using this
        rw [List.getElem?_map, List.getElem?_range hj] at h1
        simp at h1
        subst h1
        have h3 := (World.cells?_some (hf' _ hj).1).2.2 (j % P.cellsOf e) (Nat.mod_lt _ hC)
        rw [add_add, h2, show j / P.cellsOf e * P.cellsOf e + j % P.cellsOf e = j from by rw [Nat.mul_comm]; exact Nat.div_add_mod _ _] at h3
        exact h3
      rcases Nat.eq_zero_or_pos ((List.range len).map f).flatten.length with h0 | h0
      · exact Or.inl (List.eq_nil_of_length_eq_zero h0)
      · have h1 := hcell 0 _ (List.getElem?_eq_getElem h0)
        have hsp : x.spot = none := by
          have := World.cell?_spot h1
          simpa [Addr.add] using this
        obtain ⟨b, off, sp⟩ := x
        simp at hsp
        subst hsp
        refine Or.inr ⟨b, off, rfl, fun j u hu => ?_⟩
        have := hcell j u hu
        rwa [Addr.add_lit] at this
    · simp only [List.mem_map, List.mem_range] at hcs
      obtain ⟨i, hil, rfl⟩ := hcs
      exact ⟨n, _, (hf' i hil).2⟩
/-- An integer of one cell. -/
theorem open_one {t : TypeId} {k : IntKind} {cs : List Value} {n : Nat} {y : DataW H × List MemPlace} (ht : P.underlying t = some (.int k)) (h : DataW.trod enc P w base spare held n t cs = some y) :
    ∃ x : Int, cs = [.int k x] ∧ (Lit.int k x).wf = true := by
  obtain ⟨a, ha, _, wa⟩ := DataW.trod_int ht h
  exact ⟨a, ha, wa⟩
/-- A struct of two integers. -/
theorem open_two {t : TypeId} {f0 f1 : Field} {k0 k1 : IntKind} {cs : List Value} {n : Nat} {y : DataW H × List MemPlace} (ht : P.underlying t = some (.struct #[f0, f1])) (hone : oneCellFields P #[f0, f1] = true)
    (hC : P.cellsOf t = 2) (h0 : P.underlying f0.type = some (.int k0)) (h1 : P.underlying f1.type = some (.int k1)) (h : DataW.trod enc P w base spare held n t cs = some y) :
    ∃ r : Int × Int, cs = [.int k0 r.1, .int k1 r.2] ∧ (Lit.int k0 r.1).wf = true ∧ (Lit.int k1 r.2).wf = true := by
  obtain ⟨xs, m, _, _, hlen, hxl, hf⟩ := DataW.trod_struct ht h
  rw [hC] at hlen
  obtain ⟨o0, q0⟩ := hone_of hone 0 f0 rfl
  obtain ⟨o1, q1⟩ := hone_of hone 1 f1 rfl
  match cs, hlen with
  | [c0, c1], _ =>
    have g0 := hf 0 f0 rfl
    have g1 := hf 1 f1 rfl
    rw [o0, q0] at g0
    rw [o1, q1] at g1
    have l0 : 0 < xs.length := by rw [hxl]; simp
    have l1 : 1 < xs.length := by rw [hxl]; simp
    rw [List.getElem?_eq_getElem l0] at g0
    rw [List.getElem?_eq_getElem l1] at g1
    obtain ⟨a, ha, _, wa⟩ := DataW.trod_int h0 g0
    obtain ⟨b, hb, _, wb⟩ := DataW.trod_int h1 g1
    simp at ha hb
    exact ⟨(a, b), by rw [ha, hb], wa, wb⟩
end
end Go.Proofs.Ytpknglclcdgfbaa
