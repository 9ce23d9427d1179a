/-
  The statement RegexValid: it returns true for all arguments; no condition.
-/
import Derived.Test.YtaajgdhoffhdcaaWords
import Derived.Deep.Slices
import Derived.Deep.Fields
import Derived.ProofKit
import Derived.ChangeSame
import Derived.Test.YtaajgdhoffhdcaaRows
import Derived.WalkKit
import Derived.OpenShut
import Derived.ShutString
import Derived.ChangeOld
import Derived.Below
import Derived.Test.YtaajgdhoffhdcaaMillC
import Derived.Test.YtaajgdhoffhdcaaRxN
import Derived.Laws.IdiomArrays
import Derived.Test.YtaajgdhoffhdcaaRgN
import Derived.Test.YtaajgdhoffhdcaaLgS
import Derived.Test.YtaajgdhoffhdcaaRgP
import Derived.Test.YtaajgdhoffhdcaaRxQ
import Derived.Test.YtaajgdhoffhdcaaMod
import Derived.Deep.DeepCutAuto
import Derived.Deep.CutBlock
import Derived.StillTailTactics
/-
  A slice that came in, read as data: its cells, element by element. No program in sight.
-/
namespace Go.Proofs.Ytaajgdhoffhdcaa
open Go.RowKit Go.ChangeShapes Go.WideShapes Go.Deep

/-- The cells of equal pieces, one behind the other. -/
theorem flatten_at {α : Type} {C : Nat} (hC : 0 < C) : ∀ (cells : List (List α)), (∀ cs ∈ cells, cs.length = C) → ∀ j u, cells.flatten[j]? = some u → ∃ cs, cells[j / C]? = some cs ∧ cs[j % C]? = some u := by
  intro cells
  induction cells with
  | nil => intro _ j u h; simp at h
  | cons a cells ih =>
    intro hl j u h
    have ha : a.length = C := hl a (by simp)
    rw [List.flatten_cons, List.getElem?_append] at h
    by_cases hj : j < C
    · rw [ha, if_pos hj] at h
      rw [Nat.div_eq_of_lt hj, Nat.mod_eq_of_lt hj]
      exact ⟨a, rfl, h⟩
    · rw [ha, if_neg hj] at h
      obtain ⟨cs, h1, h2⟩ := ih (fun cs hcs => hl cs (by simp [hcs])) _ _ h
      obtain ⟨i, rfl⟩ : ∃ i, j = i + C := ⟨j - C, by omega⟩
      rw [Nat.add_sub_cancel] at h1 h2
      rw [Nat.add_div_right _ hC, Nat.add_mod_right]
      exact ⟨cs, by simpa using h1, h2⟩
/-- From 'each element has an x' to a list of x. -/
theorem list_choose {α β : Type} (f : β → α) (p : β → Prop) : ∀ (l : List α), (∀ a ∈ l, ∃ b, a = f b ∧ p b) → ∃ m : List β, l = m.map f ∧ ∀ b ∈ m, p b := by
  intro l
  induction l with
  | nil => intro _; exact ⟨[], rfl, by simp⟩
  | cons a l ih =>
    intro h
    obtain ⟨b, hb, hp⟩ := h a (by simp)
    obtain ⟨m, hm, hq⟩ := ih (fun x hx => h x (by simp [hx]))
    refine ⟨b :: m, by rw [hb, hm]; rfl, fun x hx => ?_⟩
    rcases List.mem_cons.mp hx with rfl | hx
    · exact hp
    · exact hq x hx

section
variable {H : Type} {enc : TypeId × Value → H} {P : Program} {w : World} {base : Nat} {spare : Nat → Bool} {held : Bool}
theorem open_elems {t e : TypeId} {a : Option Addr} {len cap : Nat} {d : DataW H} {p : List MemPlace} (ht : P.underlying t = some (.slice e)) (hC : 0 < P.cellsOf e)
    (h : DataW.Trod enc P w base spare held t (.slice a len cap) d p) :
    ∃ cells : List (List Value), cells.length = len ∧ len ≤ cap ∧ cap ≤ maxLen ∧ Rs w a cells.flatten ∧ ∀ cs ∈ cells, cs.length = P.cellsOf e ∧ ∃ n y, DataW.trod enc P w base spare held n e cs = some y := by
  obtain ⟨fuel, hf⟩ := h
  rcases open_slice ht hf with ⟨hcs, _⟩ | ⟨x, l, c, m, n, D, Pl, hcs, _, hl, hm, hmm, _, hi⟩
  · simp [Value.cells] at hcs
    obtain ⟨rfl, rfl, rfl⟩ := hcs
    exact ⟨[], rfl, Nat.zero_le _, Nat.zero_le _, Rs.nil_, by simp⟩
  · simp [Value.cells] at hcs
    obtain ⟨rfl, rfl, rfl⟩ := hcs
    have hlm : len ≤ m := by rw [hmm]; split <;> omega
    obtain ⟨f, hf'⟩ := choose_lt (n := len) (p := fun i cs' => w.cells? base (x.add (i * P.cellsOf e)) (P.cellsOf e) = some cs' ∧ DataW.trod enc P w base spare held n e cs' = some (D i, Pl i)) (fun i hil => hi i (by omega))
    have hlen : ∀ cs ∈ (List.range len).map f, cs.length = P.cellsOf e := by
      intro cs hcs
      simp only [List.mem_map, List.mem_range] at hcs
      obtain ⟨i, hil, rfl⟩ := hcs
      exact (World.cells?_some (hf' i hil).1).2.1
    refine ⟨(List.range len).map f, by simp, hl, hm, ?_, fun cs hcs => ⟨hlen cs hcs, ?_⟩⟩
    · have hcell : ∀ j u, ((List.range len).map f).flatten[j]? = some u → w.cell? (x.add j) = some u := by
        intro j u hu
        obtain ⟨cs, h1, h2⟩ := flatten_at hC _ hlen j u hu
        have hj : j / P.cellsOf e < len := by
          have := (List.getElem?_eq_some_iff.mp h1).1
          simpa using this
        rw [List.getElem?_map, List.getElem?_range hj] at h1
        simp at h1
        subst h1
        have h3 := (World.cells?_some (hf' _ hj).1).2.2 (j % P.cellsOf e) (Nat.mod_lt _ hC)
        rw [add_add, h2, show j / P.cellsOf e * P.cellsOf e + j % P.cellsOf e = j from by rw [Nat.mul_comm]; exact Nat.div_add_mod _ _] at h3
        exact h3
      rcases Nat.eq_zero_or_pos ((List.range len).map f).flatten.length with h0 | h0
      · exact Or.inl (List.eq_nil_of_length_eq_zero h0)
      · have h1 := hcell 0 _ (List.getElem?_eq_getElem h0)
        have hsp : x.spot = none := by
          have := World.cell?_spot h1
          simpa [Addr.add] using this
        obtain ⟨b, off, sp⟩ := x
        simp at hsp
        subst hsp
        refine Or.inr ⟨b, off, rfl, fun j u hu => ?_⟩
        have := hcell j u hu
        rwa [Addr.add_lit] at this
    · simp only [List.mem_map, List.mem_range] at hcs
      obtain ⟨i, hil, rfl⟩ := hcs
      exact ⟨n, _, (hf' i hil).2⟩
/-- An integer of one cell. -/
theorem open_one {t : TypeId} {k : IntKind} {cs : List Value} {n : Nat} {y : DataW H × List MemPlace} (ht : P.underlying t = some (.int k)) (h : DataW.trod enc P w base spare held n t cs = some y) :
    ∃ x : Int, cs = [.int k x] ∧ (Lit.int k x).wf = true := by
  obtain ⟨a, ha, _, wa⟩ := DataW.trod_int ht h
  exact ⟨a, ha, wa⟩
/-- A struct of two integers. -/
theorem open_two {t : TypeId} {f0 f1 : Field} {k0 k1 : IntKind} {cs : List Value} {n : Nat} {y : DataW H × List MemPlace} (ht : P.underlying t = some (.struct #[f0, f1])) (hone : oneCellFields P #[f0, f1] = true)
    (hC : P.cellsOf t = 2) (h0 : P.underlying f0.type = some (.int k0)) (h1 : P.underlying f1.type = some (.int k1)) (h : DataW.trod enc P w base spare held n t cs = some y) :
    ∃ r : Int × Int, cs = [.int k0 r.1, .int k1 r.2] ∧ (Lit.int k0 r.1).wf = true ∧ (Lit.int k1 r.2).wf = true := by
  obtain ⟨xs, m, _, _, hlen, hxl, hf⟩ := DataW.trod_struct ht h
  rw [hC] at hlen
  obtain ⟨o0, q0⟩ := hone_of hone 0 f0 rfl
  obtain ⟨o1, q1⟩ := hone_of hone 1 f1 rfl
  match cs, hlen with
  | [c0, c1], _ =>
    have g0 := hf 0 f0 rfl
    have g1 := hf 1 f1 rfl
    rw [o0, q0] at g0
    rw [o1, q1] at g1
    have l0 : 0 < xs.length := by rw [hxl]; simp
    have l1 : 1 < xs.length := by rw [hxl]; simp
    rw [List.getElem?_eq_getElem l0] at g0
    rw [List.getElem?_eq_getElem l1] at g1
    obtain ⟨a, ha, _, wa⟩ := DataW.trod_int h0 g0
    obtain ⟨b, hb, _, wb⟩ := DataW.trod_int h1 g1
    simp at ha hb
    exact ⟨(a, b), by rw [ha, hb], wa, wb⟩
end
end Go.Proofs.Ytaajgdhoffhdcaa
/-
  What every statement's last step uses: the program's start, integers that came in.
-/
namespace Go.Proofs.Ytaajgdhoffhdcaa
open Go.ChangeShapes Go.WideShapes Go.ChangeAt Go.RowKit
set_option linter.unusedVariables false
namespace Rw
theorem own : ownKnob Try.prog.godebug = none := by kernel_rfl
theorem laidOut : laidOutB Try.prog = true := by kernel_rfl
theorem u64 {x : Int} (h : (Lit.int .u64 x).wf = true) : 0 ≤ x ∧ x ≤ 18446744073709551615 := by
  simp [Lit.wf, IntKind.min, IntKind.max, IntKind.signed, IntKind.bits] at h
  exact ⟨by omega, by omega⟩
theorem i64 {x : Int} (h : (Lit.int .i64 x).wf = true) : -9223372036854775808 ≤ x ∧ x ≤ 9223372036854775807 := by
  simp [Lit.wf, IntKind.min, IntKind.max, IntKind.signed, IntKind.bits] at h
  exact ⟨by omega, by omega⟩
theorem u8 {x : Int} (h : (Lit.int .u8 x).wf = true) : 0 ≤ x ∧ x ≤ 255 := by
  simp [Lit.wf, IntKind.min, IntKind.max, IntKind.signed, IntKind.bits] at h
  exact ⟨by omega, by omega⟩
end Rw
end Go.Proofs.Ytaajgdhoffhdcaa
/-
  Arguments that are slices of ints and of bytes.
-/
namespace Go.Proofs.Ytaajgdhoffhdcaa
open Go.ChangeShapes Go.WideShapes Go.ChangeAt Go.RowKit Rw
set_option linter.unusedVariables false

theorem flat_singles {α : Type} (f : α → Value) (l : List α) : (l.map fun x => [f x]).flatten = l.map f := by
  induction l with
  | nil => rfl
  | cons x l ih => simp only [List.map_cons, List.flatten_cons, ih]; rfl
theorem open_intl {H : Type} {enc : TypeId × Value → H} {w : World} {base : Nat} {spare : Nat → Bool} {held : Bool} {a : Option Addr} {len cap : Nat} {d : DataW H} {p : List MemPlace}
    (h : DataW.Trod enc Try.prog w base spare held 22 (.slice a len cap) d p) :
    ∃ l : List Int, l.length = len ∧ len ≤ maxLen ∧ Rs w a (ints l) := by
  obtain ⟨cells, hl, hc1, hc2, hr, hc⟩ := open_elems Try.underlying22 (show 0 < Try.prog.cellsOf 3 by decide +kernel) h
  obtain ⟨l, rfl, hp⟩ := list_choose (fun x : Int => [Value.int .i64 x]) (fun _ => True) cells (fun cs hcs => by
    obtain ⟨_, n, y, hy⟩ := hc cs hcs
    obtain ⟨x, h1, h2⟩ := open_one Try.underlying3 hy
    exact ⟨x, h1, trivial⟩)
  refine ⟨l, by simpa using hl, by omega, ?_⟩
  rw [flat_singles] at hr
  exact hr
theorem open_bytel {H : Type} {enc : TypeId × Value → H} {w : World} {base : Nat} {spare : Nat → Bool} {held : Bool} {a : Option Addr} {len cap : Nat} {d : DataW H} {p : List MemPlace}
    (h : DataW.Trod enc Try.prog w base spare held 24 (.slice a len cap) d p) :
    ∃ l : List UInt8, l.length = len ∧ len ≤ cap ∧ cap ≤ maxLen ∧ Rs w a (bytes l) := by
  obtain ⟨cells, hl, hc1, hc2, hr, hc⟩ := open_elems Try.underlying24 (show 0 < Try.prog.cellsOf 5 by decide +kernel) h
  obtain ⟨l, rfl, hp⟩ := list_choose (fun x : Int => [Value.int .u8 x]) (fun x => 0 ≤ x ∧ x ≤ 255) cells (fun cs hcs => by
    obtain ⟨_, n, y, hy⟩ := hc cs hcs
    obtain ⟨x, h1, h2⟩ := open_one Try.underlying5 hy
    exact ⟨x, h1, u8 h2⟩)
  rw [flat_singles] at hr
  obtain ⟨m, hm, hml⟩ := bytes_of_ints l hp
  rw [hm] at hr
  simp only [List.length_map] at hl
  exact ⟨m, by omega, hc1, hc2, hr⟩
end Go.Proofs.Ytaajgdhoffhdcaa
/-
  Arguments that are slices of nodes, and of states.
-/
namespace Go.Proofs.Ytaajgdhoffhdcaa
open Go.ChangeShapes Go.WideShapes Go.ChangeAt Go.RowKit Go.Deep Rw
set_option linter.unusedVariables false

section
variable {H : Type} {enc : TypeId × Value → H} {P : Program} {w : World} {base : Nat} {spare : Nat → Bool} {held : Bool}
theorem open_four {t e : TypeId} {f0 f1 f2 f3 : Field} {cs : List Value} {n : Nat} {y : DataW H × List MemPlace} (ht : P.underlying t = some (.struct #[f0, f1, f2, f3]))
    (o0 : f0.offset = 0) (o1 : f1.offset = 1) (o2 : f2.offset = 2) (o3 : f3.offset = 3) (q0 : P.cellsOf f0.type = 1) (q1 : P.cellsOf f1.type = 1) (q2 : P.cellsOf f2.type = 1) (q3 : P.cellsOf f3.type = 4)
    (hC : P.cellsOf t = 7) (h0 : P.underlying f0.type = some (.int .i64)) (h1 : P.underlying f1.type = some (.int .i64)) (h2 : P.underlying f2.type = some (.int .i64)) (h3 : P.underlying f3.type = some (.array 4 e)) (he : P.underlying e = some (.int .u64)) (hce : P.cellsOf e = 1)
    (h : DataW.trod enc P w base spare held n t cs = some y) : ∃ x : Nd, cs = ndCells x ∧ setOk x.set := by
  obtain ⟨xs, m, _, _, hlen, hxl, hf⟩ := DataW.trod_struct ht h
  rw [hC] at hlen
  match cs, hlen with
  | [c0, c1, c2, c3, c4, c5, c6], _ =>
    have g0 := hf 0 f0 rfl
    have g1 := hf 1 f1 rfl
    have g2 := hf 2 f2 rfl
    have g3 := hf 3 f3 rfl
    rw [o0, q0] at g0
    rw [o1, q1] at g1
    rw [o2, q2] at g2
    rw [o3, q3] at g3
    have l0 : 0 < xs.length := by rw [hxl]; simp
    have l1 : 1 < xs.length := by rw [hxl]; simp
    have l2 : 2 < xs.length := by rw [hxl]; simp
    have l3 : 3 < xs.length := by rw [hxl]; simp
    rw [List.getElem?_eq_getElem l0] at g0
    rw [List.getElem?_eq_getElem l1] at g1
    rw [List.getElem?_eq_getElem l2] at g2
    rw [List.getElem?_eq_getElem l3] at g3
    obtain ⟨a, ha, _, wa⟩ := DataW.trod_int h0 g0
    obtain ⟨b, hb, _, wb⟩ := DataW.trod_int h1 g1
    obtain ⟨c, hc, _, wc⟩ := DataW.trod_int h2 g2
    simp at ha hb hc
    obtain ⟨y0, y1, y2, y3, k, _, r0, r1, r2, r3⟩ := trod_array4 h3 hce g3
    obtain ⟨d0, e0, _, v0⟩ := DataW.trod_int he r0
    obtain ⟨d1, e1, _, v1⟩ := DataW.trod_int he r1
    obtain ⟨d2, e2, _, v2⟩ := DataW.trod_int he r2
    obtain ⟨d3, e3, _, v3⟩ := DataW.trod_int he r3
    simp at e0 e1 e2 e3
    have b0 := u64 v0
    have b1 := u64 v1
    have b2 := u64 v2
    have b3 := u64 v3
    obtain ⟨d0, rfl⟩ := Int.eq_ofNat_of_zero_le b0.1
    obtain ⟨d1, rfl⟩ := Int.eq_ofNat_of_zero_le b1.1
    obtain ⟨d2, rfl⟩ := Int.eq_ofNat_of_zero_le b2.1
    obtain ⟨d3, rfl⟩ := Int.eq_ofNat_of_zero_le b3.1
    obtain ⟨s0, s1, s2, s3, sk⟩ := setOf4_W (a := d0) (b := d1) (c := d2) (d := d3) (by unfold w64; omega) (by unfold w64; omega) (by unfold w64; omega) (by unfold w64; omega)
    refine ⟨⟨a, b, c, setOf4 d0 d1 d2 d3⟩, ?_, sk⟩
    unfold ndCells
    simp only [s0, s1, s2, s3]
    rw [ha, hb, hc, e0, e1, e2, e3]
end
theorem flat_nds (l : List Nd) : (l.map ndCells).flatten = ndsV l := by
  unfold ndsV
  rw [List.flatMap_def]
theorem open_ndl {H : Type} {enc : TypeId × Value → H} {w : World} {base : Nat} {spare : Nat → Bool} {held : Bool} {a : Option Addr} {len cap : Nat} {d : DataW H} {p : List MemPlace}
    (h : DataW.Trod enc Try.prog w base spare held 23 (.slice a len cap) d p) :
    ∃ l : List Nd, l.length = len ∧ len ≤ maxLen ∧ Rs w a (ndsV l) ∧ ∀ x ∈ l, setOk x.set := by
  obtain ⟨cells, hl, hc1, hc2, hr, hc⟩ := open_elems Try.underlying23 (show 0 < Try.prog.cellsOf 48 by decide +kernel) h
  obtain ⟨l, rfl, hp⟩ := list_choose ndCells (fun x => setOk x.set) cells (fun cs hcs => by
    obtain ⟨_, n, y, hy⟩ := hc cs hcs
    exact open_four Try.underlying48 rfl rfl rfl rfl (by decide +kernel) (by decide +kernel) (by decide +kernel) (by decide +kernel) (by decide +kernel) Try.underlying3 Try.underlying3 Try.underlying3 Try.underlying46 Try.underlying44 (by decide +kernel) hy)
  refine ⟨l, by simpa using hl, by omega, ?_, hp⟩
  rw [flat_nds] at hr
  exact hr
end Go.Proofs.Ytaajgdhoffhdcaa
/-
  The reference's test of a list of nodes, on plain lists: it comes to the program's test. No program in sight.
-/
namespace Go.Proofs.Ytaajgdhoffhdcaa
open Go.RowKit
set_option linter.unusedVariables false

def badNd (x : Nd) : Prop := x.kind < 1 ∨ 9 < x.kind ∨ (x.kind ≠ 2 ∧ x.set ≠ 0)
instance (x : Nd) : Decidable (badNd x) := by unfold badNd; infer_instance
def bentNd (x : Nd) : Prop := (kidsN x.kind < 2 ∧ x.right ≠ 0) ∨ (kidsN x.kind < 1 ∧ x.left ≠ 0)
instance (x : Nd) : Decidable (bentNd x) := by unfold bentNd; infer_instance
def treeS (x : Nd) (k : Int) (g : Int → Int) : Int :=
  if badNd x ∨ bentNd x then -1
  else if kidsN x.kind = 0 then k
  else if kidsN x.kind = 2 then
    if x.right ≠ k - 1 then -1
    else if g (k - 1) - 1 < 0 ∨ x.left ≠ g (k - 1) - 1 then -1 else g (g (k - 1) - 1)
  else if k - 1 < 0 ∨ x.left ≠ k - 1 then -1 else g (k - 1)
/-- Where the tree whose root is node k begins, or -1. -/
def treeF (l : List Nd) : Nat → Int → Int
  | 0, _ => -1
  | f + 1, k => if k < 0 then -1 else treeS (nd l k.toNat) k (treeF l f)
theorem treeF_bd (l : List Nd) : ∀ (f : Nat) (k : Int), -1 ≤ treeF l f k ∧ (-1 ≤ k → treeF l f k ≤ k)
  | 0, k => ⟨Int.le_refl _, fun h => h⟩
  | f + 1, k => by
    have a1 := treeF_bd l f (k - 1)
    have a2 := treeF_bd l f (treeF l f (k - 1) - 1)
    rw [treeF]
    split
    · exact ⟨by omega, by omega⟩
    unfold treeS
    split
    · exact ⟨by omega, by omega⟩
    split
    · exact ⟨by omega, by omega⟩
    split
    · split
      · exact ⟨by omega, by omega⟩
      split
      · exact ⟨by omega, by omega⟩
      · exact ⟨a2.1, fun h => by have := a2.2 (by omega); have := a1.2 (by omega); omega⟩
    · split
      · exact ⟨by omega, by omega⟩
      · exact ⟨a1.1, fun h => by have := a1.2 (by omega); omega⟩
theorem treeF_neg (l : List Nd) (f : Nat) (k : Int) (h : k < 0) : treeF l f k = -1 := by
  cases f with
  | zero => rfl
  | succ f => rw [treeF, if_pos h]
theorem sub_treeF {l : List Nd} {a n : Nat} (h : Sub l a n) : ∀ f, n + 1 ≤ f → treeF l f n = a := by
  induction h with
  | leaf n h hk h1 h2 h3 =>
    intro f hf
    obtain ⟨f, rfl⟩ : ∃ g, f = g + 1 := ⟨f - 1, by omega⟩
    have hkk : kidsN (nd l n).kind = 0 := by unfold kidsN; rw [if_neg (by omega), if_neg (by omega)]
    rw [treeF, if_neg (by omega), Int.toNat_natCast]
    unfold treeS
    rw [if_neg, if_pos hkk]
    rintro (hb | hb)
    · rcases hb with hb | hb | ⟨hb, hc⟩
      · omega
      · omega
      · exact hc (h3 hb)
    · rcases hb with ⟨_, hb⟩ | ⟨_, hb⟩
      · exact hb h2
      · exact hb h1
  | one a n h hk h1 h2 h3 hs ih =>
    intro f hf
    obtain ⟨f, rfl⟩ : ∃ g, f = g + 1 := ⟨f - 1, by omega⟩
    have hkk : kidsN (nd l (n + 1)).kind = 1 := by unfold kidsN; rw [if_neg (by omega), if_pos (by omega)]
    have i1 := ih f (by omega)
    have e : ((n + 1 : Nat) : Int) - 1 = n := by omega
    rw [treeF, if_neg (by omega), Int.toNat_natCast]
    unfold treeS
    rw [e, if_neg, if_neg (by omega), if_neg (by omega), if_neg (by omega), i1]
    rintro (hb | hb)
    · rcases hb with hb | hb | ⟨hb, hc⟩
      · omega
      · omega
      · exact hc h3
    · rcases hb with ⟨_, hb⟩ | ⟨hb, _⟩
      · exact hb h2
      · omega
  | two a m n h hk h1 h2 h3 hs1 hs2 ih1 ih2 =>
    intro f hf
    obtain ⟨f, rfl⟩ : ∃ g, f = g + 1 := ⟨f - 1, by omega⟩
    have hkk : kidsN (nd l (n + 1)).kind = 2 := by unfold kidsN; rw [if_pos (by omega)]
    have b1 := hs1.le
    have b2 := hs2.le
    have i1 := ih1 f (by omega)
    have i2 := ih2 f (by omega)
    have e : ((n + 1 : Nat) : Int) - 1 = n := by omega
    have e2 : ((m + 1 : Nat) : Int) - 1 = m := by omega
    rw [treeF, if_neg (by omega), Int.toNat_natCast]
    unfold treeS
    rw [e, i2, e2, i1, if_neg, if_neg (by omega), if_pos hkk, if_neg (by omega), if_neg (by omega)]
    rintro (hb | hb)
    · rcases hb with hb | hb | ⟨hb, hc⟩
      · omega
      · omega
      · exact hc h3
    · rcases hb with ⟨hb, _⟩ | ⟨hb, _⟩ <;> omega
theorem treeF_sub {l : List Nd} : ∀ (f n : Nat), n < l.length → ∀ a : Nat, treeF l f n = a → Sub l a n
  | 0, n, hn, a, h => by rw [treeF] at h; omega
  | f + 1, n, hn, a, h => by
    rw [treeF, if_neg (by omega), Int.toNat_natCast] at h
    unfold treeS at h
    split at h
    · omega
    rename_i hb
    have hb1 : ¬ badNd (nd l n) := fun x => hb (Or.inl x)
    have hb2 : ¬ bentNd (nd l n) := fun x => hb (Or.inr x)
    unfold badNd at hb1
    unfold bentNd at hb2
    have hk1 : 1 ≤ (nd l n).kind := by omega
    have hk2 : (nd l n).kind ≤ 9 := by omega
    have hset : (nd l n).kind ≠ 2 → (nd l n).set = 0 := fun hx => Decidable.byContradiction fun hy => hb1 (Or.inr (Or.inr ⟨hx, hy⟩))
    split at h
    · rename_i hk
      obtain rfl : n = a := by omega
      have hkk : (nd l n).kind = 1 ∨ (nd l n).kind = 2 ∨ (nd l n).kind = 8 ∨ (nd l n).kind = 9 := by
        unfold kidsN at hk; split at hk
        · omega
        split at hk <;> omega
      exact .leaf n hn hkk (by omega) (by omega) hset
    split at h
    · rename_i hk
      have hkk : (nd l n).kind = 3 ∨ (nd l n).kind = 4 := by
        unfold kidsN at hk; split at hk
        · assumption
        split at hk <;> omega
      split at h
      · omega
      rename_i hr
      split at h
      · omega
      rename_i hl
      have hbd := treeF_bd l f ((n : Int) - 1)
      have h1 : 1 ≤ n := by
        have := hbd.2
        rcases Nat.eq_zero_or_pos n with e | e
        · subst e
          rw [treeF_neg l f _ (by omega)] at hl
          omega
        · exact e
      obtain ⟨n, rfl⟩ : ∃ k, n = k + 1 := ⟨n - 1, by omega⟩
      have e : ((n + 1 : Nat) : Int) - 1 = n := by omega
      rw [e] at h hl hr hbd
      obtain ⟨t, ht⟩ : ∃ t : Nat, treeF l f n = (t + 1 : Nat) := ⟨(treeF l f n - 1).toNat, by omega⟩
      have s2 := treeF_sub f n (by omega) _ ht
      rw [ht] at h hl
      have e2 : ((t + 1 : Nat) : Int) - 1 = t := by omega
      rw [e2] at h hl
      have := s2.le
      have s1 := treeF_sub f t (by omega) _ h
      exact .two a t n hn hkk (by omega) (by omega) (hset (by omega)) s1 s2
    · rename_i hk0 hk2'
      have hkk : (nd l n).kind = 5 ∨ (nd l n).kind = 6 ∨ (nd l n).kind = 7 := by
        unfold kidsN at hk0 hk2'; split at hk0
        · omega
        split at hk0 <;> omega
      have hk1' : kidsN (nd l n).kind = 1 := by unfold kidsN; rw [if_neg (by omega), if_pos (by omega)]
      split at h
      · omega
      rename_i hl
      obtain ⟨n, rfl⟩ : ∃ k, n = k + 1 := ⟨n - 1, by omega⟩
      have e : ((n + 1 : Nat) : Int) - 1 = n := by omega
      rw [e] at h hl
      have s1 := treeF_sub f n (by omega) _ h
      exact .one a n hn hkk (by omega) (by omega) (hset (by omega)) s1
/-- The reference's test. -/
def rvalidM (l : List Nd) : Bool := decide (1 ≤ l.length ∧ l.length ≤ 256 ∧ treeF l l.length ((l.length : Int) - 1) = 0)
theorem rvalid_eq (l : List Nd) : rvalidM l = validM l := by
  by_cases h : validM l = true
  · have hs := validM_sub h
    have hl := validM_len h
    rw [h]
    refine decide_eq_true ⟨by omega, by omega, ?_⟩
    have := sub_treeF hs l.length (by omega)
    rw [show ((l.length : Int) - 1) = ((l.length - 1 : Nat) : Int) by omega]
    exact this
  · have hf : validM l = false := by simpa using h
    rw [hf]
    refine decide_eq_false ?_
    rintro ⟨h1, h2, h3⟩
    rw [show ((l.length : Int) - 1) = ((l.length - 1 : Nat) : Int) by omega] at h3
    have hs := treeF_sub l.length (l.length - 1) (by omega) 0 h3
    exact h (Tr.valid ⟨by omega, hs⟩ h2)
end Go.Proofs.Ytaajgdhoffhdcaa
/-
  The reference's test of a list of nodes: one tree.
-/
namespace Go.Proofs.Ytaajgdhoffhdcaa
open Go.RowKit
set_option linter.unusedVariables false

set_option maxRecDepth 100000 in
theorem tree_neg (A : Option Addr) (c n : Nat) (k : Int) (w : World) (h : k < 0) : Calls Try.prog 63 #[.slice A n c, .int .i64 k] w (ValOld (.int .i64 (-1)) w) := by
  go_enter Try.func63, Try.ntmps63
  go_wp2_with fail
  go_ret
  exact ⟨rfl, Old.refl _⟩
set_option maxHeartbeats 8000000 in
set_option maxRecDepth 100000 in
theorem treeC (A : Option Addr) (c : Nat) (l : List Nd) (hm : l.length ≤ maxLen) (hso : ∀ x ∈ l, setOk x.set) : ∀ (f : Nat) (k : Int) (w : World), Rs w A (ndsV l) → k < l.length → k + 1 ≤ f →
    Calls Try.prog 63 #[.slice A l.length c, .int .i64 k] w (ValOld (.int .i64 (treeF l f k)) w) := by
  intro f
  induction f with
  | zero =>
    intro k w hr hk hf
    rw [treeF_neg l 0 k (by omega)]
    exact tree_neg A c l.length k w (by omega)
  | succ f ih =>
  intro k w hr hk hf
  by_cases h0 : k < 0
  · rw [treeF_neg l _ k h0]
    exact tree_neg A c l.length k w h0
  obtain ⟨k, rfl⟩ : ∃ n : Nat, k = (n : Int) := ⟨k.toNat, by omega⟩
  have hT : treeF l (f + 1) (k : Int) = treeS (nd l k) k (treeF l f) := by rw [treeF, if_neg h0, Int.toNat_natCast]
  have hkl : k < l.length := by omega
  have hx : l[k]? = some (nd l k) := by unfold nd; rw [List.getD_eq_getElem?_getD, List.getElem?_eq_getElem hkl]; rfl
  have hg := ndsV_get l k _ hx
  have hst : setOk (nd l k).set := hso _ (List.mem_of_getElem? hx)
  have IH := Lib.hid ih
  have HRW := Lib.hid hr
  obtain ⟨b, off, rfl, hbl, hcl⟩ := hr.at_ (by rw [ndsV_length]; omega)
  have c0 := hcl _ _ (hg 0 (by omega))
  have c1 := hcl _ _ (hg 1 (by omega))
  have c2 := hcl _ _ (hg 2 (by omega))
  have c3 := hcl _ _ (hg 3 (by omega))
  have c4 := hcl _ _ (hg 4 (by omega))
  have c5 := hcl _ _ (hg 5 (by omega))
  have c6 := hcl _ _ (hg 6 (by omega))
  rw [← Nat.add_assoc] at c0 c1 c2 c3 c4 c5 c6
  rw [Nat.add_zero] at c0
  clear hx hg hcl hr ih hbl hso
  have HT := Lib.hid hT
  clear hT
  generalize nd l k = nx at *
  obtain ⟨kd, lf, rt, st⟩ := nx
  replace c0 : w.cell? ⟨b, off + k * 7, none⟩ = some (.int .i64 kd) := c0
  replace c1 : w.cell? ⟨b, off + k * 7 + 1, none⟩ = some (.int .i64 lf) := c1
  replace c2 : w.cell? ⟨b, off + k * 7 + 2, none⟩ = some (.int .i64 rt) := c2
  replace c3 : w.cell? ⟨b, off + k * 7 + 3, none⟩ = some (.int .u64 (setW st 0)) := c3
  replace c4 : w.cell? ⟨b, off + k * 7 + 4, none⟩ = some (.int .u64 (setW st 1)) := c4
  replace c5 : w.cell? ⟨b, off + k * 7 + 5, none⟩ = some (.int .u64 (setW st 2)) := c5
  replace c6 : w.cell? ⟨b, off + k * 7 + 6, none⟩ = some (.int .u64 (setW st 3)) := c6
  have i0 : (0 : Int) ≤ (k : Int) := by omega
  have i1 : (k : Int) < (l.length : Int) := by omega
  have HF := Lib.hid hf
  have HMX := Lib.hid hm
  clear hf hm h0
  go_enter Try.func63, Try.ntmps63
  go_upto_region 4 with fail
  have hb5 := heap_alloc_new w (.cells #[.int .i64 kd, .int .i64 lf, .int .i64 rt, .int .u64 (setW st 0), .int .u64 (setW st 1), .int .u64 (setW st 2), .int .u64 (setW st 3)] 48)
  have HOW := Lib.hid ((Old.refl w).alloc (.cells #[.int .i64 kd, .int .i64 lf, .int .i64 rt, .int .u64 (setW st 0), .int .u64 (setW st 1), .int .u64 (setW st 2), .int .u64 (setW st 3)] 48))
  generalize w.alloc (.cells #[.int .i64 kd, .int .i64 lf, .int .i64 rt, .int .u64 (setW st 0), .int .u64 (setW st 1), .int .u64 (setW st 2), .int .u64 (setW st 3)] 48) = W at *
  clear c0 c1 c2 c3 c4 c5 c6
  have d0 : W.cell? ⟨w.heap.size, 0, none⟩ = some (.int .i64 kd) := by rw [cell_of_row W _ 0 _ _ _ hb5]; rfl
  have d1 : W.cell? ⟨w.heap.size, 1, none⟩ = some (.int .i64 lf) := by rw [cell_of_row W _ 1 _ _ _ hb5]; rfl
  have d2 : W.cell? ⟨w.heap.size, 2, none⟩ = some (.int .i64 rt) := by rw [cell_of_row W _ 2 _ _ _ hb5]; rfl
  have d3 : W.cell? ⟨w.heap.size, 3, none⟩ = some (.int .u64 (setW st 0)) := by rw [cell_of_row W _ 3 _ _ _ hb5]; rfl
  have d4 : W.cell? ⟨w.heap.size, 4, none⟩ = some (.int .u64 (setW st 1)) := by rw [cell_of_row W _ 4 _ _ _ hb5]; rfl
  have d5 : W.cell? ⟨w.heap.size, 5, none⟩ = some (.int .u64 (setW st 2)) := by rw [cell_of_row W _ 5 _ _ _ hb5]; rfl
  have d6 : W.cell? ⟨w.heap.size, 6, none⟩ = some (.int .u64 (setW st 3)) := by rw [cell_of_row W _ 6 _ _ _ hb5]; rfl
  have HB5 := Lib.hid hb5
  clear hb5
  have hz := fun W => set_zero st hst W
  clear hst
  have i9 : (k : Int) < 9223372036854775807 := by have := HMX.out; unfold maxLen at this; omega
  by_cases b1 : kd < 1
  · have HN : Hid (treeF l (f + 1) (k : Int) = -1) := Lib.hid (by rw [HT.out]; unfold treeS; rw [if_pos (by simp only [badNd]; omega)])
    clear HT
    go_wp2_with fail
    go_ret
    rw [HN.out]
    exact ⟨rfl, HOW.out⟩
  by_cases b2 : 9 < kd
  · have HN : Hid (treeF l (f + 1) (k : Int) = -1) := Lib.hid (by rw [HT.out]; unfold treeS; rw [if_pos (by simp only [badNd]; omega)])
    clear HT
    go_wp2_with fail
    go_ret
    rw [HN.out]
    exact ⟨rfl, HOW.out⟩
  by_cases b3 : kd = 2
  · have b4 : (kd != 2) = false := by simp [b3]
    clear HB5
    have HK0 : Hid (¬ badNd ⟨kd, lf, rt, st⟩) := Lib.hid (by rintro (h | h | ⟨h, h'⟩) <;> first | exact b1 h | exact b2 h | exact h b3 | exact h' b5)
    have hk3 : kidsN kd = 0 ∨ kidsN kd = 1 ∨ kidsN kd = 2 := by have := kidsN_bd kd; omega
    have HKC := Lib.hid (kidsC kd)
    have HBN : Hid (bentNd ⟨kd, lf, rt, st⟩ ↔ ((kidsN kd < 2 ∧ rt ≠ 0) ∨ (kidsN kd < 1 ∧ lf ≠ 0))) := Lib.hid Iff.rfl
    have HTS : Hid (treeF l (f + 1) (k : Int) = if bentNd ⟨kd, lf, rt, st⟩ then -1 else if kidsN kd = 0 then (k : Int) else if kidsN kd = 2 then if rt ≠ k - 1 then -1 else if treeF l f (k - 1) - 1 < 0 ∨ lf ≠ treeF l f (k - 1) - 1 then -1 else treeF l f (treeF l f (k - 1) - 1) else if (k : Int) - 1 < 0 ∨ lf ≠ k - 1 then -1 else treeF l f (k - 1)) := Lib.hid (by
      rw [HT.out]
      unfold treeS
      simp only [HK0.out, false_or])
    clear HT HK0
    generalize kidsN kd = kk at *
    try clear b5
    clear b3
    rcases hk3 with rfl | rfl | rfl
    · by_cases b7 : rt = 0
      · by_cases b8 : lf = 0
        · have HN : Hid (treeF l (f + 1) (k : Int) = k) := Lib.hid (by rw [HTS.out, if_neg (by rw [HBN.out]; omega), if_pos rfl])
          have b9 : (rt != 0) = false := by simp [b7]
          have b10 : (lf != 0) = false := by simp [b8]
          clear HTS HBN b7 b8
          go_wp2_with fail
          refine (HKC.out _).mono ?_; rintro e W8 ⟨rfl, rfl⟩
          go_wp2_with fail
          go_ret
          rw [HN.out]
          exact ⟨rfl, HOW.out⟩
        · have HN : Hid (treeF l (f + 1) (k : Int) = -1) := Lib.hid (by rw [HTS.out, if_pos (by rw [HBN.out]; omega)])
          have b9 : (rt != 0) = false := by simp [b7]
          have b10 : (lf != 0) = true := by simpa using b8
          clear HTS HBN b7 b8
          go_wp2_with fail
          refine (HKC.out _).mono ?_; rintro e W8 ⟨rfl, rfl⟩
          go_wp2_with fail
          go_ret
          rw [HN.out]
          exact ⟨rfl, HOW.out⟩
      · have HN : Hid (treeF l (f + 1) (k : Int) = -1) := Lib.hid (by rw [HTS.out, if_pos (by rw [HBN.out]; omega)])
        have b9 : (rt != 0) = true := by simpa using b7
        clear HTS HBN b7
        go_wp2_with fail
        refine (HKC.out _).mono ?_; rintro e W8 ⟨rfl, rfl⟩
        go_wp2_with fail
        go_ret
        rw [HN.out]
        exact ⟨rfl, HOW.out⟩
    · by_cases b7 : rt = 0
      · have b9 : (rt != 0) = false := by simp [b7]
        by_cases b8 : (k : Int) - 1 < 0
        · have HN : Hid (treeF l (f + 1) (k : Int) = -1) := Lib.hid (by rw [HTS.out, if_neg (by rw [HBN.out]; omega), if_neg (by omega), if_neg (by omega), if_pos (Or.inl b8)])
          clear HTS HBN b7
          go_wp2_with fail
          refine (HKC.out _).mono ?_; rintro e W8 ⟨rfl, rfl⟩
          go_wp2_with fail
          go_ret
          rw [HN.out]
          exact ⟨rfl, HOW.out⟩
        · obtain ⟨n, rfl⟩ : ∃ n : Nat, k = n + 1 := ⟨k - 1, by omega⟩
          have e9 : ((n + 1 : Nat) : Int) - 1 = (n : Int) := by omega
          have HE9 := Lib.hid e9
          clear e9
          by_cases b11 : lf = (n : Int)
          · have HN : Hid (treeF l (f + 1) ((n + 1 : Nat) : Int) = treeF l f n) := Lib.hid (by
              rw [HTS.out, HE9.out, if_neg (by rw [HBN.out]; omega), if_neg (by omega), if_neg (by omega), if_neg (by omega)])
            have HI := Lib.hid (IH.out (n : Int) _ (HRW.out.up HOW.out) (by omega) (by have := HF.out; omega))
            clear HTS HBN IH b7 b8
            subst b11
            generalize treeF l (f + 1) ((n + 1 : Nat) : Int) = TT at *
            have jd : decide ((n : Int) < 0) = false := decide_eq_false (by omega)
            go_wp2_with fail
            refine (HKC.out _).mono ?_; rintro e W8 ⟨rfl, rfl⟩
            go_wp2_with fail
            refine (HI.out).mono ?_; rintro e W9 ⟨rfl, o9⟩
            have HO9 := Lib.hid (HOW.out.up o9)
            clear o9
            go_wp2_with fail
            go_ret
            rw [HN.out]
            exact ⟨rfl, HO9.out⟩
          · have HN : Hid (treeF l (f + 1) ((n + 1 : Nat) : Int) = -1) := Lib.hid (by
              rw [HTS.out, HE9.out, if_neg (by rw [HBN.out]; omega), if_neg (by omega), if_neg (by omega), if_pos (Or.inr b11)])
            have b12 : (lf != (n : Int)) = true := by simpa using b11
            clear HTS HBN IH b7 b8 b11
            generalize treeF l (f + 1) ((n + 1 : Nat) : Int) = TT at *
            have jd : decide ((n : Int) < 0) = false := decide_eq_false (by omega)
            go_wp2_with fail
            refine (HKC.out _).mono ?_; rintro e W8 ⟨rfl, rfl⟩
            go_wp2_with fail
            go_ret
            rw [HN.out]
            exact ⟨rfl, HOW.out⟩
      · have HN : Hid (treeF l (f + 1) (k : Int) = -1) := Lib.hid (by rw [HTS.out, if_pos (by rw [HBN.out]; omega)])
        have b9 : (rt != 0) = true := by simpa using b7
        clear HTS HBN b7
        go_wp2_with fail
        refine (HKC.out _).mono ?_; rintro e W8 ⟨rfl, rfl⟩
        go_wp2_with fail
        go_ret
        rw [HN.out]
        exact ⟨rfl, HOW.out⟩
    · by_cases b7 : rt = (k : Int) - 1
      · have htb := treeF_bd l f ((k : Int) - 1)
        have HI := Lib.hid (IH.out ((k : Int) - 1) _ (HRW.out.up HOW.out) (by omega) (by have := HF.out; omega))
        have HI2 := Lib.hid (fun (t : Int) W' o => IH.out t W' (HRW.out.up (HOW.out.up o)))
        have HTS2 : Hid (treeF l (f + 1) (k : Int) = if treeF l f (k - 1) - 1 < 0 ∨ lf ≠ treeF l f (k - 1) - 1 then -1 else treeF l f (treeF l f (k - 1) - 1)) := Lib.hid (by rw [HTS.out, if_neg (by rw [HBN.out]; omega), if_neg (by omega), if_pos rfl, if_neg (by omega)])
        clear HTS HBN IH
        subst b7
        generalize treeF l f ((k : Int) - 1) = T1 at *
        obtain ⟨t1, t2⟩ := htb
        have HT2 := Lib.hid t2
        have HT1 := Lib.hid t1
        clear t1 t2
        go_wp2_with fail
        refine (HKC.out _).mono ?_; rintro e W8 ⟨rfl, rfl⟩
        go_wp2_with fail
        refine (HI.out).mono ?_; rintro e W9 ⟨rfl, o9⟩
        have HO9 := Lib.hid (HOW.out.up o9)
        have HI3 := Lib.hid (fun t => HI2.out t W9 o9)
        replace d1 := o9.cell d1
        clear o9 HI HI2 d0 d2 d3 d4 d5 d6
        have hT1 : T1 = -1 ∨ T1 = 0 ∨ ∃ t : Nat, T1 = (t : Int) + 1 := by
          have := HT1.out
          rcases Int.lt_or_le T1 1 with h | h
          · omega
          · exact Or.inr (Or.inr ⟨(T1 - 1).toNat, by omega⟩)
        rcases hT1 with rfl | rfl | ⟨t, rfl⟩
        · have HN : Hid (treeF l (f + 1) (k : Int) = -1) := Lib.hid (by rw [HTS2.out, if_pos (by omega)])
          clear HTS2 HT1 HT2 HI3
          go_wp2_with fail
          go_ret
          rw [HN.out]
          exact ⟨rfl, HO9.out⟩
        · have HN : Hid (treeF l (f + 1) (k : Int) = -1) := Lib.hid (by rw [HTS2.out, if_pos (by omega)])
          clear HTS2 HT1 HT2 HI3
          go_wp2_with fail
          go_ret
          rw [HN.out]
          exact ⟨rfl, HO9.out⟩
        · have htk : (t : Int) + 1 ≤ k - 1 := HT2.out (by omega)
          have HTK := Lib.hid htk
          clear HT1 HT2
          have i10 : ((t + 1 : Nat) : Int) < 9223372036854775807 := by omega
          have i11 : (0 : Int) ≤ ((t + 1 : Nat) : Int) := by omega
          clear htk
          have e9 : (t : Int) + 1 - 1 = (t : Int) := by omega
          by_cases b8 : lf = (t : Int)
          · have HN : Hid (treeF l (f + 1) (k : Int) = treeF l f t) := Lib.hid (by rw [HTS2.out, e9, if_neg (by omega)])
            have HI4 := Lib.hid (HI3.out (t : Int) (by have := HTK.out; omega) (by have := HF.out; have := HTK.out; omega))
            clear HTS2 HI3 e9
            subst b8
            generalize treeF l (f + 1) (k : Int) = TT at *
            have jd : decide ((t : Int) < 0) = false := decide_eq_false (by omega)
            go_wp2_with fail
            refine (HI4.out).mono ?_; rintro e W10 ⟨rfl, o10⟩
            have HO10 := Lib.hid (HO9.out.up o10)
            clear o10
            go_wp2_with fail
            go_ret
            rw [HN.out]
            exact ⟨rfl, HO10.out⟩
          · have HN : Hid (treeF l (f + 1) (k : Int) = -1) := Lib.hid (by rw [HTS2.out, e9, if_pos (Or.inr b8)])
            have b12 : (lf != (t : Int)) = true := by simpa using b8
            clear HTS2 HI3 e9 b8
            generalize treeF l (f + 1) (k : Int) = TT at *
            have jd : decide ((t : Int) < 0) = false := decide_eq_false (by omega)
            go_wp2_with fail
            go_ret
            rw [HN.out]
            exact ⟨rfl, HO9.out⟩
      · have HN : Hid (treeF l (f + 1) (k : Int) = -1) := Lib.hid (by rw [HTS.out, if_neg (by rw [HBN.out]; omega), if_neg (by omega), if_pos rfl, if_pos b7])
        have b9 : (rt != (k : Int) - 1) = true := by simpa using b7
        clear HTS HBN b7
        go_wp2_with fail
        refine (HKC.out _).mono ?_; rintro e W8 ⟨rfl, rfl⟩
        go_wp2_with fail
        go_ret
        rw [HN.out]
        exact ⟨rfl, HOW.out⟩
  · have b4 : (kd != 2) = true := by simpa using b3
    by_cases b5 : st = 0
    · have b6 : decide (st = 0) = true := by simp [b5]
      simp only [b6] at hz
      clear b6
      clear HB5
      have HK0 : Hid (¬ badNd ⟨kd, lf, rt, st⟩) := Lib.hid (by rintro (h | h | ⟨h, h'⟩) <;> first | exact b1 h | exact b2 h | exact h b3 | exact h' b5)
      have hk3 : kidsN kd = 0 ∨ kidsN kd = 1 ∨ kidsN kd = 2 := by have := kidsN_bd kd; omega
      have HKC := Lib.hid (kidsC kd)
      have HBN : Hid (bentNd ⟨kd, lf, rt, st⟩ ↔ ((kidsN kd < 2 ∧ rt ≠ 0) ∨ (kidsN kd < 1 ∧ lf ≠ 0))) := Lib.hid Iff.rfl
      have HTS : Hid (treeF l (f + 1) (k : Int) = if bentNd ⟨kd, lf, rt, st⟩ then -1 else if kidsN kd = 0 then (k : Int) else if kidsN kd = 2 then if rt ≠ k - 1 then -1 else if treeF l f (k - 1) - 1 < 0 ∨ lf ≠ treeF l f (k - 1) - 1 then -1 else treeF l f (treeF l f (k - 1) - 1) else if (k : Int) - 1 < 0 ∨ lf ≠ k - 1 then -1 else treeF l f (k - 1)) := Lib.hid (by
        rw [HT.out]
        unfold treeS
        simp only [HK0.out, false_or])
      clear HT HK0
      generalize kidsN kd = kk at *
      try clear b5
      clear b3
      rcases hk3 with rfl | rfl | rfl
      · by_cases b7 : rt = 0
        · by_cases b8 : lf = 0
          · have HN : Hid (treeF l (f + 1) (k : Int) = k) := Lib.hid (by rw [HTS.out, if_neg (by rw [HBN.out]; omega), if_pos rfl])
            have b9 : (rt != 0) = false := by simp [b7]
            have b10 : (lf != 0) = false := by simp [b8]
            clear HTS HBN b7 b8
            go_wp2_with fail
            refine (HKC.out _).mono ?_; rintro e W8 ⟨rfl, rfl⟩
            go_wp2_with fail
            go_ret
            rw [HN.out]
            exact ⟨rfl, HOW.out⟩
          · have HN : Hid (treeF l (f + 1) (k : Int) = -1) := Lib.hid (by rw [HTS.out, if_pos (by rw [HBN.out]; omega)])
            have b9 : (rt != 0) = false := by simp [b7]
            have b10 : (lf != 0) = true := by simpa using b8
            clear HTS HBN b7 b8
            go_wp2_with fail
            refine (HKC.out _).mono ?_; rintro e W8 ⟨rfl, rfl⟩
            go_wp2_with fail
            go_ret
            rw [HN.out]
            exact ⟨rfl, HOW.out⟩
        · have HN : Hid (treeF l (f + 1) (k : Int) = -1) := Lib.hid (by rw [HTS.out, if_pos (by rw [HBN.out]; omega)])
          have b9 : (rt != 0) = true := by simpa using b7
          clear HTS HBN b7
          go_wp2_with fail
          refine (HKC.out _).mono ?_; rintro e W8 ⟨rfl, rfl⟩
          go_wp2_with fail
          go_ret
          rw [HN.out]
          exact ⟨rfl, HOW.out⟩
      · by_cases b7 : rt = 0
        · have b9 : (rt != 0) = false := by simp [b7]
          by_cases b8 : (k : Int) - 1 < 0
          · have HN : Hid (treeF l (f + 1) (k : Int) = -1) := Lib.hid (by rw [HTS.out, if_neg (by rw [HBN.out]; omega), if_neg (by omega), if_neg (by omega), if_pos (Or.inl b8)])
            clear HTS HBN b7
            go_wp2_with fail
            refine (HKC.out _).mono ?_; rintro e W8 ⟨rfl, rfl⟩
            go_wp2_with fail
            go_ret
            rw [HN.out]
            exact ⟨rfl, HOW.out⟩
          · obtain ⟨n, rfl⟩ : ∃ n : Nat, k = n + 1 := ⟨k - 1, by omega⟩
            have e9 : ((n + 1 : Nat) : Int) - 1 = (n : Int) := by omega
            have HE9 := Lib.hid e9
            clear e9
            by_cases b11 : lf = (n : Int)
            · have HN : Hid (treeF l (f + 1) ((n + 1 : Nat) : Int) = treeF l f n) := Lib.hid (by
                rw [HTS.out, HE9.out, if_neg (by rw [HBN.out]; omega), if_neg (by omega), if_neg (by omega), if_neg (by omega)])
              have HI := Lib.hid (IH.out (n : Int) _ (HRW.out.up HOW.out) (by omega) (by have := HF.out; omega))
              clear HTS HBN IH b7 b8
              subst b11
              generalize treeF l (f + 1) ((n + 1 : Nat) : Int) = TT at *
              have jd : decide ((n : Int) < 0) = false := decide_eq_false (by omega)
              go_wp2_with fail
              refine (HKC.out _).mono ?_; rintro e W8 ⟨rfl, rfl⟩
              go_wp2_with fail
              refine (HI.out).mono ?_; rintro e W9 ⟨rfl, o9⟩
              have HO9 := Lib.hid (HOW.out.up o9)
              clear o9
              go_wp2_with fail
              go_ret
              rw [HN.out]
              exact ⟨rfl, HO9.out⟩
            · have HN : Hid (treeF l (f + 1) ((n + 1 : Nat) : Int) = -1) := Lib.hid (by
                rw [HTS.out, HE9.out, if_neg (by rw [HBN.out]; omega), if_neg (by omega), if_neg (by omega), if_pos (Or.inr b11)])
              have b12 : (lf != (n : Int)) = true := by simpa using b11
              clear HTS HBN IH b7 b8 b11
              generalize treeF l (f + 1) ((n + 1 : Nat) : Int) = TT at *
              have jd : decide ((n : Int) < 0) = false := decide_eq_false (by omega)
              go_wp2_with fail
              refine (HKC.out _).mono ?_; rintro e W8 ⟨rfl, rfl⟩
              go_wp2_with fail
              go_ret
              rw [HN.out]
              exact ⟨rfl, HOW.out⟩
        · have HN : Hid (treeF l (f + 1) (k : Int) = -1) := Lib.hid (by rw [HTS.out, if_pos (by rw [HBN.out]; omega)])
          have b9 : (rt != 0) = true := by simpa using b7
          clear HTS HBN b7
          go_wp2_with fail
          refine (HKC.out _).mono ?_; rintro e W8 ⟨rfl, rfl⟩
          go_wp2_with fail
          go_ret
          rw [HN.out]
          exact ⟨rfl, HOW.out⟩
      · by_cases b7 : rt = (k : Int) - 1
        · have htb := treeF_bd l f ((k : Int) - 1)
          have HI := Lib.hid (IH.out ((k : Int) - 1) _ (HRW.out.up HOW.out) (by omega) (by have := HF.out; omega))
          have HI2 := Lib.hid (fun (t : Int) W' o => IH.out t W' (HRW.out.up (HOW.out.up o)))
          have HTS2 : Hid (treeF l (f + 1) (k : Int) = if treeF l f (k - 1) - 1 < 0 ∨ lf ≠ treeF l f (k - 1) - 1 then -1 else treeF l f (treeF l f (k - 1) - 1)) := Lib.hid (by rw [HTS.out, if_neg (by rw [HBN.out]; omega), if_neg (by omega), if_pos rfl, if_neg (by omega)])
          clear HTS HBN IH
          subst b7
          generalize treeF l f ((k : Int) - 1) = T1 at *
          obtain ⟨t1, t2⟩ := htb
          have HT2 := Lib.hid t2
          have HT1 := Lib.hid t1
          clear t1 t2
          go_wp2_with fail
          refine (HKC.out _).mono ?_; rintro e W8 ⟨rfl, rfl⟩
          go_wp2_with fail
          refine (HI.out).mono ?_; rintro e W9 ⟨rfl, o9⟩
          have HO9 := Lib.hid (HOW.out.up o9)
          have HI3 := Lib.hid (fun t => HI2.out t W9 o9)
          replace d1 := o9.cell d1
          clear o9 HI HI2 d0 d2 d3 d4 d5 d6
          have hT1 : T1 = -1 ∨ T1 = 0 ∨ ∃ t : Nat, T1 = (t : Int) + 1 := by
            have := HT1.out
            rcases Int.lt_or_le T1 1 with h | h
            · omega
            · exact Or.inr (Or.inr ⟨(T1 - 1).toNat, by omega⟩)
          rcases hT1 with rfl | rfl | ⟨t, rfl⟩
          · have HN : Hid (treeF l (f + 1) (k : Int) = -1) := Lib.hid (by rw [HTS2.out, if_pos (by omega)])
            clear HTS2 HT1 HT2 HI3
            go_wp2_with fail
            go_ret
            rw [HN.out]
            exact ⟨rfl, HO9.out⟩
          · have HN : Hid (treeF l (f + 1) (k : Int) = -1) := Lib.hid (by rw [HTS2.out, if_pos (by omega)])
            clear HTS2 HT1 HT2 HI3
            go_wp2_with fail
            go_ret
            rw [HN.out]
            exact ⟨rfl, HO9.out⟩
          · have htk : (t : Int) + 1 ≤ k - 1 := HT2.out (by omega)
            have HTK := Lib.hid htk
            clear HT1 HT2
            have i10 : ((t + 1 : Nat) : Int) < 9223372036854775807 := by omega
            have i11 : (0 : Int) ≤ ((t + 1 : Nat) : Int) := by omega
            clear htk
            have e9 : (t : Int) + 1 - 1 = (t : Int) := by omega
            by_cases b8 : lf = (t : Int)
            · have HN : Hid (treeF l (f + 1) (k : Int) = treeF l f t) := Lib.hid (by rw [HTS2.out, e9, if_neg (by omega)])
              have HI4 := Lib.hid (HI3.out (t : Int) (by have := HTK.out; omega) (by have := HF.out; have := HTK.out; omega))
              clear HTS2 HI3 e9
              subst b8
              generalize treeF l (f + 1) (k : Int) = TT at *
              have jd : decide ((t : Int) < 0) = false := decide_eq_false (by omega)
              go_wp2_with fail
              refine (HI4.out).mono ?_; rintro e W10 ⟨rfl, o10⟩
              have HO10 := Lib.hid (HO9.out.up o10)
              clear o10
              go_wp2_with fail
              go_ret
              rw [HN.out]
              exact ⟨rfl, HO10.out⟩
            · have HN : Hid (treeF l (f + 1) (k : Int) = -1) := Lib.hid (by rw [HTS2.out, e9, if_pos (Or.inr b8)])
              have b12 : (lf != (t : Int)) = true := by simpa using b8
              clear HTS2 HI3 e9 b8
              generalize treeF l (f + 1) (k : Int) = TT at *
              have jd : decide ((t : Int) < 0) = false := decide_eq_false (by omega)
              go_wp2_with fail
              go_ret
              rw [HN.out]
              exact ⟨rfl, HO9.out⟩
        · have HN : Hid (treeF l (f + 1) (k : Int) = -1) := Lib.hid (by rw [HTS.out, if_neg (by rw [HBN.out]; omega), if_neg (by omega), if_pos rfl, if_pos b7])
          have b9 : (rt != (k : Int) - 1) = true := by simpa using b7
          clear HTS HBN b7
          go_wp2_with fail
          refine (HKC.out _).mono ?_; rintro e W8 ⟨rfl, rfl⟩
          go_wp2_with fail
          go_ret
          rw [HN.out]
          exact ⟨rfl, HOW.out⟩
    · have b6 : decide (st = 0) = false := by simp [b5]
      simp only [b6] at hz
      clear b6
      have HN : Hid (treeF l (f + 1) (k : Int) = -1) := Lib.hid (by rw [HT.out]; unfold treeS; exact if_pos (Or.inl (Or.inr (Or.inr ⟨b3, b5⟩))))
      clear HT
      go_wp2_with fail
      go_ret
      rw [HN.out]
      exact ⟨rfl, HOW.out⟩
end Go.Proofs.Ytaajgdhoffhdcaa
/-
  The reference's test of a list of nodes: its walk; it comes to the program's.
-/
namespace Go.Proofs.Ytaajgdhoffhdcaa
open Go.RowKit
set_option linter.unusedVariables false

set_option maxHeartbeats 4000000 in
set_option maxRecDepth 100000 in
theorem rvalidC (A : Option Addr) (c : Nat) (l : List Nd) (w : World) (hr : Rs w A (ndsV l)) (hm : l.length ≤ maxLen) (hso : ∀ x ∈ l, setOk x.set) :
    Calls Try.prog 34 #[.slice A l.length c] w (ValOld (.bool (validM l)) w) := by
  rw [← rvalid_eq]
  have HR := Lib.hid hr
  have HM := Lib.hid hm
  have HSO := Lib.hid hso
  clear hr hm hso
  by_cases h1 : 1 ≤ l.length
  · by_cases h2 : l.length ≤ 256
    · obtain ⟨n, hn⟩ : ∃ n, l.length = n + 1 := ⟨l.length - 1, by omega⟩
      have HT := Lib.hid (treeC A c l HM.out HSO.out l.length (n : Int) w HR.out (by omega) (by omega))
      have HV : Hid (rvalidM l = (treeF l l.length (n : Int) == 0)) := Lib.hid (by
        unfold rvalidM
        rw [Bool.eq_iff_iff, decide_eq_true_iff, beq_iff_eq, show (l.length : Int) - 1 = (n : Int) by omega]
        exact ⟨fun h => h.2.2, fun h => ⟨h1, h2, h⟩⟩)
      clear HR HM HSO
      generalize treeF l l.length (n : Int) = T at *
      generalize rvalidM l = R at *
      have i1 : (1 : Int) ≤ (l.length : Int) := by omega
      have i2 : (l.length : Int) ≤ 256 := by omega
      clear h1 h2
      generalize l.length = L at *
      subst hn
      by_cases hT : T = 0
      · have e : (T == 0) = true := by simpa using hT
        rw [e] at HV
        go_enter Try.func34, Try.ntmps34
        go_wp2_with fail
        refine (HT.out).mono ?_; rintro e w1 ⟨rfl, hd1⟩
        have HD := Lib.hid hd1
        clear hd1
        go_wp2_with fail
        go_ret
        rw [HV.out]
        exact ⟨rfl, HD.out⟩
      · have e : (T == 0) = false := by simpa using hT
        rw [e] at HV
        go_enter Try.func34, Try.ntmps34
        go_wp2_with fail
        refine (HT.out).mono ?_; rintro e w1 ⟨rfl, hd1⟩
        have HD := Lib.hid hd1
        clear hd1
        go_wp2_with fail
        go_ret
        rw [HV.out]
        exact ⟨rfl, HD.out⟩
    · have HV : Hid (rvalidM l = false) := Lib.hid (decide_eq_false (fun h => h2 h.2.1))
      have i1 : (1 : Int) ≤ (l.length : Int) := by omega
      have i2 : ¬ (l.length : Int) ≤ 256 := by omega
      go_enter Try.func34, Try.ntmps34
      go_wp2_with fail
      go_ret
      rw [HV.out]
      exact ⟨rfl, Old.refl _⟩
  · have HV : Hid (rvalidM l = false) := Lib.hid (decide_eq_false (fun h => h1 h.1))
    have i1 : ¬ (1 : Int) ≤ (l.length : Int) := by omega
    go_enter Try.func34, Try.ntmps34
    go_wp2_with fail
    go_ret
    rw [HV.out]
    exact ⟨rfl, Old.refl _⟩
end Go.Proofs.Ytaajgdhoffhdcaa
/-
  The walk of the statement RegexValid.
-/
namespace Go.Proofs.Ytaajgdhoffhdcaa
open Go.RowKit
set_option linter.unusedVariables false

theorem ndsV_set : ∀ (l : List Nd) (j : Nat) (x x' : Nd) (i : Nat) (v : Value), l[j]? = some x → i < 7 → (ndCells x).set i v = ndCells x' → (ndsV l).set (j * 7 + i) v = ndsV (l.set j x')
  | [], j, x, x', i, v, h, _, _ => by simp at h
  | a :: l, 0, x, x', i, v, h, hi, hv => by
    simp at h; subst h
    have e : ∀ (a : Nd) l, ndsV (a :: l) = ndCells a ++ ndsV l := fun _ _ => rfl
    rw [List.set_cons_zero, e, e, ← hv, Nat.zero_mul, Nat.zero_add, List.set_append_left _ _ (by simpa [ndCells] using hi)]
  | a :: l, j + 1, x, x', i, v, h, hi, hv => by
    have ih := ndsV_set l j x x' i v (by simpa using h) hi hv
    have e : ∀ (a : Nd) l, ndsV (a :: l) = ndCells a ++ ndsV l := fun _ _ => rfl
    have hl : (ndCells a).length = 7 := rfl
    rw [List.set_cons_succ, e, e, List.set_append_right _ _ (by rw [hl]; omega), hl, show (j + 1) * 7 + i - 7 = j * 7 + i by omega, ih]
theorem setOk_set {l : List Nd} (h : ∀ x ∈ l, setOk x.set) (j : Nat) (x' : Nd) (hx : setOk x'.set) : ∀ x ∈ l.set j x', setOk x.set := by
  intro x hm
  rcases List.mem_or_eq_of_mem_set hm with h' | rfl
  · exact h x h'
  · exact hx
/-- What a reader's list is, if there was no error. -/
structure Pat (n : List Nd) : Prop where
  valid : validM n = true
  pos : 1 ≤ n.length
  le : n.length ≤ 256
  sets : ∀ x ∈ n, setOk x.set
theorem parse_pat {B : List Nat} (hB : ∀ x ∈ B, x < 256) {n : List Nd} (h : parseR B = (n, 0)) : Pat n := by
  have h1 := parseR_eq B
  rw [h] at h1
  obtain ⟨h2, h3, h4⟩ := parse_tr h1
  have h5 := parseR_sets hB
  rw [h] at h5
  exact ⟨Tr.valid h2 h3, h2.1, h3, h5⟩
theorem Pat.bd {n : List Nd} (h : Pat n) (j : Nat) (hj : j < n.length) : (0 ≤ (nd n j).left ∧ (nd n j).left < 1000) ∧ 0 ≤ (nd n j).right ∧ (nd n j).right < 1000 := by
  have key : ∀ {a m : Nat}, Sub n a m → ∀ p, a ≤ p → p ≤ m → (0 ≤ (nd n p).left ∧ (nd n p).left < 1000) ∧ 0 ≤ (nd n p).right ∧ (nd n p).right < 1000 := by
    intro a m hs
    induction hs with
    | leaf m h hk h1 h2 h3 => intro p hp1 hp2; obtain rfl : p = m := by omega
                              omega
    | one a m h' hk h1 h2 h3 hs ih =>
      intro p hp1 hp2
      by_cases e : p = m + 1
      · subst e; have := h.le; omega
      · exact ih p hp1 (by omega)
    | two a m m' h' hk h1 h2 h3 hs1 hs2 i1 i2 =>
      intro p hp1 hp2
      have := hs1.le
      have := hs2.le
      by_cases e : p = m' + 1
      · subst e; have := h.le; omega
      · by_cases e2 : p ≤ m
        · exact i1 p hp1 e2
        · exact i2 p (by omega) (by omega)
  exact key (validM_sub h.valid) j (Nat.zero_le _) (by omega)
theorem rparse_rs (s : ByteArray) (w : World) (hs : s.size ≤ 9223372036854775807) : Calls Try.prog 21 #[.string s] w (ParsePost w (parseR (bs s))) :=
  parseC (6 * (bs s).length + 6) s (parseR (bs s)) w hs (parseR_eq _)
theorem dflt_pat : (parseR [40, 97, 124, 98, 41, 42, 99, 63]).2 = 0 := by decide +kernel
theorem yset {w : World} {B g c j i : Nat} {n : List Nd} {x x' : Nd} {v : Value} (h : Own w B 48 7 (.slice (some ⟨g, 0, none⟩) n.length c) n.length (ndsV n)) (hx : n[j]? = some x) (hi : i < 7) (hv : (ndCells x).set i v = ndCells x') :
    Rs (w.setCell ⟨g, j * 7 + i, none⟩ v) (some ⟨g, 0, none⟩) (ndsV (n.set j x')) := by
  have h1 := (h.set_ (j * 7 + i) v).1
  rw [ndsV_set n j x x' i v hx hi hv] at h1
  obtain ⟨A, c', e, ht, _, _⟩ := h1.shape
  injection e with e _ _
  subst e
  exact ht.rs
def XRel (w : World) (v : Value) (wx : World) : Prop := ∃ A c n, v = .slice A n.length c ∧ Hid (Rs wx A (ndsV n)) ∧ Pat n ∧ Hid (Old w wx)
def YRel (w : World) (A9 : Option Addr) (n : List Nd) (v : Value) (wx : World) : Prop := ∃ A c ys, v = .slice A ys.length c ∧ Hid (Rs wx A (ndsV ys)) ∧ ys.length ≤ 1000 ∧ Hid (∀ x ∈ ys, setOk x.set) ∧ Hid (Rs wx A9 (ndsV n)) ∧ Hid (Old w wx)
set_option maxHeartbeats 8000000 in
set_option maxRecDepth 100000 in
theorem valid_any (A A2 : Option Addr) (c c2 : Nat) (l : List Int) (raw : List Nd) (what at_ : Int) (w : World) (hr : Rs w A (ints l)) (hm : l.length ≤ maxLen) (hr2 : Rs w A2 (ndsV raw)) (hm2 : raw.length ≤ maxLen) (hso2 : ∀ x ∈ raw, setOk x.set) :
    Calls Try.prog 13 #[.slice A l.length c, .slice A2 raw.length c2, .int .i64 what, .int .i64 at_] w (ValOld (.bool true) w) := by
  have HR := Lib.hid hr
  have HR2 := Lib.hid hr2
  have HS := Lib.hid (sane8C w)
  have HSO2 := Lib.hid hso2
  have HM2 := Lib.hid hm2
  clear hr hr2 hso2 hm2
  have HT := Lib.hid (fun w1 h => textC A c l w1 h hm)
  have HTB : Hid (bs (strOf (textM l)) = textM l) := Lib.hid (bs_strOf (textM l) (textF_lt 40 l))
  have HTL : Hid ((strOf (textM l)).size ≤ 1000) := Lib.hid (by
    have := textF_len 40 l
    have h2 := bs_length (strOf (textM l))
    rw [HTB.out] at h2
    have h3 : (textM l).length ≤ 40 := this
    omega)
  have HTX : Hid (∀ x ∈ bs (strOf (textM l)), x < 256) := Lib.hid (bs_lt_all _)
  clear HTB
  generalize strOf (textM l) = s1 at *
  by_cases h300 : raw.length ≤ 300
  case neg =>
    have i3 : (300 : Int) < (raw.length : Int) := by omega
    clear h300
    go_enter Try.func13, Try.ntmps13
    go_wp2_with fail
    refine (HS.out).mono ?_; rintro e w1 ⟨rfl, hd1⟩
    have HD1 := Lib.hid hd1
    clear hd1 HS HT HR hm
    go_wp2_with fail
    go_ret
    exact ⟨rfl, HD1.out⟩
  have i3 : ¬ (300 : Int) < (raw.length : Int) := by omega
  clear h300
  go_enter Try.func13, Try.ntmps13
  go_wp2_with fail
  refine (HS.out).mono ?_; rintro e w1 ⟨rfl, hd1⟩
  have HD1 := Lib.hid hd1
  have HT1 := Lib.hid (HT.out w1 (HR.out.up hd1))
  clear hd1 HS HT HR hm
  go_wp2_with fail
  refine (HT1.out).mono ?_; rintro e w2 ⟨rfl, hd2⟩
  have HD2 := Lib.hid (HD1.out.up hd2)
  clear hd2 HD1 HT1
  have HP := Lib.hid (rparse_rs s1 w2 (by have := HTL.out; omega))
  have HPX := Lib.hid (fun n h => parse_pat (n := n) HTX.out h)
  generalize parseR (bs s1) = r at *
  obtain ⟨n1, e1⟩ := r
  clear HTL HTX
  go_wp2_with fail
  refine (HP.out).mono ?_; rintro e w3 ⟨v3, rfl, ho3, hd3⟩
  obtain ⟨A3, c3, rfl, ht3, _, _⟩ := ho3.shape
  have HN3 := Lib.hid ht3.rs
  have HD3 := Lib.hid (HD2.out.up hd3)
  clear ho3 ht3 hd3 HP HD2
  go_upto_if 25 with fail
  go_cut [9] (fun s9 wx => XRel w s9 wx)
  case first =>
    by_cases h0 : e1 = 0
    · subst h0
      have HPT := Lib.hid (HPX.out n1 rfl)
      go_wp2_with fail
      go_meet
      exact ⟨A3, c3, n1, rfl, HN3, HPT.out, HD3⟩
    · have hb0 : (e1 != 0) = true := by simpa using h0
      clear HPX h0
      have HP := Lib.hid (rparse_rs ⟨#[40, 97, 124, 98, 41, 42, 99, 63]⟩ w3 (by decide))
      have hpx := fun n h => parse_pat (n := n) (bs_lt_all ⟨#[40, 97, 124, 98, 41, 42, 99, 63]⟩) h
      have hz : (parseR (bs ⟨#[40, 97, 124, 98, 41, 42, 99, 63]⟩)).2 = 0 := dflt_pat
      generalize parseR (bs ⟨#[40, 97, 124, 98, 41, 42, 99, 63]⟩) = r at *
      obtain ⟨n2, e2⟩ := r
      have hz' : e2 = 0 := hz
      subst hz'
      have HPT := Lib.hid (hpx n2 rfl)
      clear hpx hz
      go_wp2_with fail
      refine (HP.out).mono ?_; rintro e w4 ⟨v4, rfl, ho4, hd4⟩
      obtain ⟨A4, c4, rfl, ht4, _, _⟩ := ho4.shape
      have HN4 := Lib.hid ht4.rs
      have HD4 := Lib.hid (HD3.out.up hd4)
      clear ho4 ht4 hd4 HP HD3
      go_wp2_with fail
      go_meet
      exact ⟨A4, c4, n2, rfl, HN4, HPT.out, HD4⟩
  case rest =>
    clear HN3 HD3 HPX
    obtain ⟨A9, c9, n, rfl, HN, HPT, HD⟩ := hcut
    have HPT := Lib.hid HPT
    have hpos : 1 ≤ n.length := HPT.out.pos
    have hle : n.length ≤ 256 := HPT.out.le
    go_upto_region 8 with fail
    go_wp2_with (at_builtin; refine wpList_pushAll rfl _ _ 23 rfl _ 48 (.agg #[.int .i64 0, .int .i64 0, .int .i64 0, .int .u64 0, .int .u64 0, .int .u64 0, .int .u64 0]) 7 56 Try.underlying23 info_nd rfl (by decide) (by decide) _ _ _ (by rfl) (own_new wc #[] 0 7 48 (by decide) rfl) _ _ _ _ (by rfl) (HN.out.alloc _) (ndsV_length _) (ndsV_one _) ?pn1 (by simp) ?_)
    case pn1 => omega
    intro v5 w5 ho5 hg5 hd5
    have HO5 := Lib.hid (show Own w5 wc.heap.size 48 7 v5 n.length (ndsV n) by simpa using ho5)
    have hd5' := hd5 wc ((Old.refl wc).alloc _) (Nat.le_refl _)
    have HB5 : Hid (Old wc w5) := Lib.hid hd5'
    clear ho5 hg5 hd5 hd5'
    obtain ⟨g, c5, rfl, hg1, hg2, _, _⟩ := HO5.out.form hpos
    have hmd := Int.emod_nonneg at_ (show (n.length : Int) ≠ 0 by omega)
    have hmd2 := Int.emod_lt_of_pos at_ (show (0 : Int) < n.length by omega)
    have HMD := Lib.hid (mod_any at_ (n.length : Int) (by omega) (by omega))
    generalize at_ % (n.length : Int) = jj at *
    obtain ⟨j, rfl⟩ := Int.eq_ofNat_of_zero_le hmd
    have i4 : (0 : Int) ≤ (j : Int) := by omega
    have i5 : (j : Int) < (n.length : Int) := by omega
    have hj : j < n.length := by omega
    clear hmd hmd2
    go_wp2_with fail
    refine (HMD.out _).mono ?_; rintro e W6 ⟨rfl, rfl⟩
    have HMW := Lib.hid (mod_any what 6 (by decide) (by decide))
    have hw1 := Int.emod_nonneg what (show (6 : Int) ≠ 0 by decide)
    have hw2 := Int.emod_lt_of_pos what (show (0 : Int) < 6 by decide)
    generalize what % 6 = kk at *
    go_wp2_with fail
    refine (HMW.out _).mono ?_; rintro e W7 ⟨rfl, rfl⟩
    clear HMW HMD
    have hx : n[j]? = some (nd n j) := by unfold nd; rw [List.getD_eq_getElem?_getD, List.getElem?_eq_getElem hj]; rfl
    have hgt := ndsV_get n j _ hx
    have HSX : Hid (setOk (nd n j).set) := Lib.hid (HPT.out.sets _ (List.mem_of_getElem? hx))
    have HBD := Lib.hid (HPT.out.bd j hj)
    have HX := Lib.hid hx
    clear hx
    generalize nd n j = x at *
    obtain ⟨kd, lf, rt, st⟩ := x
    go_upto_block 0 with fail
    go_cut [11] (fun s11 wx => YRel w A9 n s11 wx)
    case rest =>
      clear HO5 HB5 HN HD HX hgt HSX HBD
      obtain ⟨A7, c7, ys, rfl, HY, hyl, HYS, HN, HD⟩ := hcut
      have HV1 := Lib.hid (validC A9 c9 n _ HN.out (by unfold maxLen; omega) HPT.out.sets)
      rw [HPT.out.valid] at HV1
      go_wp2_with fail
      refine (HV1.out).mono ?_; rintro e w8 ⟨rfl, hd8⟩
      have HV2 := Lib.hid (validC A7 c7 ys _ (HY.out.up hd8) (by unfold maxLen; omega) HYS.out)
      have HD8 := Lib.hid (HD.out.up hd8)
      have HY8 := Lib.hid (HY.out.up hd8)
      clear hd8 HD HY HN HV1
      go_wp2_with fail
      refine (HV2.out).mono ?_; rintro e w9 ⟨rfl, hd9⟩
      have HV3 := Lib.hid (rvalidC A7 c7 ys _ (HY8.out.up hd9) (by unfold maxLen; omega) HYS.out)
      have HD9 := Lib.hid (HD8.out.up hd9)
      clear hd9 HD8 HY8 HV2
      go_wp2_with fail
      refine (HV3.out).mono ?_; rintro e w10 ⟨rfl, hd10⟩
      have HV4 := Lib.hid (validC A2 c2 raw _ (HR2.out.up (HD9.out.up hd10)) HM2.out HSO2.out)
      have HD10 := Lib.hid (HD9.out.up hd10)
      clear hd10 HD9 HV3
      generalize validM ys = b1 at *
      go_wp2_with fail
      refine (HV4.out).mono ?_; rintro e w11 ⟨rfl, hd11⟩
      have HV5 := Lib.hid (rvalidC A2 c2 raw _ (HR2.out.up (HD10.out.up hd11)) HM2.out HSO2.out)
      have HD11 := Lib.hid (HD10.out.up hd11)
      clear hd11 HD10 HV4
      go_wp2_with fail
      refine (HV5.out).mono ?_; rintro e w12 ⟨rfl, hd12⟩
      have HD12 := Lib.hid (HD11.out.up hd12)
      clear hd12 HD11 HV5
      generalize validM raw = b2 at *
      go_wp2_with fail
      go_ret
      exact ⟨rfl, HD12.out⟩
    case first =>
      clear HR2 HSO2 HM2 i3
      have HSE := Lib.hid HPT.out.sets
      rcases (show kk = 0 ∨ kk = 1 ∨ kk = 2 ∨ kk = 3 ∨ kk = 4 ∨ kk = 5 by omega) with rfl | rfl | rfl | rfl | rfl | rfl
      · have HM12 := Lib.hid (mod_any at_ 12 (by decide) (by decide))
        obtain ⟨q0, f0⟩ := HO5.out.cellAt (j := j * 7 + 0) (u := .int .i64 kd) (by rw [hgt 0 (by omega)]; rfl)
        rw [Nat.add_zero] at q0 f0
        generalize at_ % 12 = m at *
        clear hgt hw1 hw2
        go_wp2_with fail
        refine (HM12.out _).mono ?_; rintro e W8 ⟨rfl, rfl⟩
        go_wp2_with fail
        go_meet
        exact ⟨_, c5, n.set j ⟨m, lf, rt, st⟩, by rw [List.length_set], Lib.hid (yset (i := 0) HO5.out HX.out (by omega) rfl), by rw [List.length_set]; omega, Lib.hid (setOk_set HSE.out j _ HSX.out), Lib.hid (HN.out.up (HB5.out.setCell hg1 _)), Lib.hid (HD.out.up (HB5.out.setCell hg1 _))⟩
      · obtain ⟨q0, f0⟩ := HO5.out.cellAt (j := j * 7 + 1) (u := .int .i64 lf) (by rw [hgt 1 (by omega)]; rfl)
        obtain ⟨⟨b1, b2⟩, b3, b4⟩ := HBD.out
        clear hgt hw1 hw2
        go_wp2_with fail
        go_meet
        exact ⟨_, c5, n.set j ⟨kd, lf + 1, rt, st⟩, by rw [List.length_set], Lib.hid (yset (i := 1) HO5.out HX.out (by omega) rfl), by rw [List.length_set]; omega, Lib.hid (setOk_set HSE.out j _ HSX.out), Lib.hid (HN.out.up (HB5.out.setCell hg1 _)), Lib.hid (HD.out.up (HB5.out.setCell hg1 _))⟩
      · obtain ⟨q0, f0⟩ := HO5.out.cellAt (j := j * 7 + 2) (u := .int .i64 rt) (by rw [hgt 2 (by omega)]; rfl)
        obtain ⟨⟨b1, b2⟩, b3, b4⟩ := HBD.out
        clear hgt hw1 hw2
        go_wp2_with fail
        go_meet
        exact ⟨_, c5, n.set j ⟨kd, lf, rt - 1, st⟩, by rw [List.length_set], Lib.hid (yset (i := 2) HO5.out HX.out (by omega) rfl), by rw [List.length_set]; omega, Lib.hid (setOk_set HSE.out j _ HSX.out), Lib.hid (HN.out.up (HB5.out.setCell hg1 _)), Lib.hid (HD.out.up (HB5.out.setCell hg1 _))⟩
      · obtain ⟨q0, f0⟩ := HO5.out.cellAt (j := j * 7 + 4) (u := .int .u64 (setW st 1)) (by rw [hgt 4 (by omega)]; rfl)
        clear hgt hw1 hw2
        go_upto_region 19 with fail
        go_still_tail 9, (by kernel_rfl)
        go_wp2_with fail
        go_meet
        obtain ⟨z0, z1, z2, z3, zk⟩ := setOf4_W (a := setW st 0) (b := (setW st 1 + 1) % w64) (c := setW st 2) (d := setW st 3) (setW_lt st 0) (Nat.mod_lt _ (by unfold w64; decide)) (setW_lt st 2) (setW_lt st 3)
        have hwr : IntKind.u64.wrap ((setW st 1 : Nat) + 1 : Int) = (((setW st 1 + 1) % w64 : Nat) : Int) := by
          simp [IntKind.wrap, IntKind.signed, IntKind.bits, w64]
        rw [hwr]
        refine ⟨_, c5, n.set j ⟨kd, lf, rt, setOf4 (setW st 0) ((setW st 1 + 1) % w64) (setW st 2) (setW st 3)⟩, by rw [List.length_set], Lib.hid (Rs.drew (yset (i := 4) HO5.out HX.out (by omega) ?_)), by rw [List.length_set]; omega, Lib.hid (setOk_set HSE.out j _ zk), Lib.hid (HN.out.up (HB5.out.setCell hg1 _).drew), Lib.hid (HD.out.up (HB5.out.setCell hg1 _).drew)⟩
        unfold ndCells
        simp only [z0, z1, z2, z3]
        rfl
      · clear hgt hw1 hw2
        have i6 : (1 : Int) ≤ (n.length : Int) := by omega
        have HRN := Lib.hid (HN.out.up HB5.out)
        have HRD := Lib.hid (HD.out.up HB5.out)
        have HSD : Hid (∀ x ∈ n.drop 1, setOk x.set) := Lib.hid (fun x hx => HSE.out x (List.mem_of_mem_drop hx))
        have HR7 : Hid (Rs w5 (some ⟨g, 7, none⟩) (ndsV (n.drop 1))) := Lib.hid (by
          obtain ⟨_, _, e5, ht5, _, _⟩ := HO5.out.shape
          injection e5 with e5 _ _
          subst e5
          have h7 := ht5.rs.drop 7
          rw [Nat.zero_add] at h7
          have e : (ndsV n).drop 7 = ndsV (n.drop 1) := by cases n <;> rfl
          rw [e] at h7
          exact h7)
        have HNC : Hid (n.length ≤ c5) := Lib.hid (by assumption)
        by_cases hc5 : c5 = 1
        · subst hc5
          go_wp2_with fail
          go_meet
          exact ⟨_, 0, [], rfl, Lib.hid Rs.nil_, by simp, Lib.hid (fun x hx => by cases hx), HRN, HRD⟩
        · go_wp2_with fail
          go_meet
          exact ⟨some ⟨g, 7, none⟩, c5 - 1, n.drop 1, by rw [List.length_drop], HR7, by rw [List.length_drop]; omega, HSD, HRN, HRD⟩
      · clear hgt hw1 hw2
        go_wp2_with (at_builtin; refine wpList_pushAll rfl _ _ 23 rfl _ 48 (.agg #[.int .i64 0, .int .i64 0, .int .i64 0, .int .u64 0, .int .u64 0, .int .u64 0, .int .u64 0]) 7 56 Try.underlying23 info_nd rfl (by decide) (by decide) _ _ _ (by rfl) HO5.out _ _ _ _ (by rfl) (HN.out.up HB5.out) (ndsV_length _) (ndsV_one _) ?pn2 HB5.out.size ?_)
        case pn2 => omega
        intro v8 w8 ho8 hg8 hd8
        have hd8' := hd8 wc HB5.out (Nat.le_refl _)
        have HB8 : Hid (Old wc w8) := Lib.hid hd8'
        rw [show ndsV n ++ ndsV n = ndsV (n ++ n) by unfold ndsV; rw [List.flatMap_append]] at ho8
        obtain ⟨A8, c8, rfl, ht8, _, _⟩ := ho8.shape
        have HY8 := Lib.hid ht8.rs
        clear ho8 ht8 hg8 hd8 hd8'
        go_wp2_with fail
        go_meet
        exact ⟨A8, c8, n ++ n, by rw [List.length_append], HY8, by rw [List.length_append]; omega, Lib.hid (fun x hx => (List.mem_append.mp hx).elim (HSE.out x) (HSE.out x)), Lib.hid (HN.out.up HB8.out), Lib.hid (HD.out.up HB8.out)⟩
end Go.Proofs.Ytaajgdhoffhdcaa
namespace Go.Proofs.Ytaajgdhoffhdcaa
open Go.ChangeShapes Go.WideShapes Go.ChangeAt Go.RowKit Go.Deep Rw
set_option linter.unusedVariables false

theorem regexValid_row {Al A2 : Option Addr} {len1 c1 len2 c2 : Nat} {a2 a3 : Int} {W : World} (h : ∃ l : List Int, l.length = len1 ∧ len1 ≤ maxLen ∧ Rs W Al (ints l)) (h2 : ∃ l : List Nd, l.length = len2 ∧ len2 ≤ maxLen ∧ Rs W A2 (ndsV l) ∧ ∀ x ∈ l, setOk x.set) :
    Calls Try.prog 13 #[.slice Al len1 c1, .slice A2 len2 c2, .int .i64 a2, .int .i64 a3] W fun e w' => e = .returned (.bool true) ∧ Below W.heap.size W w' := by
  obtain ⟨l, rfl, hm, hr⟩ := h
  obtain ⟨raw, rfl, hm2, hr2, ho⟩ := h2
  exact valid_any Al A2 c1 c2 l raw a2 a3 W hr hm hr2 hm2 ho
set_option maxRecDepth 100000 in
theorem regexValid_lifted (os : Os) (started : os.Started) (H : Type) (enc : TypeId × Value → H) :
    ReturnsInHanded {} Try.checked os 13 .any (Rows.regexValidSpec.pre6 enc Try.prog Try.f13 Rows.regexValidRow.domain false) (Rows.regexValidSpec.post enc Try.prog Try.f13 false true false false) := by
  refine returnsInHanded_of_change (C := Try.checked) own started (by kernel_rfl) Try.func13
    (ChangeSpec.witness6 (enc := enc) (C := Try.checked) false ⟨#[], #[.slice none 0 0, .slice none 0 0, .int .i64 0, .int .i64 0], []⟩ 8 (by kernel_rfl) (by kernel_rfl) (by kernel_rfl) (by kernel_rfl)) ?_
  intro W base args ds gs before hval0 hW hcnd _
  have hval : ∀ (j : Nat) t v, Try.f13.params[j]? = some t → args[j]? = some v → Value.okWide Try.prog W .any base t v := hval0
  have hW' := hW
  obtain ⟨p, q, hA0, hV, rfl, hfz, hnd⟩ := hW
  have hA : DataW.TrodAll enc Try.prog W 0 (fun _ => true) true Try.f13.params.toList args.toList ds p := hA0
  rw [Try.params13] at hA hval
  obtain ⟨v0, vs0, d0, ds0, p0, q0, hargs, rfl, rfl, h0, r0⟩ := trodAll_cons hA
  obtain ⟨v1, vs1, d1, ds1, p1, q1, rfl, rfl, rfl, h1, r1⟩ := trodAll_cons r0
  obtain ⟨v2, vs2, d2, ds2, p2, q2, rfl, rfl, rfl, h2, r2⟩ := trodAll_cons r1
  obtain ⟨v3, vs3, d3, ds3, p3, q3, rfl, rfl, rfl, h3, r3⟩ := trodAll_cons r2
  obtain ⟨rfl, rfl, rfl⟩ := trodAll_nil r3
  obtain rfl : args = #[v0, v1, v2, v3] := by cases args; simp_all
  obtain ⟨rfl, rfl⟩ := trodVars_none hV
  obtain ⟨a0, len0, cap0, rfl⟩ := okWide_slice Try.underlying22 (hval 0 22 v0 rfl rfl)
  have lt0 : ∀ x ∈ p0, x.block < W.heap.size := by obtain ⟨m, hm⟩ := h0; exact DataW.trod_lt m _ _ _ hm
  have w0 := open_intl h0
  obtain ⟨a1, len1, cap1, rfl⟩ := okWide_slice Try.underlying23 (hval 1 23 v1 rfl rfl)
  have lt1 : ∀ x ∈ p1, x.block < W.heap.size := by obtain ⟨m, hm⟩ := h1; exact DataW.trod_lt m _ _ _ hm
  have w1 := open_ndl h1
  obtain ⟨a2, rfl, rfl, rfl, w2⟩ := open_int Try.underlying3 (hval 2 3 v2 rfl rfl) h2
  obtain ⟨a3, rfl, rfl, rfl, w3⟩ := open_int Try.underlying3 (hval 3 3 v3 rfl rfl) h3
  clear hA0 hval0
  refine (regexValid_row w0 w1).mono fun e W' ⟨he, bel⟩ => ?_
  subst he
  exact ⟨_, rfl, _, _, _, [], _, [], hW', trodAll_mk1 (shut_bool Try.underlying4 _), (trodAll_cons_mk (Below.trod laidOut (by kernel_rfl) (of_decide_eq_true (by kernel_rfl)) h0 bel lt0) (trodAll_cons_mk (Below.trod laidOut (by kernel_rfl) (of_decide_eq_true (by kernel_rfl)) h1 bel lt1) (trodAll_cons_mk (shut_int Try.underlying3 w2) (trodAll_cons_mk (shut_int Try.underlying3 w3) trodAll_mk0)))), rfl, bel.frame _, fun h => by cases h⟩

theorem regexValid_holds : Rows.RegexValidSaid :=
  OpenClaim.holds_of_wide 13 Try.f13 rfl rfl rfl rfl rfl rfl rfl ⟨rfl, rfl, rfl, rfl, rfl⟩ rfl rfl rfl rfl rfl (by kernel_rfl) Try.func13 (by kernel_rfl)
    (of_decide_eq_true (by kernel_rfl)) (by unfold Func.isWrapper; first | (rw [if_pos (by decide +kernel)]; kernel_rfl) | (rw [if_neg (by decide +kernel)]; exact ⟨rfl, rfl⟩))
    (fun os started H enc _ => regexValid_lifted os started H enc)

end Go.Proofs.Ytaajgdhoffhdcaa
