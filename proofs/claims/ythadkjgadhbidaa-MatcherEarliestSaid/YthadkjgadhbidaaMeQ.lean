/-
  The statement MatcherEarliest: it returns true for all arguments; no condition.
-/
import Derived.Test.YthadkjgadhbidaaWords
import Derived.Deep.Slices
import Derived.Deep.Fields
import Derived.ProofKit
import Derived.ChangeSame
import Derived.Test.YthadkjgadhbidaaRows
import Derived.WalkKit
import Derived.OpenShut
import Derived.ShutString
import Derived.ChangeOld
import Derived.Below
import Derived.Test.YthadkjgadhbidaaProg
import Derived.WalkSpells
import Derived.WalkLawsBesides
import Derived.Test.YthadkjgadhbidaaBytes
import Derived.BigQuiet
import Derived.IntWalk
import Derived.Test.YthadkjgadhbidaaRxM
import Derived.Test.YthadkjgadhbidaaMtS
import Derived.Test.YthadkjgadhbidaaRgA
import Derived.Lib.SliceRun
import Derived.Deep.DeepCutAuto
import Derived.Test.YthadkjgadhbidaaNfC
import Derived.Test.YthadkjgadhbidaaNbB
import Derived.Test.YthadkjgadhbidaaVlW
import Derived.Test.YthadkjgadhbidaaRgL
import Derived.Test.YthadkjgadhbidaaRxQ
import Derived.Lib.SlBytesConst
import Derived.Laws.Concat
/-
  A slice that came in, read as data: its cells, element by element. No program in sight.
-/
namespace Go.Proofs.Ythadkjgadhbidaa
open Go.RowKit Go.ChangeShapes Go.WideShapes Go.Deep

/-- The cells of equal pieces, one behind the other. -/
theorem flatten_at {α : Type} {C : Nat} (hC : 0 < C) : ∀ (cells : List (List α)), (∀ cs ∈ cells, cs.length = C) → ∀ j u, cells.flatten[j]? = some u → ∃ cs, cells[j / C]? = some cs ∧ cs[j % C]? = some u := by
  intro cells
  induction cells with
  | nil => intro _ j u h; simp at h
  | cons a cells ih =>
    intro hl j u h
    have ha : a.length = C := hl a (by simp)
    rw [List.flatten_cons, List.getElem?_append] at h
    by_cases hj : j < C
    · rw [ha, if_pos hj] at h
      rw [Nat.div_eq_of_lt hj, Nat.mod_eq_of_lt hj]
      exact ⟨a, rfl, h⟩
    · rw [ha, if_neg hj] at h
      obtain ⟨cs, h1, h2⟩ := ih (fun cs hcs => hl cs (by simp [hcs])) _ _ h
      obtain ⟨i, rfl⟩ : ∃ i, j = i + C := ⟨j - C, by omega⟩
      rw [Nat.add_sub_cancel] at h1 h2
      rw [Nat.add_div_right _ hC, Nat.add_mod_right]
      exact ⟨cs, by simpa using h1, h2⟩
/-- From 'each element has an x' to a list of x. -/
theorem list_choose {α β : Type} (f : β → α) (p : β → Prop) : ∀ (l : List α), (∀ a ∈ l, ∃ b, a = f b ∧ p b) → ∃ m : List β, l = m.map f ∧ ∀ b ∈ m, p b := by
  intro l
  induction l with
  | nil => intro _; exact ⟨[], rfl, by simp⟩
  | cons a l ih =>
    intro h
    obtain ⟨b, hb, hp⟩ := h a (by simp)
    obtain ⟨m, hm, hq⟩ := ih (fun x hx => h x (by simp [hx]))
    refine ⟨b :: m, by rw [hb, hm]; rfl, fun x hx => ?_⟩
    rcases List.mem_cons.mp hx with rfl | hx
    · exact hp
    · exact hq x hx

section
variable {H : Type} {enc : TypeId × Value → H} {P : Program} {w : World} {base : Nat} {spare : Nat → Bool} {held : Bool}
theorem open_elems {t e : TypeId} {a : Option Addr} {len cap : Nat} {d : DataW H} {p : List MemPlace} (ht : P.underlying t = some (.slice e)) (hC : 0 < P.cellsOf e)
    (h : DataW.Trod enc P w base spare held t (.slice a len cap) d p) :
    ∃ cells : List (List Value), cells.length = len ∧ len ≤ cap ∧ cap ≤ maxLen ∧ Rs w a cells.flatten ∧ ∀ cs ∈ cells, cs.length = P.cellsOf e ∧ ∃ n y, DataW.trod enc P w base spare held n e cs = some y := by
  obtain ⟨fuel, hf⟩ := h
  rcases open_slice ht hf with ⟨hcs, _⟩ | ⟨x, l, c, m, n, D, Pl, hcs, _, hl, hm, hmm, _, hi⟩
  · simp [Value.cells] at hcs
    obtain ⟨rfl, rfl, rfl⟩ := hcs
    exact ⟨[], rfl, Nat.zero_le _, Nat.zero_le _, Rs.nil_, by simp⟩
  · simp [Value.cells] at hcs
    obtain ⟨rfl, rfl, rfl⟩ := hcs
    have hlm : len ≤ m := by rw [hmm]; split <;> omega
    obtain ⟨f, hf'⟩ := choose_lt (n := len) (p := fun i cs' => w.cells? base (x.add (i * P.cellsOf e)) (P.cellsOf e) = some cs' ∧ DataW.trod enc P w base spare held n e cs' = some (D i, Pl i)) (fun i hil => hi i (by omega))
    have hlen : ∀ cs ∈ (List.range len).map f, cs.length = P.cellsOf e := by
      intro cs hcs
      simp only [List.mem_map, List.mem_range] at hcs
      obtain ⟨i, hil, rfl⟩ := hcs
      exact (World.cells?_some (hf' i hil).1).2.1
    refine ⟨(List.range len).map f, by simp, hl, hm, ?_, fun cs hcs => ⟨hlen cs hcs, ?_⟩⟩
    · have hcell : ∀ j u, ((List.range len).map f).flatten[j]? = some u → w.cell? (x.add j) = some u := by
        intro j u hu
        obtain ⟨cs, h1, h2⟩ := flatten_at hC _ hlen j u hu
        have hj : j / P.cellsOf e < len := by
          have := (List.getElem?_eq_some_iff.mp h1).1
          simpa using this
        rw [List.getElem?_map, List.getElem?_range hj] at h1
        simp at h1
        subst h1
        have h3 := (World.cells?_some (hf' _ hj).1).2.2 (j % P.cellsOf e) (Nat.mod_lt _ hC)
        rw [add_add, h2, show j / P.cellsOf e * P.cellsOf e + j % P.cellsOf e = j from by rw [Nat.mul_comm]; exact Nat.div_add_mod _ _] at h3
        exact h3
      rcases Nat.eq_zero_or_pos ((List.range len).map f).flatten.length with h0 | h0
      · exact Or.inl (List.eq_nil_of_length_eq_zero h0)
      · have h1 := hcell 0 _ (List.getElem?_eq_getElem h0)
        have hsp : x.spot = none := by
          have := World.cell?_spot h1
          simpa [Addr.add] using this
        obtain ⟨b, off, sp⟩ := x
        simp at hsp
        subst hsp
        refine Or.inr ⟨b, off, rfl, fun j u hu => ?_⟩
        have := hcell j u hu
        rwa [Addr.add_lit] at this
    · simp only [List.mem_map, List.mem_range] at hcs
      obtain ⟨i, hil, rfl⟩ := hcs
      exact ⟨n, _, (hf' i hil).2⟩
/-- An integer of one cell. -/
theorem open_one {t : TypeId} {k : IntKind} {cs : List Value} {n : Nat} {y : DataW H × List MemPlace} (ht : P.underlying t = some (.int k)) (h : DataW.trod enc P w base spare held n t cs = some y) :
    ∃ x : Int, cs = [.int k x] ∧ (Lit.int k x).wf = true := by
  obtain ⟨a, ha, _, wa⟩ := DataW.trod_int ht h
  exact ⟨a, ha, wa⟩
/-- A struct of two integers. -/
theorem open_two {t : TypeId} {f0 f1 : Field} {k0 k1 : IntKind} {cs : List Value} {n : Nat} {y : DataW H × List MemPlace} (ht : P.underlying t = some (.struct #[f0, f1])) (hone : oneCellFields P #[f0, f1] = true)
    (hC : P.cellsOf t = 2) (h0 : P.underlying f0.type = some (.int k0)) (h1 : P.underlying f1.type = some (.int k1)) (h : DataW.trod enc P w base spare held n t cs = some y) :
    ∃ r : Int × Int, cs = [.int k0 r.1, .int k1 r.2] ∧ (Lit.int k0 r.1).wf = true ∧ (Lit.int k1 r.2).wf = true := by
  obtain ⟨xs, m, _, _, hlen, hxl, hf⟩ := DataW.trod_struct ht h
  rw [hC] at hlen
  obtain ⟨o0, q0⟩ := hone_of hone 0 f0 rfl
  obtain ⟨o1, q1⟩ := hone_of hone 1 f1 rfl
  match cs, hlen with
  | [c0, c1], _ =>
    have g0 := hf 0 f0 rfl
    have g1 := hf 1 f1 rfl
    rw [o0, q0] at g0
    rw [o1, q1] at g1
    have l0 : 0 < xs.length := by rw [hxl]; simp
    have l1 : 1 < xs.length := by rw [hxl]; simp
    rw [List.getElem?_eq_getElem l0] at g0
    rw [List.getElem?_eq_getElem l1] at g1
    obtain ⟨a, ha, _, wa⟩ := DataW.trod_int h0 g0
    obtain ⟨b, hb, _, wb⟩ := DataW.trod_int h1 g1
    simp at ha hb
    exact ⟨(a, b), by rw [ha, hb], wa, wb⟩
end
end Go.Proofs.Ythadkjgadhbidaa
/-
  What every statement's last step uses: the program's start, integers that came in.
-/
namespace Go.Proofs.Ythadkjgadhbidaa
open Go.ChangeShapes Go.WideShapes Go.ChangeAt Go.RowKit
set_option linter.unusedVariables false
namespace Rw
theorem own : ownKnob Try.prog.godebug = none := by kernel_rfl
theorem laidOut : laidOutB Try.prog = true := by kernel_rfl
theorem u64 {x : Int} (h : (Lit.int .u64 x).wf = true) : 0 ≤ x ∧ x ≤ 18446744073709551615 := by
  simp [Lit.wf, IntKind.min, IntKind.max, IntKind.signed, IntKind.bits] at h
  exact ⟨by omega, by omega⟩
theorem i64 {x : Int} (h : (Lit.int .i64 x).wf = true) : -9223372036854775808 ≤ x ∧ x ≤ 9223372036854775807 := by
  simp [Lit.wf, IntKind.min, IntKind.max, IntKind.signed, IntKind.bits] at h
  exact ⟨by omega, by omega⟩
theorem u8 {x : Int} (h : (Lit.int .u8 x).wf = true) : 0 ≤ x ∧ x ≤ 255 := by
  simp [Lit.wf, IntKind.min, IntKind.max, IntKind.signed, IntKind.bits] at h
  exact ⟨by omega, by omega⟩
end Rw
end Go.Proofs.Ythadkjgadhbidaa
/-
  The walk of mill.Mod: the remainder from 0 on.
-/
namespace Go.Proofs.Ythadkjgadhbidaa
open Go.RowKit
set_option linter.unusedVariables false
theorem tmod_pos {v n : Int} (h : 0 ≤ v.tmod n) (hn : 1 ≤ n) : v.tmod n = v % n := by
  by_cases h0 : 0 ≤ v
  · exact Int.tmod_eq_emod_of_nonneg h0
  · have e := Int.neg_tmod (-v) n
    rw [Int.neg_neg, Int.tmod_eq_emod_of_nonneg (show 0 ≤ -v by omega)] at e
    have h1 := Int.emod_nonneg (-v) (show n ≠ 0 by omega)
    have h2 : (-v) % n = 0 := by omega
    rw [e, h2]
    have h3 : n ∣ -v := Int.dvd_of_emod_eq_zero h2
    have h4 : n ∣ v := by
      have := Int.dvd_neg.mpr h3
      rwa [Int.neg_neg] at this
    rw [Int.emod_eq_zero_of_dvd h4]; rfl
theorem tmod_neg {v n : Int} (h : v.tmod n < 0) (hn : 1 ≤ n) : v.tmod n + n = v % n ∧ -n < v.tmod n := by
  have h0 : ¬ 0 ≤ v := by
    intro h0
    rw [Int.tmod_eq_emod_of_nonneg h0] at h
    have := Int.emod_nonneg v (show n ≠ 0 by omega)
    omega
  have e := Int.neg_tmod (-v) n
  rw [Int.neg_neg, Int.tmod_eq_emod_of_nonneg (show 0 ≤ -v by omega)] at e
  have h1 := Int.emod_nonneg (-v) (show n ≠ 0 by omega)
  have h2 := Int.emod_lt_of_pos (-v) (show 0 < n by omega)
  rw [e] at h ⊢
  refine ⟨?_, by omega⟩
  have h3 : v = (n - (-v) % n) + n * (-((-v) / n) - 1) := by
    have h5 := Int.emod_add_mul_ediv (-v) n
    have h6 : n * (-((-v) / n) - 1) = -(n * ((-v) / n)) - n := by rw [Int.mul_sub, Int.mul_neg, Int.mul_one]
    rw [h6]
    generalize n * ((-v) / n) = X at *
    generalize (-v) % n = Y at *
    omega
  have h4 : v % n = (n - (-v) % n) % n := by
    conv => lhs; rw [h3]
    rw [Int.add_mul_emod_self_left]
  rw [h4]
  generalize (-v) % n = Y at *
  rw [Int.emod_eq_of_lt (by omega) (by omega)]
  omega
theorem mod_any (v n : Int) (hn : 1 ≤ n) (hn' : n ≤ 9223372036854775807) (w : World) :
    Calls Try.prog 18 #[.int .i64 v, .int .i64 n] w fun e w' => e = .returned (.int .i64 (v % n)) ∧ w = w' := by
  by_cases h : v.tmod n < 0
  · obtain ⟨e, hl⟩ := tmod_neg h hn
    have hb : (n == 0) = false := by simp; omega
    rw [← e]
    clear e
    go_enter Try.func18, Try.ntmps18
    go_wp2
    go_ret
    exact ⟨rfl, rfl⟩
  · have h' : 0 ≤ v.tmod n := by omega
    have e := tmod_pos h' hn
    have hb : (n == 0) = false := by simp; omega
    rw [← e]
    clear e h
    go_enter Try.func18, Try.ntmps18
    go_wp2
    go_ret
    exact ⟨rfl, rfl⟩
end Go.Proofs.Ythadkjgadhbidaa
/-
  The walks of mill's deck: New, Left, Next, Range, Output.
-/
namespace Go.Proofs.Ythadkjgadhbidaa
open Go.RowKit
set_option linter.unusedVariables false

def ints (l : List Int) : List Value := l.map (Value.int .i64)
theorem ints_length (l : List Int) : (ints l).length = l.length := by simp [ints]
theorem ints_get (l : List Int) (i : Nat) (h : i < l.length) : (ints l)[i]? = some (.int .i64 (l.getD i 0)) := by
  simp [ints, List.getElem?_map, List.getElem?_eq_getElem h, List.getD_eq_getElem?_getD]
theorem ints_one (l : List Int) : (ints l).all Value.oneCell' = true := by simp [ints, Value.oneCell']

/-- What a deck gives: the next number below n, and the numbers that are left. -/
def nx (l : List Int) (n : Int) : Int × List Int := match l with | [] => (0, []) | v :: r => (v % n, r)
theorem nx_bd (l : List Int) {n : Int} (hn : 1 ≤ n) : 0 ≤ (nx l n).1 ∧ (nx l n).1 < n := by
  cases l with
  | nil => exact ⟨Int.le_refl _, by show (0 : Int) < n; omega⟩
  | cons v r => exact ⟨Int.emod_nonneg _ (by omega), Int.emod_lt_of_pos _ (by omega)⟩

/-- The deck in block g: its numbers lie below block B. -/
def Dk (w : World) (B g : Nat) (l : List Int) : Prop :=
  B ≤ g ∧ ∃ (A : Option Addr) (c : Nat) (at_ : Nat) (full : List Int), w.heap[g]? = some (.cells #[.slice A full.length c, .int .i64 at_] 112 (0, 0)) ∧ at_ ≤ full.length ∧ full.length ≤ maxLen ∧ l = full.drop at_ ∧
    (full = [] ∨ ∃ b off, A = some ⟨b, off, none⟩ ∧ b < B ∧ ∀ j u, (ints full)[j]? = some u → w.cell? ⟨b, off + j, none⟩ = some u)
theorem Dk.lt {w : World} {B g : Nat} {l : List Int} (h : Dk w B g l) : g < w.heap.size := by
  obtain ⟨_, A, c, at_, full, h1, _⟩ := h
  exact lt_of_block h1
theorem Dk.up {w w' : World} {B g : Nat} {l : List Int} (h : Dk w B g l) (hb : Old w w') : Dk w' B g l := by
  obtain ⟨h0, A, c, at_, full, h1, h2, h3, h4, h5⟩ := h
  refine ⟨h0, A, c, at_, full, hb.block h1, h2, h3, h4, ?_⟩
  rcases h5 with h5 | ⟨b, off, hA, hlt, hc⟩
  · exact Or.inl h5
  · exact Or.inr ⟨b, off, hA, hlt, fun j u hu => hb.cell (hc j u hu)⟩
/-- Another block than the deck, from B on, has turned. -/
theorem Dk.far {w w' : World} {B g : Nat} {l : List Int} (h : Dk w B g l) {row : Option Nat} (hg : w.grownBy w' row) (hne : row ≠ some g) (hB : ∀ k, row = some k → B ≤ k) : Dk w' B g l := by
  obtain ⟨h0, A, c, at_, full, h1, h2, h3, h4, h5⟩ := h
  refine ⟨h0, A, c, at_, full, (hg.block g (lt_of_block h1) (fun e => hne e.symm)).trans h1, h2, h3, h4, ?_⟩
  rcases h5 with h5 | ⟨b, off, hA, hlt, hc⟩
  · exact Or.inl h5
  · exact Or.inr ⟨b, off, hA, hlt, fun j u hu => hg.cell (hc j u hu) (fun e => by have := hB b e.symm; omega)⟩
/-- A row of the call's own was appended to. -/
theorem Dk.push {w w' : World} {B g : Nat} {l : List Int} (h : Dk w B g l) {base size n : Nat} {e : TypeId} {v : Value} {xs : List Value} (hown : Own w base e size v n xs) (hne : e ≠ 112) (hB : B ≤ base) (hg : w.grownBy w' v.ownBlock) : Dk w' B g l := by
  refine h.far hg ?_ (fun k hk => Nat.le_trans hB (World.ownsRow.lt hown k hk).1)
  intro hk
  obtain ⟨_, A, c, at_, full, h1, _⟩ := h
  rcases hown with ⟨_, ⟨rfl, _⟩ | ⟨g', cap, cu, rfl, _, hgg, _⟩⟩
  · simp [Value.ownBlock] at hk
  · simp [Value.ownBlock] at hk
    subst hk
    rw [hgg] at h1
    simp at h1
    exact hne h1.2
/-- What stays when the deck is turned. -/
theorem Dk.own {w w' : World} {B g : Nat} {l : List Int} (h : Dk w B g l) (hg : w.grownBy w' (some g)) {base size n : Nat} {e : TypeId} {v : Value} {xs : List Value} (hown : Own w base e size v n xs) (hne : e ≠ 112) : Own w' base e size v n xs := by
  obtain ⟨_, A, c, at_, full, h1, _⟩ := h
  refine World.ownsRow.kept hown hg ?_
  rcases hown with ⟨_, ⟨rfl, _⟩ | ⟨g', cap, cu, rfl, _, hgg, _⟩⟩
  · exact Or.inl rfl
  · refine Or.inr ?_
    intro hk
    simp [Value.ownBlock] at hk
    subst hk
    rw [hgg] at h1
    simp at h1
    exact hne h1.2
theorem Dk.ts {w w' : World} {B g : Nat} {l : List Int} (h : Dk w B g l) (hg : w.grownBy w' (some g)) {e : TypeId} {A : Option Addr} {xs : List Value} (ht : Ts w e A xs) (hne : e ≠ 112) : Ts w' e A xs := by
  obtain ⟨_, A', c, at_, full, h1, _⟩ := h
  rcases ht with rfl | ⟨b, off, cur, fz, rfl, hh, hc⟩
  · exact Ts.nil_
  · refine Or.inr ⟨b, off, cur, fz, rfl, ?_, hc⟩
    rw [hg.block b (lt_of_block hh) ?_]
    · exact hh
    · intro hk
      injection hk with hk
      subst hk
      rw [hh] at h1
      simp at h1
      exact hne h1.2.1
theorem Dk.fs {w w' : World} {B g : Nat} {l : List Int} (h : Dk w B g l) (hg : w.grownBy w' (some g)) {A : Option Addr} {xs : List Value} (ht : Fs w A xs) : Fs w' A xs := by
  obtain ⟨_, A', c, at_, full, h1, _⟩ := h
  exact ht.far h1 hg
theorem Dk.fsL {w w' : World} {B g : Nat} {l : List Int} (h : Dk w B g l) (hg : w.grownBy w' (some g)) {cells : List Value} {xss : List (List Value)} (ht : FsL w cells xss) : FsL w' cells xss := by
  obtain ⟨_, A', c, at_, full, h1, _⟩ := h
  exact ht.far h1 hg
theorem Dk.old {w0 w w' : World} {g : Nat} (h0 : Old w0 w) (hg : w.grownBy w' (some g)) (hle : w0.heap.size ≤ g) : Old w0 w' :=
  Below.grown h0 hg h0.size (by intro k hk; injection hk with hk; omega)

theorem newDeck (A : Option Addr) (c : Nat) (l : List Int) (w : World) (hr : Rs w A (ints l)) (hm : l.length ≤ maxLen) :
    Calls Try.prog 28 #[.slice A l.length c] w fun e w' => e = .returned (.pointer (some ⟨w.heap.size, 0, none⟩)) ∧ Dk w' w.heap.size w.heap.size l ∧ Old w w' := by
  go_enter Try.func28, Try.ntmps28
  go_wp2_with fail
  go_ret
  refine ⟨rfl, ⟨Nat.le_refl _, A, c, 0, l, heap_alloc_new w _, Nat.zero_le _, hm, rfl, ?_⟩, (Old.refl w).alloc _⟩
  rcases (hr.alloc (.cells #[.slice A l.length c, .int .i64 0] 112)) with h | ⟨b, off, hA, hc⟩
  · left; simpa [ints] using h
  · rcases Nat.eq_zero_or_pos l.length with h0 | h0
    · left; exact List.eq_nil_of_length_eq_zero h0
    · obtain ⟨b', off', hA', hlt, _⟩ := hr.at_ (by rw [ints_length]; exact h0)
      rw [hA] at hA'
      simp only [Option.some.injEq, Addr.mk.injEq, and_true] at hA'
      obtain ⟨rfl, rfl⟩ := hA'
      exact Or.inr ⟨b, off, hA, hlt, hc⟩

theorem leftDeck (B g : Nat) (l : List Int) (w : World) (h : Dk w B g l) :
    Calls Try.prog 59 #[.pointer (some ⟨g, 0, none⟩)] w fun e w' => e = .returned (.bool (!l.isEmpty)) ∧ ∃ k, w' = w.drewN k := by
  obtain ⟨_, A, c, at_, full, h1, h2, h3, rfl, _⟩ := h
  unfold maxLen at h3
  have c0 : w.cell? ⟨g, 0, none⟩ = some (.slice A full.length c) := by rw [cell_of_row w g 0 _ _ _ h1]; rfl
  have c1 : w.cell? ⟨g, 1, none⟩ = some (.int .i64 at_) := by rw [cell_of_row w g 1 _ _ _ h1]; rfl
  have he : (!(full.drop at_).isEmpty) = decide (at_ < full.length) := by
    by_cases hl : at_ < full.length
    · have : full.drop at_ ≠ [] := by simp; omega
      simp [hl]
    · simp [hl]; omega
  rw [he]
  clear he h1
  go_enter Try.func59, Try.ntmps59
  go_wp2_with fail
  go_quiet (fail)
  go_wp2_with fail
  go_ret
  exact ⟨rfl, _, rfl⟩

def NextPost (w : World) (B g : Nat) (r : Int × List Int) (e : Ending) (w' : World) : Prop := e = .returned (.int .i64 r.1) ∧ Dk w' B g r.2 ∧ w.grownBy w' (some g)
theorem nextDeck (B g : Nat) (l : List Int) (n : Int) (w : World) (h : Dk w B g l) (hn : 1 ≤ n) (hn' : n ≤ 9223372036854775807) :
    Calls Try.prog 30 #[.pointer (some ⟨g, 0, none⟩), .int .i64 n] w (NextPost w B g (nx l n)) := by
  have hL := leftDeck B g l w h
  obtain ⟨h0, A, c, at_, full, h1, h2, h3, rfl, h5⟩ := h
  have h3' := h3
  unfold maxLen at h3
  by_cases hl : at_ < full.length
  · have he : (!(full.drop at_).isEmpty) = true := by
      have : full.drop at_ ≠ [] := by simp; omega
      simp; omega
    rw [he] at hL
    have HL := Lib.hid hL
    have hnx : nx (full.drop at_) n = ((full.getD at_ 0) % n, full.drop (at_ + 1)) := by
      rw [List.drop_eq_getElem_cons hl, List.getD_eq_getElem?_getD, List.getElem?_eq_getElem hl]; rfl
    rw [hnx]
    have hf : full ≠ [] := by intro h; rw [h] at hl; simp at hl
    obtain ⟨b, off, rfl, hlt, hc⟩ := h5.resolve_left hf
    have hbg : b ≠ g := by omega
    have hx := hc _ _ (ints_get full at_ hl)
    have hgl := lt_of_block h1
    have c0 : w.cell? ⟨g, 0, none⟩ = some (.slice (some ⟨b, off, none⟩) full.length c) := by rw [cell_of_row w g 0 _ _ _ h1]; rfl
    have c1 : w.cell? ⟨g, 1, none⟩ = some (.int .i64 at_) := by rw [cell_of_row w g 1 _ _ _ h1]; rfl
    have f1 : w.frozen? ⟨g, 1, none⟩ = false := frozen_of_row w g 1 _ _ h1
    have hset := heap_setCell_same w g 1 _ _ (.int .i64 ((at_ : Int) + 1)) h1
    have hgr : w.grownBy (w.setCell ⟨g, 1, none⟩ (.int .i64 ((at_ : Int) + 1))) (some g) :=
      ⟨rfl, rfl, rfl, by simp, fun k _ hk => heap_setCell_other w ⟨g, 1, none⟩ k _ (fun e => hk (by simp [e]))⟩
    have HC := Lib.hid hc
    have HS := Lib.hid hset
    have HE := Lib.hid he
    clear he hL hnx hf hc hset h5
    generalize full.getD at_ 0 = x at *
    go_enter Try.func30, Try.ntmps30
    go_wp2_with fail
    refine (HL.out).mono ?_; rintro e w' ⟨rfl, n', rfl⟩
    go_wp2_with fail
    have d0 : ((w.drewN n').setCell ⟨g, 1, none⟩ (.int .i64 ((at_ : Int) + 1))).cell? ⟨g, 0, none⟩ = some (.slice (some ⟨b, off, none⟩) full.length c) := by
      rw [cell_of_row _ g 0 _ _ _ (show ((w.drewN n').setCell ⟨g, 1, none⟩ (.int .i64 ((at_ : Int) + 1))).heap[g]? = _ from HS.out)]; rfl
    have d1 : ((w.drewN n').setCell ⟨g, 1, none⟩ (.int .i64 ((at_ : Int) + 1))).cell? ⟨g, 1, none⟩ = some (.int .i64 ((at_ : Int) + 1)) := by
      rw [cell_of_row _ g 1 _ _ _ (show ((w.drewN n').setCell ⟨g, 1, none⟩ (.int .i64 ((at_ : Int) + 1))).heap[g]? = _ from HS.out)]; rfl
    have d2 : ((w.drewN n').setCell ⟨g, 1, none⟩ (.int .i64 ((at_ : Int) + 1))).cell? ⟨b, off + at_, none⟩ = some (.int .i64 x) := by
      rw [World.cell?_setCell_other _ _ _ _ (by intro h; injection h with h; exact hbg h.symm)]; exact hx
    have hdk : Dk ((w.drewN n').setCell ⟨g, 1, none⟩ (.int .i64 ((at_ : Int) + 1))) B g (full.drop (at_ + 1)) := by
      refine ⟨h0, some ⟨b, off, none⟩, c, at_ + 1, full, HS.out, by omega, h3', rfl, Or.inr ⟨b, off, rfl, hlt, fun j u hu => ?_⟩⟩
      rw [World.cell?_setCell_other _ _ _ _ (by intro h; injection h with h; exact hbg h.symm)]; exact HC.out j u hu
    have hgg : w.grownBy ((w.drewN n').setCell ⟨g, 1, none⟩ (.int .i64 ((at_ : Int) + 1))) (some g) := ⟨hgr.os, hgr.tape, hgr.output, hgr.size, hgr.block⟩
    have i5 : IntKind.i64.wrap ((at_ : Int) + 1 - 1) = (at_ : Int) := by rw [IntWalk.i64_in _ (by omega)]; omega
    have i1 : (0 : Int) ≤ (at_ : Int) := by omega
    have i2 : (at_ : Int) < (full.length : Int) := by omega
    clear h1 c0 c1 hx f1 hgr HC HS HE HL
    generalize (w.drewN n').setCell ⟨g, 1, none⟩ (.int .i64 ((at_ : Int) + 1)) = W at *
    go_quiet ((go_at_call 18; exact quiet_same (mod_any x n hn hn' _)))
    clear i5
    go_wp2_with fail
    go_ret
    exact ⟨rfl, hdk, grown_drewN hgg _⟩
  · have he : full.drop at_ = [] := List.drop_eq_nil_of_le (by omega)
    rw [he] at hL
    rw [he]
    have HL := Lib.hid hL
    clear hL
    go_enter Try.func30, Try.ntmps30
    go_wp2_with fail
    refine (HL.out).mono ?_; rintro e w' ⟨rfl, n', rfl⟩
    go_wp2_with fail
    go_ret
    exact ⟨rfl, ⟨h0, A, c, at_, full, h1, h2, h3', he.symm, h5⟩, ⟨rfl, rfl, rfl, Nat.le_refl _, fun _ _ _ => rfl⟩⟩

theorem rangeDeck (B g : Nat) (l : List Int) (lo hi : Int) (w : World) (h : Dk w B g l) (h0 : 0 ≤ lo) (h1 : lo ≤ hi) (h2 : hi ≤ 1000000) :
    Calls Try.prog 29 #[.pointer (some ⟨g, 0, none⟩), .int .i64 lo, .int .i64 hi] w (NextPost w B g (lo + (nx l (hi - lo + 1)).1, (nx l (hi - lo + 1)).2)) := by
  have hN := nextDeck B g l (hi - lo + 1) w h (by omega) (by omega)
  have hbd := nx_bd l (show 1 ≤ hi - lo + 1 by omega)
  have HN := Lib.hid hN
  clear hN
  generalize nx l (hi - lo + 1) = r at *
  obtain ⟨b0, b1⟩ := hbd
  go_enter Try.func29, Try.ntmps29
  go_wp2_with fail
  refine (HN.out).mono ?_; rintro e w' ⟨rfl, hd, hg⟩
  go_wp2_with fail
  go_ret
  exact ⟨rfl, hd, hg⟩

def outTable : List (List UInt8) := [[111, 107], [111], [107], [114, 101, 97, 100, 121, 10], [117, 112], [10, 103, 111, 111], [49, 50, 120], [97, 98, 97, 98, 99], [99], [10], [122, 122], [27, 91, 49, 109, 104, 105, 13, 10]]
def outOf (i : Int) : List UInt8 := outTable.getD i.toNat [111, 107]
theorem outOf_len (i : Int) : 0 < (outOf i).length ∧ (outOf i).length ≤ 8 := by
  unfold outOf
  rw [List.getD_eq_getElem?_getD]
  by_cases h : i.toNat < outTable.length
  · rw [List.getElem?_eq_getElem h]
    have : ∀ x ∈ outTable, 0 < x.length ∧ x.length ≤ 8 := by decide
    exact this _ (List.getElem_mem h)
  · rw [List.getElem?_eq_none (by omega)]; decide
def OutPost (w : World) (B g : Nat) (b : List UInt8) (r : List Int) (e : Ending) (w' : World) : Prop :=
  ∃ A c, e = .returned (.slice A b.length c) ∧ b.length ≤ c ∧ c ≤ maxLen ∧ Fs w' A (bytes b) ∧ Dk w' B g r ∧ w.grownBy w' (some g)
theorem outputDeck (B g : Nat) (l : List Int) (w : World) (h : Dk w B g l) :
    Calls Try.prog 55 #[.pointer (some ⟨g, 0, none⟩)] w (OutPost w B g (outOf (nx l 12).1) (nx l 12).2) := by
  have hbd := nx_bd l (show (1 : Int) ≤ 12 by decide)
  have hcv := fun (W : World) (b : List UInt8) => run_bytes_of_string (P := Try.prog) W 9 23 5 ⟨b.toArray⟩ Try.underlying9 Try.underlying23 Try.underlying5
  have HCV := Lib.hid hcv
  clear hcv
  have hnd := nextDeck B g l 12 (w.alloc (.cells (outTable.map fun b => Value.string ⟨b.toArray⟩).toArray 9)) (h.up ((Old.refl w).alloc _)) (by decide) (by decide)
  have hgl := h.lt
  have HN := Lib.hid hnd
  clear hnd h
  generalize nx l 12 = r at *
  obtain ⟨i, r⟩ := r
  obtain ⟨i0, i1⟩ := hbd
  simp only at i0 i1
  go_enter Try.func55, Try.ntmps55
  go_wp2_with fail
  refine (HN.out).mono ?_; rintro e w' ⟨rfl, hd, hg⟩
  have hk : w'.heap[w.heap.size]? = some (.cells (outTable.map fun b => Value.string ⟨b.toArray⟩).toArray 9 (0, 0)) :=
    (hg.block w.heap.size (by simp) (by intro h; injection h with h; omega)).trans (heap_alloc_new w _)
  have hc : w'.cell? ⟨w.heap.size, i.toNat, none⟩ = some (.string ⟨(outOf i).toArray⟩) := by
    rw [cell_of_row w' w.heap.size i.toNat _ _ _ hk]
    have hl : i.toNat < outTable.length := by show i.toNat < 12; omega
    unfold outOf
    rw [List.getD_eq_getElem?_getD]
    simp [List.getElem?_eq_getElem hl]
  have hlen := outOf_len i
  have hc2 := HCV.out w' (outOf i)
  have e : (⟨(outOf i).toArray⟩ : ByteArray).size = (outOf i).length := by simp [ByteArray.size]
  rw [e] at hc2
  have hfs := fs_of_string w' (outOf i) (grownCap w' (outOf i).length 0 5) 5 hlen.1
  have hcap := grownCap_ge w' (outOf i).length 0 5
  have hcm := grownCap_le_maxLen w' (outOf i).length 0 5 (by unfold maxLen; omega)
  generalize grownCap w' (outOf i).length 0 5 = N at *
  have hold : Old w' (w'.drew.alloc (.cells (bytesRow ⟨(outOf i).toArray⟩ N) 5 ((bytesRow ⟨(outOf i).toArray⟩ N).size, (bytesRow ⟨(outOf i).toArray⟩ N).size + 1))) := ((Old.refl w').drew).alloc _
  have hgr : w.grownBy w' (some g) := old_grown_ ((Old.refl w).alloc _) hg
  clear hk e hg HCV HN
  generalize (outOf i) = b at *
  generalize w'.drew.alloc (.cells (bytesRow ⟨b.toArray⟩ N) 5 ((bytesRow ⟨b.toArray⟩ N).size, (bytesRow ⟨b.toArray⟩ N).size + 1)) = W at *
  go_wp2_with fail
  go_ret
  exact ⟨_, _, rfl, hcap, hcm, hfs, hd.up hold, grown_old_ hgr hold⟩
end Go.Proofs.Ythadkjgadhbidaa
/-
  Arguments that are slices of ints and of bytes.
-/
namespace Go.Proofs.Ythadkjgadhbidaa
open Go.ChangeShapes Go.WideShapes Go.ChangeAt Go.RowKit Rw
set_option linter.unusedVariables false

theorem flat_singles {α : Type} (f : α → Value) (l : List α) : (l.map fun x => [f x]).flatten = l.map f := by
  induction l with
  | nil => rfl
  | cons x l ih => simp only [List.map_cons, List.flatten_cons, ih]; rfl
theorem open_intl {H : Type} {enc : TypeId × Value → H} {w : World} {base : Nat} {spare : Nat → Bool} {held : Bool} {a : Option Addr} {len cap : Nat} {d : DataW H} {p : List MemPlace}
    (h : DataW.Trod enc Try.prog w base spare held 22 (.slice a len cap) d p) :
    ∃ l : List Int, l.length = len ∧ len ≤ maxLen ∧ Rs w a (ints l) := by
  obtain ⟨cells, hl, hc1, hc2, hr, hc⟩ := open_elems Try.underlying22 (show 0 < Try.prog.cellsOf 3 by decide +kernel) h
  obtain ⟨l, rfl, hp⟩ := list_choose (fun x : Int => [Value.int .i64 x]) (fun _ => True) cells (fun cs hcs => by
    obtain ⟨_, n, y, hy⟩ := hc cs hcs
    obtain ⟨x, h1, h2⟩ := open_one Try.underlying3 hy
    exact ⟨x, h1, trivial⟩)
  refine ⟨l, by simpa using hl, by omega, ?_⟩
  rw [flat_singles] at hr
  exact hr
theorem open_bytel {H : Type} {enc : TypeId × Value → H} {w : World} {base : Nat} {spare : Nat → Bool} {held : Bool} {a : Option Addr} {len cap : Nat} {d : DataW H} {p : List MemPlace}
    (h : DataW.Trod enc Try.prog w base spare held 23 (.slice a len cap) d p) :
    ∃ l : List UInt8, l.length = len ∧ len ≤ cap ∧ cap ≤ maxLen ∧ Rs w a (bytes l) := by
  obtain ⟨cells, hl, hc1, hc2, hr, hc⟩ := open_elems Try.underlying23 (show 0 < Try.prog.cellsOf 5 by decide +kernel) h
  obtain ⟨l, rfl, hp⟩ := list_choose (fun x : Int => [Value.int .u8 x]) (fun x => 0 ≤ x ∧ x ≤ 255) cells (fun cs hcs => by
    obtain ⟨_, n, y, hy⟩ := hc cs hcs
    obtain ⟨x, h1, h2⟩ := open_one Try.underlying5 hy
    exact ⟨x, h1, u8 h2⟩)
  rw [flat_singles] at hr
  obtain ⟨m, hm, hml⟩ := bytes_of_ints l hp
  rw [hm] at hr
  simp only [List.length_map] at hl
  exact ⟨m, by omega, hc1, hc2, hr⟩
end Go.Proofs.Ythadkjgadhbidaa
/-
  Texts: their cells, strings out of them.
-/
namespace Go.Proofs.Ythadkjgadhbidaa
open Go.RowKit
set_option linter.unusedVariables false

theorem info_c8 : (Try.prog.info? 5).map (fun i => (i.zero, i.size, i.bytes)) = some (some (.int .u8 0), 1, 1) := by kernel_rfl
/-- A text's cells. -/
def txt (t : List Nat) : List Value := t.map (fun x : Nat => Value.int .u8 (x : Int))
theorem txt_length (t : List Nat) : (txt t).length = t.length := by simp [txt]
theorem txt_get (t : List Nat) (i : Nat) (h : i < t.length) : (txt t)[i]? = some (.int .u8 (t.getD i 0 : Nat)) := by
  simp [txt, h, List.getD_eq_getElem?_getD]
theorem getD_bd {t : List Nat} (ht : ∀ x ∈ t, x < 256) (i : Nat) : t.getD i 0 < 256 := by
  rw [List.getD_eq_getElem?_getD]
  by_cases h : i < t.length
  · rw [List.getElem?_eq_getElem h]; exact ht _ (List.getElem_mem h)
  · rw [List.getElem?_eq_none (by omega)]; decide
def strOf (l : List Nat) : ByteArray := ⟨(l.map UInt8.ofNat).toArray⟩
theorem txt_bytes (s : List Nat) (h : ∀ x ∈ s, x < 256) : txt s = bytes (s.map UInt8.ofNat) := by
  unfold txt bytes
  rw [List.map_map]
  refine List.map_congr_left (fun x hx => ?_)
  have := h x hx
  simp
  omega
theorem bs_strOf (s : List Nat) (h : ∀ x ∈ s, x < 256) : bs (strOf s) = s := by
  unfold bs strOf
  simp only [List.map_map]
  have : ∀ x ∈ s, (UInt8.toNat ∘ UInt8.ofNat) x = id x := fun x hx => by
    have := h x hx
    simp
    omega
  rw [List.map_congr_left this, List.map_id]
theorem txt_snoc (L : List Nat) (s : Nat) : txt (L ++ [s]) = txt L ++ [.int .u8 (s : Int)] := by unfold txt; rw [List.map_append]; rfl
end Go.Proofs.Ythadkjgadhbidaa
/-
  The matcher's begin, feed.
-/
namespace Go.Proofs.Ythadkjgadhbidaa
open Go.RowKit
set_option linter.unusedVariables false

theorem mheap_setCells {g : Nat} {t : TypeId} : ∀ (vs : List Value) (w : World) (pre old : List Value), w.heap[g]? = some (.cells (pre ++ old).toArray t (0, 0)) → old.length = vs.length → (w.setCells g pre.length vs).heap[g]? = some (.cells (pre ++ vs).toArray t (0, 0))
  | [], w, pre, old, h, hl => by
    obtain rfl := List.eq_nil_of_length_eq_zero hl
    exact h
  | v :: r, w, pre, old, h, hl => by
    cases old with
    | nil => simp at hl
    | cons x old =>
      have h1 := heap_setCell_same w g pre.length _ _ v h
      rw [List.setIfInBounds_toArray, List.set_append_right _ _ (Nat.le_refl _), Nat.sub_self, List.set_cons_zero] at h1
      have h2 := mheap_setCells (t := t) r (w.setCell ⟨g, pre.length, none⟩ v) (pre ++ [v]) old (by rw [h1]; simp) (by simpa using hl)
      rw [List.length_append, List.length_singleton] at h2
      show ((w.setCell ⟨g, pre.length, none⟩ v).setCells g (pre.length + 1) r).heap[g]? = _
      rw [h2]
      simp
theorem mgrown_setCells (g : Nat) : ∀ (vs : List Value) (o : Nat) (w : World), w.grownBy (w.setCells g o vs) (some g)
  | [], o, w => World.grownBy.refl _ _
  | v :: r, o, w => World.grownBy.trans (show w.grownBy (w.setCell ⟨g, o, none⟩ v) (some g) from ⟨rfl, rfl, rfl, by simp, fun k _ hk => heap_setCell_other w ⟨g, o, none⟩ k _ (fun e => hk (by simp [e]))⟩) (mgrown_setCells g r (o + 1) _)
theorem MK.clear {w0 w : World} {B g gm c cnt : Nat} {st : List Nd} {A : Option Addr} {lv : Value} {bol fd : Bool} {M L : List Nat} (h : MK w0 w B g gm st A c lv bol cnt fd M L) : MK w0 (w.setCells gm 0 (List.replicate st.length (.bool false))) B g gm st A c lv bol cnt fd [] L := by
  have hgr := mgrown_setCells gm (List.replicate st.length (.bool false)) 0 w
  have hb : Old w0 (w.setCells gm 0 (List.replicate st.length (.bool false))) := Below.grown h.old hgr h.old.size (by intro k hk; injection hk with hk; subst hk; exact h.bm)
  have hz : List.replicate st.length (Value.bool false) = mkm st.length [] := by
    apply List.ext_getElem?
    intro i
    by_cases hi : i < st.length
    · rw [mkm_get _ _ _ hi, List.getElem?_replicate, if_pos hi]; simp
    · rw [List.getElem?_eq_none (by simp; omega), List.getElem?_eq_none (by simp [mkm_length]; omega)]
  refine ⟨hb, h.nodes, ?_, ?_, World.ownsRow.kept h.own hgr (Or.inr (fun e => mown_far h.own h.lm e.symm)), h.bg, h.bm, h.lg, h.lm, h.n2, Nat.le_trans h.lB hgr.size⟩
  · exact (hgr.block g (lt_of_block h.blk) (by intro e; injection e with e; exact h.n2 e)).trans h.blk
  · have := mheap_setCells (t := 4) (List.replicate st.length (.bool false)) w [] (mkm st.length M) h.mks (by simp [mkm_length])
    rw [List.nil_append, hz] at this
    rw [hz]
    exact this
theorem MKept.clear (w : World) (g gm n : Nat) (lv : Value) : MKept w (w.setCells gm 0 (List.replicate n (.bool false))) g gm lv lv :=
  ⟨(mgrown_setCells gm _ 0 w).size, fun k hk _ h2 _ => (mgrown_setCells gm _ 0 w).block k hk (by intro e; injection e with e; exact h2 e), fun _ h => Or.inl h⟩
theorem MKept.drop {w : World} {g gm : Nat} {lv : Value} : MKept w (w.setCell ⟨g, 2, none⟩ (.slice none 0 0)) g gm lv (.slice none 0 0) :=
  ⟨by simp, fun k _ h1 _ _ => heap_setCell_other w ⟨g, 2, none⟩ k _ h1, fun k h => by cases h⟩
theorem word_has3 (s : BSet) (i b : Nat) (hb : b < 256) (hi : b / 64 = i) : (bits BinOp.and IntKind.u64 (((setW s i : Nat) : Int) / 2 ^ (b % 64)) 1 != 0) = hasB s b := by
  rw [← word_has s i b hb hi]
  have e : ((setW s i : Nat) : Int) / 2 ^ (b % 64) = ((setW s i / 2 ^ (b % 64) : Nat) : Int) := by push_cast; rfl
  have hl := setW_lt s i
  have hd : setW s i / 2 ^ (b % 64) < 18446744073709551616 := Nat.lt_of_le_of_lt (Nat.div_le_self _ _) hl
  have h1 := u64_and_nat (setW s i / 2 ^ (b % 64)) 1 hd (by decide)
  rw [nat_mask1] at h1
  rw [e]
  have h1' : bits BinOp.and IntKind.u64 ((setW s i / 2 ^ (b % 64) : Nat) : Int) 1 = ((setW s i / 2 ^ (b % 64) % 2 : Nat) : Int) := h1
  rw [h1']
  rw [Bool.eq_iff_iff, bne_iff_ne, beq_iff_eq]
  omega
set_option maxHeartbeats 2000000 in
set_option maxRecDepth 100000 in
theorem mbeginC (w0 : World) (B g gm : Nat) (st : List Nd) (A : Option Addr) (c : Nat) (lv : Value) (bol : Bool) (cnt : Nat) (L : List Nat) (w : World) (h : MK w0 w B g gm st A c lv bol cnt (ndone st L) L L) (hv : svalid st = true) (hL : Spots st.length L) :
    Calls Try.prog 80 #[.pointer (some ⟨g, 0, none⟩)] w (MDone w lv w0 B g gm st A c bol cnt (nspread st bol false (enterM L 0))) := by
  obtain ⟨h1, h2, _⟩ := svalid_ok hv
  have HE := Lib.hid (menterD w0 B g gm st A c lv bol cnt L w h (by omega) hL 0 (by omega))
  have HS := Lib.hid (hL.enter (s := 0) (by omega))
  have HV := Lib.hid hv
  clear h hL hv h1 h2
  go_enter Try.func80, Try.ntmps80
  go_wp2_with fail
  refine (HE.out).mono ?_; rintro e w1 ⟨rfl, lv1, hm, hk⟩
  have HC := Lib.hid (mspreadC w0 B g gm st A c lv1 bol cnt (enterM L 0) w1 hm HV.out HS.out false)
  have HK := Lib.hid hk
  clear hm hk HE
  go_wp2_with fail
  refine (HC.out).mono ?_; rintro e w2 ⟨rfl, lv2, hm, hk⟩
  have HM := Lib.hid hm
  have HK2 := Lib.hid (HK.out.trans hk)
  clear hm hk HC
  go_wp2_with fail
  go_end0
  exact ⟨rfl, lv2, HM.out, HK2.out⟩
def mL1 (st : List Nd) (bol : Bool) (ch : Nat) (L : List Nat) : List Nat := if ch = 10 then nspread st bol true L else L
def mL2 (st : List Nd) (bol : Bool) (ch : Nat) (L : List Nat) : List Nat := nspread st (ch == 10) false (enterM (nstep st ch (mL1 st bol ch L)) 0)
theorem Spots.mL1 {st : List Nd} (hv : svalid st = true) {bol : Bool} {ch : Nat} {L : List Nat} (h : Spots st.length L) : Spots st.length (mL1 st bol ch L) := by
  unfold Go.Proofs.Ythadkjgadhbidaa.mL1
  split
  · exact Spots.nspreadF hv _ _ _ h
  · exact h
def MFeed (w : World) (lv : Value) (w0 : World) (B g gm : Nat) (st : List Nd) (A : Option Addr) (c : Nat) (bol : Bool) (cnt ch : Nat) (L : List Nat) (e : Ending) (w' : World) : Prop :=
  e = .returned (.tuple #[]) ∧ (ndone st (mL1 st bol ch L) = true → ∃ lv', MK w0 w' B g gm st A c lv' bol (cnt + 1) true (mL1 st bol ch L) (mL1 st bol ch L) ∧ MKept w w' g gm lv lv') ∧
    (ndone st (mL1 st bol ch L) = false → ∃ lv', MK w0 w' B g gm st A c lv' (ch == 10) (cnt + 1) (ndone st (mL2 st bol ch L)) (mL2 st bol ch L) (mL2 st bol ch L) ∧ MKept w w' g gm lv lv')
def MFRel (w w2 w0 : World) (B g gm : Nat) (st : List Nd) (A : Option Addr) (c : Nat) (lv : Value) (bol : Bool) (cnt ch : Nat) (L : List Nat) (v : Value) (wr : World) : Prop :=
  ∃ (k : Nat) (L1 : List Nat) (lv1 : Value), v = .int .i64 k ∧ k ≤ L.length ∧ Hid (MK w0 wr B g gm st A c lv1 bol cnt (ndone st L1) L1 L1) ∧ Hid (MKept w wr g gm lv lv1) ∧ Hid (MKept w2 wr g gm (.slice none 0 0) lv1) ∧ Hid (Spots st.length L1) ∧ Hid ((L.take k).foldl (fun acc s => nover st ch s acc) [] = L1)
set_option maxHeartbeats 8000000 in
set_option maxRecDepth 100000 in
theorem mfeedC (w0 : World) (B g gm : Nat) (st : List Nd) (A : Option Addr) (c : Nat) (lv : Value) (bol : Bool) (cnt : Nat) (L : List Nat) (w : World) (h : MK w0 w B g gm st A c lv bol cnt (ndone st L) L L) (hv : svalid st = true) (hL : Spots st.length L) (hcnt : cnt < 1000000000) (ch : Nat) (hch : ch < 256) :
    Calls Try.prog 58 #[.pointer (some ⟨g, 0, none⟩), .int .u8 ch] w (MFeed w lv w0 B g gm st A c bol cnt ch L) := by
  obtain ⟨_, _, _, _, x4, _⟩ := h.cells
  have z4 := h.frz 4
  have HH := Lib.hid (h.cnt_ (cnt + 1))
  have HK0 := Lib.hid (MKept.fld w g gm 4 lv (.int .i64 ((cnt + 1 : Nat) : Int)))
  have HV := Lib.hid hv
  have HL := Lib.hid hL
  have hsz := (svalid_ok hv).2.1
  have HSZ := Lib.hid hsz
  have HCH := Lib.hid hch
  have hc0 : (0 : Int) ≤ (ch : Int) := by omega
  have hc1 : (ch : Int) < 256 := by omega
  clear h hv hL hsz
  go_enter Try.func58, Try.ntmps58
  go_upto_region 1 with fail
  have hWe : w.setCell ⟨g, 4, none⟩ (.int .i64 ((cnt : Int) + 1)) = w.setCell ⟨g, 4, none⟩ (.int .i64 ((cnt + 1 : Nat) : Int)) := rfl
  rw [hWe]
  generalize w.setCell ⟨g, 4, none⟩ (.int .i64 ((cnt + 1 : Nat) : Int)) = W at *
  clear hWe x4 z4 hcnt
  have HMF : Hid (∀ e w', (e = .returned (.tuple #[]) ∧ (ndone st (mL1 st bol ch L) = true → ∃ lv', MK w0 w' B g gm st A c lv' bol (cnt + 1) true (mL1 st bol ch L) (mL1 st bol ch L) ∧ MKept w w' g gm lv lv') ∧
    (ndone st (mL1 st bol ch L) = false → ∃ lv', MK w0 w' B g gm st A c lv' (ch == 10) (cnt + 1) (ndone st (mL2 st bol ch L)) (mL2 st bol ch L) (mL2 st bol ch L) ∧ MKept w w' g gm lv lv')) → MFeed w lv w0 B g gm st A c bol cnt ch L e w') := Lib.hid (fun _ _ h => h)
  have HSL := Lib.hid (HL.out.mL1 HV.out (bol := bol) (ch := ch))
  have HEQ : Hid (((ch : Int) == 10) = (ch == 10)) := Lib.hid (by rw [Bool.eq_iff_iff, beq_iff_eq, beq_iff_eq]; omega)
  go_upto_if 18 with fail
  go_cut [] (fun wx => ∃ lv1, Hid (MK w0 wx B g gm st A c lv1 bol (cnt + 1) (ndone st (mL1 st bol ch L)) (mL1 st bol ch L) (mL1 st bol ch L)) ∧ Hid (MKept w wx g gm lv lv1))
  case first =>
    clear HMF HSL
    by_cases h10 : ch = 10
    · subst h10
      have HN : Hid (mL1 st bol 10 L = nspread st bol true L) := Lib.hid (if_pos rfl)
      have HC := Lib.hid (mspreadC w0 B g gm st A c lv bol (cnt + 1) L W HH.out HV.out HL.out true)
      clear HH
      go_wp2_with fail
      refine (HC.out).mono ?_; rintro e w2 ⟨rfl, lv2, hm2, hk2⟩
      have HM2 := Lib.hid hm2
      have HK2 := Lib.hid (HK0.out.trans hk2)
      clear hm2 hk2 HC
      go_wp2_with fail
      go_meet
      exact ⟨lv2, by rw [HN.out]; exact HM2, HK2⟩
    · have b10 : ((ch : Int) == 10) = false := by simp; omega
      have HN : Hid (mL1 st bol ch L = L) := Lib.hid (if_neg h10)
      clear h10
      go_wp2_with fail
      go_meet
      exact ⟨lv, by rw [HN.out]; exact HH, HK0⟩
  case rest =>
    clear HH HK0 HL
    obtain ⟨lv1, HM1, HK1⟩ := hcut
    have HL2 : Hid (mL2 st bol ch L = nspread st (ch == 10) false (enterM (nstep st ch (mL1 st bol ch L)) 0)) := Lib.hid rfl
    generalize mL2 st bol ch L = R2 at *
    generalize mL1 st bol ch L = Q at *
    obtain ⟨_, y1, y2, _, _, y5⟩ := HM1.out.cells
    cases hd : ndone st Q with
    | true =>
      rw [hd] at HM1 HMF y5
      have HX := Lib.hid (HMF.out _ wc ⟨rfl, fun _ => ⟨lv1, HM1.out, HK1.out⟩, fun h => by cases h⟩)
      clear hd HMF HM1 HK1 HL2 y1 y2
      go_wp2_with fail
      go_end0
      exact HX.out
    | false =>
      rw [hd] at HM1 HMF y5
      have HX : Hid (∀ w' lv', MK w0 w' B g gm st A c lv' (ch == 10) (cnt + 1) (ndone st R2) R2 R2 → MKept w w' g gm lv lv' → MFeed w lv w0 B g gm st A c bol cnt ch L (.returned (.tuple #[])) w') := Lib.hid (fun w' lv' h1 h2 => HMF.out _ w' ⟨rfl, (fun h => by cases h), fun _ => ⟨lv', h1, h2⟩⟩)
      clear hd HMF
      obtain ⟨Al, cl, rfl, _, _, _⟩ := HM1.out.own.shape
      have f2 := HM1.out.frz 2
      have hw1 := HM1.out.list (L' := []) (Own.nil_ _ _ _ _) (World.grownBy.refl wc _)
      have hk1 : MKept wc (wc.setCell ⟨g, 2, none⟩ (.slice none 0 0)) g gm (.slice Al Q.length cl) (.slice none 0 0) := MKept.drop
      generalize hw1e : wc.setCell ⟨g, 2, none⟩ (.slice none 0 0) = w1 at *
      obtain ⟨_, g1, _⟩ := hw1.cells
      have hsz := HSZ.out
      have hcl : ∀ ty, (Builtin.clear_ #[68] ty #[.slice (some ⟨gm, 0, none⟩) st.length st.length]).run Try.prog w1 = .ok (.tuple #[]) _ :=
        fun ty => Lib.run_clear_slice w1 _ _ ty _ Try.underlying68 Try.zeroValue4 rfl rfl gm 0 st.length st.length (by have := (svalid_ok HV.out).1; omega)
          (fun t ht => by rw [Nat.zero_add, cell_of_row w1 gm t _ _ _ hw1.mks, List.getElem?_toArray, mkm_get _ _ _ ht]; rfl) (fun t ht => frozen_of_row w1 gm _ _ _ hw1.mks)
      have HGA : Hid (∀ j, j < wc.heap.size → j ≠ g → j ≠ gm → (w1.setCells gm 0 (List.replicate st.length (.bool false))).heap[j]? = wc.heap[j]?) := Lib.hid (fun j hj j1 j2 => by
        rw [(mgrown_setCells gm _ 0 w1).block j (by rw [← hw1e]; simpa using hj) (by intro e; injection e with e; exact j2 e), ← hw1e]
        exact heap_setCell_other wc ⟨g, 2, none⟩ j _ j1)
      have HW2 := Lib.hid hw1.clear
      have HK2 := Lib.hid (hk1.trans (MKept.clear w1 g gm st.length (.slice none 0 0)))
      clear hk1 hw1
      go_upto_region 8 with fail
      generalize w1.setCells gm 0 (List.replicate st.length (.bool false)) = w2 at *
      clear hcl g1 y1 y2 y5 f2 hw1e hsz
      have HLQ := HSL
      go_wp2_with fail
      go_loopw [38] (fun s38 wr => MFRel wc w2 w0 B g gm st A c (.slice Al Q.length cl) bol (cnt + 1) ch Q s38 wr) (fun s38 _ => Q.length - (intOf s38).toNat)
      case atStart => exact ⟨0, [], _, rfl, Nat.zero_le _, HW2, HK2, Lib.hid (MKept.refl _ _ _ _), Lib.hid (Spots.nil _), Lib.hid rfl⟩
      case round =>
        obtain ⟨k, L1, lv1, rfl, hk, HW, HKW, HKR, HS, HE⟩ := hrel
        have hLl := HLQ.out.len
        obtain ⟨e0, _⟩ := HW.out.cells
        have hsz := HSZ.out
        by_cases hkl : k < Q.length
        · obtain ⟨ga, ca, hvv, hBa, hla, _, _⟩ := HM1.out.own.form (by omega)
          injection hvv with hA _ hc
          subst hA
          subst hc
          have ec := (HM1.out.own.cellAt (spm_get Q k hkl)).1
          have eg : wr.heap[ga]? = wc.heap[ga]? := by
            have n1 : ga ≠ g := fun e => by have := HM1.out.lg; omega
            have n2 : ga ≠ gm := fun e => by have := HM1.out.lm; omega
            rw [HKR.out.far ga (Nat.lt_of_lt_of_le hla HK2.out.size) n1 n2 (by simp [Value.ownBlock]), HGA.out ga hla n1 n2]
          have es : wr.cell? ⟨ga, k, none⟩ = some (.int .i64 (Q.getD k 0 : Nat)) := by rw [World.cell?_of_block (a := ⟨ga, k, none⟩) eg]; exact ec
          have hsl : Q.getD k 0 < st.length := HLQ.out.2 _ (by rw [List.getD_eq_getElem?_getD, List.getElem?_eq_getElem hkl]; exact List.getElem_mem hkl)
          have hun : (Q.take (k + 1)).foldl (fun acc s => nover st ch s acc) [] = nover st ch (Q.getD k 0) L1 := by
            rw [List.take_add_one, List.getElem?_eq_getElem hkl, List.foldl_append, HE.out, List.getD_eq_getElem?_getD, List.getElem?_eq_getElem hkl]
            rfl
          have HU := Lib.hid hun
          clear hun ec eg
          have i1 : (0 : Int) ≤ (k : Int) := by omega
          have i2 : (k : Int) < (Q.length : Int) := by omega
          generalize Q.getD k 0 = s at *
          have hok := (svalid_ok HV.out).2.2 s hsl
          have hx : st[s]? = some (nd st s) := by unfold nd; rw [List.getD_eq_getElem?_getD, List.getElem?_eq_getElem hsl]; rfl
          obtain ⟨b, off, rfl, _, hcl⟩ := (HW.out.nodes.up HW.out.old).at_ (by rw [ndsV_length]; omega)
          have hg := ndsV_get st s _ hx
          have c0 := hcl _ _ (hg 0 (by omega))
          have c1 := hcl _ _ (hg 1 (by omega))
          have c2 := hcl _ _ (hg 2 (by omega))
          have c3 := hcl _ _ (hg 3 (by omega))
          have c4 := hcl _ _ (hg 4 (by omega))
          have c5 := hcl _ _ (hg 5 (by omega))
          have c6 := hcl _ _ (hg 6 (by omega))
          rw [← Nat.add_assoc] at c0 c1 c2 c3 c4 c5 c6
          rw [Nat.add_zero] at c0
          have s1 : (0 : Int) ≤ (s : Int) := by omega
          have s2 : (s : Int) < (st.length : Int) := by omega
          have HVd : Hid (nover st ch s L1 = if (nd st s).kind = 1 ∧ hasB (nd st s).set ch = true then enterM L1 (nd st s).left.toNat else L1) := Lib.hid rfl
          clear hx hcl hg hsl
          generalize nd st s = y at *
          obtain ⟨kd, lf, rt, se⟩ := y
          replace c0 : wr.cell? ⟨b, off + s * 7, none⟩ = some (.int .i64 kd) := c0
          replace c1 : wr.cell? ⟨b, off + s * 7 + 1, none⟩ = some (.int .i64 lf) := c1
          replace c2 : wr.cell? ⟨b, off + s * 7 + 2, none⟩ = some (.int .i64 rt) := c2
          replace c3 : wr.cell? ⟨b, off + s * 7 + 3, none⟩ = some (.int .u64 (setW se 0)) := c3
          replace c4 : wr.cell? ⟨b, off + s * 7 + 4, none⟩ = some (.int .u64 (setW se 1)) := c4
          replace c5 : wr.cell? ⟨b, off + s * 7 + 5, none⟩ = some (.int .u64 (setW se 2)) := c5
          replace c6 : wr.cell? ⟨b, off + s * 7 + 6, none⟩ = some (.int .u64 (setW se 3)) := c6
          go_upto_region 12 with fail
          have hk7 : StAt (wr.alloc (.cells (ndCells ⟨kd, lf, rt, se⟩).toArray 42)) wr.heap.size ⟨kd, lf, rt, se⟩ := heap_alloc_new wr _
          have hoW : Old wr (wr.alloc (.cells (ndCells ⟨kd, lf, rt, se⟩).toArray 42)) := (Old.refl wr).alloc _
          have hWe : wr.alloc (.cells #[.int .i64 kd, .int .i64 lf, .int .i64 rt, .int .u64 (setW se 0), .int .u64 (setW se 1), .int .u64 (setW se 2), .int .u64 (setW se 3)] 42) = wr.alloc (.cells (ndCells ⟨kd, lf, rt, se⟩).toArray 42) := rfl
          rw [hWe]
          have HWA := Lib.hid (HW.out.up hoW)
          have HKWA := Lib.hid (HKW.out.trans (MKept.of_old hoW g gm lv1))
          have HKRA := Lib.hid (HKR.out.trans (MKept.of_old hoW g gm lv1))
          generalize wr.alloc (.cells (ndCells ⟨kd, lf, rt, se⟩).toArray 42) = V0 at *
          generalize wr.heap.size = k7 at *
          clear c0 c1 c2 c3 c4 c5 c6 e0 es hWe hoW HW HKW HKR s1 s2
          obtain ⟨d0, d1, _, d3, d4, d5, d6⟩ := hk7.cells
          simp only at d0 d1 d3 d4 d5 d6
          clear hk7
          obtain ⟨o1, o2, o3, o4⟩ := hok
          simp only at o1 o2 o3 o4 HVd
          by_cases hkd : kd = 1
          · subst hkd
            obtain ⟨a, rfl⟩ := Int.eq_ofNat_of_zero_le (o3 (by decide)).1
            have ha : a < st.length := by have := (o3 (by decide)).2; omega
            have HAL := Lib.hid ha
            have HEN := Lib.hid (menterD w0 B g gm st _ c lv1 bol (cnt + 1) L1 V0 HWA.out (by omega) HS.out a ha)
            clear ha o1 o2 o3 o4
            have q0 := setW_lt se 0
            have q1 := setW_lt se 1
            have q2 := setW_lt se 2
            have q3 := setW_lt se 3
            have hq : (ch : Int) / 64 = 0 ∨ (ch : Int) / 64 = 1 ∨ (ch : Int) / 64 = 2 ∨ (ch : Int) / 64 = 3 := by omega
            have HWH := Lib.hid (fun i hi => word_has3 se i ch HCH.out hi)
            cases hbb : hasB se ch with
            | false =>
              have HVV : Hid (nover st ch s L1 = L1) := Lib.hid (by rw [HVd.out, if_neg (fun h => by rw [hbb] at h; cases h.2)])
              have HBB := Lib.hid hbb
              clear HVd hbb HEN
              rcases hq with hq | hq | hq | hq
              · have hwb := HWH.out 0 (by omega)
                rw [HBB.out] at hwb
                go_wp2_with fail
                go_roundw
                case rel => exact ⟨k + 1, L1, lv1, rfl, by omega, HWA, HKWA, HKRA, HS, Lib.hid (HU.out.trans HVV.out)⟩
                case measure => simp [intOf]; omega
              · have hwb := HWH.out 1 (by omega)
                rw [HBB.out] at hwb
                go_wp2_with fail
                go_roundw
                case rel => exact ⟨k + 1, L1, lv1, rfl, by omega, HWA, HKWA, HKRA, HS, Lib.hid (HU.out.trans HVV.out)⟩
                case measure => simp [intOf]; omega
              · have hwb := HWH.out 2 (by omega)
                rw [HBB.out] at hwb
                go_wp2_with fail
                go_roundw
                case rel => exact ⟨k + 1, L1, lv1, rfl, by omega, HWA, HKWA, HKRA, HS, Lib.hid (HU.out.trans HVV.out)⟩
                case measure => simp [intOf]; omega
              · have hwb := HWH.out 3 (by omega)
                rw [HBB.out] at hwb
                go_wp2_with fail
                go_roundw
                case rel => exact ⟨k + 1, L1, lv1, rfl, by omega, HWA, HKWA, HKRA, HS, Lib.hid (HU.out.trans HVV.out)⟩
                case measure => simp [intOf]; omega
            | true =>
              have HVV : Hid (nover st ch s L1 = enterM L1 a) := Lib.hid (by rw [HVd.out, if_pos ⟨rfl, hbb⟩]; rfl)
              have HBB := Lib.hid hbb
              clear HVd hbb
              rcases hq with hq | hq | hq | hq
              · have hwb := HWH.out 0 (by omega)
                rw [HBB.out] at hwb
                go_wp2_with fail
                refine (HEN.out).mono ?_; rintro e V ⟨rfl, lv', hw, hk'⟩
                have HV3 := Lib.hid hw
                have HKV := Lib.hid (HKWA.out.trans hk')
                have HKQ := Lib.hid (HKRA.out.trans hk')
                clear hw hk'
                go_wp2_with fail
                go_roundw
                case rel => exact ⟨k + 1, _, lv', rfl, by omega, HV3, HKV, HKQ, Lib.hid (HS.out.enter HAL.out), Lib.hid (HU.out.trans HVV.out)⟩
                case measure => simp [intOf]; omega
              · have hwb := HWH.out 1 (by omega)
                rw [HBB.out] at hwb
                go_wp2_with fail
                refine (HEN.out).mono ?_; rintro e V ⟨rfl, lv', hw, hk'⟩
                have HV3 := Lib.hid hw
                have HKV := Lib.hid (HKWA.out.trans hk')
                have HKQ := Lib.hid (HKRA.out.trans hk')
                clear hw hk'
                go_wp2_with fail
                go_roundw
                case rel => exact ⟨k + 1, _, lv', rfl, by omega, HV3, HKV, HKQ, Lib.hid (HS.out.enter HAL.out), Lib.hid (HU.out.trans HVV.out)⟩
                case measure => simp [intOf]; omega
              · have hwb := HWH.out 2 (by omega)
                rw [HBB.out] at hwb
                go_wp2_with fail
                refine (HEN.out).mono ?_; rintro e V ⟨rfl, lv', hw, hk'⟩
                have HV3 := Lib.hid hw
                have HKV := Lib.hid (HKWA.out.trans hk')
                have HKQ := Lib.hid (HKRA.out.trans hk')
                clear hw hk'
                go_wp2_with fail
                go_roundw
                case rel => exact ⟨k + 1, _, lv', rfl, by omega, HV3, HKV, HKQ, Lib.hid (HS.out.enter HAL.out), Lib.hid (HU.out.trans HVV.out)⟩
                case measure => simp [intOf]; omega
              · have hwb := HWH.out 3 (by omega)
                rw [HBB.out] at hwb
                go_wp2_with fail
                refine (HEN.out).mono ?_; rintro e V ⟨rfl, lv', hw, hk'⟩
                have HV3 := Lib.hid hw
                have HKV := Lib.hid (HKWA.out.trans hk')
                have HKQ := Lib.hid (HKRA.out.trans hk')
                clear hw hk'
                go_wp2_with fail
                go_roundw
                case rel => exact ⟨k + 1, _, lv', rfl, by omega, HV3, HKV, HKQ, Lib.hid (HS.out.enter HAL.out), Lib.hid (HU.out.trans HVV.out)⟩
                case measure => simp [intOf]; omega
          · have hb1 : (kd == 1) = false := by simpa using hkd
            have HVV : Hid (nover st ch s L1 = L1) := Lib.hid (by rw [HVd.out, if_neg (fun h => hkd h.1)])
            clear HVd hkd o1 o2 o3 o4
            go_wp2_with fail
            go_roundw
            case rel => exact ⟨k + 1, L1, lv1, rfl, by omega, HWA, HKWA, HKRA, HS, Lib.hid (HU.out.trans HVV.out)⟩
            case measure => simp [intOf]; omega
        · obtain rfl : k = Q.length := by omega
          have HN : Hid (nstep st ch Q = L1) := Lib.hid (by have := HE.out; rw [List.take_length] at this; exact this)
          obtain ⟨_, _, _, e3, _, _⟩ := HW.out.cells
          have z3 := HW.out.frz 3
          have HB := Lib.hid (HW.out.bol_ (ch == 10))
          have HKB := Lib.hid (HK1.out.trans (HKW.out.trans (MKept.fld wr g gm 3 lv1 (.bool (ch == 10)))))
          have hEQ := HEQ.out
          clear HE HKR HW2 HK2 HGA HM1 HK1 HKW hkl
          rw [HN.out] at HL2
          go_upto_region 16 with fail
          rw [hEQ]
          have HC := Lib.hid (mbeginC w0 B g gm st A c lv1 (ch == 10) (cnt + 1) L1 _ HB.out HV.out HS.out)
          rw [← HL2.out] at HC
          clear hEQ e3 z3 HB HN HL2 hsz
          go_wp2_with fail
          refine (HC.out).mono ?_; rintro e w5 ⟨rfl, lv5, hm5, hk5⟩
          have HY := Lib.hid (HX.out w5 lv5 hm5 (HKB.out.trans hk5))
          clear hm5 hk5 HC HX HKB
          go_wp2_with fail
          go_end0
          exact HY.out
end Go.Proofs.Ythadkjgadhbidaa
/-
  newMatcher.
-/
namespace Go.Proofs.Ythadkjgadhbidaa
open Go.RowKit
set_option linter.unusedVariables false

theorem info_bo : (Try.prog.info? 4).map (fun i => (i.zero, i.size, i.bytes)) = some (some (.bool false), 1, 1) := by kernel_rfl
def MNew (w : World) (st : List Nd) (A : Option Addr) (c : Nat) (e : Ending) (w' : World) : Prop :=
  ∃ g gm B lv, e = .returned (.pointer (some ⟨g, 0, none⟩)) ∧ MK w w' B g gm st A c lv true 0 (ndone st (nspread st true false (enterM [] 0))) (nspread st true false (enterM [] 0)) (nspread st true false (enterM [] 0))
theorem made_mkm (m : Nat) : (madeCells #[Value.bool false] m).toList = mkm m [] := by
  unfold madeCells mkm
  rw [Array.toList_map, Array.toList_range]
  apply List.map_congr_left
  intro k _
  have e : k % #[Value.bool false].size = 0 := Nat.mod_one k
  rw [e]
  simp
theorem own_full {w : World} {B : Nat} {e : TypeId} {g n : Nat} {xs : List Value} (h : Own w B e 1 (.slice (some ⟨g, 0, none⟩) n n) n xs) : w.heap[g]? = some (.cells xs.toArray e (0, 0)) := by
  rcases h with ⟨h1, ⟨h2, _⟩ | ⟨g', cap, cur, h2, hg, hh, hn, hm, hs, hx⟩⟩
  · cases h2
  · injection h2 with e1 _ e3
    injection e1 with e1
    injection e1 with e1
    subst e1
    subst e3
    rw [hh]
    have : cur.toList = xs := by rw [← hx, List.take_of_length_le (by simp; omega)]
    rw [← this]
set_option maxHeartbeats 4000000 in
set_option maxRecDepth 100000 in
theorem mnewC (A : Option Addr) (c : Nat) (st : List Nd) (w : World) (hr : Rs w A (ndsV st)) (hv : svalid st = true) :
    Calls Try.prog 57 #[.slice A st.length c] w (MNew w st A c) := by
  have HR := Lib.hid hr
  have HV := Lib.hid hv
  obtain ⟨h1, h2, _⟩ := svalid_ok hv
  clear hr hv
  go_enter Try.func57, Try.ntmps57
  go_upto_region 1 with fail
  go_wp2_with (at_make; refine wpList_makeN rfl _ _ 68 rfl 4 (.bool false) 1 1 Try.underlying68 info_bo (by decide) .i64 .i64 _ _ st.length rfl rfl ?pl1 ?pc1 ?pn1 ?_)
  case pl1 => omega
  case pc1 => omega
  case pn1 => omega
  intro w1 ho1 hd1
  rw [made_mkm] at ho1
  have hmk := own_full ho1
  have hd0 := hd1.size
  have hlt := lt_of_block hmk
  have HM0 : Hid (MK w (w1.alloc (.cells #[.slice A st.length c, .slice (some ⟨w.heap.size, 0, none⟩) st.length st.length, .slice none 0 0, .bool true, .int .i64 0, .bool false] 110)) (w1.heap.size + 1) w1.heap.size w.heap.size st A c (.slice none 0 0) true 0 (ndone st []) [] []) := Lib.hid
    ⟨hd1.alloc _, HR.out, heap_alloc_new w1 _, ((Old.refl w1).alloc _).block hmk, Own.nil_ _ _ _ _, hd0, Nat.le_refl _, Nat.lt_succ_self _, by omega, by omega, by simp⟩
  clear hmk ho1 hd1
  go_upto_region 2 with fail
  generalize w1.alloc (.cells #[.slice A st.length c, .slice (some ⟨w.heap.size, 0, none⟩) st.length st.length, .slice none 0 0, .bool true, .int .i64 0, .bool false] 110) = W at *
  have HC := Lib.hid (mbeginC w (w1.heap.size + 1) w1.heap.size w.heap.size st A c (.slice none 0 0) true 0 [] W HM0.out HV.out (Spots.nil _))
  clear HM0
  go_wp2_with fail
  refine (HC.out).mono ?_; rintro e w2 ⟨rfl, lv2, hm, hk⟩
  have HM := Lib.hid hm
  clear hm hk HC
  go_wp2_with fail
  go_ret
  exact ⟨_, _, _, _, rfl, HM.out⟩
end Go.Proofs.Ythadkjgadhbidaa
/-
  What Play returns, on plain lists: the chunk and the number of bytes. No program in sight.
-/
namespace Go.Proofs.Ythadkjgadhbidaa
open Go.RowKit
set_option linter.unusedVariables false

/-- The chunk that holds byte p. -/
def chunkIdx : List (List Nat) → Nat → Nat
  | [], _ => 0
  | c :: cs, p => if p < c.length then 0 else 1 + chunkIdx cs (p - c.length)
/-- The bytes ahead of chunk j. -/
def baseC (cs : List (List Nat)) (j : Nat) : Nat := (cs.take j).flatten.length
theorem baseC_succ (cs : List (List Nat)) (j : Nat) (hj : j < cs.length) : baseC cs (j + 1) = baseC cs j + (cs.getD j []).length := by
  unfold baseC
  rw [List.take_add_one, List.getElem?_eq_getElem hj, List.flatten_append, List.length_append, List.getD_eq_getElem?_getD, List.getElem?_eq_getElem hj]
  simp
theorem baseC_all (cs : List (List Nat)) : baseC cs cs.length = cs.flatten.length := by unfold baseC; rw [List.take_length]
theorem flat_get : ∀ (cs : List (List Nat)) (j k : Nat), j < cs.length → k < (cs.getD j []).length → cs.flatten.getD (baseC cs j + k) 0 = (cs.getD j []).getD k 0 ∧ chunkIdx cs (baseC cs j + k) = j ∧ baseC cs j + k < cs.flatten.length
  | [], j, k, h, _ => by simp at h
  | c :: cs, 0, k, _, hk => by
    have hk' : k < c.length := hk
    have e : baseC (c :: cs) 0 = 0 := rfl
    rw [e, Nat.zero_add, chunkIdx, if_pos hk', List.flatten_cons]
    refine ⟨?_, rfl, by simp; omega⟩
    rw [List.getD_eq_getElem?_getD, List.getElem?_append_left hk', List.getD_eq_getElem?_getD]
    rfl
  | c :: cs, j + 1, k, hj, hk => by
    have hj' : j < cs.length := by simpa using hj
    have hk' : k < (cs.getD j []).length := by simpa using hk
    obtain ⟨h1, h2, h3⟩ := flat_get cs j k hj' hk'
    have e : baseC (c :: cs) (j + 1) = c.length + baseC cs j := by simp [baseC]
    rw [e, List.flatten_cons]
    refine ⟨?_, ?_, by rw [List.length_append]; omega⟩
    · rw [List.getD_eq_getElem?_getD, List.getElem?_append_right (by omega), show c.length + baseC cs j + k - c.length = baseC cs j + k by omega, ← List.getD_eq_getElem?_getD, h1]
      simp
    · rw [chunkIdx, if_neg (by omega), show c.length + baseC cs j + k - c.length = baseC cs j + k by omega, h2]
      omega
/-- Play's chunk and number, out of the least number of bytes. -/
def playM (R : Int) (cs : List (List Nat)) : Int × Int := if R = 0 then (-1, 0) else if R < 0 then ((cs.length : Int), -1) else ((chunkIdx cs (R - 1).toNat : Int), R)
def mA1 (st : List Nd) (bol : Bool) (ch : Nat) (L : List Nat) : List Nat := if ch = 10 then nspread st bol true L else L
def mA2 (st : List Nd) (bol : Bool) (ch : Nat) (L : List Nat) : List Nat := nspread st (ch == 10) false (enterM (nstep st ch (mA1 st bol ch L)) 0)
/-- The run, on from the marks at a place. -/
def nrunA (st : List Nd) (t : List Nat) (f i : Nat) (L1 : List Nat) : Int :=
  if ndone st L1 = true then i
  else if i = t.length then -1
  else if t.getD i 0 = 10 then
    if ndone st (nspread st (bolT t i) true L1) = true then (i : Int) + 1 else nrunF st t f (i + 1) (nstep st (t.getD i 0) (nspread st (bolT t i) true L1))
  else nrunF st t f (i + 1) (nstep st (t.getD i 0) L1)
theorem nrunF_A (st : List Nd) (t : List Nat) (f i : Nat) (L : List Nat) : nrunF st t (f + 1) i L = nrunA st t f i (nspread st (bolT t i) false (enterM L 0)) := rfl
theorem bolT_next (t : List Nat) (i : Nat) : bolT t (i + 1) = (t.getD i 0 == 10) := by unfold bolT; simp
/-- One byte more. -/
theorem feed_step {st : List Nd} {t : List Nat} {f i : Nat} {L : List Nat} {R : Int} (hd : ndone st L = false) (hi : i < t.length) (hU : nrunA st t (f + 1) i L = R) :
    (ndone st (mA1 st (bolT t i) (t.getD i 0) L) = true → R = (i : Int) + 1) ∧
    (ndone st (mA1 st (bolT t i) (t.getD i 0) L) = false → nrunA st t f (i + 1) (mA2 st (bolT t i) (t.getD i 0) L) = R ∧ (ndone st (mA2 st (bolT t i) (t.getD i 0) L) = true → R = (i : Int) + 1)) := by
  unfold nrunA at hU
  rw [if_neg (by rw [hd]; simp), if_neg (by omega)] at hU
  have key : ndone st (mA1 st (bolT t i) (t.getD i 0) L) = false → nrunF st t (f + 1) (i + 1) (nstep st (t.getD i 0) (mA1 st (bolT t i) (t.getD i 0) L)) = R := by
    intro h1
    unfold mA1 at h1 ⊢
    by_cases hc : t.getD i 0 = 10
    · rw [if_pos hc] at h1 hU ⊢
      rw [if_neg (by rw [h1]; simp)] at hU
      exact hU
    · rw [if_neg hc] at hU ⊢
      exact hU
  refine ⟨fun h1 => ?_, fun h1 => ?_⟩
  · unfold mA1 at h1
    by_cases hc : t.getD i 0 = 10
    · rw [if_pos hc] at h1 hU
      rw [if_pos h1] at hU
      exact hU.symm
    · rw [if_neg hc] at h1
      rw [h1] at hd
      cases hd
  · have k := key h1
    rw [nrunF_A, bolT_next] at k
    have k2 : nrunA st t f (i + 1) (mA2 st (bolT t i) (t.getD i 0) L) = R := k
    refine ⟨k2, fun h2 => ?_⟩
    unfold nrunA at k2
    rw [if_pos h2] at k2
    omega
theorem end_step {st : List Nd} {t : List Nat} {f : Nat} {L : List Nat} {R : Int} (hd : ndone st L = false) (hU : nrunA st t f t.length L = R) : R = -1 := by
  unfold nrunA at hU
  rw [if_neg (by rw [hd]; simp), if_pos rfl] at hU
  exact hU.symm
end Go.Proofs.Ythadkjgadhbidaa
/-
  The walk of Compile (nfa).
-/
namespace Go.Proofs.Ythadkjgadhbidaa
open Go.RowKit
set_option linter.unusedVariables false

def NComp (w : World) (l : List Nd) (e : Ending) (w' : World) : Prop :=
  (validM l = true → ∃ v, e = .returned (.tuple #[v, .int .i64 0]) ∧ Own w' w.heap.size 42 7 v (pcompM l).length (ndsV (pcompM l))) ∧ (validM l = false → e = .returned (.tuple #[.slice none 0 0, .int .i64 3])) ∧ Old w w'
set_option maxHeartbeats 8000000 in
set_option maxRecDepth 100000 in
theorem ncompC (A : Option Addr) (c : Nat) (l : List Nd) (w : World) (hr : Rs w A (ndsV l)) (hm : l.length ≤ maxLen) (hso : ∀ x ∈ l, setOk x.set) :
    Calls Try.prog 12 #[.slice A l.length c] w (NComp w l) := by
  have hV := validC A c l w hr hm hso
  cases hv : validM l with
  | false =>
    rw [hv] at hV
    have HV := Lib.hid hV
    have HE : Hid (validM l = true → False) := Lib.hid (by rw [hv]; intro h; cases h)
    clear hV hr hso hm
    go_enter Try.func12, Try.ntmps12
    go_wp2_with fail
    refine (HV.out).mono ?_; rintro e V ⟨rfl, hd⟩
    have HD := Lib.hid hd
    clear hd HV
    go_wp2_with fail
    refine bodyPost_ret (v := .tuple #[.slice none 0 0, .int .i64 3]) (by simp [results, Try.results12, go_sem]) rfl ?_
    exact ⟨fun h => (HE.out h).elim, fun _ => rfl, HD.out⟩
  | true =>
    rw [hv] at hV
    have HV := Lib.hid hV
    have HLN := Lib.hid (validM_len hv)
    have HSB := Lib.hid (validM_sub hv)
    have HVV := Lib.hid hv
    have HR := Lib.hid hr
    have HSO := Lib.hid hso
    clear hV hr hso hm hv
    go_enter Try.func12, Try.ntmps12
    go_wp2_with fail
    refine (HV.out).mono ?_; rintro e V ⟨rfl, hd⟩
    have HD := Lib.hid hd
    have HRV := Lib.hid (HR.out.up hd)
    clear hd HV HR
    go_upto_region 4 with fail
    have hb0 : NB V (V.alloc (.cells #[.slice A l.length c, .slice none 0 0] 65)) (V.heap.size + 1) V.heap.size A l.length c (.slice none 0 0) [] :=
      ⟨(Old.refl V).alloc _, heap_alloc_new V _, Own.nil_ _ _ _ _, Nat.le_refl _, Nat.lt_succ_self _, by simp⟩
    have HA := naddC V (V.heap.size + 1) V.heap.size A l.length c (.slice none 0 0) [] _ hb0 (by simp) ⟨2, 0, 0, 0⟩
    unfold stA at HA
    simp only [setW_zero] at HA
    have HAH := Lib.hid HA
    clear HA hb0
    generalize V.alloc (.cells #[.slice A l.length c, .slice none 0 0] 65) = W at *
    go_wp2_with fail
    refine (HAH.out).mono ?_; rintro e w2 ⟨rfl, lv2, hb2, hf2⟩
    have HA := naddC V (V.heap.size + 1) V.heap.size A l.length c lv2 [⟨2, 0, 0, 0⟩] w2 hb2 (by simp) ⟨5, 0, 0, 0⟩
    unfold stA at HA
    simp only [setW_zero] at HA
    have HAH2 := Lib.hid HA
    clear HA hb2 hf2 HAH
    go_wp2_with fail
    refine (HAH2.out).mono ?_; rintro e w3 ⟨rfl, lv3, hb3, hf3⟩
    have hl1 := HLN.out
    obtain ⟨k, hk⟩ : ∃ k, l.length = k + 1 := ⟨l.length - 1, by omega⟩
    have hk1 : l.length - 1 = k := by omega
    have hsub := HSB.out
    rw [hk1] at hsub
    have HC := nbuildC V (V.heap.size + 1) V.heap.size A c l HRV.out (by omega) HSO.out hsub l.length 1 [⟨2, 0, 0, 0⟩, ⟨5, 0, 0, 0⟩] lv3 w3 (by omega) (by simp; omega) (by omega) hb3
    have hm := pbF_made hsub l.length 1 [⟨2, 0, 0, 0⟩, ⟨5, 0, 0, 0⟩] (by omega)
    have HPC : Hid (pcompM l = (pbF l l.length k 1 [⟨2, 0, 0, 0⟩, ⟨5, 0, 0, 0⟩]).1.set 0 ⟨2, (pbF l l.length k 1 [⟨2, 0, 0, 0⟩, ⟨5, 0, 0, 0⟩]).2, (pbF l l.length k 1 [⟨2, 0, 0, 0⟩, ⟨5, 0, 0, 0⟩]).2, 0⟩) := Lib.hid (by unfold pcompM; rw [hk1])
    generalize pbF l l.length k 1 [⟨2, 0, 0, 0⟩, ⟨5, 0, 0, 0⟩] = r at *
    obtain ⟨R, v⟩ := r
    have HM := Lib.hid hm
    have HCC := Lib.hid HC
    have hke : (l.length : Int) - 1 = (k : Int) := by omega
    clear hm HC hb3 hf3 HAH2 hsub HRV HSO HSB hk1
    generalize l.length = L at *
    subst hk
    go_wp2_with fail
    refine (HCC.out).mono ?_; rintro e w4 ⟨rfl, lv4, hb4, hf4⟩
    have hlR : 2 ≤ R.length := HM.out.len
    have hx0 : R[0]? = some ⟨2, 0, 0, 0⟩ := by
      have h5 : nd R 0 = ⟨2, 0, 0, 0⟩ := HM.out.old 0 (by simp)
      have hlt : 0 < R.length := by omega
      unfold nd at h5
      rw [List.getD_eq_getElem?_getD, List.getElem?_eq_getElem hlt] at h5
      rw [List.getElem?_eq_getElem hlt]
      exact congrArg some h5
    obtain ⟨gb, cb, rfl, _, _, _, _⟩ := hb4.own.form (show 0 < R.length by omega)
    obtain ⟨q1, q2⟩ := hb4.own.cellAt (j := 1) (u := .int .i64 0) (by have := ndsV_get R 0 _ hx0 1 (by omega); rw [Nat.zero_mul, Nat.zero_add] at this; rw [this]; rfl)
    obtain ⟨hb5, hf5⟩ := hb4.put_ hx0 (x' := ⟨2, v, 0, 0⟩) (.int .i64 (v : Int)) (c := 1) (by omega) rfl
    rw [Nat.zero_mul, Nat.zero_add] at hb5
    obtain ⟨_, e1, _⟩ := hb4.cells
    have hx1 : (R.set 0 ⟨2, v, 0, 0⟩)[0]? = some ⟨2, v, 0, 0⟩ := List.getElem?_set_self (by omega)
    have HB4 := Lib.hid hb4
    clear hb4 hf4 hf5 HCC
    have j1 : (0 : Int) < (R.length : Int) := by omega
    go_upto_region 8 with fail
    generalize w4.setCell ⟨gb, 1, none⟩ (.int .i64 (v : Int)) = w5 at *
    clear q1 q2 e1
    have hb5' : NB V w5 (V.heap.size + 1) V.heap.size A (k + 1) c (.slice (some ⟨gb, 0, none⟩) (R.set 0 ⟨2, v, 0, 0⟩).length cb) (R.set 0 ⟨2, v, 0, 0⟩) := by rw [List.length_set]; exact hb5
    obtain ⟨q1, q2⟩ := hb5'.own.cellAt (j := 2) (u := .int .i64 0) (by have := ndsV_get _ 0 _ hx1 2 (by omega); rw [Nat.zero_mul, Nat.zero_add] at this; rw [this]; rfl)
    obtain ⟨hb6, hf6⟩ := hb5'.put_ hx1 (x' := ⟨2, v, v, 0⟩) (.int .i64 (v : Int)) (c := 2) (by omega) rfl
    rw [Nat.zero_mul, Nat.zero_add] at hb6
    obtain ⟨_, e1, _⟩ := hb5.cells
    rw [List.set_set] at hb6
    clear hb5 hb5' hf6 hx1
    go_upto_region 9 with fail
    generalize w5.setCell ⟨gb, 2, none⟩ (.int .i64 (v : Int)) = w6 at *
    clear q1 q2 e1
    obtain ⟨_, e1, _⟩ := hb6.cells
    rw [List.length_set] at e1
    have hown := hb6.own
    have HOW := Lib.hid (hown.base (base' := w.heap.size) (by have := HD.out.size; omega))
    have HOL := Lib.hid (HD.out.up hb6.old)
    clear hb6 hown
    go_wp2_with fail
    refine bodyPost_ret (v := .tuple #[.slice (some ⟨gb, 0, none⟩) R.length cb, .int .i64 0]) (by simp [results, Try.results12, go_sem]) rfl ?_
    refine ⟨fun _ => ⟨_, rfl, ?_⟩, fun h => ?_, HOL.out⟩
    · rw [HPC.out]
      have := HOW.out
      simp only [List.length_set] at this ⊢
      exact this
    · rw [HVV.out] at h; cases h
end Go.Proofs.Ythadkjgadhbidaa
/-
  The program's Parse gives what the reference's reader gives.
-/
namespace Go.Proofs.Ythadkjgadhbidaa
open Go.RowKit
set_option linter.unusedVariables false

def ClN (l : List Nd) : Prop := ∀ x ∈ l, shiftNd 0 x = x
theorem ClN.nil_ : ClN [] := fun x h => by cases h
theorem ClN.leaf (k : Int) (z : BSet) (hk : kidsN k = 0) : ClN (leafN k z) := by
  intro x hx
  simp [leafN] at hx
  subst hx
  simp [shiftNd, shiftN, hk]
theorem ClN.join1 {k : Int} {l : List Nd} (hk : kidsN k = 1) (hl : ClN l) : ClN (joinN k l []) := by
  intro x hx
  unfold joinN at hx
  rcases List.mem_append.mp hx with hx | hx
  · rcases List.mem_append.mp hx with hx | hx
    · exact hl x hx
    · simp at hx
  · simp at hx
    subst hx
    simp [shiftNd, shiftN, hk]
theorem ClN.join2 {k : Int} {l r : List Nd} (hk : kidsN k = 2) (hl : ClN l) : ClN (joinN k l r) := by
  intro x hx
  unfold joinN at hx
  rcases List.mem_append.mp hx with hx | hx
  · rcases List.mem_append.mp hx with hx | hx
    · exact hl x hx
    · obtain ⟨y, hy, rfl⟩ := List.mem_map.mp hx
      rw [shiftNd_shiftNd]
      congr 1
      omega
  · simp at hx
    subst hx
    simp [shiftNd, shiftN, hk]
theorem parse_clean (B : List Nat) : ∀ f : Nat,
    (∀ p R, altP B f p = some R → ClN R.1) ∧ (∀ l p R, ClN l → altLoop B f l p = some R → ClN R.1) ∧ (∀ p R, catP B f p = some R → ClN R.1) ∧
    (∀ l p R, ClN l → catLoop B f l p = some R → ClN R.1) ∧ (∀ p R, partP B f p = some R → ClN R.1) ∧ (∀ l p R, ClN l → partLoop B f l p = some R → ClN R.1) ∧
    (∀ p R, atomP B f p = some R → ClN R.1) := by
  intro f
  induction f with
  | zero =>
    refine ⟨?_, ?_, ?_, ?_, ?_, ?_, ?_⟩
    · intro p R h; simp [altP] at h
    · intro l p R _ h; simp [altLoop] at h
    · intro p R h; simp [catP] at h
    · intro l p R _ h; simp [catLoop] at h
    · intro p R h; simp [partP] at h
    · intro l p R _ h; simp [partLoop] at h
    · intro p R h; simp [atomP] at h
  | succ f ih =>
    obtain ⟨iAlt, iAltL, iCat, iCatL, iPart, iPartL, iAtom⟩ := ih
    refine ⟨?_, ?_, ?_, ?_, ?_, ?_, ?_⟩
    · intro p R h
      rw [altP] at h
      split at h
      · cases h
      · rename_i l q hq
        exact iAltL l q R (iCat p (l, q) hq) h
    · intro l p R hl h
      rw [altLoop] at h
      split at h
      · split at h
        · cases h
        · rename_i x q hq
          split at h
          · exact iAltL _ q R (ClN.join2 (by decide) hl) h
          · injection h with h; subst h; exact ClN.nil_
      · injection h with h; subst h; exact hl
    · intro p R h
      rw [catP] at h
      exact iCatL [] p R ClN.nil_ h
    · intro l p R hl h
      rw [catLoop] at h
      split at h
      · split at h
        · cases h
        · rename_i x q hq
          split at h
          · refine iCatL _ q R ?_ h
            split
            · exact iPart _ (x, q) hq
            · exact ClN.join2 (by decide) hl
          · injection h with h; subst h; exact ClN.nil_
      · injection h with h; subst h
        show ClN (if l.length = 0 then leafN 1 0 else l)
        split
        · exact ClN.leaf _ _ (by decide)
        · exact hl
    · intro p R h
      rw [partP] at h
      split at h
      · cases h
      · rename_i l q hq
        exact iPartL l q R (iAtom p (l, q) hq) h
    · intro l p R hl h
      rw [partLoop] at h
      split at h
      · split at h
        · exact iPartL _ _ R (ClN.join1 (by decide) hl) h
        · split at h
          · exact iPartL _ _ R (ClN.join1 (by decide) hl) h
          · split at h
            · exact iPartL _ _ R (ClN.join1 (by decide) hl) h
            · injection h with h; subst h; exact hl
      · injection h with h; subst h; exact hl
    · intro p R h
      rw [atomP] at h
      simp only at h
      split at h
      · injection h with h; subst h; exact ClN.leaf _ _ (by decide)
      split at h
      · injection h with h; subst h; exact ClN.leaf _ _ (by decide)
      split at h
      · injection h with h; subst h; exact ClN.leaf _ _ (by decide)
      split at h
      · injection h with h; subst h; exact ClN.leaf _ _ (by decide)
      split at h
      · split at h
        · cases h
        · rename_i s r hq
          injection h with h; subst h; exact ClN.leaf _ _ (by decide)
      split at h
      · injection h with h; subst h; exact ClN.leaf _ _ (by decide)
      split at h
      · injection h with h; subst h; exact ClN.leaf _ _ (by decide)
      split at h
      · split at h
        · injection h with h; subst h; exact ClN.nil_
        · split at h
          · cases h
          · rename_i l r hq
            injection h with h; subst h; exact iAlt _ (l, r) hq
      · injection h with h; subst h; exact ClN.leaf _ _ (by decide)
theorem ClN.map_ {l : List Nd} (h : ClN l) : l.map (shiftNd 0) = l := by
  rw [List.map_congr_left (g := id) (fun x hx => h x hx), List.map_id]
theorem all_g : ∀ f : Nat, PatG f ∧ AltG f ∧ PartG f ∧ AtomG f := by
  intro f
  induction f using Nat.strongRecOn with
  | _ f ih =>
    cases f with
    | zero =>
      refine ⟨?_, ?_, ?_, ?_⟩
      · intro w0 B g s a d lv N w R _ _ _ _ _ h; simp [altP] at h
      · intro w0 B g s a d lv N w R _ _ _ _ _ h; simp [catP] at h
      · intro w0 B g s a d lv N w R _ _ _ _ _ h; simp [partP] at h
      · intro w0 B g s a d lv N w R _ _ _ _ _ h; simp [atomP] at h
    | succ f =>
      exact ⟨patG f (fun k hk => (ih k (by omega)).2.1), altG f (fun k hk => (ih k (by omega)).2.2.1), partG f (ih f (by omega)).2.2.2, atomG f (ih f (by omega)).1⟩
theorem RP.begin (s : ByteArray) (w : World) : RP w (w.alloc (pzO s 0 0 (.slice none 0 0))) (w.heap.size + 1) w.heap.size s 0 0 (.slice none 0 0) [] :=
  ⟨(Old.refl w).alloc _, heap_alloc_new w _, Own.nil_ _ _ _ _, Nat.le_refl _, by omega, by simp⟩
set_option maxHeartbeats 8000000 in
set_option maxRecDepth 100000 in
theorem parseG (f : Nat) (s : ByteArray) (r : List Nd × Int) (w : World) (hR : parseF f (bs s) = some r) : Calls Try.prog 56 #[.string s] w (ParsePost w r) := by
  unfold parseF at hR
  rw [bs_length] at hR
  by_cases hl : 128 < s.size
  · rw [if_pos hl] at hR
    have HE := Lib.hid (Option.some.inj hR).symm
    have HO := Lib.hid (Old.refl w)
    have hl2 : (128 : Int) < (s.size : Int) := by omega
    clear hR hl
    go_enter Try.func56, Try.ntmps56
    go_wp2_with fail
    go_ret2
    rw [HE.out]
    exact ⟨_, rfl, Own.nil_ _ _ _ _, HO.out⟩
  rw [if_neg hl] at hR
  cases hq : altP (bs s) f ⟨0, 0, 0⟩ with
  | none => rw [hq] at hR; cases hR
  | some lp =>
  rw [hq] at hR
  obtain ⟨l, ⟨a, d, e⟩⟩ := lp
  have hA := (all_g f).1 w (w.heap.size + 1) w.heap.size s 0 0 (.slice none 0 0) [] (w.alloc (pzO s 0 0 (.slice none 0 0))) (l, ⟨a, d, e⟩) (RP.begin s w) (by omega) (Nat.zero_le _) (Nat.zero_le _) (by unfold Room; simp; omega) hq
  have hG : Good (bs s).length ⟨0, 0, 0⟩ l ⟨a, d, e⟩ 0 := (parse_good (bs s) f).1 ⟨0, 0, 0⟩ (l, ⟨a, d, e⟩) ⟨rfl, Nat.zero_le _, Nat.zero_le _⟩ hq
  rw [bs_length] at hG
  have hcl := ((parse_clean (bs s) f).1 ⟨0, 0, 0⟩ (l, ⟨a, d, e⟩) hq).map_
  have hl2 : ¬ (128 : Int) < (s.size : Int) := by omega
  have hR2 : r = (if (if (if e = 0 ∧ a < s.size then failP ⟨a, d, e⟩ 83 else ⟨a, d, e⟩ : Ps).e = 0 ∧ 256 < l.length then failP (if e = 0 ∧ a < s.size then failP ⟨a, d, e⟩ 83 else ⟨a, d, e⟩) 1 else (if e = 0 ∧ a < s.size then failP ⟨a, d, e⟩ 83 else ⟨a, d, e⟩) : Ps).e = 0 then (l, 0) else ([], (if (if e = 0 ∧ a < s.size then failP ⟨a, d, e⟩ 83 else ⟨a, d, e⟩ : Ps).e = 0 ∧ 256 < l.length then failP (if e = 0 ∧ a < s.size then failP ⟨a, d, e⟩ 83 else ⟨a, d, e⟩) 1 else (if e = 0 ∧ a < s.size then failP ⟨a, d, e⟩ 83 else ⟨a, d, e⟩) : Ps).e)) := (Option.some.inj hR).symm
  have HR2 := Lib.hid hR2
  have HA := Lib.hid hA
  have HG := Lib.hid hG
  have HCL := Lib.hid hcl
  have hsz : s.size ≤ 128 := by omega
  clear hA hR hR2 hG hq hl hcl
  unfold pzO at HA
  go_enter Try.func56, Try.ntmps56
  by_cases he : e = 0
  · subst he
    obtain ⟨g1, g2, g3, g4, g5⟩ := HG.out.ok rfl
    replace g1 : d = 0 := g1
    replace g3 : a ≤ s.size := g3
    subst g1
    have HA2 := Lib.hid (HA.out.mono fun e w' h => h.ok rfl)
    clear HA
    go_wp2_with fail
    refine (HA2.out).mono ?_; rintro e V ⟨rfl, lv, hr⟩
    have HP : Hid (RP w V (w.heap.size + 1) w.heap.size s a 0 lv l) := Lib.hid (by
      have h2 : l.map (shiftNd 0) = l := HCL.out
      have := hr
      simp only [List.nil_append, List.length_nil] at this
      rw [show (((0 : Nat) : Int)) = 0 from rfl, h2] at this
      exact this)
    have hen := endedC w (w.heap.size + 1) w.heap.size s a 0 lv l V HP.out (by omega)
    clear hr HA2 HCL HG
    by_cases hend : a = s.size
    · rw [decide_eq_true hend] at hen
      have HEN := Lib.hid hen
      clear hen
      obtain ⟨Al, cl, rfl, _, _, _⟩ := HP.out.own.shape
      by_cases hll : 256 < l.length
      · have HE : Hid (r = ([], 1)) := Lib.hid (by rw [HR2.out]; simp [hll, hend, failP])
        have hl3 : (256 : Int) < (l.length : Int) := by omega
        clear HR2 hend hll
        go_wp2_with fail
        refine (HEN.out).mono ?_; rintro e W2 ⟨rfl, n2, rfl⟩
        have HP2 := Lib.hid (HP.out.drewN n2)
        generalize V.drewN n2 = W3 at *
        have HO := Lib.hid HP2.out.old
        obtain ⟨_, _, _, c3, _, _, _⟩ := HP2.out.cells
        clear HP HEN
        go_wp2_with fail
        go_ret2
        rw [HE.out]
        exact ⟨_, rfl, Own.nil_ _ _ _ _, HO.out⟩
      · have HE : Hid (r = (l, 0)) := Lib.hid (by rw [HR2.out]; simp [hll, hend])
        have hl3 : ¬ (256 : Int) < (l.length : Int) := by omega
        clear HR2 hend hll
        go_wp2_with fail
        refine (HEN.out).mono ?_; rintro e W2 ⟨rfl, n2, rfl⟩
        have HP2 := Lib.hid (HP.out.drewN n2)
        generalize V.drewN n2 = W3 at *
        have HO := Lib.hid HP2.out.old
        obtain ⟨_, _, _, c3, _, _, _⟩ := HP2.out.cells
        clear HP HEN
        go_wp2_with fail
        go_ret2
        rw [HE.out]
        exact ⟨_, rfl, HP2.out.own.base (by omega), HO.out⟩
    · have HE : Hid (r = ([], 83)) := Lib.hid (by
        have : a < s.size := by omega
        rw [HR2.out]; simp [this, failP])
      rw [decide_eq_false hend] at hen
      have HEN := Lib.hid hen
      clear hen hend HR2
      go_wp2_with fail
      refine (HEN.out).mono ?_; rintro e W2 ⟨rfl, n2, rfl⟩
      have HO := Lib.hid (HP.out.drewN n2).old
      generalize V.drewN n2 = W3 at *
      clear HP HEN
      go_wp2_with fail
      go_ret2
      rw [HE.out]
      exact ⟨_, rfl, Own.nil_ _ _ _ _, HO.out⟩
  · have HE : Hid (r = ([], e)) := Lib.hid (by rw [HR2.out]; simp [he])
    have HA2 := Lib.hid (HA.out.mono fun e w' h => h.no he)
    have hne : (e != 0) = true := by simpa using he
    clear HA HR2
    go_wp2_with fail
    refine (HA2.out).mono ?_; rintro e V ⟨v9, rfl, ho⟩
    have HO := Lib.hid ho
    clear ho HA2
    go_wp2_with fail
    go_ret2
    rw [HE.out]
    exact ⟨_, rfl, Own.nil_ _ _ _ _, HO.out⟩
end Go.Proofs.Ythadkjgadhbidaa
/-
  The walk of Play (matcher).
-/
namespace Go.Proofs.Ythadkjgadhbidaa
open Go.RowKit
set_option linter.unusedVariables false

/-- Chunks in memory. -/
structure ChR (w : World) (A : Option Addr) (cs : List (List Nat)) (ad : Nat → Option Addr) (cp : Nat → Nat) : Prop where
  outer : Rs w A ((List.range cs.length).map fun j => .slice (ad j) (cs.getD j []).length (cp j))
  rows : ∀ j, j < cs.length → Rs w (ad j) (txt (cs.getD j []))
theorem ChR.up {w w' : World} {A : Option Addr} {cs : List (List Nat)} {ad : Nat → Option Addr} {cp : Nat → Nat} (h : ChR w A cs ad cp) (ho : Old w w') : ChR w' A cs ad cp := ⟨h.outer.up ho, fun j hj => (h.rows j hj).up ho⟩
def PlayPost (w : World) (s : ByteArray) (cs : List (List Nat)) (e : Ending) (w' : World) : Prop :=
  (∀ n c, parseR (bs s) = (n, c) → e = .returned (.tuple #[.int .i64 (if c = 0 then (playM (rfirstM n cs.flatten) cs).1 else 0), .int .i64 (if c = 0 then (playM (rfirstM n cs.flatten) cs).2 else 0), .int .i64 c])) ∧ Old w w'
def PlayOut (w2 : World) (B g gm : Nat) (st : List Nd) (A : Option Addr) (c : Nat) (t : List Nat) (R : Int) (i : Nat) (wr : World) : Prop :=
  ∃ lv L, Hid (MK w2 wr B g gm st A c lv (bolT t i) i false L L) ∧ Hid (ndone st L = false) ∧ Hid (Spots st.length L) ∧ Hid (nrunA st t (t.length - i) i L = R)
def PlJ (w2 : World) (B g gm : Nat) (st : List Nd) (A : Option Addr) (c : Nat) (cs : List (List Nat)) (R : Int) (v : Value) (wr : World) : Prop :=
  ∃ j : Nat, v = .int .i64 j ∧ j ≤ cs.length ∧ PlayOut w2 B g gm st A c cs.flatten R (baseC cs j) wr
def PlK (w2 : World) (B g gm : Nat) (st : List Nd) (A : Option Addr) (c : Nat) (cs : List (List Nat)) (R : Int) (j : Nat) (chk : List Nat) (v : Value) (wr : World) : Prop :=
  ∃ k : Nat, v = .int .i64 k ∧ k ≤ chk.length ∧ PlayOut w2 B g gm st A c cs.flatten R (baseC cs j + k) wr
theorem range_at {α : Type} {n i : Nat} (F : Nat → α) (h : i < n) : ((List.range n).map F)[i]? = some (F i) := by simp [h]
theorem play_at {R : Int} {i j : Nat} {cs : List (List Nat)} (hR : R = (i : Int) + 1) (hi : chunkIdx cs i = j) : playM R cs = ((j : Int), (i : Int) + 1) := by
  subst hR
  unfold playM
  rw [if_neg (by omega), if_neg (by omega), show ((i : Int) + 1 - 1).toNat = i by omega, hi]
set_option maxHeartbeats 8000000 in
set_option maxRecDepth 100000 in
theorem mplayC (s : ByteArray) (Ac : Option Addr) (cc : Nat) (cs : List (List Nat)) (ad : Nat → Option Addr) (cp : Nat → Nat) (w : World) (hc : ChR w Ac cs ad cp) (hb : ∀ x ∈ cs.flatten, x < 256) (hl : cs.flatten.length < 1000000000) (hl2 : cs.length < 1000000000) :
    Calls Try.prog 26 #[.string s, .slice Ac cs.length cc] w (PlayPost w s cs) := by
  have HC := Lib.hid hc
  have HB := Lib.hid hb
  have HL := Lib.hid hl
  have HL2 := Lib.hid hl2
  have HP := Lib.hid (parseG (6 * (bs s).length + 6) s (parseR (bs s)) w (parseR_eq _))
  have htr := fun n (h : parseR (bs s) = (n, 0)) => parse_tr (l := n) (h ▸ parseR_eq (bs s))
  have hset := parseR_sets (B := bs s) (fun x hx => by unfold bs at hx; obtain ⟨y, _, rfl⟩ := List.mem_map.mp hx; exact y.toNat_lt)
  obtain ⟨⟨n, c⟩, hr⟩ : ∃ r, parseR (bs s) = r := ⟨_, rfl⟩
  have HRR := Lib.hid hr
  rw [hr] at HP htr hset
  have HTR := Lib.hid (htr n)
  have HSET := Lib.hid hset
  clear hc hb hl hl2 htr hset hr
  go_enter Try.func26, Try.ntmps26
  go_wp2_with fail
  refine (HP.out).mono ?_; rintro e w1 ⟨v1, rfl, ho1, hd1⟩
  obtain ⟨A1, c1, rfl, ht1, _, _⟩ := ho1.shape
  have HN1 := Lib.hid ht1.rs
  have HD1 := Lib.hid hd1
  clear ho1 ht1 hd1 HP
  by_cases h0 : c = 0
  case neg =>
    have hb0 : (c != 0) = true := by simpa using h0
    have HPO : Hid (∀ w', Old w w' → PlayPost w s cs (.returned (.tuple #[.int .i64 0, .int .i64 0, .int .i64 c])) w') := Lib.hid (fun w' ho => ⟨fun n' c' h => by rw [HRR.out] at h; injection h with h1 h2; subst h2; rw [if_neg h0, if_neg h0], ho⟩)
    clear h0
    go_wp2_with fail
    refine bodyPost_ret (v := .tuple #[.int .i64 0, .int .i64 0, .int .i64 c]) (by simp [results, Try.results26, go_sem]) rfl ?_
    exact HPO.out _ HD1.out
  subst h0
  obtain ⟨htr, hln, _⟩ := HTR.out rfl
  have hv := Tr.valid htr hln
  have HCC := Lib.hid (ncompC A1 c1 n w1 HN1.out (by unfold maxLen; omega) HSET.out)
  obtain ⟨_, hsv, _, _, _⟩ := pcomp_ok hv
  have HRUN : Hid (nrunF (pcompM n) cs.flatten (cs.flatten.length + 1) 0 [] = rfirstM n cs.flatten) := Lib.hid (by have := pcomp_run hv cs.flatten; unfold nrunM at this; rw [if_pos hsv] at this; exact this)
  have HSV := Lib.hid hsv
  have HVV := Lib.hid hv
  clear htr hln hv hsv HTR HSET HN1
  go_wp2_with fail
  refine (HCC.out).mono ?_; rintro e w2 ⟨q1, _, hd2⟩
  obtain ⟨v2, rfl, how⟩ := q1 HVV.out
  clear q1 HCC
  generalize pcompM n = st at *
  obtain ⟨A2, c2, rfl, ht2, _, _⟩ := how.shape
  have HNW := Lib.hid (mnewC A2 c2 st w2 ht2.rs HSV.out)
  have HD2 := Lib.hid (HD1.out.up hd2)
  clear how ht2 hd2 HD1
  go_wp2_with fail
  refine (HNW.out).mono ?_; rintro e w3 ⟨g, gm, B, lv, rfl, hm⟩
  have HM := Lib.hid hm
  clear hm HNW
  have hR := HRUN.out
  rw [nrunF_A] at hR
  have HR0 : Hid (nrunA st cs.flatten cs.flatten.length 0 (nspread st true false (enterM [] 0)) = rfirstM n cs.flatten) := Lib.hid hR
  have HPO : Hid (∀ w' (a b : Int), Old w w' → playM (rfirstM n cs.flatten) cs = (a, b) → PlayPost w s cs (.returned (.tuple #[.int .i64 a, .int .i64 b, .int .i64 0])) w') := Lib.hid (fun w' a b ho hab => ⟨fun n' c' h => by
    rw [HRR.out] at h
    injection h with h1 h2
    subst h1
    subst h2
    rw [if_pos rfl, if_pos rfl, hab], ho⟩)
  have HSP : Hid (Spots st.length (nspread st true false (enterM [] 0))) := Lib.hid (Spots.nspreadF HSV.out _ _ _ ((Spots.nil _).enter (by have := (svalid_ok HSV.out).1; omega)))
  clear hR HRUN HRR HVV
  generalize rfirstM n cs.flatten = R at *
  generalize nspread st true false (enterM [] 0) = L0 at *
  obtain ⟨_, _, _, _, _, y5⟩ := HM.out.cells
  cases hd : ndone st L0 with
  | true =>
    rw [hd] at y5
    have hR : R = 0 := by have := HR0.out; unfold nrunA at this; rw [if_pos hd] at this; simpa using this.symm
    subst hR
    have HX := Lib.hid (HPO.out w3 (-1) 0 (HD2.out.up HM.out.old) rfl)
    clear hd HPO HR0
    go_wp2_with fail
    refine bodyPost_ret (v := .tuple #[.int .i64 (-1), .int .i64 0, .int .i64 0]) (by simp [results, Try.results26, go_sem]) rfl ?_
    exact HX.out
  | false =>
    rw [hd] at y5
    have HST : Hid (PlJ w2 B g gm st A2 c2 cs R (.int .i64 0) w3) := Lib.hid ⟨0, rfl, Nat.zero_le _, lv, L0, Lib.hid (by have := HM.out; rw [hd] at this; exact this), Lib.hid hd, HSP, Lib.hid (by rw [show baseC cs 0 = 0 from rfl]; exact HR0.out)⟩
    clear hd HM HSP HR0
    go_wp2_with fail
    go_loopw [39] (fun s39 wr => PlJ w2 B g gm st A2 c2 cs R s39 wr) (fun s39 _ => cs.length - (intOf s39).toNat)
    case atStart => exact HST.out
    case round =>
      clear HST
      obtain ⟨j, rfl, hj, lvj, Lj, HMJ, HDJ, HSJ, HUJ⟩ := hrel
      have hl2 := HL2.out
      by_cases hlt : j < cs.length
      · have i1 : (j : Int) < (cs.length : Int) := by omega
        have i0 : (0 : Int) ≤ (j : Int) := by omega
        obtain ⟨bA, oA, rfl, _, hcA⟩ := (HC.out.up (HD2.out.up HMJ.out.old)).outer.at_ (by simp; omega)
        have cA := hcA j _ (range_at _ hlt)
        clear hcA
        have HRW := Lib.hid (fun w' (h : Old w w') => (HC.out.up h).rows j hlt)
        have HFG := Lib.hid (fun k (hk : k < (cs.getD j []).length) => flat_get cs j k hlt hk)
        have HBS := Lib.hid (baseC_succ cs j hlt)
        generalize ad j = aj at *
        generalize cs.getD j [] = chk at *
        go_wp2_with fail
        go_loopw [46] (fun s46 wr => PlK w2 B g gm st A2 c2 cs R j chk s46 wr) (fun s46 _ => chk.length - (intOf s46).toNat)
        case atStart => exact ⟨0, rfl, Nat.zero_le _, lvj, Lj, HMJ, HDJ, HSJ, HUJ⟩
        case round =>
          clear HMJ HDJ HSJ HUJ cA
          obtain ⟨k, rfl, hk, lvk, Lk, HMK, HDK, HSK, HUK⟩ := hrel
          have hlf := HL.out
          by_cases hltk : k < chk.length
          · have k1 : (k : Int) < (chk.length : Int) := by omega
            have k0 : (0 : Int) ≤ (k : Int) := by omega
            obtain ⟨bR, oR, rfl, _, hcR⟩ := (HRW.out wr (HD2.out.up HMK.out.old)).at_ (by rw [txt_length]; omega)
            have cK := hcR k _ (txt_get _ k hltk)
            obtain ⟨h1, h2, h3⟩ := HFG.out k hltk
            have HIX := Lib.hid h2
            have hmm := HMK.out
            rw [← HDK.out] at hmm
            have hch : chk.getD k 0 < 256 := by
              rw [← h1]
              refine HB.out _ ?_
              rw [List.getD_eq_getElem?_getD, List.getElem?_eq_getElem h3]
              exact List.getElem_mem h3
            have hF := mfeedC w2 B g gm st A2 c2 lvk (bolT cs.flatten (baseC cs j + k)) (baseC cs j + k) Lk wr hmm HSV.out HSK.out (by omega) (chk.getD k 0) hch
            have hU := HUK.out
            rw [show cs.flatten.length - (baseC cs j + k) = (cs.flatten.length - (baseC cs j + (k + 1))) + 1 by omega] at hU
            obtain ⟨g1, g2⟩ := feed_step HDK.out h3 hU
            rw [h1] at g1 g2
            have HG1 := Lib.hid g1
            have HG2 := Lib.hid g2
            have HFF := Lib.hid hF
            have HBN : Hid (bolT cs.flatten (baseC cs j + (k + 1)) = (chk.getD k 0 == 10)) := Lib.hid (by rw [← Nat.add_assoc, bolT_next, h1])
            have HS1 := Lib.hid (HSK.out.mL1 HSV.out (bol := bolT cs.flatten (baseC cs j + k)) (ch := chk.getD k 0))
            have hll := HL.out
            clear hmm hch hF hU g1 g2 h1 h2 hcR HUK HDK HMK
            generalize chk.getD k 0 = ch at *
            go_wp2_with fail
            refine (HFF.out).mono ?_; rintro e w4 ⟨rfl, f1, f2⟩
            clear HFF cK
            cases hq : ndone st (mL1 st (bolT cs.flatten (baseC cs j + k)) ch Lk) with
            | true =>
              obtain ⟨lv4, hm4, _⟩ := f1 hq
              have hR : R = ((baseC cs j + k : Nat) : Int) + 1 := HG1.out hq
              have HOO := Lib.hid (HD2.out.up hm4.old)
              obtain ⟨_, _, _, _, z4, z5⟩ := hm4.cells
              clear hq f1 f2 hm4 HG1 HG2
              have HX := Lib.hid (fun w' (h : Old w w') => HPO.out w' (j : Int) (((baseC cs j + k : Nat) : Int) + 1) h (play_at hR HIX.out))
              clear HPO hR
              go_upto_region 18 with fail
              go_quiet (fail)
              go_wp2_with fail
              refine bodyPost_ret (v := .tuple #[.int .i64 (j : Int), .int .i64 (((baseC cs j + k : Nat) : Int) + 1), .int .i64 0]) (by simp [results, Try.results26, go_sem]) rfl ?_
              exact HX.out _ (HOO.out.drewN _)
            | false =>
              obtain ⟨lv4, hm4, _⟩ := f2 hq
              obtain ⟨gU, gR⟩ := HG2.out hq
              cases hq2 : ndone st (mL2 st (bolT cs.flatten (baseC cs j + k)) ch Lk) with
              | true =>
                have hR : R = ((baseC cs j + k : Nat) : Int) + 1 := gR hq2
                rw [hq2] at hm4
                have HOO := Lib.hid (HD2.out.up hm4.old)
                obtain ⟨_, _, _, _, z4, z5⟩ := hm4.cells
                clear hq hq2 f1 f2 hm4 HG1 HG2 gU gR
                have HX := Lib.hid (fun w' (h : Old w w') => HPO.out w' (j : Int) (((baseC cs j + k : Nat) : Int) + 1) h (play_at hR HIX.out))
                clear HPO hR
                go_upto_region 18 with fail
                go_quiet (fail)
                go_wp2_with fail
                refine bodyPost_ret (v := .tuple #[.int .i64 (j : Int), .int .i64 (((baseC cs j + k : Nat) : Int) + 1), .int .i64 0]) (by simp [results, Try.results26, go_sem]) rfl ?_
                exact HX.out _ (HOO.out.drewN _)
              | false =>
                rw [hq2] at hm4
                obtain ⟨_, _, _, _, z4, z5⟩ := hm4.cells
                have HW : Hid (PlK w2 B g gm st A2 c2 cs R j chk (.int .i64 ((k + 1 : Nat) : Int)) w4) := Lib.hid ⟨k + 1, rfl, hltk, lv4, _, Lib.hid (by rw [HBN.out]; exact hm4), Lib.hid hq2, Lib.hid (Spots.nspreadF HSV.out _ _ _ ((Spots.nstep HSV.out _ HS1.out).enter (by have := (svalid_ok HSV.out).1; omega))), Lib.hid gU⟩
                clear hq hq2 f1 f2 hm4 HG1 HG2 gU gR HS1
                go_wp2_with fail
                go_roundw
                case rel => exact HW.out
                case measure => simp [intOf]; omega
          · have HW : Hid (PlJ w2 B g gm st A2 c2 cs R (.int .i64 ((j + 1 : Nat) : Int)) wr) := Lib.hid ⟨j + 1, rfl, hlt, lvk, Lk, by rw [HBS.out, show chk.length = k by omega]; exact ⟨HMK, HDK, HSK, HUK⟩⟩
            have hke : ¬ (k : Int) < (chk.length : Int) := by omega
            clear HMK HDK HSK HUK
            go_wp2_with fail
            go_roundw
            case rel => exact HW.out
            case measure => simp [intOf]; omega
      · obtain rfl : j = cs.length := by omega
        have hR : R = -1 := by
          have h5 := HUJ.out
          rw [baseC_all] at h5
          exact end_step HDJ.out h5
        subst hR
        have HX := Lib.hid (HPO.out wr (cs.length : Int) (-1) (HD2.out.up HMJ.out.old) rfl)
        clear HPO HUJ HDJ HMJ
        go_wp2_with fail
        refine bodyPost_ret (v := .tuple #[.int .i64 (cs.length : Int), .int .i64 (-1), .int .i64 0]) (by simp [results, Try.results26, go_sem]) rfl ?_
        exact HX.out
end Go.Proofs.Ythadkjgadhbidaa
/-
  How output is divided: the number of bytes stays the same; the first chunks. No program in sight.
-/
namespace Go.Proofs.Ythadkjgadhbidaa
open Go.RowKit
set_option linter.unusedVariables false

theorem rfirst_bd {l : List Nd} (hv : validM l = true) (t : List Nat) : -1 ≤ rfirstM l t ∧ rfirstM l t ≤ t.length := by
  rcases rfirst_least hv t with ⟨n, hn, hr, _⟩ | ⟨hr, _⟩ <;> omega
theorem take_take_le (t : List Nat) (m n : Nat) (h : n ≤ m) : (t.take m).take n = t.take n := by rw [List.take_take, Nat.min_eq_left h]
/-- What a pattern finds in the first bytes of a text. -/
theorem rfirst_take {l : List Nd} (hv : validM l = true) (t : List Nat) (m : Nat) (hm : m ≤ t.length) : rfirstM l (t.take m) = if 0 ≤ rfirstM l t ∧ rfirstM l t ≤ m then rfirstM l t else -1 := by
  have hl : (t.take m).length = m := by rw [List.length_take]; omega
  have hh : ∀ n, n ≤ m → (Hit l (t.take m) n ↔ Hit l t n) := fun n hn => by unfold Hit; rw [take_take_le t m n hn]
  refine LeastHit.one (l := l) (t := t.take m) (rfirst_least hv _) ?_
  rcases rfirst_least hv t with ⟨n, hn, hr, h1, h2⟩ | ⟨hr, h1⟩
  · rw [hr]
    by_cases hnm : n ≤ m
    · rw [if_pos (by omega)]
      exact Or.inl ⟨n, by omega, rfl, (hh n hnm).2 h1, fun k hk hx => h2 k hk ((hh k (by omega)).1 hx)⟩
    · rw [if_neg (by omega)]
      exact Or.inr ⟨rfl, fun k hk hx => h2 k (by omega) ((hh k (by omega)).1 hx)⟩
  · rw [hr, if_neg (by omega)]
    exact Or.inr ⟨rfl, fun k hk hx => h1 k (by omega) ((hh k (by omega)).1 hx)⟩
def singles (t : List Nat) : List (List Nat) := t.map fun x => [x]
theorem singles_flat (t : List Nat) : (singles t).flatten = t := by
  induction t with
  | nil => rfl
  | cons x t ih => unfold singles at *; rw [List.map_cons, List.flatten_cons, ih]; rfl
theorem singles_idx : ∀ (t : List Nat) (p : Nat), p < t.length → chunkIdx (singles t) p = p
  | [], p, h => by simp at h
  | x :: t, 0, _ => rfl
  | x :: t, p + 1, h => by
    have ih := singles_idx t p (by simpa using h)
    unfold singles at *
    rw [List.map_cons, chunkIdx, if_neg (by simp)]
    have : p + 1 - [x].length = p := by simp
    rw [this, ih]
    omega
theorem play_num (R : Int) (cs : List (List Nat)) : (playM R cs).2 = if R < 0 then -1 else R := by
  unfold playM
  by_cases h0 : R = 0
  · rw [if_pos h0, if_neg (by omega)]; exact h0.symm
  · rw [if_neg h0]
    by_cases h1 : R < 0
    · rw [if_pos h1, if_pos h1]
    · rw [if_neg h1, if_neg h1]
/-- The statement MatcherDivides on plain lists. -/
theorem divides_law {l : List Nd} (hv : validM l = true) (cs : List (List Nat)) :
    (playM (rfirstM l cs.flatten) cs).2 = (playM (rfirstM l [cs.flatten].flatten) [cs.flatten]).2 ∧
    (playM (rfirstM l cs.flatten) cs).2 = (playM (rfirstM l (singles cs.flatten).flatten) (singles cs.flatten)).2 ∧
    ((playM (rfirstM l cs.flatten) cs).2 < 0 → (playM (rfirstM l cs.flatten) cs).1 = cs.length ∧ (playM (rfirstM l (singles cs.flatten).flatten) (singles cs.flatten)).1 = cs.flatten.length) ∧
    (0 ≤ (playM (rfirstM l cs.flatten) cs).2 → (playM (rfirstM l (singles cs.flatten).flatten) (singles cs.flatten)).1 = (playM (rfirstM l cs.flatten) cs).2 - 1 ∧ ((playM (rfirstM l cs.flatten) cs).1 < 0 ↔ (playM (rfirstM l cs.flatten) cs).2 = 0)) := by
  have e1 : [cs.flatten].flatten = cs.flatten := by simp
  rw [e1, singles_flat]
  have hb := rfirst_bd hv cs.flatten
  generalize rfirstM l cs.flatten = R at *
  rw [play_num, play_num, play_num]
  refine ⟨rfl, rfl, fun h => ?_, fun h => ?_⟩
  · have hR : R < 0 := by
      by_cases h1 : R < 0
      · exact h1
      · rw [if_neg h1] at h; exact absurd h h1
    have hR0 : R ≠ 0 := by omega
    unfold playM
    simp only [if_neg hR0, if_pos hR]
    exact ⟨trivial, by unfold singles; rw [List.length_map]⟩
  · have hR : ¬ R < 0 := by
      intro h1
      rw [if_pos h1] at h
      omega
    rw [if_neg hR]
    unfold playM
    by_cases h0 : R = 0
    · simp only [if_pos h0]
      exact ⟨by omega, ⟨fun _ => h0, fun _ => by omega⟩⟩
    · simp only [if_neg h0, if_neg hR]
      rw [singles_idx _ _ (by omega)]
      exact ⟨by omega, ⟨fun h => by omega, fun h => by omega⟩⟩
end Go.Proofs.Ythadkjgadhbidaa
/-
  The first chunks of output: Play finds a pattern in them, or does not. No program in sight.
-/
namespace Go.Proofs.Ythadkjgadhbidaa
open Go.RowKit
set_option linter.unusedVariables false

theorem idx_spec : ∀ (cs : List (List Nat)) (p : Nat), p < cs.flatten.length → chunkIdx cs p < cs.length ∧ baseC cs (chunkIdx cs p) ≤ p ∧ p < baseC cs (chunkIdx cs p + 1) ∧ ∀ k, chunkIdx cs p < k → chunkIdx (cs.take k) p = chunkIdx cs p
  | [], p, h => by simp at h
  | c :: cs, p, h => by
    have e : ∀ j, baseC (c :: cs) (j + 1) = c.length + baseC cs j := fun j => by simp [baseC]
    rw [List.flatten_cons, List.length_append] at h
    rw [chunkIdx]
    by_cases hp : p < c.length
    · rw [if_pos hp]
      refine ⟨by simp, Nat.zero_le _, by rw [e]; omega, fun k hk => ?_⟩
      obtain ⟨k, rfl⟩ : ∃ m, k = m + 1 := ⟨k - 1, by omega⟩
      rw [List.take_succ_cons, chunkIdx, if_pos hp]
    · rw [if_neg hp]
      obtain ⟨h1, h2, h3, h4⟩ := idx_spec cs (p - c.length) (by omega)
      rw [show 1 + chunkIdx cs (p - c.length) = chunkIdx cs (p - c.length) + 1 by omega, e, e]
      refine ⟨by simpa using h1, by omega, by omega, fun k hk => ?_⟩
      obtain ⟨k, rfl⟩ : ∃ m, k = m + 1 := ⟨k - 1, by omega⟩
      rw [List.take_succ_cons, chunkIdx, if_neg hp, h4 k (by omega)]
      omega
theorem baseC_mono (cs : List (List Nat)) : ∀ (d i : Nat), baseC cs i ≤ baseC cs (i + d)
  | 0, i => Nat.le_refl _
  | d + 1, i => by
    refine Nat.le_trans (baseC_mono cs d i) ?_
    by_cases h : i + d < cs.length
    · rw [show i + (d + 1) = i + d + 1 by omega, baseC_succ cs _ h]; omega
    · unfold baseC
      rw [List.take_of_length_le (by omega), List.take_of_length_le (by omega)]
      exact Nat.le_refl _
theorem flat_take (cs : List (List Nat)) (k : Nat) : (cs.take k).flatten = cs.flatten.take (baseC cs k) := by
  have h : cs.flatten = (cs.take k).flatten ++ (cs.drop k).flatten := by rw [← List.flatten_append, List.take_append_drop]
  unfold baseC
  rw [h, List.take_left]
/-- The statement MatcherEarliest on plain lists. -/
theorem earliest_law {l : List Nd} (hv : validM l = true) (cs : List (List Nat)) (k : Nat) (hk : k ≤ cs.length) :
    -1 ≤ (playM (rfirstM l cs.flatten) cs).1 ∧ (playM (rfirstM l cs.flatten) cs).1 ≤ cs.length ∧
    ((playM (rfirstM l cs.flatten) cs).1 < k → playM (rfirstM l (cs.take k).flatten) (cs.take k) = playM (rfirstM l cs.flatten) cs) ∧
    (k ≤ (playM (rfirstM l cs.flatten) cs).1 → playM (rfirstM l (cs.take k).flatten) (cs.take k) = ((k : Int), -1)) := by
  have hbk : baseC cs k ≤ cs.flatten.length := by
    have := baseC_mono cs (cs.length - k) k
    rw [show k + (cs.length - k) = cs.length by omega, baseC_all] at this
    exact this
  have hT := rfirst_take hv cs.flatten (baseC cs k) hbk
  rw [← flat_take] at hT
  rw [hT]
  have hb := rfirst_bd hv cs.flatten
  generalize rfirstM l cs.flatten = R at *
  have hlen : (cs.take k).length = k := by rw [List.length_take]; omega
  by_cases h0 : R = 0
  · subst h0
    rw [if_pos (by omega)]
    have e : ∀ x : List (List Nat), playM 0 x = (-1, 0) := fun x => by unfold playM; rw [if_pos rfl]
    rw [e, e]
    exact ⟨by simp, by simp only; omega, fun _ => rfl, fun h => by simp only at h; omega⟩
  by_cases h1 : R < 0
  · rw [if_neg (by omega)]
    have e : ∀ (x : List (List Nat)) (r : Int), r < 0 → playM r x = ((x.length : Int), -1) := fun x r hr => by unfold playM; rw [if_neg (by omega), if_pos hr]
    rw [e cs R h1, e _ (-1) (by decide), hlen]
    exact ⟨by simp only; omega, by simp, fun h => by simp only at h; omega, fun _ => rfl⟩
  · obtain ⟨i1, i2, i3, i4⟩ := idx_spec cs (R - 1).toNat (by omega)
    have e : ∀ (x : List (List Nat)), playM R x = ((chunkIdx x (R - 1).toNat : Int), R) := fun x => by unfold playM; rw [if_neg h0, if_neg h1]
    have en : ∀ (x : List (List Nat)), playM (-1) x = ((x.length : Int), -1) := fun x => by unfold playM; rw [if_neg (by decide), if_pos (by decide)]
    rw [e cs]
    simp only
    refine ⟨by omega, by omega, fun h => ?_, fun h => ?_⟩
    · have := baseC_mono cs (k - (chunkIdx cs (R - 1).toNat + 1)) (chunkIdx cs (R - 1).toNat + 1)
      rw [show chunkIdx cs (R - 1).toNat + 1 + (k - (chunkIdx cs (R - 1).toNat + 1)) = k by omega] at this
      rw [if_pos (by omega), e, i4 k (by omega)]
    · have := baseC_mono cs (chunkIdx cs (R - 1).toNat - k) k
      rw [show k + (chunkIdx cs (R - 1).toNat - k) = chunkIdx cs (R - 1).toNat by omega] at this
      rw [if_neg (by omega), en, hlen]
end Go.Proofs.Ythadkjgadhbidaa
/-
  The examples of the sanity check (matcher). No program in sight.
-/
namespace Go.Proofs.Ythadkjgadhbidaa
open Go.RowKit
set_option linter.unusedVariables false

theorem s11p' : parseF (6 * [98, 36].length + 6) [98, 36] = some ([⟨2, 0, 0, 2 ^ 98⟩, ⟨9, 0, 0, 0⟩, ⟨3, 0, 1, 0⟩], 0) := by decide +kernel
theorem s11q' : parseF (6 * ([] : List Nat).length + 6) [] = some ([⟨1, 0, 0, 0⟩], 0) := by decide +kernel
theorem s11a : playM (rfirstM [⟨2, 0, 0, 2 ^ 98⟩, ⟨9, 0, 0, 0⟩, ⟨3, 0, 1, 0⟩] [[97, 98], [98], [10, 120]].flatten) [[97, 98], [98], [10, 120]] = (2, 4) := by decide +kernel
theorem s11b : playM (rfirstM [⟨1, 0, 0, 0⟩] ([] : List (List Nat)).flatten) [] = (-1, 0) := by decide +kernel
end Go.Proofs.Ythadkjgadhbidaa
/-
  The patterns of the statements on the matcher: each one is read without an error.
-/
namespace Go.Proofs.Ythadkjgadhbidaa
open Go.RowKit
set_option linter.unusedVariables false

def patsT : List (List Nat) := [[111, 107], [], [114, 46, 42, 121, 36], [94, 117, 112, 124, 103, 111, 43], [91, 48, 45, 57, 93, 43, 120, 63], [40, 97, 98, 41, 42, 99], [94, 36]]
def patsObj : Obj := .cells (patsT.map fun b => Value.string (strOf b)).toArray 9
set_option maxRecDepth 100000 in
theorem mpatternsC (w : World) : Calls Try.prog 25 #[] w fun e w' => e = .returned (.slice (some ⟨w.heap.size, 0, none⟩) 7 7) ∧ w' = w.alloc patsObj := by
  go_enter Try.func25, Try.ntmps25
  go_wp2_with fail
  go_ret
  exact ⟨rfl, rfl⟩
theorem pats_ok : ∀ i, i < 7 → (parseR (patsT.getD i [])).2 = 0 := by decide +kernel
theorem pats_lt : ∀ i, i < 7 → ∀ x ∈ patsT.getD i [], x < 256 := by decide +kernel
end Go.Proofs.Ythadkjgadhbidaa
/-
  append where the operation bears a guard that says yes. No program in sight.
-/
namespace Go.Proofs.Ythadkjgadhbidaa
open Go.RowKit
section
variable {P : Program} {w : World} {ops : Array Oper} {rest : List Oper} {o : Oper} {a : Act} {Q : Exit → Act → World → Prop}
theorem wpList_pushAllG (hgd : Region.wanted o (yielded ops a.tmps) = true) (s x : Operand) (t : TypeId)
    (ho : o.op = .call { callee := .builtin .append, args := #[s, x], argTypes := #[t, t] })
    (base : Nat) (e : TypeId) (z : Value) (size bytes : Nat) (ht : P.underlying t = some (.slice e))
    (hi : (P.info? e).map (fun i => (i.zero, i.size, i.bytes)) = some (some z, size, bytes)) (hzs : z.cells.size = size) (hsz : 0 < size) (hby : bytes ≤ 1024)
    (v : Value) (n : Nat) (xs : List Value) (hs : a.eval s = v) (hown : Own w base e size v n xs)
    (A : Option Addr) (m c : Nat) (news : List Value) (hx : a.eval x = .slice A m c) (hr : Rs w A news) (hl : news.length = m * size) (h1 : news.all Value.oneCell' = true)
    (hn : n + m ≤ 68719476736) (hbase : base ≤ w.heap.size)
    (h : ∀ v' w', Own w' base e size v' (n + m) (xs ++ news) → w.grownBy w' v.ownBlock → (∀ w0, Old w0 w → w0.heap.size ≤ base → Old w0 w') → wpList P ops Q rest (a.put o.dst v') w') : wpList P ops Q (o :: rest) a w := by
  obtain ⟨i, hii, hz, hsize, hbb⟩ := info_parts hi
  have hb2 : (n + m) * bytes ≤ 68719476736 * 1024 := Nat.mul_le_mul hn hby
  cases A with
  | none =>
    obtain rfl := hr.nil_iff
    obtain rfl : m = 0 := by
      rcases Nat.eq_zero_or_pos m with h0 | h0
      · exact h0
      · have := Nat.mul_pos h0 hsz; simp at hl; omega
    refine BigFrame.wpList_want hgd fun K hK => ?_
    have hrun := run_append_nil_src (P := P) (w := w) base t o.type e i size ht hii v n xs hown c
    unfold Oper.wp
    simp [execOp, ho, resolve, invoke, builtin, hs, hx, hrun, Result.andThen]
    exact hK _ _ (h v w (by simpa using hown) (World.grownBy.refl _ _) (fun w0 h0 _ => h0))
  | some ad =>
    refine BigFrame.wpList_want hgd fun K hK => ?_
    refine wp_append_own _ s x t ho base e i z size bytes ht hii hz hsize hbb hzs hsz v n xs hs hown ad m c news hx hl ?_ (by simpa using h1) (by unfold maxLen; omega) (by omega) hbase ?_
    · intro j u hu
      rcases hr with rfl | ⟨b, off, hA, hc⟩
      · simp at hu
      · obtain rfl := Option.some.inj hA
        rw [Addr.add_lit]
        exact hc j u hu
    · intro v' w' h2 h3 _
      exact hK _ _ (h v' w' h2 h3 (fun w0 h0 hb => Own.grown_old h0 hown hb h3))
end
end Go.Proofs.Ythadkjgadhbidaa
/-
  The walk of pieces (the statements on the matcher).
-/
namespace Go.Proofs.Ythadkjgadhbidaa
open Go.RowKit
set_option linter.unusedVariables false

theorem info_rows8m : (Try.prog.info? 23).map (fun i => (i.zero, i.size, i.bytes)) = some (some (.slice none 0 0), 1, 24) := by kernel_rfl
/-- Pieces behind j rounds, and the numbers that are left. -/
def outs (l : List Int) : Nat → List (List UInt8) × List Int
  | 0 => ([], l)
  | j + 1 => ((outs l j).1 ++ [outOf (nx (outs l j).2 12).1], (nx (outs l j).2 12).2)
def piecesL (l : List Int) : List (List UInt8) := (outs (nx l 6).2 (nx l 6).1.toNat).1
theorem outs_succ (l : List Int) (j : Nat) : outs l (j + 1) = ((outs l j).1 ++ [outOf (nx (outs l j).2 12).1], (nx (outs l j).2 12).2) := rfl
theorem outs_len (l : List Int) (j : Nat) : (outs l j).1.length = j := by
  induction j with
  | zero => rfl
  | succ j ih => rw [outs_succ]; simp [ih]
theorem outs_small (l : List Int) (j : Nat) : ∀ p ∈ (outs l j).1, p.length ≤ 8 := by
  induction j with
  | zero => intro p hp; simp [outs] at hp
  | succ j ih =>
    intro p hp
    rw [outs_succ, List.mem_append] at hp
    rcases hp with hp | hp
    · exact ih p hp
    · simp at hp; subst hp; exact (outOf_len _).2
theorem piecesL_len (l : List Int) : (piecesL l).length ≤ 5 := by
  unfold piecesL
  rw [outs_len]
  have hk := nx_bd l (show (1 : Int) ≤ 6 by decide)
  omega
theorem piecesL_small (l : List Int) : ∀ p ∈ piecesL l, p.length ≤ 8 := outs_small _ _

def PiecesPost (w : World) (P : List (List UInt8)) (e : Ending) (w' : World) : Prop :=
  ∃ v cells, e = .returned v ∧ Own w' w.heap.size 23 1 v P.length cells ∧ FsL w' cells (P.map bytes) ∧ Old w w'

set_option maxRecDepth 100000 in
set_option maxHeartbeats 2000000 in
theorem piecesC (A : Option Addr) (c : Nat) (l : List Int) (w : World) (hr : Rs w A (ints l)) (hm : l.length ≤ maxLen) :
    Calls Try.prog 24 #[.slice A l.length c] w (PiecesPost w (piecesL l)) := by
  go_enter Try.func24, Try.ntmps24
  go_wp2_with fail
  refine (newDeck A c l w hr hm).mono ?_; rintro e w1 ⟨rfl, hd, hb⟩
  go_wp2_with fail
  refine (nextDeck w.heap.size w.heap.size l 6 w1 hd (by decide) (by decide)).mono ?_; rintro e w2 ⟨rfl, hd2, hg⟩
  have hb2 := Dk.old hb hg (Nat.le_refl _)
  have hbd := nx_bd l (show (1 : Int) ≤ 6 by decide)
  have hres : piecesL l = (outs (nx l 6).2 (nx l 6).1.toNat).1 := rfl
  have HRES := Lib.hid hres
  clear hres hg hd hb hr
  generalize nx l 6 = r at *
  obtain ⟨K, l1⟩ := r
  obtain ⟨b0, b1⟩ := hbd
  simp only at b0 b1 hd2 HRES
  obtain ⟨K, rfl⟩ := Int.eq_ofNat_of_zero_le b0
  rw [Int.toNat_natCast] at HRES
  go_wp2_with fail
  go_loopw [4, 5] (fun v k wr => ∃ (j : Nat) (cells : List Value), j ≤ K ∧ k = .int .i64 ((K : Int) - j) ∧ Own wr w.heap.size 23 1 v j cells ∧ FsL wr cells ((outs l1 j).1.map bytes) ∧ Dk wr w.heap.size w.heap.size (outs l1 j).2 ∧ Old w wr) (fun _ k _ => (intOf k).toNat)
  case atStart => exact ⟨0, [], Nat.zero_le _, by go_num, Own.nil_ _ _ _ _, FsL.nil_, hd2, hb2⟩
  case round =>
    obtain ⟨j, cells, hj, rfl, hown, hfl, hdk, hb⟩ := hrel
    clear hd2 hb2
    have hs := Lib.hid (outs_succ l1 j)
    have hol := outs_len l1 j
    by_cases hlt : j < K
    · have hO := outputDeck w.heap.size w.heap.size (outs l1 j).2 wr hdk
      have hlen := outOf_len (nx (outs l1 j).2 12).1
      have HO := Lib.hid hO
      have HOL := Lib.hid hol
      clear hO hol
      generalize nx (outs l1 j).2 12 = r at *
      generalize outOf r.1 = p at *
      generalize outs l1 j = o at *
      obtain ⟨P, rest⟩ := o
      obtain ⟨p1, p2⟩ := hlen
      simp only at *
      go_wp2_with fail
      refine (HO.out).mono ?_; rintro e w2 ⟨Ap, cp, rfl, hcp1, hcp2, hfs, hdk2, hg⟩
      replace hown := hdk.own hg hown (by decide)
      replace hfl := hdk.fsL hg hfl
      replace hb := Dk.old hb hg (Nat.le_refl _)
      have hsz := hb.size
      clear hg hdk HO
      go_wp2_with (at_builtin; refine wpList_push (wr := w2) rfl _ _ 51 rfl _ 23 (.slice none 0 0) 1 24 Try.underlying51 info_rows8m rfl (by decide) (by decide) _ _ _ rfl hown 1 1 [.slice Ap p.length cp] rfl rfl rfl rfl ?pn1 hsz ?_)
      case pn1 => omega
      intro v4 w4 hown4 hg4 hd4
      have hb4 := hd4 w hb (Nat.le_refl _)
      have hfl4 := hfl.grown hown hg4
      have hfs4 := hfs.grown hown hg4
      have hdk4 := hdk2.push hown (by decide) (Nat.le_refl _) hg4
      clear hg4 hd4 hown hfl hfs hdk2
      go_wp2_with fail
      go_roundw
      case rel =>
        have hsn := hfl4.snoc (A := Ap) (c := cp) (xs := bytes p) (by rw [bytes_length]; exact hcp1) hcp2 hfs4
        rw [bytes_length] at hsn
        refine ⟨j + 1, cells ++ [.slice Ap p.length cp], by omega, by go_num, hown4, ?_, ?_, hb4⟩
        · rw [hs.out]; simp only [List.map_append, List.map_cons, List.map_nil]; exact hsn
        · rw [hs.out]; exact hdk4
      case measure => simp [intOf]; omega
    · obtain rfl : j = K := by omega
      have hlen : (piecesL l).length = j := by rw [HRES.out]; exact hol
      have HLEN := Lib.hid hlen
      clear hlen
      go_wp2_with fail
      go_ret
      rw [PiecesPost, HLEN.out]
      exact ⟨_, cells, rfl, hown, by rw [HRES.out]; exact hfl, hb⟩

/-- The chunks' addresses and capacities, out of a list of slices. -/
theorem chr_of {w : World} {A : Option Addr} {cells : List Value} {cs : List (List Nat)} (h : Rs w A cells) (hl : RsL w cells (cs.map txt)) : ∃ ad cp, ChR w A cs ad cp := by
  have hc : ∀ j : Nat, ∃ q : Option Addr × Nat, j < cs.length → cells[j]? = some (.slice q.1 (cs.getD j []).length q.2) ∧ Rs w q.1 (txt (cs.getD j [])) := fun j => by
    by_cases hj : j < cs.length
    · obtain ⟨B, c, h1, _, _, h4⟩ := hl.2 j (txt (cs.getD j [])) (by rw [List.getElem?_map, List.getElem?_eq_getElem hj, List.getD_eq_getElem?_getD, List.getElem?_eq_getElem hj]; rfl)
      rw [txt_length] at h1
      exact ⟨(B, c), fun _ => ⟨h1, h4⟩⟩
    · exact ⟨(none, 0), fun h => absurd h hj⟩
  have hq := fun j => (hc j).choose_spec
  have hlen : cells.length = cs.length := by rw [hl.1, List.length_map]
  refine ⟨fun j => (hc j).choose.1, fun j => (hc j).choose.2, ?_, fun j hj => (hq j hj).2⟩
  have e : (List.range cs.length).map (fun j => Value.slice (hc j).choose.1 (cs.getD j []).length (hc j).choose.2) = cells := by
    apply List.ext_getElem?
    intro j
    by_cases hj : j < cs.length
    · rw [range_at _ hj]
      exact (hq j hj).1.symm
    · rw [List.getElem?_eq_none (by simp; omega), List.getElem?_eq_none (by omega)]
  rw [e]
  exact h
def PlayVal (s : ByteArray) (cs : List (List Nat)) (w : World) (e : Ending) (w' : World) : Prop :=
  e = .returned (.tuple #[.int .i64 (if (parseR (bs s)).2 = 0 then (playM (rfirstM (parseR (bs s)).1 cs.flatten) cs).1 else 0), .int .i64 (if (parseR (bs s)).2 = 0 then (playM (rfirstM (parseR (bs s)).1 cs.flatten) cs).2 else 0), .int .i64 (parseR (bs s)).2]) ∧ Old w w'
/-- Play on chunks, told as a list of slices. -/
theorem playL (s : ByteArray) (A : Option Addr) (c : Nat) (cells : List Value) (cs : List (List Nat)) (w : World) (h : Rs w A cells) (hl : RsL w cells (cs.map txt)) (hb : ∀ x ∈ cs.flatten, x < 256) (h1 : cs.flatten.length < 1000000000) (h2 : cs.length < 1000000000) :
    Calls Try.prog 26 #[.string s, .slice A cs.length c] w (PlayVal s cs w) := by
  obtain ⟨ad, cp, hc⟩ := chr_of h hl
  exact (mplayC s A c cs ad cp w hc hb h1 h2).mono fun e w' hp => ⟨hp.1 _ _ rfl, hp.2⟩
/-- Play with one of the patterns. -/
theorem playP (i : Nat) (hi : i < 7) (A : Option Addr) (c : Nat) (cells : List Value) (cs : List (List Nat)) (w : World) (h : Rs w A cells) (hl : RsL w cells (cs.map txt)) (hb : ∀ x ∈ cs.flatten, x < 256) (h1 : cs.flatten.length < 1000000000) (h2 : cs.length < 1000000000) :
    Calls Try.prog 26 #[.string (strOf (patsT.getD i [])), .slice A cs.length c] w fun e w' => e = .returned (.tuple #[.int .i64 (playM (rfirstM (parseR (patsT.getD i [])).1 cs.flatten) cs).1, .int .i64 (playM (rfirstM (parseR (patsT.getD i [])).1 cs.flatten) cs).2, .int .i64 0]) ∧ Old w w' := by
  refine (playL (strOf (patsT.getD i [])) A c cells cs w h hl hb h1 h2).mono fun e w' hp => ?_
  unfold PlayVal at hp
  rw [bs_strOf _ (pats_lt i hi), if_pos (pats_ok i hi), if_pos (pats_ok i hi), pats_ok i hi] at hp
  exact hp
theorem pats_valid (i : Nat) (hi : i < 7) : validM (parseR (patsT.getD i [])).1 = true := by
  have h : parseR (patsT.getD i []) = ((parseR (patsT.getD i [])).1, 0) := by rw [← pats_ok i hi]
  have htr := parse_tr (l := (parseR (patsT.getD i [])).1) (h ▸ parseR_eq (patsT.getD i []))
  exact Tr.valid htr.1 htr.2.1
end Go.Proofs.Ythadkjgadhbidaa
/-
  The walk of the sanity check (the statements on the matcher).
-/
namespace Go.Proofs.Ythadkjgadhbidaa
open Go.RowKit
set_option linter.unusedVariables false

theorem rs_marked (w : World) (cs : List Value) (e : TypeId) (fz : Nat × Nat) : Rs (w.alloc (.cells cs.toArray e fz)) (some ⟨w.heap.size, 0, none⟩) cs :=
  Or.inr ⟨_, _, rfl, fun j u h => by
    rw [Nat.zero_add, cell_of_row _ w.heap.size j cs.toArray e fz (heap_alloc_new w _)]
    simpa using h⟩
theorem bs_abd : bs ⟨#[98, 36]⟩ = [98, 36] := rfl
theorem bs_nil : bs ⟨#[]⟩ = [] := rfl
theorem s11P : parseR [98, 36] = ([⟨2, 0, 0, 2 ^ 98⟩, ⟨9, 0, 0, 0⟩, ⟨3, 0, 1, 0⟩], 0) := by
  have h := parseR_eq [98, 36]
  rw [s11p'] at h
  exact (Option.some.inj h).symm
theorem s11Q : parseR [] = ([⟨1, 0, 0, 0⟩], 0) := by
  have h := parseR_eq []
  rw [s11q'] at h
  exact (Option.some.inj h).symm
theorem alsz (w : World) (o : Obj) : (w.alloc o).heap.size = w.heap.size + 1 := by simp
def c11 : List (List Nat) := [[97, 98], [98], [10, 120]]
def o11 (l : List Nat) : Obj := .cells (txt l).toArray 5 (l.length, l.length + 1)
def k11 (H : Nat) : List Value := [.slice (some ⟨H, 0, none⟩) 2 2, .slice (some ⟨H + 1, 0, none⟩) 1 1, .slice (some ⟨H + 2, 0, none⟩) 2 2]
def w11 (w : World) : World := (((w.alloc (o11 [97, 98])).alloc (o11 [98])).alloc (o11 [10, 120])).alloc (.cells (k11 w.heap.size).toArray 23)
theorem w11_old (w : World) : Old w (w11 w) := ((((Old.refl w).alloc _).alloc _).alloc _).alloc _
theorem w11_rs (w : World) : Rs (w11 w) (some ⟨w.heap.size + 3, 0, none⟩) (k11 w.heap.size) := by
  have h := rs_new (((w.alloc (o11 [97, 98])).alloc (o11 [98])).alloc (o11 [10, 120])) (k11 w.heap.size) 23
  simp only [alsz] at h
  exact h
theorem w11_rl (w : World) : RsL (w11 w) (k11 w.heap.size) (c11.map txt) := by
  have h1 := rs_marked w (txt [97, 98]) 5 (2, 3)
  have h2 := rs_marked (w.alloc (o11 [97, 98])) (txt [98]) 5 (1, 2)
  have h3 := rs_marked ((w.alloc (o11 [97, 98])).alloc (o11 [98])) (txt [10, 120]) 5 (2, 3)
  have g1 : Rs (w11 w) (some ⟨w.heap.size, 0, none⟩) (txt [97, 98]) := h1.up ((((Old.refl _).alloc _).alloc _).alloc _)
  have g2 : Rs (w11 w) (some ⟨w.heap.size + 1, 0, none⟩) (txt [98]) := by
    have := h2.up ((((Old.refl _).alloc (o11 [10, 120])).alloc (.cells (k11 w.heap.size).toArray 23)))
    simp only [alsz] at this
    exact this
  have g3 : Rs (w11 w) (some ⟨w.heap.size + 2, 0, none⟩) (txt [10, 120]) := by
    have := h3.up ((Old.refl _).alloc (.cells (k11 w.heap.size).toArray 23))
    simp only [alsz] at this
    exact this
  have k1 := (RsL.nil_ (w := w11 w)).snoc (c := 2) (by simp [txt]) (by decide) g1
  have k2 := k1.snoc (c := 1) (by simp [txt]) (by decide) g2
  have k3 := k2.snoc (c := 2) (by simp [txt]) (by decide) g3
  exact k3
set_option maxRecDepth 100000 in
theorem sane11C (w : World) : Calls Try.prog 23 #[] w (ValOld (.bool true) w) := by
  have kc := fun (w : World) (C : Array Value) (n c : Nat) => Lib.run_convert_bytes_const (P := Try.prog) w 23 5 C n c Try.underlying23 Try.underlying5
  have hp := playL ⟨#[98, 36]⟩ (some ⟨w.heap.size + 3, 0, none⟩) 3 (k11 w.heap.size) c11 (w11 w) (w11_rs w) (w11_rl w) (by decide) (by decide) (by decide)
  unfold PlayVal at hp
  rw [bs_abd, s11P] at hp
  simp only [if_true] at hp
  rw [show playM (rfirstM [⟨2, 0, 0, 2 ^ 98⟩, ⟨9, 0, 0, 0⟩, ⟨3, 0, 1, 0⟩] c11.flatten) c11 = (2, 4) from s11a] at hp
  have HP := Lib.hid hp
  have kc1 := kc w #[.int .u8 97, .int .u8 98] 2 2
  have kc2 := kc (w.alloc (o11 [97, 98])) #[.int .u8 98] 1 1
  have kc3 := kc ((w.alloc (o11 [97, 98])).alloc (o11 [98])) #[.int .u8 10, .int .u8 120] 2 2
  simp only [alsz] at kc2 kc3
  replace kc1 : _ = Result.ok (Value.slice (some ⟨w.heap.size, 0, none⟩) 2 2) (w.alloc (o11 [97, 98])) := kc1
  replace kc2 : _ = Result.ok (Value.slice (some ⟨w.heap.size + 1, 0, none⟩) 1 1) ((w.alloc (o11 [97, 98])).alloc (o11 [98])) := kc2
  replace kc3 : _ = Result.ok (Value.slice (some ⟨w.heap.size + 1 + 1, 0, none⟩) 2 2) (((w.alloc (o11 [97, 98])).alloc (o11 [98])).alloc (o11 [10, 120])) := kc3
  clear kc
  have hq := fun W => playL ⟨#[]⟩ none 0 [] [] W Rs.nil_ RsL.nil_ (by simp) (by decide) (by decide)
  unfold PlayVal at hq
  simp only [bs_nil, s11Q, if_true] at hq
  rw [s11b] at hq
  have HQ := Lib.hid hq
  have HO := Lib.hid (w11_old w)
  clear hp hq
  go_enter Try.func23, Try.ntmps23
  go_wp2_with fail
  refine (HP.out).mono ?_; rintro e w1 ⟨rfl, hd1⟩
  have HD1 := Lib.hid (HO.out.up hd1)
  clear hd1 HP HO kc1 kc2 kc3
  go_wp2_with fail
  refine (HQ.out _).mono ?_; rintro e w2 ⟨rfl, hd2⟩
  have HD2 := Lib.hid (HD1.out.up hd2)
  clear hd2 HQ HD1
  go_wp2_with fail
  go_ret
  exact ⟨rfl, HD2.out⟩
end Go.Proofs.Ythadkjgadhbidaa
/-
  The walk of the statement MatcherDivides.
-/
namespace Go.Proofs.Ythadkjgadhbidaa
open Go.RowKit
set_option linter.unusedVariables false

def natL (b : List UInt8) : List Nat := b.map UInt8.toNat
theorem natL_txt (b : List UInt8) : txt (natL b) = bytes b := by unfold txt natL bytes; rw [List.map_map]; rfl
theorem natL_lt (b : List UInt8) : ∀ x ∈ natL b, x < 256 := by
  intro x hx
  obtain ⟨y, _, rfl⟩ := List.mem_map.mp hx
  exact y.toNat_lt
theorem natL_len (b : List UInt8) : (natL b).length = b.length := by simp [natL]
def natLL (P : List (List UInt8)) : List (List Nat) := P.map natL
theorem natLL_txt (P : List (List UInt8)) : (natLL P).map txt = P.map bytes := by
  unfold natLL
  rw [List.map_map]
  exact List.map_congr_left (fun b _ => natL_txt b)
theorem natLL_flat (P : List (List UInt8)) : (natLL P).flatten = natL P.flatten := by
  unfold natLL natL
  rw [List.map_flatten]
theorem flat_small {P : List (List UInt8)} (h : ∀ p ∈ P, p.length ≤ 8) : P.flatten.length ≤ 8 * P.length := by
  induction P with
  | nil => simp
  | cons a P ih =>
    have h1 := ih (fun p hp => h p (by simp [hp]))
    have h2 := h a (by simp)
    simp only [List.flatten_cons, List.length_append, List.length_cons]
    omega
/-- The bytes ahead of piece j. -/
def ahead (P : List (List UInt8)) (j : Nat) : List UInt8 := (P.take j).flatten
theorem ahead_succ (P : List (List UInt8)) (j : Nat) (hj : j < P.length) : ahead P (j + 1) = ahead P j ++ P.getD j [] := by
  unfold ahead
  rw [List.take_add_one, List.getElem?_eq_getElem hj, List.flatten_append, List.getD_eq_getElem?_getD, List.getElem?_eq_getElem hj]
  simp
theorem ahead_all (P : List (List UInt8)) : ahead P P.length = P.flatten := by unfold ahead; rw [List.take_length]
theorem ahead_len {P : List (List UInt8)} (h : ∀ p ∈ P, p.length ≤ 8) (j : Nat) : (ahead P j).length ≤ 8 * P.length := by
  have h1 := flat_small (P := P.take j) (fun p hp => h p (List.mem_of_mem_take hp))
  have h2 : (P.take j).length ≤ P.length := by rw [List.length_take]; omega
  unfold ahead
  omega
/-- Bytes one by one. -/
def ones (b : List UInt8) : List (List Value) := b.map fun x => bytes [x]
theorem ones_len (b : List UInt8) : (ones b).length = b.length := by simp [ones]
theorem ones_snoc (b : List UInt8) (k : Nat) (hk : k < b.length) : ones (b.take (k + 1)) = ones (b.take k) ++ [bytes [b.getD k 0]] := by
  unfold ones
  rw [List.take_add_one, List.getElem?_eq_getElem hk, List.map_append, List.getD_eq_getElem?_getD, List.getElem?_eq_getElem hk]
  rfl
theorem ones_app (a b : List UInt8) : ones (a ++ b) = ones a ++ ones b := by simp [ones]
theorem ones_single (b : List UInt8) : (singles (natL b)).map txt = ones b := by
  unfold singles natL ones
  rw [List.map_map, List.map_map]
  rfl
theorem Fs.one_at {w : World} {b off : Nat} {p : List UInt8} (h : Fs w (some ⟨b, off, none⟩) (bytes p)) (k : Nat) (hk : k < p.length) : Fs w (some ⟨b, off + k, none⟩) (bytes [p.getD k 0]) := by
  rcases h with h | ⟨b', off', cur, e, fz, hA, hh, hz, hc⟩
  · have := congrArg List.length h
    rw [bytes_length] at this
    simp at this
    subst this
    simp at hk
  · simp only [Option.some.injEq, Addr.mk.injEq, and_true] at hA
    obtain ⟨rfl, rfl⟩ := hA
    refine Or.inr ⟨b, off + k, cur, e, fz, rfl, hh, hz, fun j u hu => ?_⟩
    have hj : j = 0 := by have := (List.getElem?_eq_some_iff.mp hu).1; rw [bytes_length] at this; simp at this; exact this
    subst hj
    have h1 := hc k _ (bytes_get p k hk)
    rw [Nat.add_zero, h1, ← hu]
    rfl
theorem rows_one (x : List (List Value)) {w : World} {cells : List Value} (h : RsL w cells x) : cells.all Value.oneCell' = true := h.one

theorem info_d8 : (Try.prog.info? 5).map (fun i => (i.zero, i.size, i.bytes)) = some (some (.int .u8 0), 1, 1) := by kernel_rfl
set_option maxHeartbeats 8000000 in
set_option maxRecDepth 100000 in
theorem divides_any (A : Option Addr) (c : Nat) (l : List Int) (p : Int) (w : World) (hr : Rs w A (ints l)) (hm : l.length ≤ maxLen) :
    Calls Try.prog 8 #[.slice A l.length c, .int .i64 p] w (ValOld (.bool true) w) := by
  have HS := Lib.hid (sane11C w)
  have HR := Lib.hid hr
  clear hr
  go_enter Try.func8, Try.ntmps8
  go_wp2_with fail
  refine (HS.out).mono ?_; rintro e w1 ⟨rfl, hd1⟩
  have HP := Lib.hid (piecesC A c l w1 (HR.out.up hd1) hm)
  have HD1 := Lib.hid hd1
  clear hd1 HS
  go_wp2_with fail
  refine (HP.out).mono ?_; rintro e w2 ⟨v, cells, rfl, hown, hfl, hd2⟩
  have HD2 := Lib.hid (HD1.out.up hd2)
  obtain ⟨Ax, cx, rfl, htx, hcx, _⟩ := hown.shape
  have HTX := Lib.hid htx.rs
  have HFL := Lib.hid hfl
  have h5 := piecesL_len l
  have H8 := Lib.hid (piecesL_small l)
  clear hown htx hfl hd2 HP HD1 HR
  generalize piecesL l = P at *
  go_wp2_with fail
  go_loopw [6, 7, 27] (fun vw vb jv wr => ∃ (j : Nat) (cb : List Value), jv = .int .i64 j ∧ j ≤ P.length ∧ Own wr w2.heap.size 5 1 vw (ahead P j).length (bytes (ahead P j)) ∧ Own wr w2.heap.size 23 1 vb (ahead P j).length cb ∧ FsL wr cb (ones (ahead P j)) ∧ Old w2 wr) (fun _ _ jv _ => P.length - (intOf jv).toNat)
  case atStart => exact ⟨0, [], rfl, Nat.zero_le _, Own.nil_ _ _ _ _, Own.nil_ _ _ _ _, FsL.nil_, Old.refl _⟩
  case round =>
    obtain ⟨j, cb, rfl, hj, hvw, hvb, hfb, hO⟩ := hrel
    have hal := ahead_len H8.out j
    by_cases hlt : j < P.length
    · have i1 : (j : Int) < (P.length : Int) := by omega
      have i0 : (0 : Int) ≤ (j : Int) := by omega
      have HAS := Lib.hid (ahead_succ P j hlt)
      have hget : (P.map bytes)[j]? = some (bytes (P.getD j [])) := by rw [List.getElem?_map, List.getElem?_eq_getElem hlt, List.getD_eq_getElem?_getD, List.getElem?_eq_getElem hlt]; rfl
      obtain ⟨Ap, cp, hcell, hcp, _, hfs⟩ := HFL.out.2 j _ hget
      rw [bytes_length] at hcell hcp
      have hp8 : (P.getD j []).length ≤ 8 := H8.out _ (by rw [List.getD_eq_getElem?_getD, List.getElem?_eq_getElem hlt]; exact List.getElem_mem hlt)
      obtain ⟨bA, oA, rfl, _, hcA⟩ := (HTX.out.up hO).at_ (by have := (List.getElem?_eq_some_iff.mp hcell).1; omega)
      have cA := hcA j _ hcell
      have HFS := Lib.hid hfs
      clear hcA hget hcell hfs
      generalize P.getD j [] = q at *
      go_wp2_with (at_builtin; refine wpList_pushAll rfl _ _ 23 rfl _ 5 (.int .u8 0) 1 1 Try.underlying23 info_d8 rfl (by decide) (by decide) _ _ _ (by rfl) hvw _ _ _ _ (by rfl) (HFS.out.up hO).rs (by rw [bytes_length, Nat.mul_one]) (bytes_one _) ?pn2 hO.size ?_)
      case pn2 => omega
      intro v4 w4 ho4 hg4 hd4
      have hO4 := hd4 w2 hO (Nat.le_refl _)
      have hvb4 := Own.grown hvb hvw (by decide) hg4
      have hfb4 := hfb.grown hvw hg4
      have HO4 := Lib.hid ho4
      clear hvw hvb hfb hg4 hd4 hO cA ho4
      go_wp2_with fail
      go_loopw [7, 36] (fun vb kv wr => ∃ (k : Nat) (cb : List Value), kv = .int .i64 k ∧ k ≤ q.length ∧ Own wr w2.heap.size 5 1 v4 ((ahead P j).length + q.length) (bytes (ahead P j) ++ bytes q) ∧ Own wr w2.heap.size 23 1 vb ((ahead P j).length + k) cb ∧ FsL wr cb (ones (ahead P j) ++ ones (q.take k)) ∧ Old w2 wr) (fun _ kv _ => q.length - (intOf kv).toNat)
      case atStart => exact ⟨0, cb, rfl, Nat.zero_le _, HO4.out, hvb4, by simpa [ones] using hfb4, hO4⟩
      case round =>
        clear hvb4 hfb4 hO4 HO4
        obtain ⟨k, cb, rfl, hk, hvw, hvb, hfb, hO⟩ := hrel
        by_cases hltk : k < q.length
        · have k1 : (k : Int) < (q.length : Int) := by omega
          have k0 : (0 : Int) ≤ (k : Int) := by omega
          obtain ⟨bq, oq, rfl, _, _⟩ := HFS.out.rs.at_ (by rw [bytes_length]; omega)
          have HF1 := Lib.hid (fun w' (h : Old w2 w') => (HFS.out.up h).one_at k hltk)
          have HON := Lib.hid (ones_snoc q k hltk)
          have hsl := fun W => run_slice_mid (P := Try.prog) (t := 23) (by kernel_rfl) (fun _ => rfl) bq oq q.length cp k 1 (k : Int) ((k : Int) + 1) rfl (by omega) (by omega) W
          simp only [show ¬ cp = k by omega, if_false] at hsl
          go_wp2_with (at_builtin; refine wpList_push (wr := wr) rfl _ _ 51 rfl _ 23 (.slice none 0 0) 1 24 Try.underlying51 info_rows8m rfl (by decide) (by decide) _ _ _ rfl hvb 1 1 [.slice (some ⟨bq, oq + k, none⟩) 1 (cp - k)] rfl rfl rfl rfl ?pn1 hO.size ?_)
          case pn1 => omega
          intro v5 w5 ho5 hg5 hd5
          have hO5 := hd5 w2 hO (Nat.le_refl _)
          have hvw5 := Own.grown hvw hvb (by decide) hg5
          have hfb5 := hfb.grown hvb hg5
          have HF5 := Lib.hid (HF1.out _ hO5)
          have hsn := hfb5.snoc (A := some ⟨bq, oq + k, none⟩) (c := cp - k) (xs := bytes [q.getD k 0]) (by rw [bytes_length]; show 1 ≤ _; omega) (by unfold maxLen at *; omega) HF5.out
          rw [List.append_assoc, ← HON.out] at hsn
          have HW : Hid (∃ (k' : Nat) (cb : List Value), (Value.int .i64 ((k + 1 : Nat) : Int)) = .int .i64 k' ∧ k' ≤ q.length ∧ Own w5 w2.heap.size 5 1 v4 ((ahead P j).length + q.length) (bytes (ahead P j) ++ bytes q) ∧ Own w5 w2.heap.size 23 1 v5 ((ahead P j).length + k') cb ∧ FsL w5 cb (ones (ahead P j) ++ ones (q.take k')) ∧ Old w2 w5) := Lib.hid ⟨k + 1, _, rfl, hltk, hvw5, ho5, hsn, hO5⟩
          clear hvw hvb hfb hO hsl ho5 hg5 hd5 hO5 hvw5 hfb5 hsn HF1 HF5 HON
          go_wp2_with fail
          go_roundw
          case rel => exact HW.out
          case measure => simp [intOf]; omega
        · obtain rfl : k = q.length := by omega
          rw [List.take_length] at hfb
          obtain ⟨Ab, cbb, rfl, _, _, _⟩ := hvb.shape
          have HW : Hid (∃ (j' : Nat) (cb : List Value), (Value.int .i64 ((j + 1 : Nat) : Int)) = .int .i64 j' ∧ j' ≤ P.length ∧ Own wr w2.heap.size 5 1 v4 (ahead P j').length (bytes (ahead P j')) ∧ Own wr w2.heap.size 23 1 (.slice Ab ((ahead P j).length + q.length) cbb) (ahead P j').length cb ∧ FsL wr cb (ones (ahead P j')) ∧ Old w2 wr) := Lib.hid ⟨j + 1, cb, rfl, hlt, by rw [HAS.out, List.length_append, bytes_append]; exact hvw, by rw [HAS.out, List.length_append]; exact hvb, by rw [HAS.out, ones_app]; exact hfb, hO⟩
          have hke : ¬ (q.length : Int) < (q.length : Int) := by omega
          clear hvw hvb hfb hO
          go_wp2_with fail
          go_roundw
          case rel => exact HW.out
          case measure => simp [intOf]; omega
    · obtain rfl : j = P.length := by omega
      rw [ahead_all] at hvw hvb hfb hal
      obtain ⟨Aw, cw, rfl, htw, hcw, hcwm⟩ := hvw.shape
      obtain ⟨Ab, cbb, rfl, htb, hcb, _⟩ := hvb.shape
      have HTW := Lib.hid htw.rs
      have HTB := Lib.hid htb.rs
      have HFB := Lib.hid hfb.rs
      have HO := Lib.hid hO
      have HCW := Lib.hid (And.intro hcw hcwm)
      clear hvw hvb hfb htw htb hO hcw hcwm
      obtain ⟨i, hi⟩ := Int.eq_ofNat_of_zero_le (Int.emod_nonneg p (show (7 : Int) ≠ 0 by decide))
      have hi7 : i < 7 := by have := Int.emod_lt_of_pos p (show (0 : Int) < 7 by decide); omega
      have hmd := fun W => mod_any p 7 (by decide) (by decide) W
      simp only [hi] at hmd
      have HMD := Lib.hid hmd
      have HL := Lib.hid (divides_law (pats_valid i hi7) (natLL P))
      have HB := Lib.hid (rfirst_bd (pats_valid i hi7) (natLL P).flatten)
      have hnl : (natLL P).length = P.length := by simp [natLL]
      have hfl : (natLL P).flatten.length = P.flatten.length := by rw [natLL_flat, natL_len]
      have h256 : ∀ x ∈ (natLL P).flatten, x < 256 := by rw [natLL_flat]; exact natL_lt _
      have hp1 := fun W (h : Old w2 W) => playP i hi7 Ax cx cells (natLL P) W (HTX.out.up h) (by rw [natLL_txt]; exact HFL.out.rs.up h) h256 (by omega) (by omega)
      have hp2 := fun W (h : Old wr W) => playP i hi7 (some ⟨W.heap.size, 0, none⟩) 1 [.slice Aw P.flatten.length cw] [natL P.flatten] (W.alloc (.cells #[.slice Aw P.flatten.length cw] 23)) (rs_new W [.slice Aw P.flatten.length cw] 23) (by
        have := (RsL.nil_ (w := W.alloc (.cells #[.slice Aw P.flatten.length cw] 23))).snoc (A := Aw) (c := cw) (xs := bytes P.flatten) (by rw [bytes_length]; exact HCW.out.1) HCW.out.2 ((HTW.out.up h).alloc _)
        rw [bytes_length] at this
        rw [show [natL P.flatten].map txt = [bytes P.flatten] by rw [← natL_txt]; rfl]
        exact this) (by simpa using natL_lt P.flatten) (by simp only [List.flatten_cons, List.flatten_nil, List.append_nil, natL_len]; omega) (by simp)
      have hp3 := fun W (h : Old wr W) => playP i hi7 Ab cbb cb (singles (natL P.flatten)) W (HTB.out.up h) (by rw [ones_single]; exact HFB.out.up h) (by rw [singles_flat]; exact natL_lt _) (by rw [singles_flat, natL_len]; omega) (by unfold singles; rw [List.length_map, natL_len]; omega)
      have hsl : (singles (natL P.flatten)).length = P.flatten.length := by unfold singles; rw [List.length_map, natL_len]
      rw [natLL_flat] at HL HB
      simp only [natLL_flat] at hp1
      rw [hnl] at hp1 HL
      rw [hsl] at hp3
      rw [natL_len] at HL HB
      simp only [List.length_cons, List.length_nil, Nat.zero_add] at hp2
      generalize P.flatten = F at *
      have hpn := play_num (rfirstM (parseR (patsT.getD i [])).1 (natL F)) (natLL P)
      have HP1 := Lib.hid hp1
      have HP2 := Lib.hid hp2
      have HP3 := Lib.hid hp3
      clear hp1 hp2 hp3 hi hmd hnl hfl h256 hsl HTX HFL HTW HTB HFB HCW H8
      obtain ⟨b0, b1⟩ := HB.out
      have HMP := Lib.hid (mpatternsC wr)
      have hstr : (wr.alloc patsObj).cell? ⟨wr.heap.size, i, none⟩ = some (.string (strOf (patsT.getD i []))) := by
        rw [cell_of_row _ wr.heap.size i _ _ _ (heap_alloc_new wr patsObj)]
        have hl : i < patsT.length := hi7
        rw [List.getElem?_toArray, List.getElem?_map, List.getElem?_eq_getElem hl, List.getD_eq_getElem?_getD, List.getElem?_eq_getElem hl]
        rfl
      have i0 : (0 : Int) ≤ (i : Int) := by omega
      have i7 : (i : Int) < 7 := by omega
      generalize rfirstM (parseR (patsT.getD i [])).1 (natL F) = R at *
      generalize strOf (patsT.getD i []) = S at *
      generalize rfirstM (parseR (patsT.getD i [])).1 [natL F].flatten = R2 at *
      generalize rfirstM (parseR (patsT.getD i [])).1 (singles (natL F)).flatten = R3 at *
      generalize playM R (natLL P) = r1 at *
      generalize playM R2 [natL F] = r2 at *
      generalize playM R3 (singles (natL F)) = r3 at *
      obtain ⟨i1, a⟩ := r1
      obtain ⟨i2, a2⟩ := r2
      obtain ⟨i3, a3⟩ := r3
      obtain ⟨e1, e2, e3, e4⟩ := HL.out
      simp only at e1 e2 e3 e4 hpn HP1 HP2 HP3
      subst e1
      subst e2
      have ha : -1 ≤ a ∧ a ≤ F.length := by rw [hpn]; split <;> omega
      obtain ⟨a0, a1⟩ := ha
      have HE3 := Lib.hid e3
      have HE4 := Lib.hid e4
      have HAL := Lib.hid hal
      clear e3 e4 hpn HL HB b0 b1
      have HO3 : Hid (Old wr (wr.alloc patsObj)) := Lib.hid ((Old.refl wr).alloc _)
      go_wp2_with fail
      refine (HMP.out).mono ?_; rintro e w3 ⟨rfl, rfl⟩
      generalize wr.alloc patsObj = w3 at *
      go_wp2_with fail
      refine (HMD.out _).mono ?_; rintro e w3' ⟨rfl, rfl⟩
      have HC1 := Lib.hid (HP1.out w3 (HO.out.up HO3.out))
      clear HMP HMD HP1
      go_wp2_with fail
      refine (HC1.out).mono ?_; rintro e w4 ⟨rfl, hd4⟩
      have HO4 := Lib.hid (HO3.out.up hd4)
      have HC2 := Lib.hid (HP2.out w4 HO4.out)
      clear HC1 HP2 hd4 hstr HO3
      go_wp2_with fail
      refine (HC2.out).mono ?_; rintro e w5 ⟨rfl, hd5⟩
      have HO5 := Lib.hid ((HO4.out.alloc _).up hd5)
      have HC3 := Lib.hid (HP3.out w5 HO5.out)
      clear HC2 HP3 hd5 HO4
      go_wp2_with fail
      refine (HC3.out).mono ?_; rintro e w6 ⟨rfl, hd6⟩
      have HO6 := Lib.hid (HD2.out.up (HO.out.up (HO5.out.up hd6)))
      clear HC3 hd6 HO5 HO HD2
      by_cases han : a < 0
      · obtain ⟨f1, f2⟩ := HE3.out han
        subst f1
        subst f2
        have n0 : decide (a < 0) = true := by simpa using han
        clear HE3 HE4
        go_wp2_with fail
        go_ret
        exact ⟨rfl, HO6.out⟩
      · obtain ⟨f1, f2⟩ := HE4.out (by omega)
        subst f1
        have n0 : decide (a < 0) = false := by simpa using han
        have hal := HAL.out
        have n1 : IntKind.i64.wrap (a - 1) = a - 1 := by rw [IntWalk.i64_in _ (by omega)]
        by_cases h0 : a = 0
        · have hi1 : i1 < 0 := f2.2 h0
          subst h0
          clear HE3 HE4 f2 han
          go_wp2_with fail
          go_ret
          exact ⟨rfl, HO6.out⟩
        · have n3 : decide (i1 < 0) = false := decide_eq_false (fun h => h0 (f2.1 h))
          have n2 : (a == 0) = false := by simpa using h0
          clear HE3 HE4 f2
          go_wp2_with fail
          go_ret
          exact ⟨rfl, HO6.out⟩
end Go.Proofs.Ythadkjgadhbidaa
/-
  The walk of the statement MatcherEarliest.
-/
namespace Go.Proofs.Ythadkjgadhbidaa
open Go.RowKit
set_option linter.unusedVariables false

theorem RsL.take {w : World} {cells : List Value} {xss : List (List Value)} (h : RsL w cells xss) (k : Nat) : RsL w (cells.take k) (xss.take k) := by
  refine ⟨by rw [List.length_take, List.length_take, h.1], fun i xs hx => ?_⟩
  rw [List.getElem?_take] at hx ⊢
  split at hx
  · rename_i hi; rw [if_pos hi]; exact h.2 i xs hx
  · cases hx
theorem flatten_take_len (cs : List (List Nat)) (k : Nat) : (cs.take k).flatten.length ≤ cs.flatten.length := by
  have h : cs.flatten = (cs.take k).flatten ++ (cs.drop k).flatten := by rw [← List.flatten_append, List.take_append_drop]
  have := congrArg List.length h
  rw [List.length_append] at this
  omega
theorem mem_flat_take {cs : List (List Nat)} {k x : Nat} (h : x ∈ (cs.take k).flatten) : x ∈ cs.flatten := by
  obtain ⟨c, h1, h2⟩ := List.mem_flatten.mp h
  exact List.mem_flatten.mpr ⟨c, List.mem_of_mem_take h1, h2⟩
set_option maxHeartbeats 8000000 in
set_option maxRecDepth 100000 in
theorem earliest_any (A : Option Addr) (c : Nat) (l : List Int) (p : Int) (w : World) (hr : Rs w A (ints l)) (hm : l.length ≤ maxLen) :
    Calls Try.prog 9 #[.slice A l.length c, .int .i64 p] w (ValOld (.bool true) w) := by
  have HS := Lib.hid (sane11C w)
  have HR := Lib.hid hr
  clear hr
  go_enter Try.func9, Try.ntmps9
  go_wp2_with fail
  refine (HS.out).mono ?_; rintro e w1 ⟨rfl, hd1⟩
  have HP := Lib.hid (piecesC A c l w1 (HR.out.up hd1) hm)
  have HD1 := Lib.hid hd1
  clear hd1 HS
  go_wp2_with fail
  refine (HP.out).mono ?_; rintro e w2 ⟨v, cells, rfl, hown, hfl, hd2⟩
  have HD2 := Lib.hid (HD1.out.up hd2)
  obtain ⟨Ax, cx, rfl, htx, hcx, _⟩ := hown.shape
  have HTX := Lib.hid htx.rs
  have HFL := Lib.hid hfl
  have h5 := piecesL_len l
  have h40 := flat_small (piecesL_small l)
  clear hown htx hfl hd2 HP HD1 HR
  generalize piecesL l = P at *
  obtain ⟨i, hi⟩ := Int.eq_ofNat_of_zero_le (Int.emod_nonneg p (show (7 : Int) ≠ 0 by decide))
  have hi7 : i < 7 := by have := Int.emod_lt_of_pos p (show (0 : Int) < 7 by decide); omega
  have hmd := fun W => mod_any p 7 (by decide) (by decide) W
  simp only [hi] at hmd
  have HMD := Lib.hid hmd
  have HL := Lib.hid (earliest_law (pats_valid i hi7) (natLL P))
  have HB := Lib.hid (rfirst_bd (pats_valid i hi7) (natLL P).flatten)
  have hnl : (natLL P).length = P.length := by simp [natLL]
  have hfl : (natLL P).flatten.length ≤ 40 := by rw [natLL_flat, natL_len]; omega
  have h256 : ∀ x ∈ (natLL P).flatten, x < 256 := by rw [natLL_flat]; exact natL_lt _
  have hrl : ∀ W, Old w2 W → RsL W cells ((natLL P).map txt) := fun W h => by rw [natLL_txt]; exact HFL.out.rs.up h
  have hp1 := fun W (h : Old w2 W) => playP i hi7 Ax cx cells (natLL P) W (HTX.out.up h) (hrl W h) h256 (by omega) (by omega)
  have hp2 := fun (k : Nat) (hk : k ≤ P.length) W (h : Old w2 W) => playP i hi7 Ax cx (cells.take k) ((natLL P).take k) W ((HTX.out.up h).take k) (by rw [List.map_take]; exact (hrl W h).take k) (fun x hx => h256 x (mem_flat_take hx)) (by have := flatten_take_len (natLL P) k; omega) (by rw [List.length_take]; omega)
  have hp3 := fun (s : ByteArray) W (h : Old w2 W) => playL s Ax cx cells (natLL P) W (HTX.out.up h) (hrl W h) h256 (by omega) (by omega)
  have htl : ∀ k, k ≤ P.length → ((natLL P).take k).length = k := fun k hk => by rw [List.length_take]; omega
  simp only [hnl] at hp1 hp3
  have HP1 := Lib.hid hp1
  have HP2 := Lib.hid hp2
  have HP3 := Lib.hid hp3
  have HTL := Lib.hid htl
  have HNL := Lib.hid hnl
  clear hp1 hp2 hp3 hi hmd hnl h256 hrl HTX HFL htl
  have HMP := Lib.hid (mpatternsC w2)
  have hstr : (w2.alloc patsObj).cell? ⟨w2.heap.size, i, none⟩ = some (.string (strOf (patsT.getD i []))) := by
    rw [cell_of_row _ w2.heap.size i _ _ _ (heap_alloc_new w2 patsObj)]
    have hl : i < patsT.length := hi7
    rw [List.getElem?_toArray, List.getElem?_map, List.getElem?_eq_getElem hl, List.getD_eq_getElem?_getD, List.getElem?_eq_getElem hl]
    rfl
  have i0 : (0 : Int) ≤ (i : Int) := by omega
  have i7 : (i : Int) < 7 := by omega
  generalize hRn : (parseR (patsT.getD i [])).1 = n at *
  have hsz : (strOf (patsT.getD i [])).size ≤ 9223372036854775806 := by
    have : ∀ i, i < 7 → (strOf (patsT.getD i [])).size ≤ 100 := by decide +kernel
    have := this i hi7
    omega
  generalize strOf (patsT.getD i []) = S at *
  obtain ⟨T, hadd, hT⟩ : ∃ T : ByteArray, (∀ W : World, (Op.stringOp .add S ⟨#[40]⟩).run Try.prog W = .ok (.string T) W) ∧ T.size ≤ 9223372036854775807 := by
    have : (ByteArray.mk #[40]).size = 1 := rfl
    exact ⟨S ++ ⟨#[40]⟩, fun W => run_string_add_sum W S _ (by omega), by rw [ByteArray.size_append]; omega⟩
  have HPA := Lib.hid (fun W => parseC _ T _ W hT (parseR_eq _))
  have HP3s := Lib.hid (HP3.out T)
  have HADD := Lib.hid hadd
  clear hadd hT
  clear HP3 hsz hRn
  obtain ⟨b0, b1⟩ := HB.out
  have HO3 : Hid (Old w2 (w2.alloc patsObj)) := Lib.hid ((Old.refl w2).alloc _)
  obtain ⟨q1, q2, _, _⟩ := HL.out 0 (Nat.zero_le _)
  rw [HNL.out] at q2
  generalize playM (rfirstM n (natLL P).flatten) (natLL P) = r1 at *
  obtain ⟨a, b⟩ := r1
  simp only at q1 q2 HL HP1
  go_wp2_with fail
  refine (HMP.out).mono ?_; rintro e w3 ⟨rfl, rfl⟩
  generalize w2.alloc patsObj = w3 at *
  go_wp2_with fail
  refine (HMD.out _).mono ?_; rintro e w3' ⟨rfl, rfl⟩
  have HC1 := Lib.hid (HP1.out w3 HO3.out)
  clear HMP HMD HP1
  go_wp2_with fail
  refine (HC1.out).mono ?_; rintro e w4 ⟨rfl, hd4⟩
  have HO4 := Lib.hid (HO3.out.up hd4)
  clear HC1 hd4 hstr HO3 b0 b1 HB
  have n1 : ¬ a < -1 := by omega
  have n2 : ¬ (P.length : Int) < a := by omega
  go_wp2_with fail
  go_loopw [10] (fun s10 wr => ∃ k : Nat, s10 = .int .i64 k ∧ k ≤ P.length + 1 ∧ Old w2 wr) (fun s10 _ => P.length + 1 - (intOf s10).toNat)
  case atStart => exact ⟨0, rfl, Nat.zero_le _, HO4.out⟩
  case round =>
    clear HO4
    obtain ⟨k, rfl, hk, hO⟩ := hrel
    by_cases hle : k ≤ P.length
    · have i1 : (k : Int) ≤ (P.length : Int) := by omega
      have HO := Lib.hid hO
      have HC := HP2.out k hle wr hO
      rw [HTL.out k hle] at HC
      have HCC := Lib.hid HC
      obtain ⟨_, _, g1, g2⟩ := HL.out k (by rw [HNL.out]; exact hle)
      generalize playM (rfirstM n ((natLL P).take k).flatten) ((natLL P).take k) = rk at *
      obtain ⟨j, m⟩ := rk
      simp only at g1 g2 HCC
      have HG1 := Lib.hid g1
      have HG2 := Lib.hid g2
      have hsl := fun W => run_slice_to (P := Try.prog) (t := 51) (by kernel_rfl) (fun _ => rfl) Ax P.length cx k (k : Int) rfl (by omega) W
      clear g1 g2 HC hO
      go_wp2_with fail
      refine (HCC.out).mono ?_; rintro e w5 ⟨rfl, hd5⟩
      have HW : Hid (∃ k' : Nat, (Value.int .i64 ((k + 1 : Nat) : Int)) = .int .i64 k' ∧ k' ≤ P.length + 1 ∧ Old w2 w5) := Lib.hid ⟨k + 1, rfl, by omega, HO.out.up hd5⟩
      clear hsl HCC hd5 HO
      by_cases hak : a < k
      · have e := HG1.out hak
        injection e with e1 e2
        subst e1
        subst e2
        have l1 : ¬ (k : Int) ≤ j := by omega
        clear HG1 HG2
        go_wp2_with fail
        go_roundw
        case rel => exact HW.out
        case measure => simp [intOf]; omega
      · have e := HG2.out (by omega)
        injection e with e1 e2
        subst e1
        subst e2
        have l1 : (k : Int) ≤ a := by omega
        clear HG1 HG2
        go_wp2_with fail
        go_roundw
        case rel => exact HW.out
        case measure => simp [intOf]; omega
    · have i1 : decide (k ≤ P.length) = false := decide_eq_false hle
      clear hle
      have HC := Lib.hid (HPA.out wr)
      have hadd := HADD.out
      have HO := Lib.hid hO
      clear HL HP2 hO HPA
      go_wp2_with fail
      refine (HC.out).mono ?_; rintro e w5 ⟨v5, rfl, ho5, hd5⟩
      have HO5 := Lib.hid (HO.out.up hd5)
      have HC2 := Lib.hid (HP3s.out w5 HO5.out)
      clear HC hd5 HO HP3s ho5
      unfold PlayVal at HC2
      generalize parseR (bs T) = r at *
      go_wp2_with fail
      refine (HC2.out).mono ?_; rintro e w6 ⟨rfl, hd6⟩
      have HO6 := Lib.hid (HD2.out.up (HO5.out.up hd6))
      clear HC2 hd6
      go_wp2_with fail
      all_goals (go_ret; exact ⟨by simp, HO6.out⟩)
end Go.Proofs.Ythadkjgadhbidaa
namespace Go.Proofs.Ythadkjgadhbidaa
open Go.ChangeShapes Go.WideShapes Go.ChangeAt Go.RowKit Rw
set_option linter.unusedVariables false

theorem matcherEarliest_row {Al : Option Addr} {len1 c1 : Nat} {p : Int} {W : World} (h : ∃ l : List Int, l.length = len1 ∧ len1 ≤ maxLen ∧ Rs W Al (ints l)) :
    Calls Try.prog 9 #[.slice Al len1 c1, .int .i64 p] W fun e w' => e = .returned (.bool true) ∧ Below W.heap.size W w' := by
  obtain ⟨l, rfl, hm, hr⟩ := h
  exact earliest_any Al c1 l p W hr hm
set_option maxRecDepth 100000 in
theorem matcherEarliest_lifted (os : Os) (started : os.Started) (H : Type) (enc : TypeId × Value → H) :
    ReturnsInHanded {} Try.checked os 9 .any (Rows.matcherEarliestSpec.pre6 enc Try.prog Try.f9 Rows.matcherEarliestRow.domain false) (Rows.matcherEarliestSpec.post enc Try.prog Try.f9 false true false false) := by
  refine returnsInHanded_of_change (C := Try.checked) own started (by kernel_rfl) Try.func9
    (ChangeSpec.witness6 (enc := enc) (C := Try.checked) false ⟨#[], #[.slice none 0 0, .int .i64 0], []⟩ 8 (by kernel_rfl) (by kernel_rfl) (by kernel_rfl) (by kernel_rfl)) ?_
  intro W base args ds gs before hval0 hW hcnd _
  have hval : ∀ (j : Nat) t v, Try.f9.params[j]? = some t → args[j]? = some v → Value.okWide Try.prog W .any base t v := hval0
  have hW' := hW
  obtain ⟨p, q, hA0, hV, rfl, hfz, hnd⟩ := hW
  have hA : DataW.TrodAll enc Try.prog W 0 (fun _ => true) true Try.f9.params.toList args.toList ds p := hA0
  rw [Try.params9] at hA hval
  obtain ⟨v0, vs0, d0, ds0, p0, q0, hargs, rfl, rfl, h0, r0⟩ := trodAll_cons hA
  obtain ⟨v1, vs1, d1, ds1, p1, q1, rfl, rfl, rfl, h1, r1⟩ := trodAll_cons r0
  obtain ⟨rfl, rfl, rfl⟩ := trodAll_nil r1
  obtain rfl : args = #[v0, v1] := by cases args; simp_all
  obtain ⟨rfl, rfl⟩ := trodVars_none hV
  obtain ⟨a0, len0, cap0, rfl⟩ := okWide_slice Try.underlying22 (hval 0 22 v0 rfl rfl)
  have lt0 : ∀ x ∈ p0, x.block < W.heap.size := by obtain ⟨m, hm⟩ := h0; exact DataW.trod_lt m _ _ _ hm
  have w0 := open_intl h0
  obtain ⟨a1, rfl, rfl, rfl, w1⟩ := open_int Try.underlying3 (hval 1 3 v1 rfl rfl) h1
  clear hA0 hval0
  refine (matcherEarliest_row w0).mono fun e W' ⟨he, bel⟩ => ?_
  subst he
  exact ⟨_, rfl, _, _, _, [], _, [], hW', trodAll_mk1 (shut_bool Try.underlying4 _), (trodAll_cons_mk (Below.trod laidOut (by kernel_rfl) (of_decide_eq_true (by kernel_rfl)) h0 bel lt0) (trodAll_cons_mk (shut_int Try.underlying3 w1) trodAll_mk0)), rfl, bel.frame _, fun h => by cases h⟩

theorem matcherEarliest_holds : Rows.MatcherEarliestSaid :=
  OpenClaim.holds_of_wide 9 Try.f9 rfl rfl rfl rfl rfl rfl rfl ⟨rfl, rfl, rfl, rfl, rfl⟩ rfl rfl rfl rfl rfl (by kernel_rfl) Try.func9 (by kernel_rfl)
    (of_decide_eq_true (by kernel_rfl)) (by unfold Func.isWrapper; first | (rw [if_pos (by decide +kernel)]; kernel_rfl) | (rw [if_neg (by decide +kernel)]; exact ⟨rfl, rfl⟩))
    (fun os started H enc _ => matcherEarliest_lifted os started H enc)

end Go.Proofs.Ythadkjgadhbidaa
