/-
  The statement NfaSamples: it returns true for all arguments; no condition.
-/
import Derived.Test.YthadkjgadhbidaaWords
import Derived.Deep.Slices
import Derived.Deep.Fields
import Derived.ProofKit
import Derived.ChangeSame
import Derived.Test.YthadkjgadhbidaaRows
import Derived.WalkKit
import Derived.OpenShut
import Derived.ShutString
import Derived.ChangeOld
import Derived.Below
import Derived.Test.YthadkjgadhbidaaProg
import Derived.WalkSpells
import Derived.WalkLawsBesides
import Derived.Test.YthadkjgadhbidaaBytes
import Derived.BigQuiet
import Derived.IntWalk
import Derived.Test.YthadkjgadhbidaaMtF
import Derived.Test.YthadkjgadhbidaaNmQ2
import Derived.Test.YthadkjgadhbidaaVlW
import Derived.Test.YthadkjgadhbidaaNmQ3
import Derived.Test.YthadkjgadhbidaaMtP
import Derived.Test.YthadkjgadhbidaaTxt
import Derived.Test.YthadkjgadhbidaaSpP
import Derived.Test.YthadkjgadhbidaaNrT
import Derived.Test.YthadkjgadhbidaaRxF
import Derived.Lib.SlBytesConst
import Derived.Test.YthadkjgadhbidaaNfC
import Derived.Test.YthadkjgadhbidaaRgN
import Derived.Test.YthadkjgadhbidaaVlS
import Derived.Test.YthadkjgadhbidaaRxY
import Derived.Test.YthadkjgadhbidaaRxN
/-
  A slice that came in, read as data: its cells, element by element. No program in sight.
-/
namespace Go.Proofs.Ythadkjgadhbidaa
open Go.RowKit Go.ChangeShapes Go.WideShapes Go.Deep

/-- The cells of equal pieces, one behind the other. -/
theorem flatten_at {α : Type} {C : Nat} (hC : 0 < C) : ∀ (cells : List (List α)), (∀ cs ∈ cells, cs.length = C) → ∀ j u, cells.flatten[j]? = some u → ∃ cs, cells[j / C]? = some cs ∧ cs[j % C]? = some u := by
  intro cells
  induction cells with
  | nil => intro _ j u h; simp at h
  | cons a cells ih =>
    intro hl j u h
    have ha : a.length = C := hl a (by simp)
    rw [List.flatten_cons, List.getElem?_append] at h
    by_cases hj : j < C
    · rw [ha, if_pos hj] at h
      rw [Nat.div_eq_of_lt hj, Nat.mod_eq_of_lt hj]
      exact ⟨a, rfl, h⟩
    · rw [ha, if_neg hj] at h
      obtain ⟨cs, h1, h2⟩ := ih (fun cs hcs => hl cs (by simp [hcs])) _ _ h
      obtain ⟨i, rfl⟩ : ∃ i, j = i + C := ⟨j - C, by omega⟩
      rw [Nat.add_sub_cancel] at h1 h2
      rw [Nat.add_div_right _ hC, Nat.add_mod_right]
      exact ⟨cs, by simpa using h1, h2⟩
/-- From 'each element has an x' to a list of x. -/
theorem list_choose {α β : Type} (f : β → α) (p : β → Prop) : ∀ (l : List α), (∀ a ∈ l, ∃ b, a = f b ∧ p b) → ∃ m : List β, l = m.map f ∧ ∀ b ∈ m, p b := by
  intro l
  induction l with
  | nil => intro _; exact ⟨[], rfl, by simp⟩
  | cons a l ih =>
    intro h
    obtain ⟨b, hb, hp⟩ := h a (by simp)
    obtain ⟨m, hm, hq⟩ := ih (fun x hx => h x (by simp [hx]))
    refine ⟨b :: m, by rw [hb, hm]; rfl, fun x hx => ?_⟩
    rcases List.mem_cons.mp hx with rfl | hx
    · exact hp
    · exact hq x hx

section
variable {H : Type} {enc : TypeId × Value → H} {P : Program} {w : World} {base : Nat} {spare : Nat → Bool} {held : Bool}
theorem open_elems {t e : TypeId} {a : Option Addr} {len cap : Nat} {d : DataW H} {p : List MemPlace} (ht : P.underlying t = some (.slice e)) (hC : 0 < P.cellsOf e)
    (h : DataW.Trod enc P w base spare held t (.slice a len cap) d p) :
    ∃ cells : List (List Value), cells.length = len ∧ len ≤ cap ∧ cap ≤ maxLen ∧ Rs w a cells.flatten ∧ ∀ cs ∈ cells, cs.length = P.cellsOf e ∧ ∃ n y, DataW.trod enc P w base spare held n e cs = some y := by
  obtain ⟨fuel, hf⟩ := h
  rcases open_slice ht hf with ⟨hcs, _⟩ | ⟨x, l, c, m, n, D, Pl, hcs, _, hl, hm, hmm, _, hi⟩
  · simp [Value.cells] at hcs
    obtain ⟨rfl, rfl, rfl⟩ := hcs
    exact ⟨[], rfl, Nat.zero_le _, Nat.zero_le _, Rs.nil_, by simp⟩
  · simp [Value.cells] at hcs
    obtain ⟨rfl, rfl, rfl⟩ := hcs
    have hlm : len ≤ m := by rw [hmm]; split <;> omega
    obtain ⟨f, hf'⟩ := choose_lt (n := len) (p := fun i cs' => w.cells? base (x.add (i * P.cellsOf e)) (P.cellsOf e) = some cs' ∧ DataW.trod enc P w base spare held n e cs' = some (D i, Pl i)) (fun i hil => hi i (by omega))
    have hlen : ∀ cs ∈ (List.range len).map f, cs.length = P.cellsOf e := by
      intro cs hcs
      simp only [List.mem_map, List.mem_range] at hcs
      obtain ⟨i, hil, rfl⟩ := hcs
      exact (World.cells?_some (hf' i hil).1).2.1
    refine ⟨(List.range len).map f, by simp, hl, hm, ?_, fun cs hcs => ⟨hlen cs hcs, ?_⟩⟩
    · have hcell : ∀ j u, ((List.range len).map f).flatten[j]? = some u → w.cell? (x.add j) = some u := by
        intro j u hu
        obtain ⟨cs, h1, h2⟩ := flatten_at hC _ hlen j u hu
        have hj : j / P.cellsOf e < len := by
          have := (List.getElem?_eq_some_iff.mp h1).1
          simpa using this
        rw [List.getElem?_map, List.getElem?_range hj] at h1
        simp at h1
        subst h1
        have h3 := (World.cells?_some (hf' _ hj).1).2.2 (j % P.cellsOf e) (Nat.mod_lt _ hC)
        rw [add_add, h2, show j / P.cellsOf e * P.cellsOf e + j % P.cellsOf e = j from by rw [Nat.mul_comm]; exact Nat.div_add_mod _ _] at h3
        exact h3
      rcases Nat.eq_zero_or_pos ((List.range len).map f).flatten.length with h0 | h0
      · exact Or.inl (List.eq_nil_of_length_eq_zero h0)
      · have h1 := hcell 0 _ (List.getElem?_eq_getElem h0)
        have hsp : x.spot = none := by
          have := World.cell?_spot h1
          simpa [Addr.add] using this
        obtain ⟨b, off, sp⟩ := x
        simp at hsp
        subst hsp
        refine Or.inr ⟨b, off, rfl, fun j u hu => ?_⟩
        have := hcell j u hu
        rwa [Addr.add_lit] at this
    · simp only [List.mem_map, List.mem_range] at hcs
      obtain ⟨i, hil, rfl⟩ := hcs
      exact ⟨n, _, (hf' i hil).2⟩
/-- An integer of one cell. -/
theorem open_one {t : TypeId} {k : IntKind} {cs : List Value} {n : Nat} {y : DataW H × List MemPlace} (ht : P.underlying t = some (.int k)) (h : DataW.trod enc P w base spare held n t cs = some y) :
    ∃ x : Int, cs = [.int k x] ∧ (Lit.int k x).wf = true := by
  obtain ⟨a, ha, _, wa⟩ := DataW.trod_int ht h
  exact ⟨a, ha, wa⟩
end
end Go.Proofs.Ythadkjgadhbidaa
/-
  What every statement's last step uses: the program's start, integers that came in.
-/
namespace Go.Proofs.Ythadkjgadhbidaa
open Go.ChangeShapes Go.WideShapes Go.ChangeAt Go.RowKit
set_option linter.unusedVariables false
namespace Rw
theorem own : ownKnob Try.prog.godebug = none := by kernel_rfl
theorem laidOut : laidOutB Try.prog = true := by kernel_rfl
theorem u64 {x : Int} (h : (Lit.int .u64 x).wf = true) : 0 ≤ x ∧ x ≤ 18446744073709551615 := by
  simp [Lit.wf, IntKind.min, IntKind.max, IntKind.signed, IntKind.bits] at h
  exact ⟨by omega, by omega⟩
theorem i64 {x : Int} (h : (Lit.int .i64 x).wf = true) : -9223372036854775808 ≤ x ∧ x ≤ 9223372036854775807 := by
  simp [Lit.wf, IntKind.min, IntKind.max, IntKind.signed, IntKind.bits] at h
  exact ⟨by omega, by omega⟩
theorem u8 {x : Int} (h : (Lit.int .u8 x).wf = true) : 0 ≤ x ∧ x ≤ 255 := by
  simp [Lit.wf, IntKind.min, IntKind.max, IntKind.signed, IntKind.bits] at h
  exact ⟨by omega, by omega⟩
end Rw
end Go.Proofs.Ythadkjgadhbidaa
/-
  The walk of mill.Mod: the remainder from 0 on.
-/
namespace Go.Proofs.Ythadkjgadhbidaa
open Go.RowKit
set_option linter.unusedVariables false
theorem tmod_pos {v n : Int} (h : 0 ≤ v.tmod n) (hn : 1 ≤ n) : v.tmod n = v % n := by
  by_cases h0 : 0 ≤ v
  · exact Int.tmod_eq_emod_of_nonneg h0
  · have e := Int.neg_tmod (-v) n
    rw [Int.neg_neg, Int.tmod_eq_emod_of_nonneg (show 0 ≤ -v by omega)] at e
    have h1 := Int.emod_nonneg (-v) (show n ≠ 0 by omega)
    have h2 : (-v) % n = 0 := by omega
    rw [e, h2]
    have h3 : n ∣ -v := Int.dvd_of_emod_eq_zero h2
    have h4 : n ∣ v := by
      have := Int.dvd_neg.mpr h3
      rwa [Int.neg_neg] at this
    rw [Int.emod_eq_zero_of_dvd h4]; rfl
theorem tmod_neg {v n : Int} (h : v.tmod n < 0) (hn : 1 ≤ n) : v.tmod n + n = v % n ∧ -n < v.tmod n := by
  have h0 : ¬ 0 ≤ v := by
    intro h0
    rw [Int.tmod_eq_emod_of_nonneg h0] at h
    have := Int.emod_nonneg v (show n ≠ 0 by omega)
    omega
  have e := Int.neg_tmod (-v) n
  rw [Int.neg_neg, Int.tmod_eq_emod_of_nonneg (show 0 ≤ -v by omega)] at e
  have h1 := Int.emod_nonneg (-v) (show n ≠ 0 by omega)
  have h2 := Int.emod_lt_of_pos (-v) (show 0 < n by omega)
  rw [e] at h ⊢
  refine ⟨?_, by omega⟩
  have h3 : v = (n - (-v) % n) + n * (-((-v) / n) - 1) := by
    have h5 := Int.emod_add_mul_ediv (-v) n
    have h6 : n * (-((-v) / n) - 1) = -(n * ((-v) / n)) - n := by rw [Int.mul_sub, Int.mul_neg, Int.mul_one]
    rw [h6]
    generalize n * ((-v) / n) = X at *
    generalize (-v) % n = Y at *
    omega
  have h4 : v % n = (n - (-v) % n) % n := by
    conv => lhs; rw [h3]
    rw [Int.add_mul_emod_self_left]
  rw [h4]
  generalize (-v) % n = Y at *
  rw [Int.emod_eq_of_lt (by omega) (by omega)]
  omega
theorem mod_any (v n : Int) (hn : 1 ≤ n) (hn' : n ≤ 9223372036854775807) (w : World) :
    Calls Try.prog 18 #[.int .i64 v, .int .i64 n] w fun e w' => e = .returned (.int .i64 (v % n)) ∧ w = w' := by
  by_cases h : v.tmod n < 0
  · obtain ⟨e, hl⟩ := tmod_neg h hn
    have hb : (n == 0) = false := by simp; omega
    rw [← e]
    clear e
    go_enter Try.func18, Try.ntmps18
    go_wp2
    go_ret
    exact ⟨rfl, rfl⟩
  · have h' : 0 ≤ v.tmod n := by omega
    have e := tmod_pos h' hn
    have hb : (n == 0) = false := by simp; omega
    rw [← e]
    clear e h
    go_enter Try.func18, Try.ntmps18
    go_wp2
    go_ret
    exact ⟨rfl, rfl⟩
end Go.Proofs.Ythadkjgadhbidaa
/-
  The walks of mill's deck: New, Left, Next, Range, Output.
-/
namespace Go.Proofs.Ythadkjgadhbidaa
open Go.RowKit
set_option linter.unusedVariables false

def ints (l : List Int) : List Value := l.map (Value.int .i64)
theorem ints_length (l : List Int) : (ints l).length = l.length := by simp [ints]
theorem ints_get (l : List Int) (i : Nat) (h : i < l.length) : (ints l)[i]? = some (.int .i64 (l.getD i 0)) := by
  simp [ints, List.getElem?_map, List.getElem?_eq_getElem h, List.getD_eq_getElem?_getD]

/-- What a deck gives: the next number below n, and the numbers that are left. -/
def nx (l : List Int) (n : Int) : Int × List Int := match l with | [] => (0, []) | v :: r => (v % n, r)
theorem nx_bd (l : List Int) {n : Int} (hn : 1 ≤ n) : 0 ≤ (nx l n).1 ∧ (nx l n).1 < n := by
  cases l with
  | nil => exact ⟨Int.le_refl _, by show (0 : Int) < n; omega⟩
  | cons v r => exact ⟨Int.emod_nonneg _ (by omega), Int.emod_lt_of_pos _ (by omega)⟩

/-- The deck in block g: its numbers lie below block B. -/
def Dk (w : World) (B g : Nat) (l : List Int) : Prop :=
  B ≤ g ∧ ∃ (A : Option Addr) (c : Nat) (at_ : Nat) (full : List Int), w.heap[g]? = some (.cells #[.slice A full.length c, .int .i64 at_] 112 (0, 0)) ∧ at_ ≤ full.length ∧ full.length ≤ maxLen ∧ l = full.drop at_ ∧
    (full = [] ∨ ∃ b off, A = some ⟨b, off, none⟩ ∧ b < B ∧ ∀ j u, (ints full)[j]? = some u → w.cell? ⟨b, off + j, none⟩ = some u)
theorem Dk.lt {w : World} {B g : Nat} {l : List Int} (h : Dk w B g l) : g < w.heap.size := by
  obtain ⟨_, A, c, at_, full, h1, _⟩ := h
  exact lt_of_block h1
theorem Dk.up {w w' : World} {B g : Nat} {l : List Int} (h : Dk w B g l) (hb : Old w w') : Dk w' B g l := by
  obtain ⟨h0, A, c, at_, full, h1, h2, h3, h4, h5⟩ := h
  refine ⟨h0, A, c, at_, full, hb.block h1, h2, h3, h4, ?_⟩
  rcases h5 with h5 | ⟨b, off, hA, hlt, hc⟩
  · exact Or.inl h5
  · exact Or.inr ⟨b, off, hA, hlt, fun j u hu => hb.cell (hc j u hu)⟩
/-- Another block than the deck, from B on, has turned. -/
theorem Dk.far {w w' : World} {B g : Nat} {l : List Int} (h : Dk w B g l) {row : Option Nat} (hg : w.grownBy w' row) (hne : row ≠ some g) (hB : ∀ k, row = some k → B ≤ k) : Dk w' B g l := by
  obtain ⟨h0, A, c, at_, full, h1, h2, h3, h4, h5⟩ := h
  refine ⟨h0, A, c, at_, full, (hg.block g (lt_of_block h1) (fun e => hne e.symm)).trans h1, h2, h3, h4, ?_⟩
  rcases h5 with h5 | ⟨b, off, hA, hlt, hc⟩
  · exact Or.inl h5
  · exact Or.inr ⟨b, off, hA, hlt, fun j u hu => hg.cell (hc j u hu) (fun e => by have := hB b e.symm; omega)⟩
/-- A row of the call's own was appended to. -/
theorem Dk.push {w w' : World} {B g : Nat} {l : List Int} (h : Dk w B g l) {base size n : Nat} {e : TypeId} {v : Value} {xs : List Value} (hown : Own w base e size v n xs) (hne : e ≠ 112) (hB : B ≤ base) (hg : w.grownBy w' v.ownBlock) : Dk w' B g l := by
  refine h.far hg ?_ (fun k hk => Nat.le_trans hB (World.ownsRow.lt hown k hk).1)
  intro hk
  obtain ⟨_, A, c, at_, full, h1, _⟩ := h
  rcases hown with ⟨_, ⟨rfl, _⟩ | ⟨g', cap, cu, rfl, _, hgg, _⟩⟩
  · simp [Value.ownBlock] at hk
  · simp [Value.ownBlock] at hk
    subst hk
    rw [hgg] at h1
    simp at h1
    exact hne h1.2
/-- What stays when the deck is turned. -/
theorem Dk.own {w w' : World} {B g : Nat} {l : List Int} (h : Dk w B g l) (hg : w.grownBy w' (some g)) {base size n : Nat} {e : TypeId} {v : Value} {xs : List Value} (hown : Own w base e size v n xs) (hne : e ≠ 112) : Own w' base e size v n xs := by
  obtain ⟨_, A, c, at_, full, h1, _⟩ := h
  refine World.ownsRow.kept hown hg ?_
  rcases hown with ⟨_, ⟨rfl, _⟩ | ⟨g', cap, cu, rfl, _, hgg, _⟩⟩
  · exact Or.inl rfl
  · refine Or.inr ?_
    intro hk
    simp [Value.ownBlock] at hk
    subst hk
    rw [hgg] at h1
    simp at h1
    exact hne h1.2
theorem Dk.ts {w w' : World} {B g : Nat} {l : List Int} (h : Dk w B g l) (hg : w.grownBy w' (some g)) {e : TypeId} {A : Option Addr} {xs : List Value} (ht : Ts w e A xs) (hne : e ≠ 112) : Ts w' e A xs := by
  obtain ⟨_, A', c, at_, full, h1, _⟩ := h
  rcases ht with rfl | ⟨b, off, cur, fz, rfl, hh, hc⟩
  · exact Ts.nil_
  · refine Or.inr ⟨b, off, cur, fz, rfl, ?_, hc⟩
    rw [hg.block b (lt_of_block hh) ?_]
    · exact hh
    · intro hk
      injection hk with hk
      subst hk
      rw [hh] at h1
      simp at h1
      exact hne h1.2.1
theorem Dk.fs {w w' : World} {B g : Nat} {l : List Int} (h : Dk w B g l) (hg : w.grownBy w' (some g)) {A : Option Addr} {xs : List Value} (ht : Fs w A xs) : Fs w' A xs := by
  obtain ⟨_, A', c, at_, full, h1, _⟩ := h
  exact ht.far h1 hg
theorem Dk.old {w0 w w' : World} {g : Nat} (h0 : Old w0 w) (hg : w.grownBy w' (some g)) (hle : w0.heap.size ≤ g) : Old w0 w' :=
  Below.grown h0 hg h0.size (by intro k hk; injection hk with hk; omega)

theorem newDeck (A : Option Addr) (c : Nat) (l : List Int) (w : World) (hr : Rs w A (ints l)) (hm : l.length ≤ maxLen) :
    Calls Try.prog 28 #[.slice A l.length c] w fun e w' => e = .returned (.pointer (some ⟨w.heap.size, 0, none⟩)) ∧ Dk w' w.heap.size w.heap.size l ∧ Old w w' := by
  go_enter Try.func28, Try.ntmps28
  go_wp2_with fail
  go_ret
  refine ⟨rfl, ⟨Nat.le_refl _, A, c, 0, l, heap_alloc_new w _, Nat.zero_le _, hm, rfl, ?_⟩, (Old.refl w).alloc _⟩
  rcases (hr.alloc (.cells #[.slice A l.length c, .int .i64 0] 112)) with h | ⟨b, off, hA, hc⟩
  · left; simpa [ints] using h
  · rcases Nat.eq_zero_or_pos l.length with h0 | h0
    · left; exact List.eq_nil_of_length_eq_zero h0
    · obtain ⟨b', off', hA', hlt, _⟩ := hr.at_ (by rw [ints_length]; exact h0)
      rw [hA] at hA'
      simp only [Option.some.injEq, Addr.mk.injEq, and_true] at hA'
      obtain ⟨rfl, rfl⟩ := hA'
      exact Or.inr ⟨b, off, hA, hlt, hc⟩

theorem leftDeck (B g : Nat) (l : List Int) (w : World) (h : Dk w B g l) :
    Calls Try.prog 59 #[.pointer (some ⟨g, 0, none⟩)] w fun e w' => e = .returned (.bool (!l.isEmpty)) ∧ ∃ k, w' = w.drewN k := by
  obtain ⟨_, A, c, at_, full, h1, h2, h3, rfl, _⟩ := h
  unfold maxLen at h3
  have c0 : w.cell? ⟨g, 0, none⟩ = some (.slice A full.length c) := by rw [cell_of_row w g 0 _ _ _ h1]; rfl
  have c1 : w.cell? ⟨g, 1, none⟩ = some (.int .i64 at_) := by rw [cell_of_row w g 1 _ _ _ h1]; rfl
  have he : (!(full.drop at_).isEmpty) = decide (at_ < full.length) := by
    by_cases hl : at_ < full.length
    · have : full.drop at_ ≠ [] := by simp; omega
      simp [hl]
    · simp [hl]; omega
  rw [he]
  clear he h1
  go_enter Try.func59, Try.ntmps59
  go_wp2_with fail
  go_quiet (fail)
  go_wp2_with fail
  go_ret
  exact ⟨rfl, _, rfl⟩

def NextPost (w : World) (B g : Nat) (r : Int × List Int) (e : Ending) (w' : World) : Prop := e = .returned (.int .i64 r.1) ∧ Dk w' B g r.2 ∧ w.grownBy w' (some g)
theorem nextDeck (B g : Nat) (l : List Int) (n : Int) (w : World) (h : Dk w B g l) (hn : 1 ≤ n) (hn' : n ≤ 9223372036854775807) :
    Calls Try.prog 30 #[.pointer (some ⟨g, 0, none⟩), .int .i64 n] w (NextPost w B g (nx l n)) := by
  have hL := leftDeck B g l w h
  obtain ⟨h0, A, c, at_, full, h1, h2, h3, rfl, h5⟩ := h
  have h3' := h3
  unfold maxLen at h3
  by_cases hl : at_ < full.length
  · have he : (!(full.drop at_).isEmpty) = true := by
      have : full.drop at_ ≠ [] := by simp; omega
      simp; omega
    rw [he] at hL
    have HL := Lib.hid hL
    have hnx : nx (full.drop at_) n = ((full.getD at_ 0) % n, full.drop (at_ + 1)) := by
      rw [List.drop_eq_getElem_cons hl, List.getD_eq_getElem?_getD, List.getElem?_eq_getElem hl]; rfl
    rw [hnx]
    have hf : full ≠ [] := by intro h; rw [h] at hl; simp at hl
    obtain ⟨b, off, rfl, hlt, hc⟩ := h5.resolve_left hf
    have hbg : b ≠ g := by omega
    have hx := hc _ _ (ints_get full at_ hl)
    have hgl := lt_of_block h1
    have c0 : w.cell? ⟨g, 0, none⟩ = some (.slice (some ⟨b, off, none⟩) full.length c) := by rw [cell_of_row w g 0 _ _ _ h1]; rfl
    have c1 : w.cell? ⟨g, 1, none⟩ = some (.int .i64 at_) := by rw [cell_of_row w g 1 _ _ _ h1]; rfl
    have f1 : w.frozen? ⟨g, 1, none⟩ = false := frozen_of_row w g 1 _ _ h1
    have hset := heap_setCell_same w g 1 _ _ (.int .i64 ((at_ : Int) + 1)) h1
    have hgr : w.grownBy (w.setCell ⟨g, 1, none⟩ (.int .i64 ((at_ : Int) + 1))) (some g) :=
      ⟨rfl, rfl, rfl, by simp, fun k _ hk => heap_setCell_other w ⟨g, 1, none⟩ k _ (fun e => hk (by simp [e]))⟩
    have HC := Lib.hid hc
    have HS := Lib.hid hset
    have HE := Lib.hid he
    clear he hL hnx hf hc hset h5
    generalize full.getD at_ 0 = x at *
    go_enter Try.func30, Try.ntmps30
    go_wp2_with fail
    refine (HL.out).mono ?_; rintro e w' ⟨rfl, n', rfl⟩
    go_wp2_with fail
    have d0 : ((w.drewN n').setCell ⟨g, 1, none⟩ (.int .i64 ((at_ : Int) + 1))).cell? ⟨g, 0, none⟩ = some (.slice (some ⟨b, off, none⟩) full.length c) := by
      rw [cell_of_row _ g 0 _ _ _ (show ((w.drewN n').setCell ⟨g, 1, none⟩ (.int .i64 ((at_ : Int) + 1))).heap[g]? = _ from HS.out)]; rfl
    have d1 : ((w.drewN n').setCell ⟨g, 1, none⟩ (.int .i64 ((at_ : Int) + 1))).cell? ⟨g, 1, none⟩ = some (.int .i64 ((at_ : Int) + 1)) := by
      rw [cell_of_row _ g 1 _ _ _ (show ((w.drewN n').setCell ⟨g, 1, none⟩ (.int .i64 ((at_ : Int) + 1))).heap[g]? = _ from HS.out)]; rfl
    have d2 : ((w.drewN n').setCell ⟨g, 1, none⟩ (.int .i64 ((at_ : Int) + 1))).cell? ⟨b, off + at_, none⟩ = some (.int .i64 x) := by
      rw [World.cell?_setCell_other _ _ _ _ (by intro h; injection h with h; exact hbg h.symm)]; exact hx
    have hdk : Dk ((w.drewN n').setCell ⟨g, 1, none⟩ (.int .i64 ((at_ : Int) + 1))) B g (full.drop (at_ + 1)) := by
      refine ⟨h0, some ⟨b, off, none⟩, c, at_ + 1, full, HS.out, by omega, h3', rfl, Or.inr ⟨b, off, rfl, hlt, fun j u hu => ?_⟩⟩
      rw [World.cell?_setCell_other _ _ _ _ (by intro h; injection h with h; exact hbg h.symm)]; exact HC.out j u hu
    have hgg : w.grownBy ((w.drewN n').setCell ⟨g, 1, none⟩ (.int .i64 ((at_ : Int) + 1))) (some g) := ⟨hgr.os, hgr.tape, hgr.output, hgr.size, hgr.block⟩
    have i5 : IntKind.i64.wrap ((at_ : Int) + 1 - 1) = (at_ : Int) := by rw [IntWalk.i64_in _ (by omega)]; omega
    have i1 : (0 : Int) ≤ (at_ : Int) := by omega
    have i2 : (at_ : Int) < (full.length : Int) := by omega
    clear h1 c0 c1 hx f1 hgr HC HS HE HL
    generalize (w.drewN n').setCell ⟨g, 1, none⟩ (.int .i64 ((at_ : Int) + 1)) = W at *
    go_quiet ((go_at_call 18; exact quiet_same (mod_any x n hn hn' _)))
    clear i5
    go_wp2_with fail
    go_ret
    exact ⟨rfl, hdk, grown_drewN hgg _⟩
  · have he : full.drop at_ = [] := List.drop_eq_nil_of_le (by omega)
    rw [he] at hL
    rw [he]
    have HL := Lib.hid hL
    clear hL
    go_enter Try.func30, Try.ntmps30
    go_wp2_with fail
    refine (HL.out).mono ?_; rintro e w' ⟨rfl, n', rfl⟩
    go_wp2_with fail
    go_ret
    exact ⟨rfl, ⟨h0, A, c, at_, full, h1, h2, h3', he.symm, h5⟩, ⟨rfl, rfl, rfl, Nat.le_refl _, fun _ _ _ => rfl⟩⟩

theorem rangeDeck (B g : Nat) (l : List Int) (lo hi : Int) (w : World) (h : Dk w B g l) (h0 : 0 ≤ lo) (h1 : lo ≤ hi) (h2 : hi ≤ 1000000) :
    Calls Try.prog 29 #[.pointer (some ⟨g, 0, none⟩), .int .i64 lo, .int .i64 hi] w (NextPost w B g (lo + (nx l (hi - lo + 1)).1, (nx l (hi - lo + 1)).2)) := by
  have hN := nextDeck B g l (hi - lo + 1) w h (by omega) (by omega)
  have hbd := nx_bd l (show 1 ≤ hi - lo + 1 by omega)
  have HN := Lib.hid hN
  clear hN
  generalize nx l (hi - lo + 1) = r at *
  obtain ⟨b0, b1⟩ := hbd
  go_enter Try.func29, Try.ntmps29
  go_wp2_with fail
  refine (HN.out).mono ?_; rintro e w' ⟨rfl, hd, hg⟩
  go_wp2_with fail
  go_ret
  exact ⟨rfl, hd, hg⟩

end Go.Proofs.Ythadkjgadhbidaa
/-
  Arguments that are slices of ints and of bytes.
-/
namespace Go.Proofs.Ythadkjgadhbidaa
open Go.ChangeShapes Go.WideShapes Go.ChangeAt Go.RowKit Rw
set_option linter.unusedVariables false

theorem flat_singles {α : Type} (f : α → Value) (l : List α) : (l.map fun x => [f x]).flatten = l.map f := by
  induction l with
  | nil => rfl
  | cons x l ih => simp only [List.map_cons, List.flatten_cons, ih]; rfl
theorem open_intl {H : Type} {enc : TypeId × Value → H} {w : World} {base : Nat} {spare : Nat → Bool} {held : Bool} {a : Option Addr} {len cap : Nat} {d : DataW H} {p : List MemPlace}
    (h : DataW.Trod enc Try.prog w base spare held 22 (.slice a len cap) d p) :
    ∃ l : List Int, l.length = len ∧ len ≤ maxLen ∧ Rs w a (ints l) := by
  obtain ⟨cells, hl, hc1, hc2, hr, hc⟩ := open_elems Try.underlying22 (show 0 < Try.prog.cellsOf 3 by decide +kernel) h
  obtain ⟨l, rfl, hp⟩ := list_choose (fun x : Int => [Value.int .i64 x]) (fun _ => True) cells (fun cs hcs => by
    obtain ⟨_, n, y, hy⟩ := hc cs hcs
    obtain ⟨x, h1, h2⟩ := open_one Try.underlying3 hy
    exact ⟨x, h1, trivial⟩)
  refine ⟨l, by simpa using hl, by omega, ?_⟩
  rw [flat_singles] at hr
  exact hr
end Go.Proofs.Ythadkjgadhbidaa
/-
  newMatcher.
-/
namespace Go.Proofs.Ythadkjgadhbidaa
open Go.RowKit
set_option linter.unusedVariables false

theorem info_mbo : (Try.prog.info? 4).map (fun i => (i.zero, i.size, i.bytes)) = some (some (.bool false), 1, 1) := by kernel_rfl
theorem made_mkm (m : Nat) : (madeCells #[Value.bool false] m).toList = mkm m [] := by
  unfold madeCells mkm
  rw [Array.toList_map, Array.toList_range]
  apply List.map_congr_left
  intro k _
  have e : k % #[Value.bool false].size = 0 := Nat.mod_one k
  rw [e]
  simp
theorem own_full {w : World} {B : Nat} {e : TypeId} {g n : Nat} {xs : List Value} (h : Own w B e 1 (.slice (some ⟨g, 0, none⟩) n n) n xs) : w.heap[g]? = some (.cells xs.toArray e (0, 0)) := by
  rcases h with ⟨h1, ⟨h2, _⟩ | ⟨g', cap, cur, h2, hg, hh, hn, hm, hs, hx⟩⟩
  · cases h2
  · injection h2 with e1 _ e3
    injection e1 with e1
    injection e1 with e1
    subst e1
    subst e3
    rw [hh]
    have : cur.toList = xs := by rw [← hx, List.take_of_length_le (by simp; omega)]
    rw [← this]
end Go.Proofs.Ythadkjgadhbidaa
/-
  The walk of Compile (nfa).
-/
namespace Go.Proofs.Ythadkjgadhbidaa
open Go.RowKit
set_option linter.unusedVariables false

def NComp (w : World) (l : List Nd) (e : Ending) (w' : World) : Prop :=
  (validM l = true → ∃ v, e = .returned (.tuple #[v, .int .i64 0]) ∧ Own w' w.heap.size 42 7 v (pcompM l).length (ndsV (pcompM l))) ∧ (validM l = false → e = .returned (.tuple #[.slice none 0 0, .int .i64 3])) ∧ Old w w'
set_option maxHeartbeats 8000000 in
set_option maxRecDepth 100000 in
theorem ncompC (A : Option Addr) (c : Nat) (l : List Nd) (w : World) (hr : Rs w A (ndsV l)) (hm : l.length ≤ maxLen) (hso : ∀ x ∈ l, setOk x.set) :
    Calls Try.prog 12 #[.slice A l.length c] w (NComp w l) := by
  have hV := validC A c l w hr hm hso
  cases hv : validM l with
  | false =>
    rw [hv] at hV
    have HV := Lib.hid hV
    have HE : Hid (validM l = true → False) := Lib.hid (by rw [hv]; intro h; cases h)
    clear hV hr hso hm
    go_enter Try.func12, Try.ntmps12
    go_wp2_with fail
    refine (HV.out).mono ?_; rintro e V ⟨rfl, hd⟩
    have HD := Lib.hid hd
    clear hd HV
    go_wp2_with fail
    refine bodyPost_ret (v := .tuple #[.slice none 0 0, .int .i64 3]) (by simp [results, Try.results12, go_sem]) rfl ?_
    exact ⟨fun h => (HE.out h).elim, fun _ => rfl, HD.out⟩
  | true =>
    rw [hv] at hV
    have HV := Lib.hid hV
    have HLN := Lib.hid (validM_len hv)
    have HSB := Lib.hid (validM_sub hv)
    have HVV := Lib.hid hv
    have HR := Lib.hid hr
    have HSO := Lib.hid hso
    clear hV hr hso hm hv
    go_enter Try.func12, Try.ntmps12
    go_wp2_with fail
    refine (HV.out).mono ?_; rintro e V ⟨rfl, hd⟩
    have HD := Lib.hid hd
    have HRV := Lib.hid (HR.out.up hd)
    clear hd HV HR
    go_upto_region 4 with fail
    have hb0 : NB V (V.alloc (.cells #[.slice A l.length c, .slice none 0 0] 65)) (V.heap.size + 1) V.heap.size A l.length c (.slice none 0 0) [] :=
      ⟨(Old.refl V).alloc _, heap_alloc_new V _, Own.nil_ _ _ _ _, Nat.le_refl _, Nat.lt_succ_self _, by simp⟩
    have HA := naddC V (V.heap.size + 1) V.heap.size A l.length c (.slice none 0 0) [] _ hb0 (by simp) ⟨2, 0, 0, 0⟩
    unfold stA at HA
    simp only [setW_zero] at HA
    have HAH := Lib.hid HA
    clear HA hb0
    generalize V.alloc (.cells #[.slice A l.length c, .slice none 0 0] 65) = W at *
    go_wp2_with fail
    refine (HAH.out).mono ?_; rintro e w2 ⟨rfl, lv2, hb2, hf2⟩
    have HA := naddC V (V.heap.size + 1) V.heap.size A l.length c lv2 [⟨2, 0, 0, 0⟩] w2 hb2 (by simp) ⟨5, 0, 0, 0⟩
    unfold stA at HA
    simp only [setW_zero] at HA
    have HAH2 := Lib.hid HA
    clear HA hb2 hf2 HAH
    go_wp2_with fail
    refine (HAH2.out).mono ?_; rintro e w3 ⟨rfl, lv3, hb3, hf3⟩
    have hl1 := HLN.out
    obtain ⟨k, hk⟩ : ∃ k, l.length = k + 1 := ⟨l.length - 1, by omega⟩
    have hk1 : l.length - 1 = k := by omega
    have hsub := HSB.out
    rw [hk1] at hsub
    have HC := nbuildC V (V.heap.size + 1) V.heap.size A c l HRV.out (by omega) HSO.out hsub l.length 1 [⟨2, 0, 0, 0⟩, ⟨5, 0, 0, 0⟩] lv3 w3 (by omega) (by simp; omega) (by omega) hb3
    have hm := pbF_made hsub l.length 1 [⟨2, 0, 0, 0⟩, ⟨5, 0, 0, 0⟩] (by omega)
    have HPC : Hid (pcompM l = (pbF l l.length k 1 [⟨2, 0, 0, 0⟩, ⟨5, 0, 0, 0⟩]).1.set 0 ⟨2, (pbF l l.length k 1 [⟨2, 0, 0, 0⟩, ⟨5, 0, 0, 0⟩]).2, (pbF l l.length k 1 [⟨2, 0, 0, 0⟩, ⟨5, 0, 0, 0⟩]).2, 0⟩) := Lib.hid (by unfold pcompM; rw [hk1])
    generalize pbF l l.length k 1 [⟨2, 0, 0, 0⟩, ⟨5, 0, 0, 0⟩] = r at *
    obtain ⟨R, v⟩ := r
    have HM := Lib.hid hm
    have HCC := Lib.hid HC
    have hke : (l.length : Int) - 1 = (k : Int) := by omega
    clear hm HC hb3 hf3 HAH2 hsub HRV HSO HSB hk1
    generalize l.length = L at *
    subst hk
    go_wp2_with fail
    refine (HCC.out).mono ?_; rintro e w4 ⟨rfl, lv4, hb4, hf4⟩
    have hlR : 2 ≤ R.length := HM.out.len
    have hx0 : R[0]? = some ⟨2, 0, 0, 0⟩ := by
      have h5 : nd R 0 = ⟨2, 0, 0, 0⟩ := HM.out.old 0 (by simp)
      have hlt : 0 < R.length := by omega
      unfold nd at h5
      rw [List.getD_eq_getElem?_getD, List.getElem?_eq_getElem hlt] at h5
      rw [List.getElem?_eq_getElem hlt]
      exact congrArg some h5
    obtain ⟨gb, cb, rfl, _, _, _, _⟩ := hb4.own.form (show 0 < R.length by omega)
    obtain ⟨q1, q2⟩ := hb4.own.cellAt (j := 1) (u := .int .i64 0) (by have := ndsV_get R 0 _ hx0 1 (by omega); rw [Nat.zero_mul, Nat.zero_add] at this; rw [this]; rfl)
    obtain ⟨hb5, hf5⟩ := hb4.put_ hx0 (x' := ⟨2, v, 0, 0⟩) (.int .i64 (v : Int)) (c := 1) (by omega) rfl
    rw [Nat.zero_mul, Nat.zero_add] at hb5
    obtain ⟨_, e1, _⟩ := hb4.cells
    have hx1 : (R.set 0 ⟨2, v, 0, 0⟩)[0]? = some ⟨2, v, 0, 0⟩ := List.getElem?_set_self (by omega)
    have HB4 := Lib.hid hb4
    clear hb4 hf4 hf5 HCC
    have j1 : (0 : Int) < (R.length : Int) := by omega
    go_upto_region 8 with fail
    generalize w4.setCell ⟨gb, 1, none⟩ (.int .i64 (v : Int)) = w5 at *
    clear q1 q2 e1
    have hb5' : NB V w5 (V.heap.size + 1) V.heap.size A (k + 1) c (.slice (some ⟨gb, 0, none⟩) (R.set 0 ⟨2, v, 0, 0⟩).length cb) (R.set 0 ⟨2, v, 0, 0⟩) := by rw [List.length_set]; exact hb5
    obtain ⟨q1, q2⟩ := hb5'.own.cellAt (j := 2) (u := .int .i64 0) (by have := ndsV_get _ 0 _ hx1 2 (by omega); rw [Nat.zero_mul, Nat.zero_add] at this; rw [this]; rfl)
    obtain ⟨hb6, hf6⟩ := hb5'.put_ hx1 (x' := ⟨2, v, v, 0⟩) (.int .i64 (v : Int)) (c := 2) (by omega) rfl
    rw [Nat.zero_mul, Nat.zero_add] at hb6
    obtain ⟨_, e1, _⟩ := hb5.cells
    rw [List.set_set] at hb6
    clear hb5 hb5' hf6 hx1
    go_upto_region 9 with fail
    generalize w5.setCell ⟨gb, 2, none⟩ (.int .i64 (v : Int)) = w6 at *
    clear q1 q2 e1
    obtain ⟨_, e1, _⟩ := hb6.cells
    rw [List.length_set] at e1
    have hown := hb6.own
    have HOW := Lib.hid (hown.base (base' := w.heap.size) (by have := HD.out.size; omega))
    have HOL := Lib.hid (HD.out.up hb6.old)
    clear hb6 hown
    go_wp2_with fail
    refine bodyPost_ret (v := .tuple #[.slice (some ⟨gb, 0, none⟩) R.length cb, .int .i64 0]) (by simp [results, Try.results12, go_sem]) rfl ?_
    refine ⟨fun _ => ⟨_, rfl, ?_⟩, fun h => ?_, HOL.out⟩
    · rw [HPC.out]
      have := HOW.out
      simp only [List.length_set] at this ⊢
      exact this
    · rw [HVV.out] at h; cases h
end Go.Proofs.Ythadkjgadhbidaa
/-
  The program's reader of patterns: what its functions leave, and the walk of group.
-/
namespace Go.Proofs.Ythadkjgadhbidaa
open Go.RowKit
set_option linter.unusedVariables false

theorem shiftNd_shiftNd (n m : Int) (x : Nd) : shiftNd n (shiftNd m x) = shiftNd (n + m) x := by
  unfold shiftNd shiftN
  simp only
  congr 1
  · split <;> omega
  · split <;> omega
/-- Room for what is still to come. -/
def Room (s : ByteArray) (a : Nat) (N : List Nd) : Prop := N.length + 4 * (s.size + 1 - a) ≤ 100000
theorem Room.len {s : ByteArray} {a : Nat} {N : List Nd} (h : Room s a N) : N.length ≤ 100000 := by unfold Room at h; omega
end Go.Proofs.Ythadkjgadhbidaa
/-
  The program's reader of patterns: atom.
-/
namespace Go.Proofs.Ythadkjgadhbidaa
open Go.RowKit
set_option linter.unusedVariables false

end Go.Proofs.Ythadkjgadhbidaa
/-
  The program's reader of patterns: part.
-/
namespace Go.Proofs.Ythadkjgadhbidaa
open Go.RowKit
set_option linter.unusedVariables false

end Go.Proofs.Ythadkjgadhbidaa
/-
  The program's reader of patterns: alternative.
-/
namespace Go.Proofs.Ythadkjgadhbidaa
open Go.RowKit
set_option linter.unusedVariables false

end Go.Proofs.Ythadkjgadhbidaa
/-
  The program's reader of patterns: pattern.
-/
namespace Go.Proofs.Ythadkjgadhbidaa
open Go.RowKit
set_option linter.unusedVariables false

end Go.Proofs.Ythadkjgadhbidaa
/-
  The walk of the reference's Parse.
-/
namespace Go.Proofs.Ythadkjgadhbidaa
open Go.RowKit
set_option linter.unusedVariables false

theorem all_ok : ∀ f : Nat, AltOK f ∧ CatOK f ∧ PartOK f ∧ AtomOK f := by
  intro f
  induction f using Nat.strongRecOn with
  | _ f ih =>
    cases f with
    | zero =>
      refine ⟨?_, ?_, ?_, ?_⟩
      · intro g s p R w _ _ _ h; simp [altP] at h
      · intro g s p R w _ _ _ h; simp [catP] at h
      · intro g s p R w _ _ _ _ h; simp [partP] at h
      · intro g s p R w _ _ _ _ h; simp [atomP] at h
    | succ f =>
      refine ⟨altC f (fun k hk => (ih k (by omega)).2.1), catC f (fun k hk => (ih k (by omega)).2.2.1), partC f (ih f (by omega)).2.2.2, ?_⟩
      intro g s p R w h1 h2 h3 h4 h5
      exact atomC f (ih f (by omega)).1 g s p R w h1 h2 h3 h4 h5
def ParsePost (w : World) (r : List Nd × Int) (e : Ending) (w' : World) : Prop := ∃ v, e = .returned (.tuple #[v, .int .i64 r.2]) ∧ Own w' w.heap.size 114 7 v r.1.length (ndsV r.1) ∧ Old w w'
theorem LB.start {w w' : World} {s : ByteArray} {q : Ps} {v : Value} {l : List Nd} {o : Obj} (h : LB (w.alloc o) s w.heap.size q v l w') : Own w' w.heap.size 114 7 v l.length (ndsV l) ∧ Old w w' := by
  refine ⟨h.ow.base (by simp), ?_⟩
  exact Below.grown ((Old.refl w).alloc o) h.gr (by simp) (by intro k hk; injection hk with hk; omega)
set_option maxHeartbeats 4000000 in
set_option maxRecDepth 100000 in
theorem parseC (f : Nat) (s : ByteArray) (r : List Nd × Int) (w : World) (hs : s.size ≤ 9223372036854775807) (hR : parseF f (bs s) = some r) : Calls Try.prog 22 #[.string s] w (ParsePost w r) := by
  unfold parseF at hR
  rw [bs_length] at hR
  by_cases hl : 128 < s.size
  · rw [if_pos hl] at hR
    have HE := Lib.hid (Option.some.inj hR).symm
    have hl2 : (128 : Int) < (s.size : Int) := by omega
    clear hR hl
    go_enter Try.func22, Try.ntmps22
    go_wp2_with fail
    refine bodyPost_ret (v := .tuple #[.slice none 0 0, .int .i64 1]) (by simp [results, Try.results22, go_sem]) rfl ?_
    rw [HE.out]
    exact ⟨_, rfl, Own.nil_ _ _ _ _, Old.refl _⟩
  rw [if_neg hl] at hR
  cases hq : altP (bs s) f ⟨0, 0, 0⟩ with
  | none => rw [hq] at hR; cases hR
  | some lp =>
  rw [hq] at hR
  obtain ⟨l, q⟩ := lp
  have hst : Start s.size ⟨0, 0, 0⟩ := ⟨rfl, Nat.zero_le _, Nat.zero_le _⟩
  have hP : (w.alloc (PzC s ⟨0, 0, 0⟩)).heap[w.heap.size]? = some (PzC s ⟨0, 0, 0⟩) := heap_alloc_new w _
  have hA := (all_ok f).1 w.heap.size s ⟨0, 0, 0⟩ (l, q) (w.alloc (PzC s ⟨0, 0, 0⟩)) hP (by omega) hst hq
  have hG : Good (bs s).length ⟨0, 0, 0⟩ l q 0 := (parse_good (bs s) f).1 ⟨0, 0, 0⟩ (l, q) (by rw [bs_length]; exact hst) hq
  rw [bs_length] at hG
  obtain ⟨a, d, e⟩ := q
  have hatb := hG.atb
  have hlen := hG.len
  simp only at hatb
  have hl2 : ¬ (128 : Int) < (s.size : Int) := by omega
  have hR2 : r = (if (if (if e = 0 ∧ a < s.size then failP ⟨a, d, e⟩ 83 else ⟨a, d, e⟩ : Ps).e = 0 ∧ 256 < l.length then failP (if e = 0 ∧ a < s.size then failP ⟨a, d, e⟩ 83 else ⟨a, d, e⟩) 1 else (if e = 0 ∧ a < s.size then failP ⟨a, d, e⟩ 83 else ⟨a, d, e⟩) : Ps).e = 0 then (l, 0) else ([], (if (if e = 0 ∧ a < s.size then failP ⟨a, d, e⟩ 83 else ⟨a, d, e⟩ : Ps).e = 0 ∧ 256 < l.length then failP (if e = 0 ∧ a < s.size then failP ⟨a, d, e⟩ 83 else ⟨a, d, e⟩) 1 else (if e = 0 ∧ a < s.size then failP ⟨a, d, e⟩ 83 else ⟨a, d, e⟩) : Ps).e)) := (Option.some.inj hR).symm
  have HR2 := Lib.hid hR2
  have HA := Lib.hid hA
  clear hA hR hR2 hG hq hst hP hl
  go_enter Try.func22, Try.ntmps22
  go_wp2_with fail
  refine (HA.out).mono ?_; rintro e V ⟨v, rfl, hL⟩
  go_upto_region 5 with fail
  obtain ⟨c0, c1, c2, c3, f1', f2', f3'⟩ := PzC_cells hL.pz
  simp only at c0 c1 c2 c3
  clear c0 c2 f1' f2' f3'
  obtain ⟨Al, cl, rfl, htl, _⟩ := hL.ow.shape
  clear htl
  by_cases he : e = 0
  · subst he
    by_cases hal : a < s.size
    · have HE : Hid (r = ([], 83)) := Lib.hid (by rw [HR2.out]; simp [hal, failP])
      have hd1 : decide (a < s.size) = true := decide_eq_true hal
      clear HR2 hal
      have HFL := Lib.hid (failC w.heap.size s ⟨a, d, 0⟩ 83 V hL.pz)
      go_wp2_with fail
      refine (HFL.out).mono ?_; rintro e X ⟨rfl, hp, hg2⟩
      have hL2 := hL.keep hp hg2
      have hfe : failP ⟨a, d, 0⟩ 83 = ⟨a, d, 83⟩ := rfl
      rw [hfe] at hL2
      clear hp hg2 HFL hL hfe
      clear c1 c3 hd1
      go_upto_region 7 with fail
      obtain ⟨c0, c1, c2, c3, f1', f2', f3'⟩ := PzC_cells hL2.pz
      simp only at c0 c1 c2 c3
      clear c0 c1 c2 f1' f2' f3'
      go_wp2_with fail
      go_quiet (fail)
      have hL3 := hL2.drewN nq
      clear c3
      go_wp2_with fail
      refine bodyPost_ret (v := .tuple #[.slice none 0 0, .int .i64 83]) (by simp [results, Try.results22, go_sem]) rfl ?_
      rw [HE.out]
      exact ⟨_, rfl, Own.nil_ _ _ _ _, hL3.start.2⟩
    · have hd1 : decide (a < s.size) = false := decide_eq_false hal
      by_cases hll : 256 < l.length
      · have HE : Hid (r = ([], 1)) := Lib.hid (by rw [HR2.out]; simp [hal, hll, failP])
        have hd2 : (256 : Int) < (l.length : Int) := by omega
        clear HR2 hal hll
        have HFL := Lib.hid (failC w.heap.size s ⟨a, d, 0⟩ 1 V hL.pz)
        go_wp2_with fail
        refine (HFL.out).mono ?_; rintro e X ⟨rfl, hp, hg2⟩
        have hL2 := hL.keep hp hg2
        have hfe : failP ⟨a, d, 0⟩ 1 = ⟨a, d, 1⟩ := rfl
        rw [hfe] at hL2
        clear hp hg2 HFL hL hfe
        clear c1 c3 hd1 hd2
        go_upto_region 9 with fail
        obtain ⟨c0, c1, c2, c3, f1', f2', f3'⟩ := PzC_cells hL2.pz
        simp only at c0 c1 c2 c3
        clear c0 c1 c2 f1' f2' f3'
        go_wp2_with fail
        go_quiet (fail)
        have hL3 := hL2.drewN nq
        clear c3
        go_wp2_with fail
        refine bodyPost_ret (v := .tuple #[.slice none 0 0, .int .i64 1]) (by simp [results, Try.results22, go_sem]) rfl ?_
        rw [HE.out]
        exact ⟨_, rfl, Own.nil_ _ _ _ _, hL3.start.2⟩
      · have HE : Hid (r = (l, 0)) := Lib.hid (by rw [HR2.out]; simp [hal, hll])
        have hd2 : ¬ (256 : Int) < (l.length : Int) := by omega
        clear HR2 hal hll
        go_wp2_with fail
        refine bodyPost_ret (v := .tuple #[.slice Al l.length cl, .int .i64 0]) (by simp [results, Try.results22, go_sem]) rfl ?_
        rw [HE.out]
        exact ⟨_, rfl, hL.start⟩
  · have HE : Hid (r = ([], e)) := Lib.hid (by rw [HR2.out]; simp [he])
    have hd1 : (e == 0) = false := by simpa using he
    have hd2 : (e != 0) = true := by simpa using he
    clear HR2 he
    have hL2 := hL
    clear hL c1 c3
    obtain ⟨c0, c1, c2, c3, f1', f2', f3'⟩ := PzC_cells hL2.pz
    simp only at c0 c1 c2 c3
    clear c0 c1 c2 f1' f2' f3'
    go_wp2_with fail
    go_quiet (fail)
    have hL3 := hL2.drewN nq
    clear c3
    go_wp2_with fail
    refine bodyPost_ret (v := .tuple #[.slice none 0 0, .int .i64 e]) (by simp [results, Try.results22, go_sem]) rfl ?_
    rw [HE.out]
    exact ⟨_, rfl, Own.nil_ _ _ _ _, hL3.start.2⟩
end Go.Proofs.Ythadkjgadhbidaa
/-
  The program's Parse gives what the reference's reader gives.
-/
namespace Go.Proofs.Ythadkjgadhbidaa
open Go.RowKit
set_option linter.unusedVariables false

def ClN (l : List Nd) : Prop := ∀ x ∈ l, shiftNd 0 x = x
theorem ClN.nil_ : ClN [] := fun x h => by cases h
theorem ClN.leaf (k : Int) (z : BSet) (hk : kidsN k = 0) : ClN (leafN k z) := by
  intro x hx
  simp [leafN] at hx
  subst hx
  simp [shiftNd, shiftN, hk]
theorem ClN.join1 {k : Int} {l : List Nd} (hk : kidsN k = 1) (hl : ClN l) : ClN (joinN k l []) := by
  intro x hx
  unfold joinN at hx
  rcases List.mem_append.mp hx with hx | hx
  · rcases List.mem_append.mp hx with hx | hx
    · exact hl x hx
    · simp at hx
  · simp at hx
    subst hx
    simp [shiftNd, shiftN, hk]
theorem ClN.join2 {k : Int} {l r : List Nd} (hk : kidsN k = 2) (hl : ClN l) : ClN (joinN k l r) := by
  intro x hx
  unfold joinN at hx
  rcases List.mem_append.mp hx with hx | hx
  · rcases List.mem_append.mp hx with hx | hx
    · exact hl x hx
    · obtain ⟨y, hy, rfl⟩ := List.mem_map.mp hx
      rw [shiftNd_shiftNd]
      congr 1
      omega
  · simp at hx
    subst hx
    simp [shiftNd, shiftN, hk]
theorem ClN.map_ {l : List Nd} (h : ClN l) : l.map (shiftNd 0) = l := by
  rw [List.map_congr_left (g := id) (fun x hx => h x hx), List.map_id]
theorem RP.begin (s : ByteArray) (w : World) : RP w (w.alloc (pzO s 0 0 (.slice none 0 0))) (w.heap.size + 1) w.heap.size s 0 0 (.slice none 0 0) [] :=
  ⟨(Old.refl w).alloc _, heap_alloc_new w _, Own.nil_ _ _ _ _, Nat.le_refl _, by omega, by simp⟩
end Go.Proofs.Ythadkjgadhbidaa
/-
  The walk of Play (matcher).
-/
namespace Go.Proofs.Ythadkjgadhbidaa
open Go.RowKit
set_option linter.unusedVariables false

/-- Chunks in memory. -/
structure ChR (w : World) (A : Option Addr) (cs : List (List Nat)) (ad : Nat → Option Addr) (cp : Nat → Nat) : Prop where
  outer : Rs w A ((List.range cs.length).map fun j => .slice (ad j) (cs.getD j []).length (cp j))
  rows : ∀ j, j < cs.length → Rs w (ad j) (txt (cs.getD j []))
theorem ChR.up {w w' : World} {A : Option Addr} {cs : List (List Nat)} {ad : Nat → Option Addr} {cp : Nat → Nat} (h : ChR w A cs ad cp) (ho : Old w w') : ChR w' A cs ad cp := ⟨h.outer.up ho, fun j hj => (h.rows j hj).up ho⟩
end Go.Proofs.Ythadkjgadhbidaa
/-
  How output is divided: the number of bytes stays the same; the first chunks. No program in sight.
-/
namespace Go.Proofs.Ythadkjgadhbidaa
open Go.RowKit
set_option linter.unusedVariables false

end Go.Proofs.Ythadkjgadhbidaa
/-
  The first chunks of output: Play finds a pattern in them, or does not. No program in sight.
-/
namespace Go.Proofs.Ythadkjgadhbidaa
open Go.RowKit
set_option linter.unusedVariables false

end Go.Proofs.Ythadkjgadhbidaa
/-
  The examples of the sanity check (matcher). No program in sight.
-/
namespace Go.Proofs.Ythadkjgadhbidaa
open Go.RowKit
set_option linter.unusedVariables false

end Go.Proofs.Ythadkjgadhbidaa
/-
  The patterns of the statements on the matcher: each one is read without an error.
-/
namespace Go.Proofs.Ythadkjgadhbidaa
open Go.RowKit
set_option linter.unusedVariables false

def patsT : List (List Nat) := [[111, 107], [], [114, 46, 42, 121, 36], [94, 117, 112, 124, 103, 111, 43], [91, 48, 45, 57, 93, 43, 120, 63], [40, 97, 98, 41, 42, 99], [94, 36]]
def patsObj : Obj := .cells (patsT.map fun b => Value.string (strOf b)).toArray 9
set_option maxRecDepth 100000 in
theorem mpatternsC (w : World) : Calls Try.prog 25 #[] w fun e w' => e = .returned (.slice (some ⟨w.heap.size, 0, none⟩) 7 7) ∧ w' = w.alloc patsObj := by
  go_enter Try.func25, Try.ntmps25
  go_wp2_with fail
  go_ret
  exact ⟨rfl, rfl⟩
theorem pats_ok : ∀ i, i < 7 → (parseR (patsT.getD i [])).2 = 0 := by decide +kernel
end Go.Proofs.Ythadkjgadhbidaa
/-
  The statements' small pattern and text, made of numbers.
-/
namespace Go.Proofs.Ythadkjgadhbidaa
open Go.RowKit
set_option linter.unusedVariables false

/-- k bytes of a table. -/
def ndrawM (tbl : List Nat) : Nat → List Int → List Nat × List Int
  | 0, l => ([], l)
  | k + 1, l => (tbl.getD (nx l tbl.length).1.toNat 0 :: (ndrawM tbl k (nx l tbl.length).2).1, (ndrawM tbl k (nx l tbl.length).2).2)
theorem ndrawM_len (tbl : List Nat) : ∀ (k : Nat) (l : List Int), (ndrawM tbl k l).1.length = k
  | 0, l => rfl
  | k + 1, l => by rw [ndrawM]; simp [ndrawM_len tbl k]
theorem ndrawM_lt (tbl : List Nat) (h : ∀ x ∈ tbl, x < 256) : ∀ (k : Nat) (l : List Int), ∀ x ∈ (ndrawM tbl k l).1, x < 256
  | 0, l, x, hx => by cases hx
  | k + 1, l, x, hx => by
    rw [ndrawM] at hx
    rcases List.mem_cons.mp hx with rfl | hx
    · exact getD_bd h _
    · exact ndrawM_lt tbl h k _ x hx
def npatTbl : List Nat := [97, 98, 46, 40, 42, 124, 41, 43, 63, 94, 36, 91, 98, 93, 92, 100]
def ntxtTbl : List Nat := [97, 98, 97, 98, 10, 49, 120]
def npstrM (l : List Int) : List Nat × List Int := ndrawM npatTbl ((nx l 16).1 + 1).toNat (nx l 16).2
def nptxtM (l : List Int) : List Nat × List Int := ndrawM ntxtTbl (nx (npstrM l).2 12).1.toNat (nx (npstrM l).2 12).2
def npnodesM (l : List Int) : List Nd :=
  if (parseR (npstrM l).1).2 = 0 then (parseR (npstrM l).1).1 else (parseR (patsT.getD (nx (nptxtM l).2 7).1.toNat [])).1
theorem npats_lt : ∀ p ∈ patsT, ∀ x ∈ p, x < 256 := by decide
theorem ngetD_pats (i : Nat) : ∀ x ∈ patsT.getD i [], x < 256 := by
  rw [List.getD_eq_getElem?_getD]
  by_cases h : i < patsT.length
  · rw [List.getElem?_eq_getElem h]; exact npats_lt _ (List.getElem_mem h)
  · rw [List.getElem?_eq_none (by omega)]; intro x hx; cases hx
theorem npnodesM_ok (l : List Int) : (∀ x ∈ npnodesM l, setOk x.set) ∧ (npnodesM l).length ≤ 256 := by
  unfold npnodesM
  split
  · exact ⟨parseR_sets (ndrawM_lt _ (by decide) _ _), parseR_len _⟩
  · exact ⟨parseR_sets (ngetD_pats _), parseR_len _⟩
def nDrawRel (w : World) (g B : Nat) (tbl : List Nat) (R : List Nat × List Int) (vs : Value) (s : List Nat) (v kx : Value) (wr : World) : Prop :=
  ∃ (k : Nat) (acc : List Nat) (l : List Int), kx = .int .i64 k ∧ k + acc.length ≤ 20 ∧ Hid (Dk wr w.heap.size g l) ∧ Hid (Own wr B 5 1 v acc.length (txt acc)) ∧ Hid (Own wr w.heap.size 5 1 vs s.length (txt s) ∧ ∀ k, vs.ownBlock = some k → k < B) ∧ Hid (Old w wr) ∧ Hid (B ≤ wr.heap.size) ∧ Hid ((acc ++ (ndrawM tbl k l).1, (ndrawM tbl k l).2) = R)
theorem Own.naway {w w' : World} {base B : Nat} {e e' : TypeId} {size size' : Nat} {v v' : Value} {n n' : Nat} {xs xs' : List Value} (h : Own w base e size v n xs) (hl : ∀ k, v.ownBlock = some k → k < B) (ho : Own w B e' size' v' n' xs') (hg : w.grownBy w' v'.ownBlock) : Own w' base e size v n xs := by
  refine World.ownsRow.kept h hg ?_
  cases hv : v.ownBlock with
  | none => exact Or.inl rfl
  | some k =>
    refine Or.inr (fun e => ?_)
    have := hl k hv
    have := (World.ownsRow.lt ho k e.symm).1
    omega
def nPatPost (w : World) (l : List Int) (e : Ending) (w' : World) : Prop :=
  ∃ A c At ct, e = .returned (.tuple #[.slice A (npnodesM l).length c, .slice At (nptxtM l).1.length ct]) ∧ Rs w' A (ndsV (npnodesM l)) ∧ Rs w' At (txt (nptxtM l).1) ∧ (nptxtM l).1.length ≤ ct ∧ ct ≤ maxLen ∧ Old w w'
set_option maxHeartbeats 8000000 in
set_option maxRecDepth 100000 in
theorem npatternC (A : Option Addr) (c : Nat) (l : List Int) (w : World) (hr : Rs w A (ints l)) (hm : l.length ≤ maxLen) :
    Calls Try.prog 11 #[.slice A l.length c] w (nPatPost w l) := by
  have hR := rangeDeck w.heap.size w.heap.size l 1 16
  go_enter Try.func11, Try.ntmps11
  go_wp2_with fail
  refine (newDeck A c l w hr hm).mono ?_; rintro e w1 ⟨rfl, hd, hb⟩
  go_wp2_with fail
  refine (rangeDeck w.heap.size w.heap.size l 1 16 w1 hd (by decide) (by decide) (by decide)).mono ?_; rintro e w2 ⟨rfl, hd2, hg⟩
  have hb2 := Dk.old hb hg (Nat.le_refl _)
  clear hR hd hb hg hr
  have hbd := nx_bd l (show (1 : Int) ≤ 16 by decide)
  have HP : Hid (npstrM l = ndrawM npatTbl ((nx l 16).1 + 1).toNat (nx l 16).2) := Lib.hid rfl
  rw [show (16 - 1 + 1 : Int) = 16 by decide] at hd2 ⊢
  generalize nx l 16 = r at *
  obtain ⟨x, l1⟩ := r
  obtain ⟨b0, b1⟩ := hbd
  simp only at b0 b1 hd2 HP
  obtain ⟨x, rfl⟩ := Int.eq_ofNat_of_zero_le b0
  have HP2 : Hid (ndrawM npatTbl (x + 1) l1 = npstrM l) := Lib.hid (by rw [HP.out, show (((x : Nat) : Int) + 1).toNat = x + 1 by omega])
  obtain ⟨⟨s0, l0⟩, hRR⟩ : ∃ R, npstrM l = R := ⟨_, rfl⟩
  rw [hRR] at HP2
  have HRR := Lib.hid hRR
  clear HP hRR
  go_wp2_with fail
  have HBB : Hid (w.heap.size ≤ w.heap.size) := Lib.hid (Nat.le_refl _)
  go_loopw [5, 7] (fun s5 s7 wr => nDrawRel w w.heap.size w.heap.size npatTbl (s0, l0) (.slice none 0 0) [] s5 s7 wr) (fun _ s7 _ => (intOf s7).toNat)
  case atStart => exact ⟨x + 1, [], l1, by go_num, by simp; omega, hd2, Own.nil_ _ _ _ _, Lib.hid ⟨Own.nil_ _ _ _ _, (fun k h => by cases h)⟩, hb2, hb2.size, HP2⟩
  case round =>
    have HB2 := Lib.hid hb2
    clear hd2 hb2 HP2
    obtain ⟨k, accS, lS, rfl, hk, HDK, HO, HV, HD, HB, HE⟩ := hrel
    by_cases hk0 : k = 0
    · subst hk0
      obtain ⟨hq1, hq2⟩ : accS = s0 ∧ lS = l0 := by
        have h := HE.out
        injection h with h1 h2
        exact ⟨by rw [← h1]; exact (List.append_nil _).symm, h2⟩
      subst hq1
      subst hq2
      have hk2 : ¬ (0 : Int) < ((0 : Nat) : Int) := by omega
      clear HE
      go_wp2_with fail
      refine (nextDeck w.heap.size w.heap.size lS 12 wr HDK.out (by decide) (by decide)).mono ?_; rintro e w3 ⟨rfl, hd3, hg3⟩
      have HT : Hid (ndrawM ntxtTbl (nx lS 12).1.toNat (nx lS 12).2 = nptxtM l) := Lib.hid (by unfold nptxtM; rw [HRR.out])
      have hbt := nx_bd lS (show (1 : Int) ≤ 12 by decide)
      have HO3 := Lib.hid (HDK.out.own hg3 HO.out (by decide))
      have HD3 := Lib.hid (Dk.old HD.out hg3 (Nat.le_refl _))
      have hd3' := Lib.hid hd3
      generalize nx lS 12 = r at *
      obtain ⟨y, l3⟩ := r
      obtain ⟨b0', b1'⟩ := hbt
      simp only at b0' b1' HT hd3'
      obtain ⟨y, rfl⟩ := Int.eq_ofNat_of_zero_le b0'
      rw [Int.toNat_natCast] at HT
      have HPT := Lib.hid (show nptxtM l = nptxtM l from rfl)
      obtain ⟨⟨t0, l4⟩, hRT⟩ : ∃ R, nptxtM l = R := ⟨_, rfl⟩
      rw [hRT] at HT
      have HRT := Lib.hid hRT
      clear HPT hRT hd3 HDK HO HV HD HB HBB
      have HBB : Hid (w.heap.size ≤ w3.heap.size) := Lib.hid HD3.out.size
      have HV3 : Hid (Own w3 w.heap.size 5 1 u5 accS.length (txt accS) ∧ ∀ k, u5.ownBlock = some k → k < w3.heap.size) := Lib.hid ⟨HO3.out, fun k hk => (World.ownsRow.lt HO3.out k hk).2⟩
      clear hg3
      go_wp2_with fail
      go_loopw [6, 8] (fun s6 s8 wr => nDrawRel w w.heap.size w3.heap.size ntxtTbl (t0, l4) u5 accS s6 s8 wr) (fun _ s8 _ => (intOf s8).toNat)
      case atStart => exact ⟨y, [], l3, rfl, by simp; omega, hd3', Own.nil_ _ _ _ _, HV3, HD3, Nat.le_refl _, HT⟩
      case round =>
        clear hd3' HO3 HD3 HV3 HT hk
        obtain ⟨k, acc, l1, rfl, hk, HDK, HO, HV, HD, HB, HE⟩ := hrel
        by_cases hk0 : k = 0
        · subst hk0
          obtain ⟨hq1, hq2⟩ : acc = t0 ∧ l1 = l4 := by
            have h := HE.out
            injection h with h1 h2
            exact ⟨by rw [← h1]; exact (List.append_nil _).symm, h2⟩
          subst hq1
          subst hq2
          have hk2' : ¬ (0 : Int) < ((0 : Nat) : Int) := by omega
          have HS8 : Hid ((∀ z ∈ accS, z < 256) ∧ accS.length ≤ 16) := Lib.hid (by
            have h1 := ndrawM_lt npatTbl (by decide) ((nx l 16).1 + 1).toNat (nx l 16).2
            have h2 := ndrawM_len npatTbl ((nx l 16).1 + 1).toNat (nx l 16).2
            rw [show ndrawM npatTbl ((nx l 16).1 + 1).toNat (nx l 16).2 = (accS, lS) from HRR.out] at h1 h2
            have h3 := nx_bd l (show (1 : Int) ≤ 16 by decide)
            exact ⟨h1, by simp only at h2; omega⟩)
          have HPN : Hid (npnodesM l = if (parseR accS).2 = 0 then (parseR accS).1 else (parseR (patsT.getD (nx l1 7).1.toNat [])).1) := Lib.hid (by unfold npnodesM; rw [HRR.out, HRT.out])
          clear HE
          obtain ⟨A5, c5, rfl, ht5, _, _⟩ := HV.out.1.shape
          have hcv : (convert 23 9 (.slice A5 accS.length c5)).run Try.prog wr = .ok (.string (strOf accS)) wr := by
            have hr5 := ht5.rs
            rw [txt_bytes accS HS8.out.1] at hr5
            have := run_str (P := Try.prog) wr (src := 23) (dst := 9) (e := 5) A5 c5 (accS.map UInt8.ofNat) Try.underlying23 Try.underlying5 Try.underlying9 hr5
            rw [List.length_map] at this
            exact this
          have HPA := Lib.hid (parseC (6 * accS.length + 6) (strOf accS) (parseR accS) wr (by have := HS8.out.2; rw [← bs_length, bs_strOf _ HS8.out.1]; omega) (by rw [bs_strOf _ HS8.out.1]; exact parseR_eq accS))
          generalize strOf accS = str at *
          obtain ⟨A6, c6, rfl, ht6, hc6, hm6⟩ := HO.out.shape
          have HTX := Lib.hid ht6
          have HC6 := Lib.hid (And.intro hc6 hm6)
          clear ht5 ht6 hc6 hm6
          have HEE := Lib.hid (parseR_len accS)
          generalize parseR accS = R1 at *
          obtain ⟨n1, e1⟩ := R1
          go_wp2_with fail
          refine (HPA.out).mono ?_; rintro e w4 ⟨v4, rfl, ho4, hd4⟩
          obtain ⟨A7, c7, rfl, ht7, hc7, _⟩ := ho4.shape
          have HR7 := Lib.hid ht7.rs
          have HDK4 := Lib.hid (HDK.out.up hd4)
          have HTX4 := Lib.hid (HTX.out.up hd4)
          have HD4 := Lib.hid (HD.out.up hd4)
          clear ho4 hd4 ht7 hc7 HPA hcv HDK HO HV HD HB HTX
          by_cases he : e1 = 0
          · have hb1 : (e1 != 0) = false := by simpa using he
            have HPN2 : Hid (npnodesM l = n1) := Lib.hid (by rw [HPN.out]; exact if_pos he)
            clear HPN he
            go_wp2_with fail
            go_ret2
            unfold nPatPost
            rw [HPN2.out, HRT.out]
            exact ⟨_, _, _, _, rfl, HR7.out, HTX4.out.rs, HC6.out.1, HC6.out.2, HD4.out⟩
          · have hb1 : (e1 != 0) = true := by simpa using he
            have HPN2 : Hid (npnodesM l = (parseR (patsT.getD (nx l1 7).1.toNat [])).1) := Lib.hid (by rw [HPN.out]; exact if_neg he)
            clear HPN he
            go_wp2_with fail
            refine (mpatternsC _).mono ?_; rintro e w7 ⟨rfl, hw7⟩
            have hb7 := heap_alloc_new w4 patsObj
            have ho7 := (Old.refl w4).alloc patsObj
            rw [← hw7] at hb7 ho7
            have HDK7 := Lib.hid (HDK4.out.up ho7)
            have HTX7 := Lib.hid (HTX4.out.up ho7)
            have HD7 := Lib.hid (HD4.out.up ho7)
            have HB7 := Lib.hid hb7
            have HG4 := Lib.hid HDK4.out.lt
            have HL7 := Lib.hid (lt_of_block hb7)
            clear hb7 ho7 hw7 HR7 HDK4 HTX4 HD4
            go_wp2_with fail
            refine (nextDeck w.heap.size w.heap.size l1 7 w7 HDK7.out (by decide) (by decide)).mono ?_; rintro e w8 ⟨rfl, hd8, hg8⟩
            have hnb : w4.heap.size ≠ w.heap.size := by have := HG4.out; omega
            have hb8 := (hg8.block w4.heap.size HL7.out (fun e => hnb (Option.some.inj e))).trans HB7.out
            have HTX8 := Lib.hid (HDK7.out.ts hg8 HTX7.out (by decide)).rs
            have HD8 := Lib.hid (Dk.old HD7.out hg8 (Nat.le_refl _))
            have hbd7 := nx_bd l1 (show (1 : Int) ≤ 7 by decide)
            generalize nx l1 7 = r at *
            obtain ⟨z, l9⟩ := r
            obtain ⟨z0, z1⟩ := hbd7
            simp only at z0 z1 HPN2
            obtain ⟨z, rfl⟩ := Int.eq_ofNat_of_zero_le z0
            rw [Int.toNat_natCast] at HPN2
            have hzl : z < patsT.length := by show z < 7; omega
            have c8 : w8.cell? ⟨w4.heap.size, z, none⟩ = some (.string (strOf (patsT.getD z []))) := by
              rw [cell_of_row w8 w4.heap.size z _ _ _ hb8, List.getElem?_toArray, List.getElem?_map, List.getD_eq_getElem?_getD, List.getElem?_eq_getElem hzl]
              rfl
            have HQ := Lib.hid (ngetD_pats z)
            have HQL : Hid ((patsT.getD z []).length ≤ 10) := Lib.hid (by
              have : ∀ y, y < 7 → (patsT.getD y []).length ≤ 10 := by decide
              exact this z (by omega))
            have HPB := Lib.hid (parseC (6 * (patsT.getD z []).length + 6) (strOf (patsT.getD z [])) (parseR (patsT.getD z [])) w8 (by rw [← bs_length, bs_strOf _ HQ.out]; have := HQL.out; omega) (by rw [bs_strOf _ HQ.out]; exact parseR_eq _))
            generalize strOf (patsT.getD z []) = str2 at *
            generalize parseR (patsT.getD z []) = R2 at *
            obtain ⟨n2, e2⟩ := R2
            clear hd8 hg8 hb8 hzl HDK7 HTX7 HD7 HB7
            generalize w4.heap.size = k4 at *
            go_wp2_with fail
            refine (HPB.out).mono ?_; rintro e w9 ⟨v9, rfl, ho9, hd9⟩
            obtain ⟨A9, c9, rfl, ht9, _, _⟩ := ho9.shape
            have HR9 := Lib.hid ht9.rs
            have HTX9 := Lib.hid (HTX8.out.up hd9)
            have HD9 := Lib.hid (HD8.out.up hd9)
            clear ho9 hd9 ht9
            go_wp2_with fail
            go_ret2
            unfold nPatPost
            rw [HPN2.out, HRT.out]
            exact ⟨_, _, _, _, rfl, HR9.out, HTX9.out, HC6.out.1, HC6.out.2, HD9.out⟩
        · obtain ⟨j, rfl⟩ : ∃ j, k = j + 1 := ⟨k - 1, by omega⟩
          have hkp : (0 : Int) < ((j + 1 : Nat) : Int) := by omega
          have hN := nextDeck w.heap.size w.heap.size l1 7 wr HDK.out (by decide) (by decide)
          have hbd := nx_bd l1 (show (1 : Int) ≤ 7 by decide)
          have he := HE.out
          rw [show ndrawM ntxtTbl (j + 1) l1 = (ntxtTbl.getD (nx l1 7).1.toNat 0 :: (ndrawM ntxtTbl j (nx l1 7).2).1, (ndrawM ntxtTbl j (nx l1 7).2).2) from rfl] at he
          have HE2 := Lib.hid he
          have HN := Lib.hid hN
          clear he hN HE
          generalize nx l1 7 = r at *
          obtain ⟨x, l2⟩ := r
          obtain ⟨b0, b1⟩ := hbd
          simp only at b0 b1 HE2
          obtain ⟨x, rfl⟩ := Int.eq_ofNat_of_zero_le b0
          have hxn : x < 7 := by omega
          have HX : Hid (∀ h : x < (⟨#[97, 98, 97, 98, 10, 49, 120]⟩ : ByteArray).size, ((⟨#[97, 98, 97, 98, 10, 49, 120]⟩ : ByteArray)[x]'h).toNat = ntxtTbl.getD x 0) := Lib.hid (by
            have : ∀ y, y < 7 → ∀ h : y < (⟨#[97, 98, 97, 98, 10, 49, 120]⟩ : ByteArray).size, ((⟨#[97, 98, 97, 98, 10, 49, 120]⟩ : ByteArray)[y]'h).toNat = ntxtTbl.getD y 0 := by decide
            exact this x hxn)
          rw [Int.toNat_natCast] at HE2
          go_wp2_with fail
          refine (HN.out).mono ?_; rintro e w5 ⟨rfl, hd5, hg5⟩
          have HO5 := Lib.hid (HDK.out.own hg5 HO.out (by decide))
          have HD5 := Lib.hid (Dk.old HD.out hg5 (Nat.le_refl _))
          have HB5 : Hid (w3.heap.size ≤ w5.heap.size) := Lib.hid (Nat.le_trans HB.out hg5.size)
          have HV5 := Lib.hid (And.intro (HDK.out.own hg5 HV.out.1 (by decide)) HV.out.2)
          have HDK5 := Lib.hid hd5
          have ha20 : acc.length ≤ 20 := by omega
          clear hd5 hg5 HDK HO HD HN HV HB
          go_wp2_with (at_builtin; refine wpList_push (wr := w5) rfl _ _ 23 rfl _ 5 (.int .u8 0) 1 1 Try.underlying23 info_c8 rfl (by decide) (by decide) _ _ _ rfl HO5.out 1 1 [_] rfl rfl rfl rfl ?pn1 HB5.out ?_)
          case pn1 => omega
          intro v' w6 ho6 hg6 hd6
          rw [HX.out] at ho6
          have HO6 : Hid (Own w6 w3.heap.size 5 1 v' (acc ++ [ntxtTbl.getD x 0]).length (txt (acc ++ [ntxtTbl.getD x 0]))) := Lib.hid (by rw [txt_snoc, List.length_append]; exact ho6)
          have HDK6 := Lib.hid (HDK5.out.push HO5.out (by decide) HBB.out hg6)
          have HD6 := Lib.hid (hd6 w HD5.out HBB.out)
          have HV6 := Lib.hid (And.intro (HV5.out.1.naway HV5.out.2 HO5.out hg6) HV5.out.2)
          have HB6 : Hid (w3.heap.size ≤ w6.heap.size) := Lib.hid (Nat.le_trans HB5.out hg6.size)
          clear ho6 hg6 hd6 HO5 HD5 HB5 HDK5 HV5
          go_wp2_with fail
          go_roundw
          case rel => exact ⟨j, acc ++ [ntxtTbl.getD x 0], l2, by go_num, by rw [List.length_append, List.length_singleton]; omega, HDK6, HO6, HV6, HD6, HB6, Lib.hid (by rw [List.append_assoc]; exact HE2.out)⟩
          case measure => simp [intOf]
    · obtain ⟨j, rfl⟩ : ∃ j, k = j + 1 := ⟨k - 1, by omega⟩
      have hkp : (0 : Int) < ((j + 1 : Nat) : Int) := by omega
      have hN := nextDeck w.heap.size w.heap.size lS 16 wr HDK.out (by decide) (by decide)
      have hbd := nx_bd lS (show (1 : Int) ≤ 16 by decide)
      have he := HE.out
      rw [show ndrawM npatTbl (j + 1) lS = (npatTbl.getD (nx lS 16).1.toNat 0 :: (ndrawM npatTbl j (nx lS 16).2).1, (ndrawM npatTbl j (nx lS 16).2).2) from rfl] at he
      have HE2 := Lib.hid he
      have HN := Lib.hid hN
      clear he hN HE
      generalize nx lS 16 = r at *
      obtain ⟨x, l2⟩ := r
      obtain ⟨b0, b1⟩ := hbd
      simp only at b0 b1 HE2
      obtain ⟨x, rfl⟩ := Int.eq_ofNat_of_zero_le b0
      have hxn : x < 16 := by omega
      have HX : Hid (∀ h : x < (⟨#[97, 98, 46, 40, 42, 124, 41, 43, 63, 94, 36, 91, 98, 93, 92, 100]⟩ : ByteArray).size, ((⟨#[97, 98, 46, 40, 42, 124, 41, 43, 63, 94, 36, 91, 98, 93, 92, 100]⟩ : ByteArray)[x]'h).toNat = npatTbl.getD x 0) := Lib.hid (by
        have : ∀ y, y < 16 → ∀ h : y < (⟨#[97, 98, 46, 40, 42, 124, 41, 43, 63, 94, 36, 91, 98, 93, 92, 100]⟩ : ByteArray).size, ((⟨#[97, 98, 46, 40, 42, 124, 41, 43, 63, 94, 36, 91, 98, 93, 92, 100]⟩ : ByteArray)[y]'h).toNat = npatTbl.getD y 0 := by decide
        exact this x hxn)
      rw [Int.toNat_natCast] at HE2
      go_wp2_with fail
      refine (HN.out).mono ?_; rintro e w5 ⟨rfl, hd5, hg5⟩
      have HO5 := Lib.hid (HDK.out.own hg5 HO.out (by decide))
      have HD5 := Lib.hid (Dk.old HD.out hg5 (Nat.le_refl _))
      have HB5 : Hid (w.heap.size ≤ w5.heap.size) := Lib.hid (Nat.le_trans HB.out hg5.size)
      have HV5 := Lib.hid (And.intro (HDK.out.own hg5 HV.out.1 (by decide)) HV.out.2)
      have HDK5 := Lib.hid hd5
      have ha20 : accS.length ≤ 20 := by omega
      clear hd5 hg5 HDK HO HD HN HV HB
      go_wp2_with (at_builtin; refine wpList_push (wr := w5) rfl _ _ 23 rfl _ 5 (.int .u8 0) 1 1 Try.underlying23 info_c8 rfl (by decide) (by decide) _ _ _ rfl HO5.out 1 1 [_] rfl rfl rfl rfl ?pn2 HB5.out ?_)
      case pn2 => omega
      intro v' w6 ho6 hg6 hd6
      rw [HX.out] at ho6
      have HO6 : Hid (Own w6 w.heap.size 5 1 v' (accS ++ [npatTbl.getD x 0]).length (txt (accS ++ [npatTbl.getD x 0]))) := Lib.hid (by rw [txt_snoc, List.length_append]; exact ho6)
      have HDK6 := Lib.hid (HDK5.out.push HO5.out (by decide) HBB.out hg6)
      have HD6 := Lib.hid (hd6 w HD5.out HBB.out)
      have HV6 := Lib.hid (And.intro (HV5.out.1.naway HV5.out.2 HO5.out hg6) HV5.out.2)
      have HB6 : Hid (w.heap.size ≤ w6.heap.size) := Lib.hid (Nat.le_trans HB5.out hg6.size)
      clear ho6 hg6 hd6 HO5 HD5 HB5 HDK5 HV5
      go_wp2_with fail
      go_roundw
      case rel => exact ⟨j, accS ++ [npatTbl.getD x 0], l2, by go_num, by rw [List.length_append, List.length_singleton]; omega, HDK6, HO6, HV6, HD6, HB6, Lib.hid (by rw [List.append_assoc]; exact HE2.out)⟩
      case measure => simp [intOf]
end Go.Proofs.Ythadkjgadhbidaa
/-
  The statements' pattern is a valid list (nfa).
-/
namespace Go.Proofs.Ythadkjgadhbidaa
open Go.RowKit
set_option linter.unusedVariables false

theorem parse_valid {B : List Nat} (h : (parseR B).2 = 0) : validM (parseR B).1 = true := by
  have h' : parseR B = ((parseR B).1, 0) := by rw [← h]
  have htr := parse_tr (l := (parseR B).1) (h' ▸ parseR_eq B)
  exact Tr.valid htr.1 htr.2.1
theorem npnodes_valid (l : List Int) : validM (npnodesM l) = true := by
  unfold npnodesM
  split
  · rename_i h; exact parse_valid h
  · refine parse_valid (pats_ok _ ?_)
    have := nx_bd (nptxtM l).2 (show (1 : Int) ≤ 7 by decide)
    omega
end Go.Proofs.Ythadkjgadhbidaa
/-
  The examples of the sanity check (nfa). No program in sight.
-/
namespace Go.Proofs.Ythadkjgadhbidaa
open Go.RowKit
set_option linter.unusedVariables false

def n10L : List Nd := [⟨2, 0, 0, 158456325028528675187087900672⟩, ⟨2, 0, 0, 316912650057057350374175801344⟩, ⟨3, 0, 1, 0⟩, ⟨2, 0, 0, 633825300114114700748351602688⟩, ⟨4, 2, 3, 0⟩]
def n10M : List Nd := [⟨2, 0, 0, 158456325028528675187087900672⟩, ⟨8, 0, 0, 0⟩, ⟨3, 0, 1, 0⟩, ⟨2, 0, 0, 316912650057057350374175801344⟩, ⟨3, 2, 3, 0⟩]
theorem n10p : parseF 30 [97, 98, 124, 99] = some (n10L, 0) := by decide +kernel
theorem n10q : parseF 24 [97, 94, 98] = some (n10M, 0) := by decide +kernel
theorem n10vl : validM n10L = true := by decide +kernel
theorem n10vm : validM n10M = true := by decide +kernel
theorem n10run : nrunM (pcompM n10L) [120, 97, 98] = 3 := by
  rw [pcomp_run n10vl]
  decide +kernel
theorem n10one : rfirstM n10L [99] = 1 := by decide +kernel
theorem n10nil : rfirstM n10L [] = -1 := by decide +kernel
theorem n10any : ∀ x, x < 256 → rfirstM n10L [x] = 1 → x = 99 := by decide +kernel
theorem smin_some {st : List Nd} (hv : svalid st = true) {t : List Nat} (h8 : ∀ x ∈ t, x < 256) {k : Nat} (hk : nrunM st t = k) {r : Option (List Nat)} (h : SMin st r) : ∃ a, r = some a ∧ a.length ≤ k := by
  have hg := nrun_least hv t
  rw [hk] at hg
  rcases hg with ⟨n, hn, he, ha, _⟩ | ⟨he, _⟩
  · have hkn : k = n := by omega
    subst hkn
    obtain ⟨t', h1, h2⟩ := acc_sacc hn h8 ha
    cases r with
    | none => exact absurd h1 (h t')
    | some a => exact ⟨a, rfl, Nat.le_trans (h.2 t' h1) h2⟩
  · omega
theorem n10s (r : Option (List Nat)) (h : SMin (pcompM n10L) r) : r = some [99] := by
  have hsv := (pcomp_ok n10vl).2.1
  obtain ⟨a, rfl, ha⟩ := smin_some hsv (t := [99]) (by decide) (k := 1) (by rw [pcomp_run n10vl, n10one]; rfl) h
  have hr := smin_run hsv h
  rw [pcomp_run n10vl] at hr
  match a, ha, hr, h with
  | [], _, hr, _ => rw [n10nil] at hr; simp at hr
  | [x], _, hr, h => rw [n10any x (h.1.bytes x (by simp)) hr]
  | _ :: _ :: _, ha, _, _ => simp at ha
def sucE (st : List Nd) (p : Sp) : List Sp := if (nd st p.s).kind = 2 then [⟨outS st p.s, p.b, p.e⟩, ⟨othS st p.s, p.b, p.e⟩] else if (nd st p.s).kind = 3 ∧ p.b = true then [⟨outS st p.s, p.b, p.e⟩] else if (nd st p.s).kind = 4 then [⟨outS st p.s, p.b, true⟩] else []
def sucB (st : List Nd) (p : Sp) : List Sp := if (nd st p.s).kind = 1 then (if hasB (nd st p.s).set 10 = true then [⟨outS st p.s, true, false⟩] else []) ++ (if p.e = true then [] else [⟨outS st p.s, false, false⟩]) else []
theorem sr_closed {st : List Nd} {R : List Sp} (h0 : sp0 ∈ R) (hc : ∀ p ∈ R, ∀ q ∈ sucE st p ++ sucB st p, q ∈ R) {t : List Nat} {p : Sp} (h : SR st t p) : p ∈ R := by
  induction h with
  | start => exact h0
  | eps t p q _ he ih =>
    refine hc p ih q (List.mem_append_left _ ?_)
    unfold sucE
    rcases he with ⟨a, rfl | rfl⟩ | ⟨a, b, rfl⟩ | ⟨a, rfl⟩
    · rw [if_pos a]; simp
    · rw [if_pos a]; simp
    · rw [if_neg (by omega), if_pos ⟨a, b⟩]; simp
    · rw [if_neg (by omega), if_neg (by omega), if_pos a]; simp
  | byt t p q c _ hb ih =>
    refine hc p ih q (List.mem_append_right _ ?_)
    obtain ⟨a, hh, _, hq⟩ := hb
    unfold sucB
    rw [if_pos a]
    rcases hq with ⟨rfl, rfl⟩ | ⟨_, he, rfl⟩
    · rw [if_pos hh]; simp
    · rw [if_neg (show ¬ p.e = true by rw [he]; decide)]; simp
def n10R : List Sp := [⟨0, true, false⟩, ⟨4, true, false⟩, ⟨3, false, false⟩]
theorem n10c1 : ∀ p ∈ n10R, ∀ q ∈ sucE (pcompM n10M) p ++ sucB (pcompM n10M) p, q ∈ n10R := by decide +kernel
theorem n10c2 : ∀ p ∈ n10R, (nd (pcompM n10M) p.s).kind ≠ 5 := by decide +kernel
theorem n10n (r : Option (List Nat)) (h : SMin (pcompM n10M) r) : r = none := by
  have key : ∀ {t p}, SR (pcompM n10M) t p → p ∈ n10R := fun h => sr_closed (by decide) n10c1 h
  cases r with
  | none => rfl
  | some a =>
    exfalso
    rcases h.1 with ⟨p, h1, h2, _⟩ | ⟨_, p, _, h1, h2, _⟩
    · exact n10c2 p (key h1) h2
    · exact n10c2 p (key h1) h2
end Go.Proofs.Ythadkjgadhbidaa
/-
  Run (nfa).
-/
namespace Go.Proofs.Ythadkjgadhbidaa
open Go.RowKit
set_option linter.unusedVariables false

def NrJ (w w1 : World) (B g gm : Nat) (st : List Nd) (A : Option Addr) (c : Nat) (t : List Nat) (R : Int) (bv iv : Value) (wr : World) : Prop :=
  ∃ (i : Nat) (lv : Value) (L : List Nat), iv = .int .i64 i ∧ bv = .bool (bolT t i) ∧ i ≤ t.length ∧ Hid (NK w1 wr B g gm st A c lv (ndone st L) L L) ∧ Hid (Spots st.length L) ∧ Hid (nrunF st t (t.length + 1 - i) i L = R)
set_option maxHeartbeats 8000000 in
set_option maxRecDepth 100000 in
theorem nrunC (A At : Option Addr) (c ct : Nat) (st : List Nd) (t : List Nat) (w : World) (hs : Rs w A (ndsV st)) (ht : Rs w At (txt t)) (hm : st.length ≤ maxLen) (hmt : t.length ≤ 1000000000) (h8 : ∀ x ∈ t, x < 256) :
    Calls Try.prog 14 #[.slice A st.length c, .slice At t.length ct] w (ValOld (.int .i64 (nrunM st t)) w) := by
  have HVC := Lib.hid (nvalidC A c st w hs hm)
  have HS := Lib.hid hs
  have HT := Lib.hid ht
  have H8 := Lib.hid h8
  clear hs ht h8
  cases hv : svalid st with
  | false =>
    have HE : Hid (nrunM st t = -1) := Lib.hid (by unfold nrunM; rw [hv]; rfl)
    rw [hv] at HVC
    go_enter Try.func14, Try.ntmps14
    go_wp2_with fail
    refine (HVC.out).mono ?_; rintro e w1 ⟨rfl, hd1⟩
    have HD1 := Lib.hid hd1
    clear hd1
    go_wp2_with fail
    go_ret
    rw [HE.out]
    exact ⟨rfl, HD1.out⟩
  | true =>
    have HV := Lib.hid hv
    have HRE : Hid (nrunF st t (t.length + 1) 0 [] = nrunM st t) := Lib.hid (by unfold nrunM; rw [hv]; rfl)
    rw [hv] at HVC
    obtain ⟨h1, h2, _⟩ := svalid_ok hv
    clear hv hm
    go_enter Try.func14, Try.ntmps14
    go_wp2_with fail
    refine (HVC.out).mono ?_; rintro e w1 ⟨rfl, hd1⟩
    have HD1 := Lib.hid hd1
    have HS1 := Lib.hid (HS.out.up hd1)
    have HT1 := Lib.hid (HT.out.up hd1)
    clear hd1 HVC HS HT
    go_wp2_with (at_make; refine wpList_makeN rfl _ _ 68 rfl 4 (.bool false) 1 1 Try.underlying68 info_mbo (by decide) .i64 .i64 _ _ st.length rfl rfl ?pl1 ?pc1 ?pn1 ?_)
    case pl1 => omega
    case pc1 => omega
    case pn1 => omega
    intro w2 ho2 hd2
    rw [made_mkm] at ho2
    have hmk := own_full ho2
    have hd0 := hd2.size
    have hlt := lt_of_block hmk
    have HM0 : Hid (NK w1 (w2.alloc (.cells #[.slice A st.length c, .slice (some ⟨w1.heap.size, 0, none⟩) st.length st.length, .slice none 0 0, .bool false] 70)) (w2.heap.size + 1) w2.heap.size w1.heap.size st A c (.slice none 0 0) (ndone st []) [] []) := Lib.hid
      ⟨hd2.alloc _, HS1.out, heap_alloc_new w2 _, ((Old.refl w2).alloc _).block hmk, Own.nil_ _ _ _ _, hd0, Nat.le_refl _, Nat.lt_succ_self _, by omega, by omega, by simp⟩
    clear hmk ho2 hd2
    go_upto_region 4 with fail
    generalize w2.alloc (.cells #[.slice A st.length c, .slice (some ⟨w1.heap.size, 0, none⟩) st.length st.length, .slice none 0 0, .bool false] 70) = W at *
    generalize hB : w2.heap.size + 1 = B at *
    generalize w2.heap.size = g at *
    generalize w1.heap.size = gm at *
    clear hB hd0 hlt
    generalize nrunM st t = R at *
    have HI : Hid (NrJ w w1 B g gm st A c t R (.bool true) (.int .i64 0) W) := Lib.hid ⟨0, _, [], rfl, rfl, Nat.zero_le _, HM0, Lib.hid (Spots.nil _), HRE⟩
    clear HM0 HRE
    go_wp2_with fail
    go_loopw [6, 7] (fun s6 s7 wr => NrJ w w1 B g gm st A c t R s6 s7 wr) (fun _ s7 _ => t.length + 1 - (intOf s7).toNat)
    case atStart => exact HI.out
    case round =>
      clear HI
      obtain ⟨i, lv, L, rfl, rfl, hi, HM, HSP, HU⟩ := hrel
      have HC := Lib.hid (nenterD w1 B g gm st A c lv L wr HM.out (by omega) HSP.out 0 (by omega))
      have HS2 := Lib.hid (HSP.out.enter (s := 0) (by omega))
      have hu := HU.out
      rw [show t.length + 1 - i = (t.length - i) + 1 by omega, nrunF_A] at hu
      have HU2 := Lib.hid hu
      clear HM HU hu
      go_wp2_with fail
      refine (HC.out).mono ?_; rintro e w2' ⟨rfl, lv2, hm2, hk2⟩
      have HC2 := Lib.hid (nspreadC w1 B g gm st A c lv2 (enterM L 0) w2' hm2 HV.out HS2.out (bolT t i) false)
      clear hm2 hk2 HC
      have HS3 := Lib.hid (Spots.nspreadF HV.out (bol := bolT t i) (eol := false) st.length 0 _ HS2.out)
      change Hid (Spots st.length (nspread st (bolT t i) false (enterM L 0))) at HS3
      generalize nspread st (bolT t i) false (enterM L 0) = L1 at *
      go_wp2_with fail
      refine (HC2.out).mono ?_; rintro e w3 ⟨rfl, lv3, hm3, hk3⟩
      obtain ⟨_, _, _, y3⟩ := hm3.cells
      have HM3 := Lib.hid hm3
      clear hm3 hk3 HC2 HS2
      cases hd : ndone st L1 with
      | true =>
        rw [hd] at y3
        have hR : (i : Int) = R := by have := HU2.out; unfold nrunA at this; rwa [if_pos hd] at this
        subst hR
        clear HU2 hd
        go_wp2_with fail
        go_ret
        exact ⟨rfl, HD1.out.up HM3.out.old⟩
      | false =>
        rw [hd] at y3 HM3
        have HDN := Lib.hid hd
        by_cases hlt : i < t.length
        · have i1 : (i : Int) < (t.length : Int) := by omega
          have i0 : (0 : Int) ≤ (i : Int) := by omega
          have ie : ((i : Int) == (t.length : Int)) = false := by simp; omega
          obtain ⟨bT, oT, rfl, _, hcT⟩ := (HT1.out.up HM3.out.old).at_ (by rw [txt_length]; omega)
          have cE := hcT _ _ (txt_get t i hlt)
          have HBN : Hid (bolT t (i + 1) = (((t.getD i 0 : Nat) : Int) == 10)) := Lib.hid (by rw [bolT_next, Bool.eq_iff_iff, beq_iff_eq, beq_iff_eq]; omega)
          have HCH : Hid (t.getD i 0 < 256) := Lib.hid (by rw [List.getD_eq_getElem?_getD, List.getElem?_eq_getElem hlt]; exact H8.out _ (List.getElem_mem hlt))
          have hu := HU2.out
          unfold nrunA at hu
          rw [if_neg (by rw [hd]; simp), if_neg (by omega)] at hu
          rw [show t.length - i = t.length + 1 - (i + 1) by omega] at hu
          have HU3 := Lib.hid hu
          clear hcT hd hu HU2
          generalize t.getD i 0 = ch at *
          by_cases h10 : ch = 10
          · subst h10
            have HU4 := HU3.out
            rw [if_pos rfl] at HU4
            have HUU := Lib.hid HU4
            clear HU3 HU4
            have eb1 : ((10 : Nat) : Int) = 10 := rfl
            rw [eb1] at cE HBN
            have HC3 := Lib.hid (nspreadC w1 B g gm st A c lv3 L1 w3 (by rw [HDN.out]; exact HM3.out) HV.out HS3.out (bolT t i) true)
            have HS4 := Lib.hid (Spots.nspreadF HV.out (bol := bolT t i) (eol := true) st.length 0 _ HS3.out)
            change Hid (Spots st.length (nspread st (bolT t i) true L1)) at HS4
            generalize nspread st (bolT t i) true L1 = L2 at *
            have hcE := cE
            go_wp2_with fail
            refine (HC3.out).mono ?_; rintro e w4 ⟨rfl, lv4, hm4, hk4⟩
            obtain ⟨_, _, _, z3⟩ := hm4.cells
            have HM4 := Lib.hid hm4
            have cE4 : w4.cell? ⟨bT, oT + i, none⟩ = some (.int .u8 10) := by
              obtain ⟨bT', oT', he, _, hcT⟩ := (HT1.out.up hm4.old).at_ (by rw [txt_length]; omega)
              injection he with he
              injection he with he1 he2
              subst he1
              subst he2
              have q := hcT _ _ (txt_get t i hlt)
              obtain ⟨bT3, oT3, he, _, hcT3⟩ := (HT1.out.up HM3.out.old).at_ (by rw [txt_length]; omega)
              injection he with he
              injection he with he1 he2
              subst he1
              subst he2
              have q3 := hcT3 _ _ (txt_get t i hlt)
              rw [q3] at hcE
              rw [q]; exact hcE
            clear hm4 hk4 HC3 HM3 hcE cE
            cases hd2 : ndone st L2 with
            | true =>
              rw [hd2] at z3
              have hR : (i : Int) + 1 = R := by have := HUU.out; rwa [if_pos hd2] at this
              subst hR
              clear HUU hd2
              go_wp2_with fail
              go_ret
              exact ⟨rfl, HD1.out.up HM4.out.old⟩
            | false =>
              rw [hd2] at z3 HM4
              have hu := HUU.out
              rw [if_neg (by rw [hd2]; simp)] at hu
              have HUV := Lib.hid hu
              clear HUU hu hd2
              have HC5 := Lib.hid (nrstepC w1 B g gm st A c lv4 L2 w4 HM4.out HV.out HS4.out 10 HCH.out)
              clear HM4
              go_wp2_with fail
              refine (HC5.out).mono ?_; rintro e w5 ⟨rfl, lv5, hm5, hk5⟩
              have HW : Hid (NrJ w w1 B g gm st A c t R (.bool true) (.int .i64 ((i + 1 : Nat) : Int)) w5) := Lib.hid ⟨i + 1, lv5, _, rfl, by rw [HBN.out]; rfl, hlt, Lib.hid hm5, Lib.hid (Spots.nstep HV.out _ HS4.out), HUV⟩
              clear hm5 hk5 HC5 cE4
              go_wp2_with fail
              go_roundw
              case rel => exact HW.out
              case measure => simp [intOf]; omega
          · have b10 : ((ch : Int) == 10) = false := by simp; omega
            have HU4 := HU3.out
            rw [if_neg h10] at HU4
            have HUU := Lib.hid HU4
            clear HU3 HU4 h10
            have HC5 := Lib.hid (nrstepC w1 B g gm st A c lv3 L1 w3 HM3.out HV.out HS3.out ch HCH.out)
            clear HM3
            go_wp2_with fail
            refine (HC5.out).mono ?_; rintro e w5 ⟨rfl, lv5, hm5, hk5⟩
            have HW : Hid (NrJ w w1 B g gm st A c t R (.bool false) (.int .i64 ((i + 1 : Nat) : Int)) w5) := Lib.hid ⟨i + 1, lv5, _, rfl, by rw [HBN.out, b10], hlt, Lib.hid hm5, Lib.hid (Spots.nstep HV.out _ HS3.out), HUU⟩
            clear hm5 hk5 HC5 cE
            go_wp2_with fail
            go_roundw
            case rel => exact HW.out
            case measure => simp [intOf]; omega
        · obtain rfl : i = t.length := by omega
          have hR : (-1 : Int) = R := by have := HU2.out; unfold nrunA at this; rwa [if_neg (by rw [hd]; simp), if_pos rfl] at this
          subst hR
          have ie : ((t.length : Int) == (t.length : Int)) = true := by simp
          clear HU2 hd
          go_wp2_with fail
          go_ret
          exact ⟨rfl, HD1.out.up HM3.out.old⟩
end Go.Proofs.Ythadkjgadhbidaa
/-
  The walk of the sanity check (the statements on nfa).
-/
namespace Go.Proofs.Ythadkjgadhbidaa
open Go.RowKit
set_option linter.unusedVariables false

theorem n10L_ok : ∀ x ∈ n10L, setOk x.set := parseF_sets (B := [97, 98, 124, 99]) (by decide) n10p
theorem n10M_ok : ∀ x ∈ n10M, setOk x.set := parseF_sets (B := [97, 94, 98]) (by decide) n10q
/-- Compile on a valid list. -/
theorem ncompV (A : Option Addr) (c : Nat) (l : List Nd) (w : World) (hr : Rs w A (ndsV l)) (hm : l.length ≤ maxLen) (hso : ∀ x ∈ l, setOk x.set) (hv : validM l = true) :
    Calls Try.prog 12 #[.slice A l.length c] w fun e w' => ∃ v, e = .returned (.tuple #[v, .int .i64 0]) ∧ Own w' w.heap.size 42 7 v (pcompM l).length (ndsV (pcompM l)) ∧ Old w w' :=
  (ncompC A c l w hr hm hso).mono fun e w' h => by
    obtain ⟨v, h1, h2⟩ := h.1 hv
    exact ⟨v, h1, h2, h.2.2⟩
set_option maxHeartbeats 8000000 in
set_option maxRecDepth 100000 in
theorem nsaneC (w : World) : Calls Try.prog 10 #[] w (ValOld (.bool true) w) := by
  have HP1 : Hid (Calls Try.prog 22 #[.string ⟨#[97, 98, 124, 99]⟩] w (ParsePost w (n10L, 0))) := Lib.hid (parseC 30 ⟨#[97, 98, 124, 99]⟩ (n10L, 0) w (by decide) n10p)
  have HP2 : Hid (∀ w', Calls Try.prog 22 #[.string ⟨#[97, 94, 98]⟩] w' (ParsePost w' (n10M, 0))) := Lib.hid (fun w' => parseC 24 ⟨#[97, 94, 98]⟩ (n10M, 0) w' (by decide) n10q)
  have hcv := fun (W : World) (C : Array Value) (n c : Nat) => Lib.run_convert_bytes_const (P := Try.prog) W 23 5 C n c Try.underlying23 Try.underlying5
  obtain ⟨_, hsl, hl1, _⟩ := pcomp_ok n10vl
  obtain ⟨_, hsm, hm1, _⟩ := pcomp_ok n10vm
  have hlm : (pcompM n10L).length ≤ maxLen := by have := (svalid_ok hsl).2.1; unfold maxLen; omega
  have hmm : (pcompM n10M).length ≤ maxLen := by have := (svalid_ok hsm).2.1; unfold maxLen; omega
  have HSL := Lib.hid hsl
  have HSM := Lib.hid hsm
  have HLM := Lib.hid hlm
  have HMM := Lib.hid hmm
  have HRUN := Lib.hid n10run
  have HSS := Lib.hid n10s
  have HSN := Lib.hid n10n
  clear hl1 hm1 hsl hsm hlm hmm
  go_enter Try.func10, Try.ntmps10
  go_wp2_with fail
  refine (HP1.out).mono ?_; rintro e w1 ⟨v1, rfl, ho1, hd1⟩
  obtain ⟨A1, c1, rfl, ht1, hc1, _⟩ := ho1.shape
  have HR1 := Lib.hid ht1.rs
  have HD1 := Lib.hid hd1
  clear ho1 hd1 ht1 HP1 hc1
  go_wp2_with fail
  refine (HP2.out _).mono ?_; rintro e w2 ⟨v2, rfl, ho2, hd2⟩
  obtain ⟨A2, c2, rfl, ht2, hc2, _⟩ := ho2.shape
  have HR2 := Lib.hid ht2.rs
  have HD2 := Lib.hid (HD1.out.up hd2)
  have HC3 := Lib.hid (ncompV A1 c1 n10L w2 (HR1.out.up hd2) (by decide) n10L_ok n10vl)
  clear ho2 hd2 ht2 HP2 hc2 HR1 HD1
  go_wp2_with fail
  refine (HC3.out).mono ?_; rintro e w3 ⟨v3, rfl, ho3, hd3⟩
  obtain ⟨A3, c3, rfl, ht3, hc3, _⟩ := ho3.shape
  have HR3 := Lib.hid ht3.rs
  have HD3 := Lib.hid (HD2.out.up hd3)
  have HC4 := Lib.hid (ncompV A2 c2 n10M w3 (HR2.out.up hd3) (by decide) n10M_ok n10vm)
  clear ho3 hd3 ht3 HC3 hc3 HR2 HD2
  go_wp2_with fail
  refine (HC4.out).mono ?_; rintro e w4 ⟨v4, rfl, ho4, hd4⟩
  obtain ⟨A4, c4, rfl, ht4, hc4, _⟩ := ho4.shape
  have HR4 := Lib.hid ht4.rs
  have HR3' := Lib.hid (HR3.out.up hd4)
  have HD4 := Lib.hid (HD3.out.up hd4)
  have HC5 := Lib.hid (nsampleC A3 c3 (pcompM n10L) w4 HR3'.out HLM.out)
  clear ho4 hd4 ht4 HC4 hc4 HR3 HD3
  go_wp2_with fail
  refine (HC5.out).mono ?_; rintro e w5 ⟨v5, r5, rfl, ho5, hs5, _, hd5⟩
  have hr5 := HSS.out r5 (hs5 HSL.out)
  subst hr5
  simp only [Option.isSome_some, Option.getD_some, List.length_singleton] at ho5 ⊢
  obtain ⟨A5, c5, rfl, ht5, hc5, _⟩ := ho5.shape
  have HR5 := Lib.hid ht5.rs
  have HR4' := Lib.hid (HR4.out.up hd5)
  have HR3'' := Lib.hid (HR3'.out.up hd5)
  have HD5 := Lib.hid (HD4.out.up hd5)
  have HC6 := Lib.hid (nsampleC A4 c4 (pcompM n10M) w5 HR4'.out HMM.out)
  clear ho5 hs5 hd5 ht5 hc5 HC5 HR4 HR3' HD4
  go_wp2_with fail
  refine (HC6.out).mono ?_; rintro e w6 ⟨v6, r6, rfl, ho6, hs6, _, hd6⟩
  have hr6 := HSN.out r6 (hs6 HSM.out)
  subst hr6
  simp only [Option.isSome_none, Option.getD_none, List.length_nil] at ho6 ⊢
  obtain ⟨A6, c6, rfl, _, _, _⟩ := ho6.shape
  have hc7 : (convert 23 9 (.slice A5 1 c5)).run Try.prog w6 = .ok (.string ⟨#[99]⟩) w6 := by
    have := run_str (P := Try.prog) w6 (src := 23) (dst := 9) (e := 5) A5 c5 [99] Try.underlying23 Try.underlying5 Try.underlying9 (HR5.out.up hd6)
    exact this
  have HD6 := Lib.hid (HD5.out.up hd6)
  have HRA := Lib.hid (HR3''.out.up hd6)
  clear ho6 hs6 hd6 HC6 HR4' HR3'' HR5 HD5
  have hrw : Rs (w6.alloc (.cells #[.int .u8 120, .int .u8 97, .int .u8 98] 5 (3, 4))) (some ⟨w6.heap.size, 0, none⟩) (txt [120, 97, 98]) := by
    refine Or.inr ⟨_, _, rfl, fun j u hu => ?_⟩
    rw [Nat.zero_add, cell_of_row _ w6.heap.size j _ _ _ (heap_alloc_new w6 _), show (#[.int .u8 120, .int .u8 97, .int .u8 98] : Array Value) = (txt [120, 97, 98]).toArray from rfl, List.getElem?_toArray]
    exact hu
  have hr8 := nrunC A3 (some ⟨w6.heap.size, 0, none⟩) c3 3 (pcompM n10L) [120, 97, 98] (w6.alloc (.cells #[.int .u8 120, .int .u8 97, .int .u8 98] 5 (3, 4))) (HRA.out.up ((Old.refl w6).alloc _)) hrw HLM.out (by decide) (by decide)
  rw [HRUN.out] at hr8
  have HR8 := Lib.hid hr8
  have HD7 := Lib.hid (HD6.out.alloc (.cells #[.int .u8 120, .int .u8 97, .int .u8 98] 5 (3, 4)))
  clear hr8 hrw HD6
  go_wp2_with fail
  refine (HR8.out).mono ?_; rintro e w9 ⟨rfl, hd9⟩
  have HD9 := Lib.hid (HD7.out.up hd9)
  clear hd9 HR8 HD7 hc7
  go_wp2_with fail
  go_ret
  exact ⟨rfl, HD9.out⟩
end Go.Proofs.Ythadkjgadhbidaa
/-
  The reference's automaton of a pattern, on plain lists: it is valid, small, and wired as the nodes say. No program in sight.
-/
namespace Go.Proofs.Ythadkjgadhbidaa
open Go.RowKit
set_option linter.unusedVariables false

def rbF (l : List Nd) : Nat → Nat → Nat → List Nd
  | 0, _, _ => []
  | f + 1, n, at_ =>
    if (nd l n).kind = 2 then [⟨1, ((at_ + 1 : Nat) : Int), 0, (nd l n).set⟩]
    else if (nd l n).kind = 8 then [⟨3, ((at_ + 1 : Nat) : Int), 0, 0⟩]
    else if (nd l n).kind = 9 then [⟨4, ((at_ + 1 : Nat) : Int), 0, 0⟩]
    else if (nd l n).kind = 1 then [⟨2, ((at_ + 1 : Nat) : Int), ((at_ + 1 : Nat) : Int), 0⟩]
    else if (nd l n).kind = 3 then rbF l f (nd l n).left.toNat at_ ++ rbF l f (nd l n).right.toNat (at_ + (rbF l f (nd l n).left.toNat at_).length)
    else if (nd l n).kind = 4 then
      let a := rbF l f (nd l n).left.toNat (at_ + 1)
      let b := rbF l f (nd l n).right.toNat (at_ + 2 + a.length)
      [⟨2, ((at_ + 1 : Nat) : Int), ((at_ + 2 + a.length : Nat) : Int), 0⟩] ++ a ++ [⟨2, ((at_ + 2 + a.length + b.length : Nat) : Int), ((at_ + 2 + a.length + b.length : Nat) : Int), 0⟩] ++ b
    else if (nd l n).kind = 5 then
      let a := rbF l f (nd l n).left.toNat (at_ + 1)
      [⟨2, ((at_ + 1 : Nat) : Int), ((at_ + 2 + a.length : Nat) : Int), 0⟩] ++ a ++ [⟨2, (at_ : Int), (at_ : Int), 0⟩]
    else if (nd l n).kind = 6 then
      let a := rbF l f (nd l n).left.toNat at_
      a ++ [⟨2, (at_ : Int), ((at_ + 1 + a.length : Nat) : Int), 0⟩]
    else
      let a := rbF l f (nd l n).left.toNat (at_ + 1)
      [⟨2, ((at_ + 1 : Nat) : Int), ((at_ + 1 + a.length : Nat) : Int), 0⟩] ++ a
/-- The list lies in the states from a place on. -/
def Emb (st : List Nd) (at_ : Nat) (r : List Nd) : Prop := ∀ i, i < r.length → nd st (at_ + i) = nd r i
theorem Emb.left {st : List Nd} {at_ : Nat} {r s : List Nd} (h : Emb st at_ (r ++ s)) : Emb st at_ r := fun i hi => by
  rw [h i (by rw [List.length_append]; omega), nd_append_left hi]
theorem Emb.right {st : List Nd} {at_ : Nat} {r s : List Nd} (h : Emb st at_ (r ++ s)) : Emb st (at_ + r.length) s := fun i hi => by
  rw [Nat.add_assoc, h (r.length + i) (by rw [List.length_append]; omega)]
  unfold nd
  rw [List.getD_eq_getElem?_getD, List.getD_eq_getElem?_getD, List.getElem?_append_right (by omega), show r.length + i - r.length = i by omega]
theorem Emb.one {st : List Nd} {at_ : Nat} {y : Nd} (h : Emb st at_ [y]) : nd st at_ = y := h 0 (by simp)
structure RMade (l : List Nd) (n at_ w : Nat) (r : List Nd) : Prop where
  few : r.length ≤ 2 * w
  frag : ∀ st, Emb st at_ r → Frag l (nd st) (fun _ => True) n at_ (at_ + r.length)
  ok : ∀ B, at_ + r.length < B → ∀ y ∈ r, okSt B y
  sets : (∀ y ∈ l, setOk y.set) → ∀ y ∈ r, setOk y.set
theorem okSt_two {B a b : Nat} (ha : a < B) (hb : b < B) : okSt B ⟨2, (a : Int), (b : Int), 0⟩ := okSt_mk (by decide) (by decide) ha (fun _ => ⟨by omega, by omega⟩)
theorem rbF_made {l : List Nd} {a n : Nat} (h : Sub l a n) : ∀ (f at_ : Nat), n < f → RMade l n at_ (n + 1 - a) (rbF l f n at_) := by
  induction h with
  | leaf n h hk h1 h2 h3 =>
    intro f at_ hf
    obtain ⟨f, rfl⟩ : ∃ g, f = g + 1 := ⟨f - 1, by omega⟩
    rw [show n + 1 - n = 1 by omega, rbF]
    rcases hk with hk | hk | hk | hk
    · rw [if_neg (by omega), if_neg (by omega), if_neg (by omega), if_pos hk]
      refine ⟨by simp, fun st he => .empty n _ _ hk (Or.inr ⟨trivial, ?_⟩), fun B hB y hy => ?_, fun _ y hy => ?_⟩
      · rw [he.one]; exact ⟨rfl, rfl, rfl⟩
      · simp at hy hB; subst hy; exact okSt_two (by omega) (by omega)
      · simp at hy; subst hy; exact setOk_zero
    · rw [if_pos hk]
      refine ⟨by simp, fun st he => .set n _ _ hk trivial (by rw [he.one]) (by rw [he.one]; rfl) (by rw [he.one]), fun B hB y hy => ?_, fun hl y hy => ?_⟩
      · simp at hy hB; subst hy; exact okSt_mk (by decide) (by decide) (by omega) (fun e => by simp at e)
      · simp at hy; subst hy; exact (show setOk (nd l n).set from hl _ (nd_mem h))
    · rw [if_neg (by omega), if_pos hk]
      refine ⟨by simp, fun st he => .bol n _ _ hk trivial (by rw [he.one]) (by rw [he.one]; rfl), fun B hB y hy => ?_, fun _ y hy => ?_⟩
      · simp at hy hB; subst hy; exact okSt_mk (by decide) (by decide) (by omega) (fun e => by simp at e)
      · simp at hy; subst hy; exact setOk_zero
    · rw [if_neg (by omega), if_neg (by omega), if_pos hk]
      refine ⟨by simp, fun st he => .eol n _ _ hk trivial (by rw [he.one]) (by rw [he.one]; rfl), fun B hB y hy => ?_, fun _ y hy => ?_⟩
      · simp at hy hB; subst hy; exact okSt_mk (by decide) (by decide) (by omega) (fun e => by simp at e)
      · simp at hy; subst hy; exact setOk_zero
  | one a n h hk h1 h2 h3 hs ih =>
    intro f at_ hf
    obtain ⟨f, rfl⟩ : ∃ g, f = g + 1 := ⟨f - 1, by omega⟩
    have hle := hs.le
    have hL : (nd l (n + 1)).left.toNat = n := by omega
    rw [rbF, if_neg (by omega), if_neg (by omega), if_neg (by omega), if_neg (by omega), if_neg (by omega), if_neg (by omega), hL]
    have hw : n + 1 + 1 - a = (n + 1 - a) + 1 := by omega
    rw [hw]
    rcases hk with hk | hk | hk
    · rw [if_pos hk]
      have m := ih f (at_ + 1) (by omega)
      generalize rbF l f n (at_ + 1) = r at *
      simp only
      refine ⟨by have := m.few; simp; omega, fun st he => ?_, fun B hB y hy => ?_, fun hl y hy => ?_⟩
      · have e1 := he.left.left.one
        have e2 : Emb st (at_ + 1) r := he.left.right
        have e3 := he.right.one
        rw [show (([⟨2, ((at_ + 1 : Nat) : Int), ((at_ + 2 + r.length : Nat) : Int), 0⟩] : List Nd) ++ r).length = 1 + r.length by simp; omega] at e3
        rw [show at_ + (([⟨2, ((at_ + 1 : Nat) : Int), ((at_ + 2 + r.length : Nat) : Int), 0⟩] : List Nd) ++ r ++ [(⟨2, (at_ : Int), (at_ : Int), 0⟩ : Nd)]).length = at_ + 2 + r.length by simp; omega]
        refine .star (n + 1) n at_ (at_ + 1) (at_ + (1 + r.length)) _ hk h1 trivial (by rw [e1]) (by rw [e1]) (by rw [e1]) ?_ (Or.inr ⟨trivial, by rw [e3], by rw [e3], by rw [e3]⟩)
        have := m.frag st e2
        rwa [Nat.add_assoc] at this
      · simp only [List.length_append, List.length_cons, List.length_nil] at hB
        simp only [List.mem_append, List.mem_singleton] at hy
        rcases hy with (hy | hy) | hy
        · subst hy; exact okSt_two (by omega) (by omega)
        · exact m.ok B (by omega) y hy
        · subst hy; exact okSt_two (by omega) (by omega)
      · simp only [List.mem_append, List.mem_singleton] at hy
        rcases hy with (hy | hy) | hy
        · subst hy; exact setOk_zero
        · exact m.sets hl y hy
        · subst hy; exact setOk_zero
    · rw [if_neg (by omega), if_pos hk]
      have m := ih f at_ (by omega)
      generalize rbF l f n at_ = r at *
      simp only
      refine ⟨by have := m.few; simp; omega, fun st he => ?_, fun B hB y hy => ?_, fun hl y hy => ?_⟩
      · have e2 := he.left
        have e3 := he.right.one
        rw [show at_ + (r ++ [(⟨2, (at_ : Int), ((at_ + 1 + r.length : Nat) : Int), 0⟩ : Nd)]).length = at_ + 1 + r.length by simp; omega]
        exact .plus (n + 1) n at_ (at_ + r.length) _ hk h1 (m.frag st e2) trivial (by rw [e3]) (by rw [e3]) (by rw [e3])
      · simp only [List.length_append, List.length_cons, List.length_nil] at hB
        simp only [List.mem_append, List.mem_singleton] at hy
        rcases hy with hy | hy
        · exact m.ok B (by omega) y hy
        · subst hy; exact okSt_two (by omega) (by omega)
      · simp only [List.mem_append, List.mem_singleton] at hy
        rcases hy with hy | hy
        · exact m.sets hl y hy
        · subst hy; exact setOk_zero
    · rw [if_neg (by omega), if_neg (by omega)]
      have m := ih f (at_ + 1) (by omega)
      generalize rbF l f n (at_ + 1) = r at *
      simp only
      refine ⟨by have := m.few; simp; omega, fun st he => ?_, fun B hB y hy => ?_, fun hl y hy => ?_⟩
      · have e1 := he.left.one
        have e2 : Emb st (at_ + 1) r := he.right
        rw [show at_ + (([⟨2, ((at_ + 1 : Nat) : Int), ((at_ + 1 + r.length : Nat) : Int), 0⟩] : List Nd) ++ r).length = at_ + 1 + r.length by simp; omega]
        exact .opt (n + 1) n at_ (at_ + 1) _ hk h1 trivial (by rw [e1]) (by rw [e1]) (by rw [e1]) (m.frag st e2)
      · simp only [List.length_append, List.length_cons, List.length_nil] at hB
        simp only [List.mem_append, List.mem_singleton] at hy
        rcases hy with hy | hy
        · subst hy; exact okSt_two (by omega) (by omega)
        · exact m.ok B (by omega) y hy
      · simp only [List.mem_append, List.mem_singleton] at hy
        rcases hy with hy | hy
        · subst hy; exact setOk_zero
        · exact m.sets hl y hy
  | two a m n h hk h1 h2 h3 hs1 hs2 i1 i2 =>
    intro f at_ hf
    obtain ⟨f, rfl⟩ : ∃ g, f = g + 1 := ⟨f - 1, by omega⟩
    have hle1 := hs1.le
    have hle2 := hs2.le
    have hL : (nd l (n + 1)).left.toNat = m := by omega
    have hR : (nd l (n + 1)).right.toNat = n := by omega
    rw [rbF, if_neg (by omega), if_neg (by omega), if_neg (by omega), if_neg (by omega), hL, hR]
    rcases hk with hk | hk
    · rw [if_pos hk]
      have q1 := i1 f at_ (by omega)
      generalize rbF l f m at_ = r at *
      have q2 := i2 f (at_ + r.length) (by omega)
      generalize rbF l f n (at_ + r.length) = s at *
      refine ⟨by have := q1.few; have := q2.few; rw [List.length_append]; omega, fun st he => ?_, fun B hB y hy => ?_, fun hl y hy => ?_⟩
      · rw [List.length_append, ← Nat.add_assoc]
        exact .cat (n + 1) m n at_ _ _ hk h1 h2 (q1.frag st he.left) (q2.frag st he.right)
      · rw [List.length_append] at hB
        rcases List.mem_append.mp hy with hy | hy
        · exact q1.ok B (by omega) y hy
        · exact q2.ok B (by omega) y hy
      · rcases List.mem_append.mp hy with hy | hy
        · exact q1.sets hl y hy
        · exact q2.sets hl y hy
    · rw [if_neg (by omega), if_pos hk]
      have q1 := i1 f (at_ + 1) (by omega)
      generalize rbF l f m (at_ + 1) = r at *
      simp only
      have q2 := i2 f (at_ + 2 + r.length) (by omega)
      generalize rbF l f n (at_ + 2 + r.length) = s at *
      refine ⟨by have := q1.few; have := q2.few; simp; omega, fun st he => ?_, fun B hB y hy => ?_, fun hl y hy => ?_⟩
      · have e1 := he.left.left.left.one
        have e2 : Emb st (at_ + 1) r := he.left.left.right
        have e3 := he.left.right.one
        have e4 := he.right
        rw [show (([⟨2, ((at_ + 1 : Nat) : Int), ((at_ + 2 + r.length : Nat) : Int), 0⟩] : List Nd) ++ r).length = 1 + r.length by simp; omega] at e3
        rw [show at_ + (([⟨2, ((at_ + 1 : Nat) : Int), ((at_ + 2 + r.length : Nat) : Int), 0⟩] : List Nd) ++ r ++ [(⟨2, ((at_ + 2 + r.length + s.length : Nat) : Int), ((at_ + 2 + r.length + s.length : Nat) : Int), 0⟩ : Nd)]).length = at_ + 2 + r.length by simp; omega] at e4
        rw [show at_ + (([⟨2, ((at_ + 1 : Nat) : Int), ((at_ + 2 + r.length : Nat) : Int), 0⟩] : List Nd) ++ r ++ [(⟨2, ((at_ + 2 + r.length + s.length : Nat) : Int), ((at_ + 2 + r.length + s.length : Nat) : Int), 0⟩ : Nd)] ++ s).length = at_ + 2 + r.length + s.length by simp; omega]
        refine .alt (n + 1) m n at_ (at_ + 1) (at_ + 2 + r.length) (at_ + (1 + r.length)) (at_ + 2 + r.length + s.length) _ hk h1 h2 trivial (by rw [e1]) (by rw [e1]) (by rw [e1]) ?_ (Or.inr ⟨trivial, by rw [e3], by rw [e3], by rw [e3]⟩) (q2.frag st e4) (Or.inl rfl)
        have := q1.frag st e2
        rwa [Nat.add_assoc] at this
      · simp only [List.length_append, List.length_cons, List.length_nil] at hB
        simp only [List.mem_append, List.mem_singleton] at hy
        rcases hy with ((hy | hy) | hy) | hy
        · subst hy; exact okSt_two (by omega) (by omega)
        · exact q1.ok B (by omega) y hy
        · subst hy; exact okSt_two (by omega) (by omega)
        · exact q2.ok B (by omega) y hy
      · simp only [List.mem_append, List.mem_singleton] at hy
        rcases hy with ((hy | hy) | hy) | hy
        · subst hy; exact setOk_zero
        · exact q1.sets hl y hy
        · subst hy; exact setOk_zero
        · exact q2.sets hl y hy
def rcompM (l : List Nd) : List Nd := rbF l l.length (l.length - 1) 0 ++ [⟨5, 0, 0, 0⟩]
theorem rcomp_ok {l : List Nd} (hv : validM l = true) : Wired l (rcompM l) ∧ svalid (rcompM l) = true ∧ (rcompM l).length ≤ 513 ∧ 1 ≤ (rcompM l).length ∧ ((∀ y ∈ l, setOk y.set) → ∀ y ∈ rcompM l, setOk y.set) := by
  have hlen := validM_len hv
  have m := rbF_made (validM_sub hv) l.length 0 (by omega)
  unfold rcompM
  generalize rbF l l.length (l.length - 1) 0 = r at *
  have hf := m.few
  have hl : (r ++ [(⟨5, 0, 0, 0⟩ : Nd)]).length = r.length + 1 := by simp
  refine ⟨⟨fun _ => True, 0, 0 + r.length, Or.inl rfl, m.frag _ (fun i hi => ?_), ?_⟩, decide_eq_true ⟨?_, ?_, fun y hy => ?_⟩, ?_, ?_, fun hs y hy => ?_⟩
  · rw [Nat.zero_add, nd_append_left hi]
  · rw [Nat.zero_add, nd_last]
  · omega
  · omega
  · rw [hl]
    rcases List.mem_append.mp hy with hy | hy
    · exact m.ok _ (by omega) y hy
    · simp at hy; subst hy; exact okSt_match
  · omega
  · omega
  · rcases List.mem_append.mp hy with hy | hy
    · exact m.sets hs y hy
    · simp at hy; subst hy; exact setOk_zero
end Go.Proofs.Ythadkjgadhbidaa
/-
  The reference's test of a list of nodes, on plain lists: it comes to the program's test. No program in sight.
-/
namespace Go.Proofs.Ythadkjgadhbidaa
open Go.RowKit
set_option linter.unusedVariables false

theorem kidsN_bd2 (k : Int) : 0 ≤ kidsN k ∧ kidsN k ≤ 2 := by unfold kidsN; split <;> (try split) <;> omega
def badNd (x : Nd) : Prop := x.kind < 1 ∨ 9 < x.kind ∨ (x.kind ≠ 2 ∧ x.set ≠ 0)
instance (x : Nd) : Decidable (badNd x) := by unfold badNd; infer_instance
def bentNd (x : Nd) : Prop := (kidsN x.kind < 2 ∧ x.right ≠ 0) ∨ (kidsN x.kind < 1 ∧ x.left ≠ 0)
instance (x : Nd) : Decidable (bentNd x) := by unfold bentNd; infer_instance
def treeS (x : Nd) (k : Int) (g : Int → Int) : Int :=
  if badNd x ∨ bentNd x then -1
  else if kidsN x.kind = 0 then k
  else if kidsN x.kind = 2 then
    if x.right ≠ k - 1 then -1
    else if g (k - 1) - 1 < 0 ∨ x.left ≠ g (k - 1) - 1 then -1 else g (g (k - 1) - 1)
  else if k - 1 < 0 ∨ x.left ≠ k - 1 then -1 else g (k - 1)
/-- Where the tree whose root is node k begins, or -1. -/
def treeF (l : List Nd) : Nat → Int → Int
  | 0, _ => -1
  | f + 1, k => if k < 0 then -1 else treeS (nd l k.toNat) k (treeF l f)
theorem treeF_bd (l : List Nd) : ∀ (f : Nat) (k : Int), -1 ≤ treeF l f k ∧ (-1 ≤ k → treeF l f k ≤ k)
  | 0, k => ⟨Int.le_refl _, fun h => h⟩
  | f + 1, k => by
    have a1 := treeF_bd l f (k - 1)
    have a2 := treeF_bd l f (treeF l f (k - 1) - 1)
    rw [treeF]
    split
    · exact ⟨by omega, by omega⟩
    unfold treeS
    split
    · exact ⟨by omega, by omega⟩
    split
    · exact ⟨by omega, by omega⟩
    split
    · split
      · exact ⟨by omega, by omega⟩
      split
      · exact ⟨by omega, by omega⟩
      · exact ⟨a2.1, fun h => by have := a2.2 (by omega); have := a1.2 (by omega); omega⟩
    · split
      · exact ⟨by omega, by omega⟩
      · exact ⟨a1.1, fun h => by have := a1.2 (by omega); omega⟩
theorem treeF_neg (l : List Nd) (f : Nat) (k : Int) (h : k < 0) : treeF l f k = -1 := by
  cases f with
  | zero => rfl
  | succ f => rw [treeF, if_pos h]
theorem sub_treeF {l : List Nd} {a n : Nat} (h : Sub l a n) : ∀ f, n + 1 ≤ f → treeF l f n = a := by
  induction h with
  | leaf n h hk h1 h2 h3 =>
    intro f hf
    obtain ⟨f, rfl⟩ : ∃ g, f = g + 1 := ⟨f - 1, by omega⟩
    have hkk : kidsN (nd l n).kind = 0 := by unfold kidsN; rw [if_neg (by omega), if_neg (by omega)]
    rw [treeF, if_neg (by omega), Int.toNat_natCast]
    unfold treeS
    rw [if_neg, if_pos hkk]
    rintro (hb | hb)
    · rcases hb with hb | hb | ⟨hb, hc⟩
      · omega
      · omega
      · exact hc (h3 hb)
    · rcases hb with ⟨_, hb⟩ | ⟨_, hb⟩
      · exact hb h2
      · exact hb h1
  | one a n h hk h1 h2 h3 hs ih =>
    intro f hf
    obtain ⟨f, rfl⟩ : ∃ g, f = g + 1 := ⟨f - 1, by omega⟩
    have hkk : kidsN (nd l (n + 1)).kind = 1 := by unfold kidsN; rw [if_neg (by omega), if_pos (by omega)]
    have i1 := ih f (by omega)
    have e : ((n + 1 : Nat) : Int) - 1 = n := by omega
    rw [treeF, if_neg (by omega), Int.toNat_natCast]
    unfold treeS
    rw [e, if_neg, if_neg (by omega), if_neg (by omega), if_neg (by omega), i1]
    rintro (hb | hb)
    · rcases hb with hb | hb | ⟨hb, hc⟩
      · omega
      · omega
      · exact hc h3
    · rcases hb with ⟨_, hb⟩ | ⟨hb, _⟩
      · exact hb h2
      · omega
  | two a m n h hk h1 h2 h3 hs1 hs2 ih1 ih2 =>
    intro f hf
    obtain ⟨f, rfl⟩ : ∃ g, f = g + 1 := ⟨f - 1, by omega⟩
    have hkk : kidsN (nd l (n + 1)).kind = 2 := by unfold kidsN; rw [if_pos (by omega)]
    have b1 := hs1.le
    have b2 := hs2.le
    have i1 := ih1 f (by omega)
    have i2 := ih2 f (by omega)
    have e : ((n + 1 : Nat) : Int) - 1 = n := by omega
    have e2 : ((m + 1 : Nat) : Int) - 1 = m := by omega
    rw [treeF, if_neg (by omega), Int.toNat_natCast]
    unfold treeS
    rw [e, i2, e2, i1, if_neg, if_neg (by omega), if_pos hkk, if_neg (by omega), if_neg (by omega)]
    rintro (hb | hb)
    · rcases hb with hb | hb | ⟨hb, hc⟩
      · omega
      · omega
      · exact hc h3
    · rcases hb with ⟨hb, _⟩ | ⟨hb, _⟩ <;> omega
theorem treeF_sub {l : List Nd} : ∀ (f n : Nat), n < l.length → ∀ a : Nat, treeF l f n = a → Sub l a n
  | 0, n, hn, a, h => by rw [treeF] at h; omega
  | f + 1, n, hn, a, h => by
    rw [treeF, if_neg (by omega), Int.toNat_natCast] at h
    unfold treeS at h
    split at h
    · omega
    rename_i hb
    have hb1 : ¬ badNd (nd l n) := fun x => hb (Or.inl x)
    have hb2 : ¬ bentNd (nd l n) := fun x => hb (Or.inr x)
    unfold badNd at hb1
    unfold bentNd at hb2
    have hk1 : 1 ≤ (nd l n).kind := by omega
    have hk2 : (nd l n).kind ≤ 9 := by omega
    have hset : (nd l n).kind ≠ 2 → (nd l n).set = 0 := fun hx => Decidable.byContradiction fun hy => hb1 (Or.inr (Or.inr ⟨hx, hy⟩))
    split at h
    · rename_i hk
      obtain rfl : n = a := by omega
      have hkk : (nd l n).kind = 1 ∨ (nd l n).kind = 2 ∨ (nd l n).kind = 8 ∨ (nd l n).kind = 9 := by
        unfold kidsN at hk; split at hk
        · omega
        split at hk <;> omega
      exact .leaf n hn hkk (by omega) (by omega) hset
    split at h
    · rename_i hk
      have hkk : (nd l n).kind = 3 ∨ (nd l n).kind = 4 := by
        unfold kidsN at hk; split at hk
        · assumption
        split at hk <;> omega
      split at h
      · omega
      rename_i hr
      split at h
      · omega
      rename_i hl
      have hbd := treeF_bd l f ((n : Int) - 1)
      have h1 : 1 ≤ n := by
        have := hbd.2
        rcases Nat.eq_zero_or_pos n with e | e
        · subst e
          rw [treeF_neg l f _ (by omega)] at hl
          omega
        · exact e
      obtain ⟨n, rfl⟩ : ∃ k, n = k + 1 := ⟨n - 1, by omega⟩
      have e : ((n + 1 : Nat) : Int) - 1 = n := by omega
      rw [e] at h hl hr hbd
      obtain ⟨t, ht⟩ : ∃ t : Nat, treeF l f n = (t + 1 : Nat) := ⟨(treeF l f n - 1).toNat, by omega⟩
      have s2 := treeF_sub f n (by omega) _ ht
      rw [ht] at h hl
      have e2 : ((t + 1 : Nat) : Int) - 1 = t := by omega
      rw [e2] at h hl
      have := s2.le
      have s1 := treeF_sub f t (by omega) _ h
      exact .two a t n hn hkk (by omega) (by omega) (hset (by omega)) s1 s2
    · rename_i hk0 hk2'
      have hkk : (nd l n).kind = 5 ∨ (nd l n).kind = 6 ∨ (nd l n).kind = 7 := by
        unfold kidsN at hk0 hk2'; split at hk0
        · omega
        split at hk0 <;> omega
      have hk1' : kidsN (nd l n).kind = 1 := by unfold kidsN; rw [if_neg (by omega), if_pos (by omega)]
      split at h
      · omega
      rename_i hl
      obtain ⟨n, rfl⟩ : ∃ k, n = k + 1 := ⟨n - 1, by omega⟩
      have e : ((n + 1 : Nat) : Int) - 1 = n := by omega
      rw [e] at h hl
      have s1 := treeF_sub f n (by omega) _ h
      exact .one a n hn hkk (by omega) (by omega) (hset (by omega)) s1
/-- The reference's test. -/
def rvalidM (l : List Nd) : Bool := decide (1 ≤ l.length ∧ l.length ≤ 256 ∧ treeF l l.length ((l.length : Int) - 1) = 0)
theorem rvalid_eq (l : List Nd) : rvalidM l = validM l := by
  by_cases h : validM l = true
  · have hs := validM_sub h
    have hl := validM_len h
    rw [h]
    refine decide_eq_true ⟨by omega, by omega, ?_⟩
    have := sub_treeF hs l.length (by omega)
    rw [show ((l.length : Int) - 1) = ((l.length - 1 : Nat) : Int) by omega]
    exact this
  · have hf : validM l = false := by simpa using h
    rw [hf]
    refine decide_eq_false ?_
    rintro ⟨h1, h2, h3⟩
    rw [show ((l.length : Int) - 1) = ((l.length - 1 : Nat) : Int) by omega] at h3
    have hs := treeF_sub l.length (l.length - 1) (by omega) 0 h3
    exact h (Tr.valid ⟨by omega, hs⟩ h2)
end Go.Proofs.Ythadkjgadhbidaa
/-
  The reference's test of a list of nodes: one tree.
-/
namespace Go.Proofs.Ythadkjgadhbidaa
open Go.RowKit
set_option linter.unusedVariables false

set_option maxRecDepth 100000 in
theorem tree_neg (A : Option Addr) (c n : Nat) (k : Int) (w : World) (h : k < 0) : Calls Try.prog 40 #[.slice A n c, .int .i64 k] w (ValOld (.int .i64 (-1)) w) := by
  go_enter Try.func40, Try.ntmps40
  go_wp2_with fail
  go_ret
  exact ⟨rfl, Old.refl _⟩
set_option maxHeartbeats 8000000 in
set_option maxRecDepth 100000 in
theorem treeC (A : Option Addr) (c : Nat) (l : List Nd) (hm : l.length ≤ maxLen) (hso : ∀ x ∈ l, setOk x.set) : ∀ (f : Nat) (k : Int) (w : World), Rs w A (ndsV l) → k < l.length → k + 1 ≤ f →
    Calls Try.prog 40 #[.slice A l.length c, .int .i64 k] w (ValOld (.int .i64 (treeF l f k)) w) := by
  intro f
  induction f with
  | zero =>
    intro k w hr hk hf
    rw [treeF_neg l 0 k (by omega)]
    exact tree_neg A c l.length k w (by omega)
  | succ f ih =>
  intro k w hr hk hf
  by_cases h0 : k < 0
  · rw [treeF_neg l _ k h0]
    exact tree_neg A c l.length k w h0
  obtain ⟨k, rfl⟩ : ∃ n : Nat, k = (n : Int) := ⟨k.toNat, by omega⟩
  have hT : treeF l (f + 1) (k : Int) = treeS (nd l k) k (treeF l f) := by rw [treeF, if_neg h0, Int.toNat_natCast]
  have hkl : k < l.length := by omega
  have hx : l[k]? = some (nd l k) := by unfold nd; rw [List.getD_eq_getElem?_getD, List.getElem?_eq_getElem hkl]; rfl
  have hg := ndsV_get l k _ hx
  have hst : setOk (nd l k).set := hso _ (List.mem_of_getElem? hx)
  have IH := Lib.hid ih
  have HRW := Lib.hid hr
  obtain ⟨b, off, rfl, hbl, hcl⟩ := hr.at_ (by rw [ndsV_length]; omega)
  have c0 := hcl _ _ (hg 0 (by omega))
  have c1 := hcl _ _ (hg 1 (by omega))
  have c2 := hcl _ _ (hg 2 (by omega))
  have c3 := hcl _ _ (hg 3 (by omega))
  have c4 := hcl _ _ (hg 4 (by omega))
  have c5 := hcl _ _ (hg 5 (by omega))
  have c6 := hcl _ _ (hg 6 (by omega))
  rw [← Nat.add_assoc] at c0 c1 c2 c3 c4 c5 c6
  rw [Nat.add_zero] at c0
  clear hx hg hcl hr ih hbl hso
  have HT := Lib.hid hT
  clear hT
  generalize nd l k = nx at *
  obtain ⟨kd, lf, rt, st⟩ := nx
  replace c0 : w.cell? ⟨b, off + k * 7, none⟩ = some (.int .i64 kd) := c0
  replace c1 : w.cell? ⟨b, off + k * 7 + 1, none⟩ = some (.int .i64 lf) := c1
  replace c2 : w.cell? ⟨b, off + k * 7 + 2, none⟩ = some (.int .i64 rt) := c2
  replace c3 : w.cell? ⟨b, off + k * 7 + 3, none⟩ = some (.int .u64 (setW st 0)) := c3
  replace c4 : w.cell? ⟨b, off + k * 7 + 4, none⟩ = some (.int .u64 (setW st 1)) := c4
  replace c5 : w.cell? ⟨b, off + k * 7 + 5, none⟩ = some (.int .u64 (setW st 2)) := c5
  replace c6 : w.cell? ⟨b, off + k * 7 + 6, none⟩ = some (.int .u64 (setW st 3)) := c6
  have i0 : (0 : Int) ≤ (k : Int) := by omega
  have i1 : (k : Int) < (l.length : Int) := by omega
  have HF := Lib.hid hf
  have HMX := Lib.hid hm
  clear hf hm h0
  go_enter Try.func40, Try.ntmps40
  go_upto_region 4 with fail
  have hb5 := heap_alloc_new w (.cells #[.int .i64 kd, .int .i64 lf, .int .i64 rt, .int .u64 (setW st 0), .int .u64 (setW st 1), .int .u64 (setW st 2), .int .u64 (setW st 3)] 114)
  have HOW := Lib.hid ((Old.refl w).alloc (.cells #[.int .i64 kd, .int .i64 lf, .int .i64 rt, .int .u64 (setW st 0), .int .u64 (setW st 1), .int .u64 (setW st 2), .int .u64 (setW st 3)] 114))
  generalize w.alloc (.cells #[.int .i64 kd, .int .i64 lf, .int .i64 rt, .int .u64 (setW st 0), .int .u64 (setW st 1), .int .u64 (setW st 2), .int .u64 (setW st 3)] 114) = W at *
  clear c0 c1 c2 c3 c4 c5 c6
  have d0 : W.cell? ⟨w.heap.size, 0, none⟩ = some (.int .i64 kd) := by rw [cell_of_row W _ 0 _ _ _ hb5]; rfl
  have d1 : W.cell? ⟨w.heap.size, 1, none⟩ = some (.int .i64 lf) := by rw [cell_of_row W _ 1 _ _ _ hb5]; rfl
  have d2 : W.cell? ⟨w.heap.size, 2, none⟩ = some (.int .i64 rt) := by rw [cell_of_row W _ 2 _ _ _ hb5]; rfl
  have d3 : W.cell? ⟨w.heap.size, 3, none⟩ = some (.int .u64 (setW st 0)) := by rw [cell_of_row W _ 3 _ _ _ hb5]; rfl
  have d4 : W.cell? ⟨w.heap.size, 4, none⟩ = some (.int .u64 (setW st 1)) := by rw [cell_of_row W _ 4 _ _ _ hb5]; rfl
  have d5 : W.cell? ⟨w.heap.size, 5, none⟩ = some (.int .u64 (setW st 2)) := by rw [cell_of_row W _ 5 _ _ _ hb5]; rfl
  have d6 : W.cell? ⟨w.heap.size, 6, none⟩ = some (.int .u64 (setW st 3)) := by rw [cell_of_row W _ 6 _ _ _ hb5]; rfl
  have HB5 := Lib.hid hb5
  clear hb5
  have hz := fun W => set_zero st hst W
  clear hst
  have i9 : (k : Int) < 9223372036854775807 := by have := HMX.out; unfold maxLen at this; omega
  by_cases b1 : kd < 1
  · have HN : Hid (treeF l (f + 1) (k : Int) = -1) := Lib.hid (by rw [HT.out]; unfold treeS; rw [if_pos (by simp only [badNd]; omega)])
    clear HT
    go_wp2_with fail
    go_ret
    rw [HN.out]
    exact ⟨rfl, HOW.out⟩
  by_cases b2 : 9 < kd
  · have HN : Hid (treeF l (f + 1) (k : Int) = -1) := Lib.hid (by rw [HT.out]; unfold treeS; rw [if_pos (by simp only [badNd]; omega)])
    clear HT
    go_wp2_with fail
    go_ret
    rw [HN.out]
    exact ⟨rfl, HOW.out⟩
  by_cases b3 : kd = 2
  · have b4 : (kd != 2) = false := by simp [b3]
    clear HB5
    have HK0 : Hid (¬ badNd ⟨kd, lf, rt, st⟩) := Lib.hid (by rintro (h | h | ⟨h, h'⟩) <;> first | exact b1 h | exact b2 h | exact h b3 | exact h' b5)
    have hk3 : kidsN kd = 0 ∨ kidsN kd = 1 ∨ kidsN kd = 2 := by have := kidsN_bd2 kd; omega
    have HKC := Lib.hid (kidsC kd)
    have HBN : Hid (bentNd ⟨kd, lf, rt, st⟩ ↔ ((kidsN kd < 2 ∧ rt ≠ 0) ∨ (kidsN kd < 1 ∧ lf ≠ 0))) := Lib.hid Iff.rfl
    have HTS : Hid (treeF l (f + 1) (k : Int) = if bentNd ⟨kd, lf, rt, st⟩ then -1 else if kidsN kd = 0 then (k : Int) else if kidsN kd = 2 then if rt ≠ k - 1 then -1 else if treeF l f (k - 1) - 1 < 0 ∨ lf ≠ treeF l f (k - 1) - 1 then -1 else treeF l f (treeF l f (k - 1) - 1) else if (k : Int) - 1 < 0 ∨ lf ≠ k - 1 then -1 else treeF l f (k - 1)) := Lib.hid (by
      rw [HT.out]
      unfold treeS
      simp only [HK0.out, false_or])
    clear HT HK0
    generalize kidsN kd = kk at *
    try clear b5
    clear b3
    rcases hk3 with rfl | rfl | rfl
    · by_cases b7 : rt = 0
      · by_cases b8 : lf = 0
        · have HN : Hid (treeF l (f + 1) (k : Int) = k) := Lib.hid (by rw [HTS.out, if_neg (by rw [HBN.out]; omega), if_pos rfl])
          have b9 : (rt != 0) = false := by simp [b7]
          have b10 : (lf != 0) = false := by simp [b8]
          clear HTS HBN b7 b8
          go_wp2_with fail
          refine (HKC.out _).mono ?_; rintro e W8 ⟨rfl, rfl⟩
          go_wp2_with fail
          go_ret
          rw [HN.out]
          exact ⟨rfl, HOW.out⟩
        · have HN : Hid (treeF l (f + 1) (k : Int) = -1) := Lib.hid (by rw [HTS.out, if_pos (by rw [HBN.out]; omega)])
          have b9 : (rt != 0) = false := by simp [b7]
          have b10 : (lf != 0) = true := by simpa using b8
          clear HTS HBN b7 b8
          go_wp2_with fail
          refine (HKC.out _).mono ?_; rintro e W8 ⟨rfl, rfl⟩
          go_wp2_with fail
          go_ret
          rw [HN.out]
          exact ⟨rfl, HOW.out⟩
      · have HN : Hid (treeF l (f + 1) (k : Int) = -1) := Lib.hid (by rw [HTS.out, if_pos (by rw [HBN.out]; omega)])
        have b9 : (rt != 0) = true := by simpa using b7
        clear HTS HBN b7
        go_wp2_with fail
        refine (HKC.out _).mono ?_; rintro e W8 ⟨rfl, rfl⟩
        go_wp2_with fail
        go_ret
        rw [HN.out]
        exact ⟨rfl, HOW.out⟩
    · by_cases b7 : rt = 0
      · have b9 : (rt != 0) = false := by simp [b7]
        by_cases b8 : (k : Int) - 1 < 0
        · have HN : Hid (treeF l (f + 1) (k : Int) = -1) := Lib.hid (by rw [HTS.out, if_neg (by rw [HBN.out]; omega), if_neg (by omega), if_neg (by omega), if_pos (Or.inl b8)])
          clear HTS HBN b7
          go_wp2_with fail
          refine (HKC.out _).mono ?_; rintro e W8 ⟨rfl, rfl⟩
          go_wp2_with fail
          go_ret
          rw [HN.out]
          exact ⟨rfl, HOW.out⟩
        · obtain ⟨n, rfl⟩ : ∃ n : Nat, k = n + 1 := ⟨k - 1, by omega⟩
          have e9 : ((n + 1 : Nat) : Int) - 1 = (n : Int) := by omega
          have HE9 := Lib.hid e9
          clear e9
          by_cases b11 : lf = (n : Int)
          · have HN : Hid (treeF l (f + 1) ((n + 1 : Nat) : Int) = treeF l f n) := Lib.hid (by
              rw [HTS.out, HE9.out, if_neg (by rw [HBN.out]; omega), if_neg (by omega), if_neg (by omega), if_neg (by omega)])
            have HI := Lib.hid (IH.out (n : Int) _ (HRW.out.up HOW.out) (by omega) (by have := HF.out; omega))
            clear HTS HBN IH b7 b8
            subst b11
            generalize treeF l (f + 1) ((n + 1 : Nat) : Int) = TT at *
            have jd : decide ((n : Int) < 0) = false := decide_eq_false (by omega)
            go_wp2_with fail
            refine (HKC.out _).mono ?_; rintro e W8 ⟨rfl, rfl⟩
            go_wp2_with fail
            refine (HI.out).mono ?_; rintro e W9 ⟨rfl, o9⟩
            have HO9 := Lib.hid (HOW.out.up o9)
            clear o9
            go_wp2_with fail
            go_ret
            rw [HN.out]
            exact ⟨rfl, HO9.out⟩
          · have HN : Hid (treeF l (f + 1) ((n + 1 : Nat) : Int) = -1) := Lib.hid (by
              rw [HTS.out, HE9.out, if_neg (by rw [HBN.out]; omega), if_neg (by omega), if_neg (by omega), if_pos (Or.inr b11)])
            have b12 : (lf != (n : Int)) = true := by simpa using b11
            clear HTS HBN IH b7 b8 b11
            generalize treeF l (f + 1) ((n + 1 : Nat) : Int) = TT at *
            have jd : decide ((n : Int) < 0) = false := decide_eq_false (by omega)
            go_wp2_with fail
            refine (HKC.out _).mono ?_; rintro e W8 ⟨rfl, rfl⟩
            go_wp2_with fail
            go_ret
            rw [HN.out]
            exact ⟨rfl, HOW.out⟩
      · have HN : Hid (treeF l (f + 1) (k : Int) = -1) := Lib.hid (by rw [HTS.out, if_pos (by rw [HBN.out]; omega)])
        have b9 : (rt != 0) = true := by simpa using b7
        clear HTS HBN b7
        go_wp2_with fail
        refine (HKC.out _).mono ?_; rintro e W8 ⟨rfl, rfl⟩
        go_wp2_with fail
        go_ret
        rw [HN.out]
        exact ⟨rfl, HOW.out⟩
    · by_cases b7 : rt = (k : Int) - 1
      · have htb := treeF_bd l f ((k : Int) - 1)
        have HI := Lib.hid (IH.out ((k : Int) - 1) _ (HRW.out.up HOW.out) (by omega) (by have := HF.out; omega))
        have HI2 := Lib.hid (fun (t : Int) W' o => IH.out t W' (HRW.out.up (HOW.out.up o)))
        have HTS2 : Hid (treeF l (f + 1) (k : Int) = if treeF l f (k - 1) - 1 < 0 ∨ lf ≠ treeF l f (k - 1) - 1 then -1 else treeF l f (treeF l f (k - 1) - 1)) := Lib.hid (by rw [HTS.out, if_neg (by rw [HBN.out]; omega), if_neg (by omega), if_pos rfl, if_neg (by omega)])
        clear HTS HBN IH
        subst b7
        generalize treeF l f ((k : Int) - 1) = T1 at *
        obtain ⟨t1, t2⟩ := htb
        have HT2 := Lib.hid t2
        have HT1 := Lib.hid t1
        clear t1 t2
        go_wp2_with fail
        refine (HKC.out _).mono ?_; rintro e W8 ⟨rfl, rfl⟩
        go_wp2_with fail
        refine (HI.out).mono ?_; rintro e W9 ⟨rfl, o9⟩
        have HO9 := Lib.hid (HOW.out.up o9)
        have HI3 := Lib.hid (fun t => HI2.out t W9 o9)
        replace d1 := o9.cell d1
        clear o9 HI HI2 d0 d2 d3 d4 d5 d6
        have hT1 : T1 = -1 ∨ T1 = 0 ∨ ∃ t : Nat, T1 = (t : Int) + 1 := by
          have := HT1.out
          rcases Int.lt_or_le T1 1 with h | h
          · omega
          · exact Or.inr (Or.inr ⟨(T1 - 1).toNat, by omega⟩)
        rcases hT1 with rfl | rfl | ⟨t, rfl⟩
        · have HN : Hid (treeF l (f + 1) (k : Int) = -1) := Lib.hid (by rw [HTS2.out, if_pos (by omega)])
          clear HTS2 HT1 HT2 HI3
          go_wp2_with fail
          go_ret
          rw [HN.out]
          exact ⟨rfl, HO9.out⟩
        · have HN : Hid (treeF l (f + 1) (k : Int) = -1) := Lib.hid (by rw [HTS2.out, if_pos (by omega)])
          clear HTS2 HT1 HT2 HI3
          go_wp2_with fail
          go_ret
          rw [HN.out]
          exact ⟨rfl, HO9.out⟩
        · have htk : (t : Int) + 1 ≤ k - 1 := HT2.out (by omega)
          have HTK := Lib.hid htk
          clear HT1 HT2
          have i10 : ((t + 1 : Nat) : Int) < 9223372036854775807 := by omega
          have i11 : (0 : Int) ≤ ((t + 1 : Nat) : Int) := by omega
          clear htk
          have e9 : (t : Int) + 1 - 1 = (t : Int) := by omega
          by_cases b8 : lf = (t : Int)
          · have HN : Hid (treeF l (f + 1) (k : Int) = treeF l f t) := Lib.hid (by rw [HTS2.out, e9, if_neg (by omega)])
            have HI4 := Lib.hid (HI3.out (t : Int) (by have := HTK.out; omega) (by have := HF.out; have := HTK.out; omega))
            clear HTS2 HI3 e9
            subst b8
            generalize treeF l (f + 1) (k : Int) = TT at *
            have jd : decide ((t : Int) < 0) = false := decide_eq_false (by omega)
            go_wp2_with fail
            refine (HI4.out).mono ?_; rintro e W10 ⟨rfl, o10⟩
            have HO10 := Lib.hid (HO9.out.up o10)
            clear o10
            go_wp2_with fail
            go_ret
            rw [HN.out]
            exact ⟨rfl, HO10.out⟩
          · have HN : Hid (treeF l (f + 1) (k : Int) = -1) := Lib.hid (by rw [HTS2.out, e9, if_pos (Or.inr b8)])
            have b12 : (lf != (t : Int)) = true := by simpa using b8
            clear HTS2 HI3 e9 b8
            generalize treeF l (f + 1) (k : Int) = TT at *
            have jd : decide ((t : Int) < 0) = false := decide_eq_false (by omega)
            go_wp2_with fail
            go_ret
            rw [HN.out]
            exact ⟨rfl, HO9.out⟩
      · have HN : Hid (treeF l (f + 1) (k : Int) = -1) := Lib.hid (by rw [HTS.out, if_neg (by rw [HBN.out]; omega), if_neg (by omega), if_pos rfl, if_pos b7])
        have b9 : (rt != (k : Int) - 1) = true := by simpa using b7
        clear HTS HBN b7
        go_wp2_with fail
        refine (HKC.out _).mono ?_; rintro e W8 ⟨rfl, rfl⟩
        go_wp2_with fail
        go_ret
        rw [HN.out]
        exact ⟨rfl, HOW.out⟩
  · have b4 : (kd != 2) = true := by simpa using b3
    by_cases b5 : st = 0
    · have b6 : decide (st = 0) = true := by simp [b5]
      simp only [b6] at hz
      clear b6
      clear HB5
      have HK0 : Hid (¬ badNd ⟨kd, lf, rt, st⟩) := Lib.hid (by rintro (h | h | ⟨h, h'⟩) <;> first | exact b1 h | exact b2 h | exact h b3 | exact h' b5)
      have hk3 : kidsN kd = 0 ∨ kidsN kd = 1 ∨ kidsN kd = 2 := by have := kidsN_bd2 kd; omega
      have HKC := Lib.hid (kidsC kd)
      have HBN : Hid (bentNd ⟨kd, lf, rt, st⟩ ↔ ((kidsN kd < 2 ∧ rt ≠ 0) ∨ (kidsN kd < 1 ∧ lf ≠ 0))) := Lib.hid Iff.rfl
      have HTS : Hid (treeF l (f + 1) (k : Int) = if bentNd ⟨kd, lf, rt, st⟩ then -1 else if kidsN kd = 0 then (k : Int) else if kidsN kd = 2 then if rt ≠ k - 1 then -1 else if treeF l f (k - 1) - 1 < 0 ∨ lf ≠ treeF l f (k - 1) - 1 then -1 else treeF l f (treeF l f (k - 1) - 1) else if (k : Int) - 1 < 0 ∨ lf ≠ k - 1 then -1 else treeF l f (k - 1)) := Lib.hid (by
        rw [HT.out]
        unfold treeS
        simp only [HK0.out, false_or])
      clear HT HK0
      generalize kidsN kd = kk at *
      try clear b5
      clear b3
      rcases hk3 with rfl | rfl | rfl
      · by_cases b7 : rt = 0
        · by_cases b8 : lf = 0
          · have HN : Hid (treeF l (f + 1) (k : Int) = k) := Lib.hid (by rw [HTS.out, if_neg (by rw [HBN.out]; omega), if_pos rfl])
            have b9 : (rt != 0) = false := by simp [b7]
            have b10 : (lf != 0) = false := by simp [b8]
            clear HTS HBN b7 b8
            go_wp2_with fail
            refine (HKC.out _).mono ?_; rintro e W8 ⟨rfl, rfl⟩
            go_wp2_with fail
            go_ret
            rw [HN.out]
            exact ⟨rfl, HOW.out⟩
          · have HN : Hid (treeF l (f + 1) (k : Int) = -1) := Lib.hid (by rw [HTS.out, if_pos (by rw [HBN.out]; omega)])
            have b9 : (rt != 0) = false := by simp [b7]
            have b10 : (lf != 0) = true := by simpa using b8
            clear HTS HBN b7 b8
            go_wp2_with fail
            refine (HKC.out _).mono ?_; rintro e W8 ⟨rfl, rfl⟩
            go_wp2_with fail
            go_ret
            rw [HN.out]
            exact ⟨rfl, HOW.out⟩
        · have HN : Hid (treeF l (f + 1) (k : Int) = -1) := Lib.hid (by rw [HTS.out, if_pos (by rw [HBN.out]; omega)])
          have b9 : (rt != 0) = true := by simpa using b7
          clear HTS HBN b7
          go_wp2_with fail
          refine (HKC.out _).mono ?_; rintro e W8 ⟨rfl, rfl⟩
          go_wp2_with fail
          go_ret
          rw [HN.out]
          exact ⟨rfl, HOW.out⟩
      · by_cases b7 : rt = 0
        · have b9 : (rt != 0) = false := by simp [b7]
          by_cases b8 : (k : Int) - 1 < 0
          · have HN : Hid (treeF l (f + 1) (k : Int) = -1) := Lib.hid (by rw [HTS.out, if_neg (by rw [HBN.out]; omega), if_neg (by omega), if_neg (by omega), if_pos (Or.inl b8)])
            clear HTS HBN b7
            go_wp2_with fail
            refine (HKC.out _).mono ?_; rintro e W8 ⟨rfl, rfl⟩
            go_wp2_with fail
            go_ret
            rw [HN.out]
            exact ⟨rfl, HOW.out⟩
          · obtain ⟨n, rfl⟩ : ∃ n : Nat, k = n + 1 := ⟨k - 1, by omega⟩
            have e9 : ((n + 1 : Nat) : Int) - 1 = (n : Int) := by omega
            have HE9 := Lib.hid e9
            clear e9
            by_cases b11 : lf = (n : Int)
            · have HN : Hid (treeF l (f + 1) ((n + 1 : Nat) : Int) = treeF l f n) := Lib.hid (by
                rw [HTS.out, HE9.out, if_neg (by rw [HBN.out]; omega), if_neg (by omega), if_neg (by omega), if_neg (by omega)])
              have HI := Lib.hid (IH.out (n : Int) _ (HRW.out.up HOW.out) (by omega) (by have := HF.out; omega))
              clear HTS HBN IH b7 b8
              subst b11
              generalize treeF l (f + 1) ((n + 1 : Nat) : Int) = TT at *
              have jd : decide ((n : Int) < 0) = false := decide_eq_false (by omega)
              go_wp2_with fail
              refine (HKC.out _).mono ?_; rintro e W8 ⟨rfl, rfl⟩
              go_wp2_with fail
              refine (HI.out).mono ?_; rintro e W9 ⟨rfl, o9⟩
              have HO9 := Lib.hid (HOW.out.up o9)
              clear o9
              go_wp2_with fail
              go_ret
              rw [HN.out]
              exact ⟨rfl, HO9.out⟩
            · have HN : Hid (treeF l (f + 1) ((n + 1 : Nat) : Int) = -1) := Lib.hid (by
                rw [HTS.out, HE9.out, if_neg (by rw [HBN.out]; omega), if_neg (by omega), if_neg (by omega), if_pos (Or.inr b11)])
              have b12 : (lf != (n : Int)) = true := by simpa using b11
              clear HTS HBN IH b7 b8 b11
              generalize treeF l (f + 1) ((n + 1 : Nat) : Int) = TT at *
              have jd : decide ((n : Int) < 0) = false := decide_eq_false (by omega)
              go_wp2_with fail
              refine (HKC.out _).mono ?_; rintro e W8 ⟨rfl, rfl⟩
              go_wp2_with fail
              go_ret
              rw [HN.out]
              exact ⟨rfl, HOW.out⟩
        · have HN : Hid (treeF l (f + 1) (k : Int) = -1) := Lib.hid (by rw [HTS.out, if_pos (by rw [HBN.out]; omega)])
          have b9 : (rt != 0) = true := by simpa using b7
          clear HTS HBN b7
          go_wp2_with fail
          refine (HKC.out _).mono ?_; rintro e W8 ⟨rfl, rfl⟩
          go_wp2_with fail
          go_ret
          rw [HN.out]
          exact ⟨rfl, HOW.out⟩
      · by_cases b7 : rt = (k : Int) - 1
        · have htb := treeF_bd l f ((k : Int) - 1)
          have HI := Lib.hid (IH.out ((k : Int) - 1) _ (HRW.out.up HOW.out) (by omega) (by have := HF.out; omega))
          have HI2 := Lib.hid (fun (t : Int) W' o => IH.out t W' (HRW.out.up (HOW.out.up o)))
          have HTS2 : Hid (treeF l (f + 1) (k : Int) = if treeF l f (k - 1) - 1 < 0 ∨ lf ≠ treeF l f (k - 1) - 1 then -1 else treeF l f (treeF l f (k - 1) - 1)) := Lib.hid (by rw [HTS.out, if_neg (by rw [HBN.out]; omega), if_neg (by omega), if_pos rfl, if_neg (by omega)])
          clear HTS HBN IH
          subst b7
          generalize treeF l f ((k : Int) - 1) = T1 at *
          obtain ⟨t1, t2⟩ := htb
          have HT2 := Lib.hid t2
          have HT1 := Lib.hid t1
          clear t1 t2
          go_wp2_with fail
          refine (HKC.out _).mono ?_; rintro e W8 ⟨rfl, rfl⟩
          go_wp2_with fail
          refine (HI.out).mono ?_; rintro e W9 ⟨rfl, o9⟩
          have HO9 := Lib.hid (HOW.out.up o9)
          have HI3 := Lib.hid (fun t => HI2.out t W9 o9)
          replace d1 := o9.cell d1
          clear o9 HI HI2 d0 d2 d3 d4 d5 d6
          have hT1 : T1 = -1 ∨ T1 = 0 ∨ ∃ t : Nat, T1 = (t : Int) + 1 := by
            have := HT1.out
            rcases Int.lt_or_le T1 1 with h | h
            · omega
            · exact Or.inr (Or.inr ⟨(T1 - 1).toNat, by omega⟩)
          rcases hT1 with rfl | rfl | ⟨t, rfl⟩
          · have HN : Hid (treeF l (f + 1) (k : Int) = -1) := Lib.hid (by rw [HTS2.out, if_pos (by omega)])
            clear HTS2 HT1 HT2 HI3
            go_wp2_with fail
            go_ret
            rw [HN.out]
            exact ⟨rfl, HO9.out⟩
          · have HN : Hid (treeF l (f + 1) (k : Int) = -1) := Lib.hid (by rw [HTS2.out, if_pos (by omega)])
            clear HTS2 HT1 HT2 HI3
            go_wp2_with fail
            go_ret
            rw [HN.out]
            exact ⟨rfl, HO9.out⟩
          · have htk : (t : Int) + 1 ≤ k - 1 := HT2.out (by omega)
            have HTK := Lib.hid htk
            clear HT1 HT2
            have i10 : ((t + 1 : Nat) : Int) < 9223372036854775807 := by omega
            have i11 : (0 : Int) ≤ ((t + 1 : Nat) : Int) := by omega
            clear htk
            have e9 : (t : Int) + 1 - 1 = (t : Int) := by omega
            by_cases b8 : lf = (t : Int)
            · have HN : Hid (treeF l (f + 1) (k : Int) = treeF l f t) := Lib.hid (by rw [HTS2.out, e9, if_neg (by omega)])
              have HI4 := Lib.hid (HI3.out (t : Int) (by have := HTK.out; omega) (by have := HF.out; have := HTK.out; omega))
              clear HTS2 HI3 e9
              subst b8
              generalize treeF l (f + 1) (k : Int) = TT at *
              have jd : decide ((t : Int) < 0) = false := decide_eq_false (by omega)
              go_wp2_with fail
              refine (HI4.out).mono ?_; rintro e W10 ⟨rfl, o10⟩
              have HO10 := Lib.hid (HO9.out.up o10)
              clear o10
              go_wp2_with fail
              go_ret
              rw [HN.out]
              exact ⟨rfl, HO10.out⟩
            · have HN : Hid (treeF l (f + 1) (k : Int) = -1) := Lib.hid (by rw [HTS2.out, e9, if_pos (Or.inr b8)])
              have b12 : (lf != (t : Int)) = true := by simpa using b8
              clear HTS2 HI3 e9 b8
              generalize treeF l (f + 1) (k : Int) = TT at *
              have jd : decide ((t : Int) < 0) = false := decide_eq_false (by omega)
              go_wp2_with fail
              go_ret
              rw [HN.out]
              exact ⟨rfl, HO9.out⟩
        · have HN : Hid (treeF l (f + 1) (k : Int) = -1) := Lib.hid (by rw [HTS.out, if_neg (by rw [HBN.out]; omega), if_neg (by omega), if_pos rfl, if_pos b7])
          have b9 : (rt != (k : Int) - 1) = true := by simpa using b7
          clear HTS HBN b7
          go_wp2_with fail
          refine (HKC.out _).mono ?_; rintro e W8 ⟨rfl, rfl⟩
          go_wp2_with fail
          go_ret
          rw [HN.out]
          exact ⟨rfl, HOW.out⟩
    · have b6 : decide (st = 0) = false := by simp [b5]
      simp only [b6] at hz
      clear b6
      have HN : Hid (treeF l (f + 1) (k : Int) = -1) := Lib.hid (by rw [HT.out]; unfold treeS; exact if_pos (Or.inl (Or.inr (Or.inr ⟨b3, b5⟩))))
      clear HT
      go_wp2_with fail
      go_ret
      rw [HN.out]
      exact ⟨rfl, HOW.out⟩
end Go.Proofs.Ythadkjgadhbidaa
/-
  The reference's test of a list of nodes: its walk; it comes to the program's.
-/
namespace Go.Proofs.Ythadkjgadhbidaa
open Go.RowKit
set_option linter.unusedVariables false

set_option maxHeartbeats 4000000 in
set_option maxRecDepth 100000 in
theorem rvalidC (A : Option Addr) (c : Nat) (l : List Nd) (w : World) (hr : Rs w A (ndsV l)) (hm : l.length ≤ maxLen) (hso : ∀ x ∈ l, setOk x.set) :
    Calls Try.prog 16 #[.slice A l.length c] w (ValOld (.bool (validM l)) w) := by
  rw [← rvalid_eq]
  have HR := Lib.hid hr
  have HM := Lib.hid hm
  have HSO := Lib.hid hso
  clear hr hm hso
  by_cases h1 : 1 ≤ l.length
  · by_cases h2 : l.length ≤ 256
    · obtain ⟨n, hn⟩ : ∃ n, l.length = n + 1 := ⟨l.length - 1, by omega⟩
      have HT := Lib.hid (treeC A c l HM.out HSO.out l.length (n : Int) w HR.out (by omega) (by omega))
      have HV : Hid (rvalidM l = (treeF l l.length (n : Int) == 0)) := Lib.hid (by
        unfold rvalidM
        rw [Bool.eq_iff_iff, decide_eq_true_iff, beq_iff_eq, show (l.length : Int) - 1 = (n : Int) by omega]
        exact ⟨fun h => h.2.2, fun h => ⟨h1, h2, h⟩⟩)
      clear HR HM HSO
      generalize treeF l l.length (n : Int) = T at *
      generalize rvalidM l = R at *
      have i1 : (1 : Int) ≤ (l.length : Int) := by omega
      have i2 : (l.length : Int) ≤ 256 := by omega
      clear h1 h2
      generalize l.length = L at *
      subst hn
      by_cases hT : T = 0
      · have e : (T == 0) = true := by simpa using hT
        rw [e] at HV
        go_enter Try.func16, Try.ntmps16
        go_wp2_with fail
        refine (HT.out).mono ?_; rintro e w1 ⟨rfl, hd1⟩
        have HD := Lib.hid hd1
        clear hd1
        go_wp2_with fail
        go_ret
        rw [HV.out]
        exact ⟨rfl, HD.out⟩
      · have e : (T == 0) = false := by simpa using hT
        rw [e] at HV
        go_enter Try.func16, Try.ntmps16
        go_wp2_with fail
        refine (HT.out).mono ?_; rintro e w1 ⟨rfl, hd1⟩
        have HD := Lib.hid hd1
        clear hd1
        go_wp2_with fail
        go_ret
        rw [HV.out]
        exact ⟨rfl, HD.out⟩
    · have HV : Hid (rvalidM l = false) := Lib.hid (decide_eq_false (fun h => h2 h.2.1))
      have i1 : (1 : Int) ≤ (l.length : Int) := by omega
      have i2 : ¬ (l.length : Int) ≤ 256 := by omega
      go_enter Try.func16, Try.ntmps16
      go_wp2_with fail
      go_ret
      rw [HV.out]
      exact ⟨rfl, Old.refl _⟩
  · have HV : Hid (rvalidM l = false) := Lib.hid (decide_eq_false (fun h => h1 h.1))
    have i1 : ¬ (1 : Int) ≤ (l.length : Int) := by omega
    go_enter Try.func16, Try.ntmps16
    go_wp2_with fail
    go_ret
    rw [HV.out]
    exact ⟨rfl, Old.refl _⟩
end Go.Proofs.Ythadkjgadhbidaa
/-
  The walks of the reference's build and Compile (automata).
-/
namespace Go.Proofs.Ythadkjgadhbidaa
open Go.RowKit
set_option linter.unusedVariables false

def StPost (w : World) (r : List Nd) (e : Ending) (w' : World) : Prop := ∃ v, e = .returned v ∧ Own w' w.heap.size 42 7 v r.length (ndsV r) ∧ Old w w'
theorem own_st (w : World) (x : Nd) : Own (w.alloc (.cells #[.int .i64 x.kind, .int .i64 x.left, .int .i64 x.right, .int .u64 (setW x.set 0), .int .u64 (setW x.set 1), .int .u64 (setW x.set 2), .int .u64 (setW x.set 3)] 42)) w.heap.size 42 7 (.slice (some ⟨w.heap.size, 0, none⟩) 1 1) 1 (ndsV [x]) :=
  own_new w #[.int .i64 x.kind, .int .i64 x.left, .int .i64 x.right, .int .u64 (setW x.set 0), .int .u64 (setW x.set 1), .int .u64 (setW x.set 2), .int .u64 (setW x.set 3)] 1 7 42 (by decide) rfl
theorem own_st0 (w : World) (k a b : Int) : Own (w.alloc (.cells #[.int .i64 k, .int .i64 a, .int .i64 b, .int .u64 0, .int .u64 0, .int .u64 0, .int .u64 0] 42)) w.heap.size 42 7 (.slice (some ⟨w.heap.size, 0, none⟩) 1 1) 1 (ndsV [⟨k, a, b, 0⟩]) := by
  have := own_st w ⟨k, a, b, 0⟩
  simp only [setW_zero] at this
  exact this
theorem ndsV_append (a b : List Nd) : ndsV (a ++ b) = ndsV a ++ ndsV b := by unfold ndsV; rw [List.flatMap_append]
theorem own_st_len {w : World} {B n : Nat} {v : Value} {R : List Nd} (h : Own w B 42 7 v n (ndsV R)) : Own w B 42 7 v R.length (ndsV R) := by
  have := h.len
  rw [ndsV_length] at this
  rwa [show R.length = n by omega]
set_option maxHeartbeats 8000000 in
set_option maxRecDepth 100000 in
theorem rbuildC (An : Option Addr) (cn : Nat) (l : List Nd) (hl : l.length ≤ 256) {a n : Nat} (hs : Sub l a n) :
    ∀ (f at_ : Nat) (w : World), n < f → at_ + 2 * (n + 1 - a) ≤ 1000 → Rs w An (ndsV l) →
    Calls Try.prog 41 #[.slice An l.length cn, .int .i64 (n : Int), .int .i64 (at_ : Int)] w (StPost w (rbF l f n at_)) := by
  have HLL := Lib.hid hl
  clear hl
  induction hs with
  | leaf n h hk h1 h2 h3 =>
    intro f at_ w hf hat hr
    obtain ⟨f, rfl⟩ : ∃ g, f = g + 1 := ⟨f - 1, by omega⟩
    have hP : rbF l (f + 1) n at_ = if (nd l n).kind = 2 then [⟨1, (at_ : Int) + 1, 0, (nd l n).set⟩] else if (nd l n).kind = 8 then [⟨3, (at_ : Int) + 1, 0, 0⟩] else if (nd l n).kind = 9 then [⟨4, (at_ : Int) + 1, 0, 0⟩] else if (nd l n).kind = 1 then [⟨2, (at_ : Int) + 1, (at_ : Int) + 1, 0⟩] else [] := by
      rw [rbF, if_neg (show ¬ (nd l n).kind = 3 by omega), if_neg (show ¬ (nd l n).kind = 4 by omega), if_neg (show ¬ (nd l n).kind = 5 by omega), if_neg (show ¬ (nd l n).kind = 6 by omega)]
      by_cases k1 : (nd l n).kind = 1
      · rw [if_pos k1, if_pos k1]; rfl
      · rw [if_neg k1, if_neg k1]
        by_cases k2 : (nd l n).kind = 2
        · rw [if_pos k2, if_pos k2]; rfl
        · rw [if_neg k2, if_neg k2]
          by_cases k8 : (nd l n).kind = 8
          · rw [if_pos k8, if_pos k8]; rfl
          · rw [if_neg k8, if_neg k8, if_pos (by omega), if_pos (by omega)]; rfl
    have HP := Lib.hid hP
    clear hP hf h1 h2 h3
    have hx : l[n]? = some (nd l n) := by unfold nd; rw [List.getD_eq_getElem?_getD, List.getElem?_eq_getElem h]; rfl
    have HRW := Lib.hid hr
    obtain ⟨b, off, rfl, hbl, hcl⟩ := hr.at_ (by rw [ndsV_length]; omega)
    have hg := ndsV_get l n _ hx
    have c0 := hcl _ _ (hg 0 (by omega))
    have c1 := hcl _ _ (hg 1 (by omega))
    have c2 := hcl _ _ (hg 2 (by omega))
    have c3 := hcl _ _ (hg 3 (by omega))
    have c4 := hcl _ _ (hg 4 (by omega))
    have c5 := hcl _ _ (hg 5 (by omega))
    have c6 := hcl _ _ (hg 6 (by omega))
    rw [← Nat.add_assoc] at c0 c1 c2 c3 c4 c5 c6
    rw [Nat.add_zero] at c0
    have i0 : (0 : Int) ≤ ((n : Nat) : Int) := by omega
    have i1 : ((n : Nat) : Int) < (l.length : Int) := by omega
    clear hx hg hcl hbl hr
    generalize nd l n = y at *
    obtain ⟨kd, lf, rt, st⟩ := y
    simp only at hk HP
    replace c0 : w.cell? ⟨b, off + n * 7, none⟩ = some (.int .i64 kd) := c0
    replace c1 : w.cell? ⟨b, off + n * 7 + 1, none⟩ = some (.int .i64 lf) := c1
    replace c2 : w.cell? ⟨b, off + n * 7 + 2, none⟩ = some (.int .i64 rt) := c2
    replace c3 : w.cell? ⟨b, off + n * 7 + 3, none⟩ = some (.int .u64 (setW st 0)) := c3
    replace c4 : w.cell? ⟨b, off + n * 7 + 4, none⟩ = some (.int .u64 (setW st 1)) := c4
    replace c5 : w.cell? ⟨b, off + n * 7 + 5, none⟩ = some (.int .u64 (setW st 2)) := c5
    replace c6 : w.cell? ⟨b, off + n * 7 + 6, none⟩ = some (.int .u64 (setW st 3)) := c6
    go_enter Try.func41, Try.ntmps41
    go_upto_region 2 with fail
    have hk7 : NdAt (w.alloc (.cells (ndCells ⟨kd, lf, rt, st⟩).toArray 114)) w.heap.size ⟨kd, lf, rt, st⟩ := heap_alloc_new w _
    have HOW := Lib.hid ((Old.refl w).alloc (.cells (ndCells ⟨kd, lf, rt, st⟩).toArray 114))
    generalize hWW : w.alloc (.cells #[.int .i64 kd, .int .i64 lf, .int .i64 rt, .int .u64 (setW st 0), .int .u64 (setW st 1), .int .u64 (setW st 2), .int .u64 (setW st 3)] 114) = W
    have hWW' : w.alloc (.cells (ndCells ⟨kd, lf, rt, st⟩).toArray 114) = W := hWW
    rw [hWW'] at hk7 HOW
    clear hWW hWW' c0 c1 c2 c3 c4 c5 c6
    obtain ⟨d0, d1, d2, d3, d4, d5, d6⟩ := hk7.cells
    simp only at d0 d1 d2 d3 d4 d5 d6
    have HK := Lib.hid hk7
    clear hk7
    have HBS := Lib.hid HOW.out.size
    generalize hk7 : w.heap.size = k7 at *
    rcases hk with rfl | rfl | rfl | rfl
    · have HE : Hid (rbF l (f + 1) n at_ = [⟨2, (at_ : Int) + 1, (at_ : Int) + 1, 0⟩]) := Lib.hid (by rw [HP.out]; rfl)
      have HO := Lib.hid (own_st0 W 2 ((at_ : Int) + 1) ((at_ : Int) + 1))
      clear HP HK
      go_wp2_with fail
      go_ret
      rw [HE.out]
      exact ⟨_, rfl, HO.out.base (by rw [hk7]; exact HBS.out), HOW.out.alloc _⟩
    · have HE : Hid (rbF l (f + 1) n at_ = [⟨1, (at_ : Int) + 1, 0, st⟩]) := Lib.hid (by rw [HP.out]; rfl)
      have HO := Lib.hid (own_st W ⟨1, (at_ : Int) + 1, 0, st⟩)
      clear HP HK
      go_wp2_with fail
      go_ret
      rw [HE.out]
      exact ⟨_, rfl, HO.out.base (by rw [hk7]; exact HBS.out), HOW.out.alloc _⟩
    · have HE : Hid (rbF l (f + 1) n at_ = [⟨3, (at_ : Int) + 1, 0, 0⟩]) := Lib.hid (by rw [HP.out]; rfl)
      have HO := Lib.hid (own_st0 W 3 ((at_ : Int) + 1) 0)
      clear HP HK
      go_wp2_with fail
      go_ret
      rw [HE.out]
      exact ⟨_, rfl, HO.out.base (by rw [hk7]; exact HBS.out), HOW.out.alloc _⟩
    · have HE : Hid (rbF l (f + 1) n at_ = [⟨4, (at_ : Int) + 1, 0, 0⟩]) := Lib.hid (by rw [HP.out]; rfl)
      have HO := Lib.hid (own_st0 W 4 ((at_ : Int) + 1) 0)
      clear HP HK
      go_wp2_with fail
      go_ret
      rw [HE.out]
      exact ⟨_, rfl, HO.out.base (by rw [hk7]; exact HBS.out), HOW.out.alloc _⟩
  | one a n h hk h1 h2 h3 hs ih =>
    intro f at_ w hf hat hr
    obtain ⟨f, rfl⟩ : ∃ g, f = g + 1 := ⟨f - 1, by omega⟩
    have hle := hs.le
    have hL : (nd l (n + 1)).left.toNat = n := by omega
    have hP : rbF l (f + 1) (n + 1) at_ = if (nd l (n + 1)).kind = 5 then [⟨2, (at_ : Int) + 1, (at_ : Int) + 2 + ((rbF l f n (at_ + 1)).length : Int), 0⟩] ++ rbF l f n (at_ + 1) ++ [⟨2, (at_ : Int), (at_ : Int), 0⟩] else if (nd l (n + 1)).kind = 6 then rbF l f n at_ ++ [⟨2, (at_ : Int), (at_ : Int) + 1 + ((rbF l f n at_).length : Int), 0⟩] else [⟨2, (at_ : Int) + 1, (at_ : Int) + 1 + ((rbF l f n (at_ + 1)).length : Int), 0⟩] ++ rbF l f n (at_ + 1) := by
      rw [rbF, if_neg (by omega), if_neg (by omega), if_neg (by omega), if_neg (by omega), if_neg (by omega), if_neg (by omega), hL]
      by_cases k5 : (nd l (n + 1)).kind = 5
      · rw [if_pos k5, if_pos k5]; rfl
      · rw [if_neg k5, if_neg k5]
        by_cases k6 : (nd l (n + 1)).kind = 6
        · rw [if_pos k6, if_pos k6]; rfl
        · rw [if_neg k6, if_neg k6]; rfl
    have HP := Lib.hid hP
    have HIH := Lib.hid ih
    have HMD := Lib.hid (fun at_ => rbF_made hs f at_ (by omega))
    have hal := hle.1
    have HSZ : Hid (at_ + 2 * (n + 1 - a) + 2 ≤ 1000 ∧ 2 * (n + 1 - a) ≤ 1000) := Lib.hid (by omega)
    have hat1 : at_ ≤ 1000 := by omega
    have HF0 : Hid (n < f) := Lib.hid (by omega)
    have H1 := Lib.hid h1
    clear hP hf hat hL ih h1 h2 h3
    have hx : l[(n + 1)]? = some (nd l (n + 1)) := by unfold nd; rw [List.getD_eq_getElem?_getD, List.getElem?_eq_getElem h]; rfl
    have HRW := Lib.hid hr
    obtain ⟨b, off, rfl, hbl, hcl⟩ := hr.at_ (by rw [ndsV_length]; omega)
    have hg := ndsV_get l (n + 1) _ hx
    have c0 := hcl _ _ (hg 0 (by omega))
    have c1 := hcl _ _ (hg 1 (by omega))
    have c2 := hcl _ _ (hg 2 (by omega))
    have c3 := hcl _ _ (hg 3 (by omega))
    have c4 := hcl _ _ (hg 4 (by omega))
    have c5 := hcl _ _ (hg 5 (by omega))
    have c6 := hcl _ _ (hg 6 (by omega))
    rw [← Nat.add_assoc] at c0 c1 c2 c3 c4 c5 c6
    rw [Nat.add_zero] at c0
    have i0 : (0 : Int) ≤ (((n + 1) : Nat) : Int) := by omega
    have i1 : (((n + 1) : Nat) : Int) < (l.length : Int) := by omega
    clear hx hg hcl hbl hr
    generalize nd l (n + 1) = y at *
    obtain ⟨kd, lf, rt, st⟩ := y
    simp only at hk HP
    replace c0 : w.cell? ⟨b, off + (n + 1) * 7, none⟩ = some (.int .i64 kd) := c0
    replace c1 : w.cell? ⟨b, off + (n + 1) * 7 + 1, none⟩ = some (.int .i64 lf) := c1
    replace c2 : w.cell? ⟨b, off + (n + 1) * 7 + 2, none⟩ = some (.int .i64 rt) := c2
    replace c3 : w.cell? ⟨b, off + (n + 1) * 7 + 3, none⟩ = some (.int .u64 (setW st 0)) := c3
    replace c4 : w.cell? ⟨b, off + (n + 1) * 7 + 4, none⟩ = some (.int .u64 (setW st 1)) := c4
    replace c5 : w.cell? ⟨b, off + (n + 1) * 7 + 5, none⟩ = some (.int .u64 (setW st 2)) := c5
    replace c6 : w.cell? ⟨b, off + (n + 1) * 7 + 6, none⟩ = some (.int .u64 (setW st 3)) := c6
    go_enter Try.func41, Try.ntmps41
    go_upto_region 2 with fail
    have hk7 : NdAt (w.alloc (.cells (ndCells ⟨kd, lf, rt, st⟩).toArray 114)) w.heap.size ⟨kd, lf, rt, st⟩ := heap_alloc_new w _
    have HOW := Lib.hid ((Old.refl w).alloc (.cells (ndCells ⟨kd, lf, rt, st⟩).toArray 114))
    generalize hWW : w.alloc (.cells #[.int .i64 kd, .int .i64 lf, .int .i64 rt, .int .u64 (setW st 0), .int .u64 (setW st 1), .int .u64 (setW st 2), .int .u64 (setW st 3)] 114) = W
    have hWW' : w.alloc (.cells (ndCells ⟨kd, lf, rt, st⟩).toArray 114) = W := hWW
    rw [hWW'] at hk7 HOW
    clear hWW hWW' c0 c1 c2 c3 c4 c5 c6
    obtain ⟨d0, d1, d2, d3, d4, d5, d6⟩ := hk7.cells
    simp only at d0 d1 d2 d3 d4 d5 d6
    have HK := Lib.hid hk7
    clear hk7
    have HBS := Lib.hid HOW.out.size
    generalize hk7 : w.heap.size = k7 at *
    have h1 : lf = (n : Int) := H1.out
    subst h1
    rcases hk with rfl | rfl | rfl
    · have HE0 : Hid (∀ r, rbF l f n (at_ + 1) = r → rbF l (f + 1) (n + 1) at_ = [⟨2, (at_ : Int) + 1, (at_ : Int) + 2 + (r.length : Int), 0⟩] ++ r ++ [⟨2, (at_ : Int), (at_ : Int), 0⟩]) := Lib.hid (fun r e => by rw [HP.out, e]; rfl)
      clear HP
      have HC : Calls Try.prog 41 #[.slice (some ⟨b, off, none⟩) l.length cn, .int .i64 (n : Int), .int .i64 ((at_ : Int) + 1)] W (StPost W (rbF l f n (at_ + 1))) := HIH.out f (at_ + 1) W HF0.out (by have := HSZ.out; omega) (HRW.out.up HOW.out)
      have hm := (HMD.out (at_ + 1)).few
      have he := HE0.out
      generalize rbF l f n (at_ + 1) = r at *
      have HE := Lib.hid (he r rfl)
      have hlr : r.length ≤ 1000 := by have := HSZ.out; omega
      have HCC := Lib.hid HC
      clear HC he HE0 HIH HMD hm HRW
      go_wp2_with fail
      refine (HCC.out).mono ?_; rintro e w2 ⟨v2, rfl, ho2, hd2⟩
      obtain ⟨A2, c2, rfl, ht2, _, _⟩ := ho2.shape
      have HO2 := Lib.hid ho2
      have HR2 := Lib.hid ht2.rs
      have HB2 := Lib.hid hd2.size
      have HD2 := Lib.hid (HOW.out.up hd2)
      have HW2 := Lib.hid HOW.out.size
      clear ho2 ht2 hd2 HCC HOW HK d0 d1 d2 d3 d4 d5 d6
      go_wp2_with (at_builtin; refine wpList_pushAll rfl _ _ 28 rfl _ 42 (.agg #[.int .i64 0, .int .i64 0, .int .i64 0, .int .u64 0, .int .u64 0, .int .u64 0, .int .u64 0]) 7 56 Try.underlying28 info_st rfl (by decide) (by decide) _ _ _ (by rfl) (own_st0 w2 2 ((at_ : Int) + 1) ((at_ : Int) + 2 + (r.length : Int))) _ _ _ _ (by rfl) (HR2.out.alloc _) (ndsV_length _) (ndsV_one _) ?pn4 (by simp) ?_)
      case pn4 => omega
      intro v3 w3 ho3 hg3 hd3
      rw [← ndsV_append] at ho3
      obtain ⟨A3, c3, rfl, ht3, _, _⟩ := ho3.shape
      have hd3' := hd3 w2 ((Old.refl w2).alloc _) (Nat.le_refl _)
      have HO3 := Lib.hid ho3
      have HD3 := Lib.hid hd3'
      have HB3 := Lib.hid hd3'.size
      clear ho3 ht3 hg3 hd3 hd3' HO2 HR2
      go_wp2_with (at_builtin; refine wpList_push (wr := w3) rfl _ _ 28 rfl _ 42 (.agg #[.int .i64 0, .int .i64 0, .int .i64 0, .int .u64 0, .int .u64 0, .int .u64 0, .int .u64 0]) 7 56 Try.underlying28 info_st rfl (by decide) (by decide) _ _ _ rfl HO3.out 1 1 [.int .i64 2, .int .i64 (at_ : Int), .int .i64 (at_ : Int), .int .u64 0, .int .u64 0, .int .u64 0, .int .u64 0] rfl rfl rfl rfl ?pn1 HB3.out ?_)
      case pn1 => omega
      intro v4 w4 ho4 hg4 hd4
      have ho4' : Own w4 w2.heap.size 42 7 v4 (1 + r.length + 1) (ndsV (([⟨2, (at_ : Int) + 1, (at_ : Int) + 2 + (r.length : Int), 0⟩] ++ r) ++ [⟨2, (at_ : Int), (at_ : Int), 0⟩])) := by
        rw [ndsV_append _ [_]]
        have e : ndsV [(⟨2, (at_ : Int), (at_ : Int), 0⟩ : Nd)] = [.int .i64 2, .int .i64 (at_ : Int), .int .i64 (at_ : Int), .int .u64 0, .int .u64 0, .int .u64 0, .int .u64 0] := by simp [ndsV, ndCells, setW_zero]
        rw [e]; exact ho4
      have HO4 := Lib.hid ho4'
      have HD4 := Lib.hid (hd4 w2 HD3.out (Nat.le_refl _))
      clear ho4 ho4' hg4 hd4 HO3 HD3
      go_wp2_with fail
      go_ret
      rw [HE.out]
      exact ⟨_, rfl, (own_st_len HO4.out).base (HD2.out.size), HD2.out.up HD4.out⟩
    · have HE0 : Hid (∀ r, rbF l f n at_ = r → rbF l (f + 1) (n + 1) at_ = r ++ [⟨2, (at_ : Int), (at_ : Int) + 1 + (r.length : Int), 0⟩]) := Lib.hid (fun r e => by rw [HP.out, e]; rfl)
      clear HP
      have HC : Calls Try.prog 41 #[.slice (some ⟨b, off, none⟩) l.length cn, .int .i64 (n : Int), .int .i64 ((at_ : Int))] W (StPost W (rbF l f n (at_))) := HIH.out f (at_) W HF0.out (by have := HSZ.out; omega) (HRW.out.up HOW.out)
      have hm := (HMD.out (at_)).few
      have he := HE0.out
      generalize rbF l f n (at_) = r at *
      have HE := Lib.hid (he r rfl)
      have hlr : r.length ≤ 1000 := by have := HSZ.out; omega
      have HCC := Lib.hid HC
      clear HC he HE0 HIH HMD hm HRW
      go_wp2_with fail
      refine (HCC.out).mono ?_; rintro e w2 ⟨v2, rfl, ho2, hd2⟩
      obtain ⟨A2, c2, rfl, ht2, _, _⟩ := ho2.shape
      have HO2 := Lib.hid ho2
      have HR2 := Lib.hid ht2.rs
      have HB2 := Lib.hid hd2.size
      have HD2 := Lib.hid (HOW.out.up hd2)
      have HW2 := Lib.hid HOW.out.size
      clear ho2 ht2 hd2 HCC HOW HK d0 d1 d2 d3 d4 d5 d6
      go_wp2_with (at_builtin; refine wpList_push (wr := w2) rfl _ _ 28 rfl _ 42 (.agg #[.int .i64 0, .int .i64 0, .int .i64 0, .int .u64 0, .int .u64 0, .int .u64 0, .int .u64 0]) 7 56 Try.underlying28 info_st rfl (by decide) (by decide) _ _ _ rfl HO2.out 1 1 [.int .i64 2, .int .i64 (at_ : Int), .int .i64 ((at_ : Int) + 1 + (r.length : Int)), .int .u64 0, .int .u64 0, .int .u64 0, .int .u64 0] rfl rfl rfl rfl ?pn2 HB2.out ?_)
      case pn2 => omega
      intro v4 w4 ho4 hg4 hd4
      have ho4' : Own w4 W.heap.size 42 7 v4 (r.length + 1) (ndsV (r ++ [⟨2, (at_ : Int), (at_ : Int) + 1 + (r.length : Int), 0⟩])) := by
        rw [ndsV_append _ [_]]
        have e : ndsV [(⟨2, (at_ : Int), (at_ : Int) + 1 + (r.length : Int), 0⟩ : Nd)] = [.int .i64 2, .int .i64 (at_ : Int), .int .i64 ((at_ : Int) + 1 + (r.length : Int)), .int .u64 0, .int .u64 0, .int .u64 0, .int .u64 0] := by simp [ndsV, ndCells, setW_zero]
        rw [e]; exact ho4
      have HO4 := Lib.hid ho4'
      have HD4 := Lib.hid (hd4 w HD2.out HW2.out)
      clear ho4 ho4' hg4 hd4 HO2
      go_wp2_with fail
      go_ret
      rw [HE.out]
      exact ⟨_, rfl, (own_st_len HO4.out).base (HW2.out), HD4.out⟩
    · have HE0 : Hid (∀ r, rbF l f n (at_ + 1) = r → rbF l (f + 1) (n + 1) at_ = [⟨2, (at_ : Int) + 1, (at_ : Int) + 1 + (r.length : Int), 0⟩] ++ r) := Lib.hid (fun r e => by rw [HP.out, e]; rfl)
      clear HP
      have HC : Calls Try.prog 41 #[.slice (some ⟨b, off, none⟩) l.length cn, .int .i64 (n : Int), .int .i64 ((at_ : Int) + 1)] W (StPost W (rbF l f n (at_ + 1))) := HIH.out f (at_ + 1) W HF0.out (by have := HSZ.out; omega) (HRW.out.up HOW.out)
      have hm := (HMD.out (at_ + 1)).few
      have he := HE0.out
      generalize rbF l f n (at_ + 1) = r at *
      have HE := Lib.hid (he r rfl)
      have hlr : r.length ≤ 1000 := by have := HSZ.out; omega
      have HCC := Lib.hid HC
      clear HC he HE0 HIH HMD hm HRW
      go_wp2_with fail
      refine (HCC.out).mono ?_; rintro e w2 ⟨v2, rfl, ho2, hd2⟩
      obtain ⟨A2, c2, rfl, ht2, _, _⟩ := ho2.shape
      have HO2 := Lib.hid ho2
      have HR2 := Lib.hid ht2.rs
      have HB2 := Lib.hid hd2.size
      have HD2 := Lib.hid (HOW.out.up hd2)
      have HW2 := Lib.hid HOW.out.size
      clear ho2 ht2 hd2 HCC HOW HK d0 d1 d2 d3 d4 d5 d6
      go_wp2_with (at_builtin; refine wpList_pushAll rfl _ _ 28 rfl _ 42 (.agg #[.int .i64 0, .int .i64 0, .int .i64 0, .int .u64 0, .int .u64 0, .int .u64 0, .int .u64 0]) 7 56 Try.underlying28 info_st rfl (by decide) (by decide) _ _ _ (by rfl) (own_st0 w2 2 ((at_ : Int) + 1) ((at_ : Int) + 1 + (r.length : Int))) _ _ _ _ (by rfl) (HR2.out.alloc _) (ndsV_length _) (ndsV_one _) ?pn5 (by simp) ?_)
      case pn5 => omega
      intro v3 w3 ho3 hg3 hd3
      rw [← ndsV_append] at ho3
      have HO3 := Lib.hid ho3
      have HD3 := Lib.hid (hd3 w2 ((Old.refl w2).alloc _) (Nat.le_refl _))
      clear ho3 hg3 hd3 HO2 HR2
      go_wp2_with fail
      go_ret
      rw [HE.out]
      exact ⟨_, rfl, (own_st_len HO3.out).base (HD2.out.size), HD2.out.up HD3.out⟩
  | two a m n h hk h1 h2 h3 hs1 hs2 i1 i2 =>
    intro f at_ w hf hat hr
    obtain ⟨f, rfl⟩ : ∃ g, f = g + 1 := ⟨f - 1, by omega⟩
    have hle1 := hs1.le
    have hle2 := hs2.le
    have hL : (nd l (n + 1)).left.toNat = m := by omega
    have hR : (nd l (n + 1)).right.toNat = n := by omega
    have hP : ∀ r s, rbF l f m (if (nd l (n + 1)).kind = 3 then at_ else at_ + 1) = r → rbF l f n (if (nd l (n + 1)).kind = 3 then at_ + r.length else at_ + 2 + r.length) = s → rbF l (f + 1) (n + 1) at_ = if (nd l (n + 1)).kind = 3 then r ++ s else [⟨2, (at_ : Int) + 1, (at_ : Int) + 2 + (r.length : Int), 0⟩] ++ r ++ [⟨2, (at_ : Int) + 2 + (r.length : Int) + (s.length : Int), (at_ : Int) + 2 + (r.length : Int) + (s.length : Int), 0⟩] ++ s := by
      intro r s hr1 hs1'
      rw [rbF, if_neg (by omega), if_neg (by omega), if_neg (by omega), if_neg (by omega), hL, hR]
      by_cases k3 : (nd l (n + 1)).kind = 3
      · rw [if_pos k3] at hr1 hs1'
        subst hr1
        subst hs1'
        rw [if_pos k3, if_pos k3]
      · rw [if_neg k3] at hr1 hs1'
        subst hr1
        subst hs1'
        rw [if_neg k3, if_neg k3, if_pos (by omega)]
        rfl
    have HP := Lib.hid hP
    have HI1 := Lib.hid i1
    have HI2 := Lib.hid i2
    have HM1 := Lib.hid (fun at_ => rbF_made hs1 f at_ (by omega))
    have HM2 := Lib.hid (fun at_ => rbF_made hs2 f at_ (by omega))
    have HSZ : Hid (at_ + 2 * (n + 1 + 1 - a) ≤ 1000) := Lib.hid hat
    have hat1 : at_ ≤ 1000 := by omega
    have HF0 : Hid (n < f ∧ m < f ∧ a ≤ m ∧ m < n) := Lib.hid (by omega)
    have H1 := Lib.hid h1
    have H2 := Lib.hid h2
    clear hP hf hat hL hR i1 i2 h1 h2 h3
    have hx : l[(n + 1)]? = some (nd l (n + 1)) := by unfold nd; rw [List.getD_eq_getElem?_getD, List.getElem?_eq_getElem h]; rfl
    have HRW := Lib.hid hr
    obtain ⟨b, off, rfl, hbl, hcl⟩ := hr.at_ (by rw [ndsV_length]; omega)
    have hg := ndsV_get l (n + 1) _ hx
    have c0 := hcl _ _ (hg 0 (by omega))
    have c1 := hcl _ _ (hg 1 (by omega))
    have c2 := hcl _ _ (hg 2 (by omega))
    have c3 := hcl _ _ (hg 3 (by omega))
    have c4 := hcl _ _ (hg 4 (by omega))
    have c5 := hcl _ _ (hg 5 (by omega))
    have c6 := hcl _ _ (hg 6 (by omega))
    rw [← Nat.add_assoc] at c0 c1 c2 c3 c4 c5 c6
    rw [Nat.add_zero] at c0
    have i0 : (0 : Int) ≤ (((n + 1) : Nat) : Int) := by omega
    have i1 : (((n + 1) : Nat) : Int) < (l.length : Int) := by omega
    clear hx hg hcl hbl hr
    generalize nd l (n + 1) = y at *
    obtain ⟨kd, lf, rt, st⟩ := y
    simp only at hk HP
    replace c0 : w.cell? ⟨b, off + (n + 1) * 7, none⟩ = some (.int .i64 kd) := c0
    replace c1 : w.cell? ⟨b, off + (n + 1) * 7 + 1, none⟩ = some (.int .i64 lf) := c1
    replace c2 : w.cell? ⟨b, off + (n + 1) * 7 + 2, none⟩ = some (.int .i64 rt) := c2
    replace c3 : w.cell? ⟨b, off + (n + 1) * 7 + 3, none⟩ = some (.int .u64 (setW st 0)) := c3
    replace c4 : w.cell? ⟨b, off + (n + 1) * 7 + 4, none⟩ = some (.int .u64 (setW st 1)) := c4
    replace c5 : w.cell? ⟨b, off + (n + 1) * 7 + 5, none⟩ = some (.int .u64 (setW st 2)) := c5
    replace c6 : w.cell? ⟨b, off + (n + 1) * 7 + 6, none⟩ = some (.int .u64 (setW st 3)) := c6
    go_enter Try.func41, Try.ntmps41
    go_upto_region 2 with fail
    have hk7 : NdAt (w.alloc (.cells (ndCells ⟨kd, lf, rt, st⟩).toArray 114)) w.heap.size ⟨kd, lf, rt, st⟩ := heap_alloc_new w _
    have HOW := Lib.hid ((Old.refl w).alloc (.cells (ndCells ⟨kd, lf, rt, st⟩).toArray 114))
    generalize hWW : w.alloc (.cells #[.int .i64 kd, .int .i64 lf, .int .i64 rt, .int .u64 (setW st 0), .int .u64 (setW st 1), .int .u64 (setW st 2), .int .u64 (setW st 3)] 114) = W
    have hWW' : w.alloc (.cells (ndCells ⟨kd, lf, rt, st⟩).toArray 114) = W := hWW
    rw [hWW'] at hk7 HOW
    clear hWW hWW' c0 c1 c2 c3 c4 c5 c6
    obtain ⟨d0, d1, d2, d3, d4, d5, d6⟩ := hk7.cells
    simp only at d0 d1 d2 d3 d4 d5 d6
    have HK := Lib.hid hk7
    clear hk7
    have HBS := Lib.hid HOW.out.size
    generalize hk7 : w.heap.size = k7 at *
    have h1 : lf = (m : Int) := H1.out
    have h2 : rt = (n : Int) := H2.out
    subst h1
    subst h2
    rcases hk with rfl | rfl
    · have HE0 : Hid (∀ r s, rbF l f m at_ = r → rbF l f n (at_ + r.length) = s → rbF l (f + 1) (n + 1) at_ = r ++ s) := Lib.hid (fun r s e1 e2 => HP.out r s e1 e2)
      clear HP
      have HC : Calls Try.prog 41 #[.slice (some ⟨b, off, none⟩) l.length cn, .int .i64 (m : Int), .int .i64 ((at_ : Int))] W (StPost W (rbF l f m (at_))) := HI1.out f (at_) W HF0.out.2.1 (by have := HSZ.out; have := HF0.out; omega) (HRW.out.up HOW.out)
      have hm := (HM1.out (at_)).few
      have he := HE0.out
      clear HE0 HI1
      generalize rbF l f m (at_) = r at *
      have hlr : r.length ≤ 1000 := by have := HSZ.out; have := HF0.out; omega
      have HC2 : ∀ w', Old w w' → Calls Try.prog 41 #[.slice (some ⟨b, off, none⟩) l.length cn, .int .i64 (n : Int), .int .i64 ((at_ : Int) + (r.length : Int))] w' (StPost w' (rbF l f n (at_ + r.length))) := fun w' h => HI2.out f (at_ + r.length) w' HF0.out.1 (by have := HSZ.out; have := HF0.out; omega) (HRW.out.up h)
      have hm2 := (HM2.out (at_ + r.length)).few
      replace he := he r _ rfl rfl
      generalize rbF l f n (at_ + r.length) = s at *
      have hls : s.length ≤ 1000 := by have := HSZ.out; have := HF0.out; omega
      have HE := Lib.hid he
      have HCC := Lib.hid HC
      have HCC2 := Lib.hid HC2
      clear HC HC2 he HI2 HM1 HM2 hm hm2 HRW
      go_wp2_with fail
      refine (HCC.out).mono ?_; rintro e w2 ⟨v2, rfl, ho2, hd2⟩
      obtain ⟨A2, c2, rfl, ht2, _, _⟩ := ho2.shape
      have e2 := hd2.cell d2
      have HO2 := Lib.hid ho2
      have HR2 := Lib.hid ht2.rs
      have HB2 := Lib.hid hd2.size
      have HD2 := Lib.hid (HOW.out.up hd2)
      have HW2 := Lib.hid HOW.out.size
      clear ho2 ht2 hd2 HCC HOW HK d0 d1 d2 d3 d4 d5 d6
      go_wp2_with fail
      refine ((HCC2.out _ HD2.out)).mono ?_; rintro e w3 ⟨v3, rfl, ho3, hd3⟩
      obtain ⟨A3, c3, rfl, ht3, _, _⟩ := ho3.shape
      have HR3 := Lib.hid ht3.rs
      have HB3 := Lib.hid hd3
      clear ho3 ht3 hd3 HCC2 e2
      go_wp2_with (at_builtin; refine wpList_pushAll rfl _ _ 28 rfl _ 42 (.agg #[.int .i64 0, .int .i64 0, .int .i64 0, .int .u64 0, .int .u64 0, .int .u64 0, .int .u64 0]) 7 56 Try.underlying28 info_st rfl (by decide) (by decide) _ _ _ (by rfl) (HO2.out.up HB3.out) _ _ _ _ (by rfl) HR3.out (ndsV_length _) (ndsV_one _) ?pn6 (Nat.le_trans HB2.out HB3.out.size) ?_)
      case pn6 => omega
      intro v4 w4 ho4 hg4 hd4
      rw [← ndsV_append] at ho4
      have HO4 := Lib.hid ho4
      have HD4 := Lib.hid (hd4 w (HD2.out.up HB3.out) HW2.out)
      clear ho4 hg4 hd4 HO2 HR2 HR3
      go_wp2_with fail
      go_ret
      rw [HE.out]
      exact ⟨_, rfl, (own_st_len HO4.out).base (HW2.out), HD4.out⟩
    · have HE0 : Hid (∀ r s, rbF l f m (at_ + 1) = r → rbF l f n (at_ + 2 + r.length) = s → rbF l (f + 1) (n + 1) at_ = [⟨2, (at_ : Int) + 1, (at_ : Int) + 2 + (r.length : Int), 0⟩] ++ r ++ [⟨2, (at_ : Int) + 2 + (r.length : Int) + (s.length : Int), (at_ : Int) + 2 + (r.length : Int) + (s.length : Int), 0⟩] ++ s) := Lib.hid (fun r s e1 e2 => HP.out r s e1 e2)
      clear HP
      have HC : Calls Try.prog 41 #[.slice (some ⟨b, off, none⟩) l.length cn, .int .i64 (m : Int), .int .i64 ((at_ : Int) + 1)] W (StPost W (rbF l f m (at_ + 1))) := HI1.out f (at_ + 1) W HF0.out.2.1 (by have := HSZ.out; have := HF0.out; omega) (HRW.out.up HOW.out)
      have hm := (HM1.out (at_ + 1)).few
      have he := HE0.out
      clear HE0 HI1
      generalize rbF l f m (at_ + 1) = r at *
      have hlr : r.length ≤ 1000 := by have := HSZ.out; have := HF0.out; omega
      have HC2 : ∀ w', Old w w' → Calls Try.prog 41 #[.slice (some ⟨b, off, none⟩) l.length cn, .int .i64 (n : Int), .int .i64 ((at_ : Int) + 2 + (r.length : Int))] w' (StPost w' (rbF l f n (at_ + 2 + r.length))) := fun w' h => HI2.out f (at_ + 2 + r.length) w' HF0.out.1 (by have := HSZ.out; have := HF0.out; omega) (HRW.out.up h)
      have hm2 := (HM2.out (at_ + 2 + r.length)).few
      replace he := he r _ rfl rfl
      generalize rbF l f n (at_ + 2 + r.length) = s at *
      have hls : s.length ≤ 1000 := by have := HSZ.out; have := HF0.out; omega
      have HE := Lib.hid he
      have HCC := Lib.hid HC
      have HCC2 := Lib.hid HC2
      clear HC HC2 he HI2 HM1 HM2 hm hm2 HRW
      go_wp2_with fail
      refine (HCC.out).mono ?_; rintro e w2 ⟨v2, rfl, ho2, hd2⟩
      obtain ⟨A2, c2, rfl, ht2, _, _⟩ := ho2.shape
      have e2 := hd2.cell d2
      have HO2 := Lib.hid ho2
      have HR2 := Lib.hid ht2.rs
      have HB2 := Lib.hid hd2.size
      have HD2 := Lib.hid (HOW.out.up hd2)
      have HW2 := Lib.hid HOW.out.size
      clear ho2 ht2 hd2 HCC HOW HK d0 d1 d2 d3 d4 d5 d6
      go_wp2_with fail
      refine ((HCC2.out _ HD2.out)).mono ?_; rintro e w3 ⟨v3, rfl, ho3, hd3⟩
      obtain ⟨A3, c3, rfl, ht3, _, _⟩ := ho3.shape
      have HR3 := Lib.hid ht3.rs
      have HB3 := Lib.hid hd3
      clear ho3 ht3 hd3 HCC2 e2
      go_wp2_with (at_builtin; refine wpList_pushAll rfl _ _ 28 rfl _ 42 (.agg #[.int .i64 0, .int .i64 0, .int .i64 0, .int .u64 0, .int .u64 0, .int .u64 0, .int .u64 0]) 7 56 Try.underlying28 info_st rfl (by decide) (by decide) _ _ _ (by rfl) (own_st0 w3 2 ((at_ : Int) + 1) ((at_ : Int) + 2 + (r.length : Int))) _ _ _ _ (by rfl) ((HR2.out.up HB3.out).alloc _) (ndsV_length _) (ndsV_one _) ?pn7 (by simp) ?_)
      case pn7 => omega
      intro v4 w4 ho4 hg4 hd4
      rw [← ndsV_append] at ho4
      obtain ⟨A4, c4, rfl, ht4, _, _⟩ := ho4.shape
      have hd4' := hd4 w3 ((Old.refl w3).alloc _) (Nat.le_refl _)
      have HO4 := Lib.hid ho4
      have HD4 := Lib.hid hd4'
      have HB4 := Lib.hid hd4'.size
      clear ho4 ht4 hg4 hd4 hd4' HO2 HR2
      go_wp2_with (at_builtin; refine wpList_push (wr := w4) rfl _ _ 28 rfl _ 42 (.agg #[.int .i64 0, .int .i64 0, .int .i64 0, .int .u64 0, .int .u64 0, .int .u64 0, .int .u64 0]) 7 56 Try.underlying28 info_st rfl (by decide) (by decide) _ _ _ rfl HO4.out 1 1 [.int .i64 2, .int .i64 ((at_ : Int) + 2 + (r.length : Int) + (s.length : Int)), .int .i64 ((at_ : Int) + 2 + (r.length : Int) + (s.length : Int)), .int .u64 0, .int .u64 0, .int .u64 0, .int .u64 0] rfl rfl rfl rfl ?pn3 HB4.out ?_)
      case pn3 => omega
      intro v5 w5 ho5 hg5 hd5
      have ho5' : Own w5 w3.heap.size 42 7 v5 (1 + r.length + 1) (ndsV (([⟨2, (at_ : Int) + 1, (at_ : Int) + 2 + (r.length : Int), 0⟩] ++ r) ++ [⟨2, (at_ : Int) + 2 + (r.length : Int) + (s.length : Int), (at_ : Int) + 2 + (r.length : Int) + (s.length : Int), 0⟩])) := by
        rw [ndsV_append _ [_]]
        have e : ndsV [(⟨2, (at_ : Int) + 2 + (r.length : Int) + (s.length : Int), (at_ : Int) + 2 + (r.length : Int) + (s.length : Int), 0⟩ : Nd)] = [.int .i64 2, .int .i64 ((at_ : Int) + 2 + (r.length : Int) + (s.length : Int)), .int .i64 ((at_ : Int) + 2 + (r.length : Int) + (s.length : Int)), .int .u64 0, .int .u64 0, .int .u64 0, .int .u64 0] := by simp [ndsV, ndCells, setW_zero]
        rw [e]; exact ho5
      obtain ⟨A5, c5, rfl, ht5, _, _⟩ := ho5'.shape
      have hd5' := hd5 w3 HD4.out (Nat.le_refl _)
      have HO5 := Lib.hid ho5'
      have HD5 := Lib.hid hd5'
      clear ho5 ho5' ht5 hg5 hd5 hd5' HO4 HD4
      go_wp2_with (at_builtin; refine wpList_pushAll rfl _ _ 28 rfl _ 42 (.agg #[.int .i64 0, .int .i64 0, .int .i64 0, .int .u64 0, .int .u64 0, .int .u64 0, .int .u64 0]) 7 56 Try.underlying28 info_st rfl (by decide) (by decide) _ _ _ (by rfl) HO5.out _ _ _ _ (by rfl) (HR3.out.up HD5.out) (ndsV_length _) (ndsV_one _) ?pn8 HD5.out.size ?_)
      case pn8 => omega
      intro v6 w6 ho6 hg6 hd6
      rw [← ndsV_append] at ho6
      have HO6 := Lib.hid ho6
      have HD6 := Lib.hid (hd6 w3 HD5.out (Nat.le_refl _))
      clear ho6 hg6 hd6 HO5 HR3
      go_wp2_with fail
      go_ret
      rw [HE.out]
      exact ⟨_, rfl, (own_st_len HO6.out).base (Nat.le_trans HD2.out.size HB3.out.size), (HD2.out.up HB3.out).up HD6.out⟩
end Go.Proofs.Ythadkjgadhbidaa
/-
  The walk of the reference's Compile (nfa).
-/
namespace Go.Proofs.Ythadkjgadhbidaa
open Go.RowKit
set_option linter.unusedVariables false

def RComp (w : World) (l : List Nd) (e : Ending) (w' : World) : Prop :=
  (∃ v, e = .returned (.tuple #[v, .int .i64 0]) ∧ Own w' w.heap.size 42 7 v (rcompM l).length (ndsV (rcompM l))) ∧ Old w w'
set_option maxHeartbeats 8000000 in
set_option maxRecDepth 100000 in
theorem rcompC (A : Option Addr) (c : Nat) (l : List Nd) (w : World) (hr : Rs w A (ndsV l)) (hm : l.length ≤ maxLen) (hso : ∀ x ∈ l, setOk x.set) (hv : validM l = true) :
    Calls Try.prog 17 #[.slice A l.length c] w (RComp w l) := by
  have hV := rvalidC A c l w hr hm hso
  rw [hv] at hV
  have HV := Lib.hid hV
  have hlen := validM_len hv
  obtain ⟨k, hk⟩ : ∃ k, l.length = k + 1 := ⟨l.length - 1, by omega⟩
  have hk1 : l.length - 1 = k := by omega
  have hsub := validM_sub hv
  rw [hk1] at hsub
  have hm := (rbF_made hsub l.length 0 (by omega)).few
  have HC0 := Lib.hid (fun w' (h : Old w w') => rbuildC A c l (by omega) hsub l.length 0 w' (by omega) (by omega) (hr.up h))
  have HE0 : Hid (rcompM l = rbF l l.length k 0 ++ [⟨5, 0, 0, 0⟩]) := Lib.hid (by unfold rcompM; rw [hk1])
  clear hV hr hso hv hsub
  have hke : (l.length : Int) - 1 = (k : Int) := by omega
  generalize rbF l l.length k 0 = r at *
  generalize l.length = L at *
  subst hk
  go_enter Try.func17, Try.ntmps17
  go_wp2_with fail
  refine (HV.out).mono ?_; rintro e V ⟨rfl, hd⟩
  have HD := Lib.hid hd
  have HC := Lib.hid (HC0.out V hd)
  clear hd HV HC0
  go_wp2_with fail
  refine (HC.out).mono ?_; rintro e w2 ⟨v2, rfl, ho2, hd2⟩
  obtain ⟨A2, c2, rfl, ht2, _, _⟩ := ho2.shape
  have HO2 := Lib.hid ho2
  have HB2 := Lib.hid hd2.size
  have HD2 := Lib.hid hd2
  clear ho2 ht2 hd2 HC
  have hlr : r.length ≤ 1000 := by omega
  go_wp2_with (at_builtin; refine wpList_push (wr := w2) rfl _ _ 28 rfl _ 42 (.agg #[.int .i64 0, .int .i64 0, .int .i64 0, .int .u64 0, .int .u64 0, .int .u64 0, .int .u64 0]) 7 56 Try.underlying28 info_st rfl (by decide) (by decide) _ _ _ rfl HO2.out 1 1 [.int .i64 5, .int .i64 0, .int .i64 0, .int .u64 0, .int .u64 0, .int .u64 0, .int .u64 0] rfl rfl rfl rfl ?pn1 HB2.out ?_)
  case pn1 => omega
  intro v4 w4 ho4 hg4 hd4
  have ho4' : Own w4 V.heap.size 42 7 v4 (r.length + 1) (ndsV (r ++ [⟨5, 0, 0, 0⟩])) := by
    rw [ndsV_append]
    have e : ndsV [(⟨5, 0, 0, 0⟩ : Nd)] = [.int .i64 5, .int .i64 0, .int .i64 0, .int .u64 0, .int .u64 0, .int .u64 0, .int .u64 0] := by simp [ndsV, ndCells, setW_zero]
    rw [e]; exact ho4
  have HO4 := Lib.hid ho4'
  have HD4 := Lib.hid (hd4 w (HD.out.up HD2.out) HD.out.size)
  obtain ⟨A4, c4, rfl, ht4, _, _⟩ := ho4'.shape
  clear ho4 ho4' hg4 hd4 HO2 ht4
  go_wp2_with fail
  refine bodyPost_ret (v := .tuple #[.slice A4 (r.length + 1) c4, .int .i64 0]) (by simp [results, Try.results17, go_sem]) rfl ?_
  refine ⟨⟨_, rfl, ?_⟩, HD4.out⟩
  rw [HE0.out]
  exact (own_st_len HO4.out).base HD.out.size
end Go.Proofs.Ythadkjgadhbidaa
/-
  The walk of the statement NfaSamples.
-/
namespace Go.Proofs.Ythadkjgadhbidaa
open Go.RowKit
set_option linter.unusedVariables false

set_option maxHeartbeats 8000000 in
set_option maxRecDepth 100000 in
theorem nsamples_any (A : Option Addr) (c : Nat) (l : List Int) (w : World) (hr : Rs w A (ints l)) (hm : l.length ≤ maxLen) :
    Calls Try.prog 5 #[.slice A l.length c] w (ValOld (.bool true) w) := by
  have HS := Lib.hid (nsaneC w)
  have HR := Lib.hid hr
  have HM := Lib.hid hm
  clear hr hm
  go_enter Try.func5, Try.ntmps5
  go_wp2_with fail
  refine (HS.out).mono ?_; rintro e w1 ⟨rfl, hd1⟩
  have HD1 := Lib.hid hd1
  clear hd1 HS
  have HP := Lib.hid (npatternC A c l w1 (HR.out.up HD1.out) HM.out)
  have HNV := Lib.hid (npnodes_valid l)
  have HNO := Lib.hid (npnodesM_ok l)
  clear HR
  go_wp2_with fail
  refine (HP.out).mono ?_; rintro e w2 ⟨A2, c2, B2, d2, rfl, hn2, ht2, hl2, hm2, hd2⟩
  have HN := Lib.hid hn2
  have HD2 := Lib.hid (HD1.out.up hd2)
  clear hn2 ht2 hl2 hm2 hd2 HP HD1
  generalize npnodesM l = n at *
  generalize (nptxtM l).1 = tx at *
  have hnl256 := HNO.out.2
  have HC := Lib.hid (rcompC A2 c2 n w2 HN.out (by unfold maxLen; omega) HNO.out.1 HNV.out)
  go_wp2_with fail
  refine (HC.out).mono ?_; rintro e w3 ⟨⟨v3, rfl, ho3⟩, hd3⟩
  obtain ⟨_, hsv, hlen, hpos, hsets⟩ := rcomp_ok HNV.out
  have HSO := Lib.hid (hsets HNO.out.1)
  have HSV := Lib.hid hsv
  obtain ⟨A3, c3, rfl, ht3, _, _⟩ := ho3.shape
  have HST := Lib.hid ht3.rs
  have HD3 := Lib.hid (HD2.out.up hd3)
  clear hsets hsv ho3 ht3 hd3 HC HN HNV HNO HD2
  generalize rcompM n = st at *
  have HC1 := Lib.hid (nsampleC A3 c3 st w3 HST.out (by unfold maxLen; omega))
  go_wp2_with fail
  refine (HC1.out).mono ?_; rintro e w4 ⟨v4, r4, rfl, ho4, hs4, _, hd4⟩
  obtain ⟨A4, c4, rfl, ht4, _, _⟩ := ho4.shape
  have HS4 := Lib.hid (hs4 HSV.out)
  have HT4 := Lib.hid ht4.rs
  have HO4 := Lib.hid hd4
  have HC2 := Lib.hid (rsampleC A3 c3 st w4 (HST.out.up hd4) (by unfold maxLen; omega) HSV.out)
  clear ho4 ht4 hs4 hd4 HC1
  go_wp2_with fail
  refine (HC2.out).mono ?_; rintro e w5 ⟨A5, c5, r5, rfl, hs5, hl5, hd5⟩
  obtain ⟨h1, h2⟩ := smin_same HS4.out hs5
  have HO5 := Lib.hid (HO4.out.up hd5)
  have HT5 := Lib.hid (HT4.out.up hd5)
  clear HC2 hs5 hd5 HT4
  rw [← h1, ← h2]
  have hl4 := hl5
  rw [← h2] at hl4
  clear h1 h2 hl5
  cases r4 with
  | none =>
    have HX := Lib.hid (HD3.out.up HO5.out)
    clear HS4 HT5 hl4
    simp only [Option.isSome_none, Option.getD_none, List.length_nil]
    go_wp2_with fail
    go_ret
    exact ⟨rfl, HX.out⟩
  | some a =>
    have hrun := smin_run HSV.out HS4.out
    have h8 := SAcc.bytes HS4.out.1
    have HTA : Hid (Rs w5 A4 (txt a)) := Lib.hid HT5.out
    have hla : a.length ≤ 100001 := hl4
    have hn1 := nrunC A3 A4 c3 c4 st a w5 (HST.out.up HO5.out) HTA.out (by unfold maxLen; omega) (by omega) h8
    have hn2 := fun W (h : Old w5 W) => rrunC A3 A4 c3 c4 st a W (HST.out.up (HO5.out.up h)) (HTA.out.up h) (by unfold maxLen; omega) (by omega) h8 HSO.out
    simp only [hrun] at hn1 hn2
    have HN1 := Lib.hid hn1
    have HN2 := Lib.hid hn2
    clear hn1 hn2 hrun h8 hl4 HT5 HS4 HSO HSV
    simp only [Option.isSome_some, Option.getD_some]
    have e1 : ((a.length : Int) == (a.length : Int)) = true := by simp
    go_wp2_with fail
    refine (HN1.out).mono ?_; rintro e w6 ⟨rfl, hd6⟩
    have HO6 := Lib.hid hd6
    clear hd6 HN1
    go_wp2_with fail
    refine (HN2.out w6 HO6.out).mono ?_; rintro e w7 ⟨rfl, hd7⟩
    have HX := Lib.hid (HD3.out.up (HO5.out.up (HO6.out.up hd7)))
    clear hd7 HN2
    go_wp2_with fail
    go_ret
    exact ⟨rfl, HX.out⟩
end Go.Proofs.Ythadkjgadhbidaa
namespace Go.Proofs.Ythadkjgadhbidaa
open Go.ChangeShapes Go.WideShapes Go.ChangeAt Go.RowKit Rw
set_option linter.unusedVariables false

theorem nfaSamples_row {Al : Option Addr} {len1 c1 : Nat} {W : World} (h : ∃ l : List Int, l.length = len1 ∧ len1 ≤ maxLen ∧ Rs W Al (ints l)) :
    Calls Try.prog 5 #[.slice Al len1 c1] W fun e w' => e = .returned (.bool true) ∧ Below W.heap.size W w' := by
  obtain ⟨l, rfl, hm, hr⟩ := h
  exact nsamples_any Al c1 l W hr hm
set_option maxRecDepth 100000 in
theorem nfaSamples_lifted (os : Os) (started : os.Started) (H : Type) (enc : TypeId × Value → H) :
    ReturnsInHanded {} Try.checked os 5 .any (Rows.nfaSamplesSpec.pre6 enc Try.prog Try.f5 Rows.nfaSamplesRow.domain false) (Rows.nfaSamplesSpec.post enc Try.prog Try.f5 false true false false) := by
  refine returnsInHanded_of_change (C := Try.checked) own started (by kernel_rfl) Try.func5
    (ChangeSpec.witness6 (enc := enc) (C := Try.checked) false ⟨#[], #[.slice none 0 0], []⟩ 8 (by kernel_rfl) (by kernel_rfl) (by kernel_rfl) (by kernel_rfl)) ?_
  intro W base args ds gs before hval0 hW hcnd _
  have hval : ∀ (j : Nat) t v, Try.f5.params[j]? = some t → args[j]? = some v → Value.okWide Try.prog W .any base t v := hval0
  have hW' := hW
  obtain ⟨p, q, hA0, hV, rfl, hfz, hnd⟩ := hW
  have hA : DataW.TrodAll enc Try.prog W 0 (fun _ => true) true Try.f5.params.toList args.toList ds p := hA0
  rw [Try.params5] at hA hval
  obtain ⟨v0, vs0, d0, ds0, p0, q0, hargs, rfl, rfl, h0, r0⟩ := trodAll_cons hA
  obtain ⟨rfl, rfl, rfl⟩ := trodAll_nil r0
  obtain rfl : args = #[v0] := by cases args; simp_all
  obtain ⟨rfl, rfl⟩ := trodVars_none hV
  obtain ⟨a0, len0, cap0, rfl⟩ := okWide_slice Try.underlying22 (hval 0 22 v0 rfl rfl)
  have lt0 : ∀ x ∈ p0, x.block < W.heap.size := by obtain ⟨m, hm⟩ := h0; exact DataW.trod_lt m _ _ _ hm
  have w0 := open_intl h0
  clear hA0 hval0
  refine (nfaSamples_row w0).mono fun e W' ⟨he, bel⟩ => ?_
  subst he
  exact ⟨_, rfl, _, _, _, [], _, [], hW', trodAll_mk1 (shut_bool Try.underlying4 _), (trodAll_cons_mk (Below.trod laidOut (by kernel_rfl) (of_decide_eq_true (by kernel_rfl)) h0 bel lt0) trodAll_mk0), rfl, bel.frame _, fun h => by cases h⟩

theorem nfaSamples_holds : Rows.NfaSamplesSaid :=
  OpenClaim.holds_of_wide 5 Try.f5 rfl rfl rfl rfl rfl rfl rfl ⟨rfl, rfl, rfl, rfl, rfl⟩ rfl rfl rfl rfl rfl (by kernel_rfl) Try.func5 (by kernel_rfl)
    (of_decide_eq_true (by kernel_rfl)) (by unfold Func.isWrapper; first | (rw [if_pos (by decide +kernel)]; kernel_rfl) | (rw [if_neg (by decide +kernel)]; exact ⟨rfl, rfl⟩))
    (fun os started H enc _ => nfaSamples_lifted os started H enc)

end Go.Proofs.Ythadkjgadhbidaa
