/-
  The statement MatcherFinds: it returns true for all arguments; no condition.
-/
import Derived.Test.YthadkjgadhbidaaWords
import Derived.Deep.Slices
import Derived.Deep.Fields
import Derived.ProofKit
import Derived.ChangeSame
import Derived.Test.YthadkjgadhbidaaRows
import Derived.WalkKit
import Derived.OpenShut
import Derived.ShutString
import Derived.ChangeOld
import Derived.Below
import Derived.Test.YthadkjgadhbidaaProg
import Derived.WalkSpells
import Derived.WalkLawsBesides
import Derived.Test.YthadkjgadhbidaaBytes
import Derived.BigQuiet
import Derived.IntWalk
import Derived.SizedLaws
import Derived.Test.YthadkjgadhbidaaMfL
import Derived.Test.YthadkjgadhbidaaVlW
import Derived.Test.YthadkjgadhbidaaRxU
import Derived.Test.YthadkjgadhbidaaTxt
import Derived.Lib.SlBytesConst
import Derived.Test.YthadkjgadhbidaaRtR
import Derived.ChangeMaps5
/-
  A slice that came in, read as data: its cells, element by element. No program in sight.
-/
namespace Go.Proofs.Ythadkjgadhbidaa
open Go.RowKit Go.ChangeShapes Go.WideShapes Go.Deep

/-- The cells of equal pieces, one behind the other. -/
theorem flatten_at {α : Type} {C : Nat} (hC : 0 < C) : ∀ (cells : List (List α)), (∀ cs ∈ cells, cs.length = C) → ∀ j u, cells.flatten[j]? = some u → ∃ cs, cells[j / C]? = some cs ∧ cs[j % C]? = some u := by
  intro cells
  induction cells with
  | nil => intro _ j u h; simp at h
  | cons a cells ih =>
    intro hl j u h
    have ha : a.length = C := hl a (by simp)
    rw [List.flatten_cons, List.getElem?_append] at h
    by_cases hj : j < C
    · rw [ha, if_pos hj] at h
      rw [Nat.div_eq_of_lt hj, Nat.mod_eq_of_lt hj]
      exact ⟨a, rfl, h⟩
    · rw [ha, if_neg hj] at h
      obtain ⟨cs, h1, h2⟩ := ih (fun cs hcs => hl cs (by simp [hcs])) _ _ h
      obtain ⟨i, rfl⟩ : ∃ i, j = i + C := ⟨j - C, by omega⟩
      rw [Nat.add_sub_cancel] at h1 h2
      rw [Nat.add_div_right _ hC, Nat.add_mod_right]
      exact ⟨cs, by simpa using h1, h2⟩
/-- From 'each element has an x' to a list of x. -/
theorem list_choose {α β : Type} (f : β → α) (p : β → Prop) : ∀ (l : List α), (∀ a ∈ l, ∃ b, a = f b ∧ p b) → ∃ m : List β, l = m.map f ∧ ∀ b ∈ m, p b := by
  intro l
  induction l with
  | nil => intro _; exact ⟨[], rfl, by simp⟩
  | cons a l ih =>
    intro h
    obtain ⟨b, hb, hp⟩ := h a (by simp)
    obtain ⟨m, hm, hq⟩ := ih (fun x hx => h x (by simp [hx]))
    refine ⟨b :: m, by rw [hb, hm]; rfl, fun x hx => ?_⟩
    rcases List.mem_cons.mp hx with rfl | hx
    · exact hp
    · exact hq x hx

section
variable {H : Type} {enc : TypeId × Value → H} {P : Program} {w : World} {base : Nat} {spare : Nat → Bool} {held : Bool}
theorem open_elems {t e : TypeId} {a : Option Addr} {len cap : Nat} {d : DataW H} {p : List MemPlace} (ht : P.underlying t = some (.slice e)) (hC : 0 < P.cellsOf e)
    (h : DataW.Trod enc P w base spare held t (.slice a len cap) d p) :
    ∃ cells : List (List Value), cells.length = len ∧ len ≤ cap ∧ cap ≤ maxLen ∧ Rs w a cells.flatten ∧ ∀ cs ∈ cells, cs.length = P.cellsOf e ∧ ∃ n y, DataW.trod enc P w base spare held n e cs = some y := by
  obtain ⟨fuel, hf⟩ := h
  rcases open_slice ht hf with ⟨hcs, _⟩ | ⟨x, l, c, m, n, D, Pl, hcs, _, hl, hm, hmm, _, hi⟩
  · simp [Value.cells] at hcs
    obtain ⟨rfl, rfl, rfl⟩ := hcs
    exact ⟨[], rfl, Nat.zero_le _, Nat.zero_le _, Rs.nil_, by simp⟩
  · simp [Value.cells] at hcs
    obtain ⟨rfl, rfl, rfl⟩ := hcs
    have hlm : len ≤ m := by rw [hmm]; split <;> omega
    obtain ⟨f, hf'⟩ := choose_lt (n := len) (p := fun i cs' => w.cells? base (x.add (i * P.cellsOf e)) (P.cellsOf e) = some cs' ∧ DataW.trod enc P w base spare held n e cs' = some (D i, Pl i)) (fun i hil => hi i (by omega))
    have hlen : ∀ cs ∈ (List.range len).map f, cs.length = P.cellsOf e := by
      intro cs hcs
      simp only [List.mem_map, List.mem_range] at hcs
      obtain ⟨i, hil, rfl⟩ := hcs
      exact (World.cells?_some (hf' i hil).1).2.1
    refine ⟨(List.range len).map f, by simp, hl, hm, ?_, fun cs hcs => ⟨hlen cs hcs, ?_⟩⟩
    · have hcell : ∀ j u, ((List.range len).map f).flatten[j]? = some u → w.cell? (x.add j) = some u := by
        intro j u hu
        obtain ⟨cs, h1, h2⟩ := flatten_at hC _ hlen j u hu
        have hj : j / P.cellsOf e < len := by
          have := (List.getElem?_eq_some_iff.mp h1).1
          simpa using this
        rw [List.getElem?_map, List.getElem?_range hj] at h1
        simp at h1
        subst h1
        have h3 := (World.cells?_some (hf' _ hj).1).2.2 (j % P.cellsOf e) (Nat.mod_lt _ hC)
        rw [add_add, h2, show j / P.cellsOf e * P.cellsOf e + j % P.cellsOf e = j from by rw [Nat.mul_comm]; exact Nat.div_add_mod _ _] at h3
        exact h3
      rcases Nat.eq_zero_or_pos ((List.range len).map f).flatten.length with h0 | h0
      · exact Or.inl (List.eq_nil_of_length_eq_zero h0)
      · have h1 := hcell 0 _ (List.getElem?_eq_getElem h0)
        have hsp : x.spot = none := by
          have := World.cell?_spot h1
          simpa [Addr.add] using this
        obtain ⟨b, off, sp⟩ := x
        simp at hsp
        subst hsp
        refine Or.inr ⟨b, off, rfl, fun j u hu => ?_⟩
        have := hcell j u hu
        rwa [Addr.add_lit] at this
    · simp only [List.mem_map, List.mem_range] at hcs
      obtain ⟨i, hil, rfl⟩ := hcs
      exact ⟨n, _, (hf' i hil).2⟩
/-- An integer of one cell. -/
theorem open_one {t : TypeId} {k : IntKind} {cs : List Value} {n : Nat} {y : DataW H × List MemPlace} (ht : P.underlying t = some (.int k)) (h : DataW.trod enc P w base spare held n t cs = some y) :
    ∃ x : Int, cs = [.int k x] ∧ (Lit.int k x).wf = true := by
  obtain ⟨a, ha, _, wa⟩ := DataW.trod_int ht h
  exact ⟨a, ha, wa⟩
/-- A struct of two integers. -/
theorem open_two {t : TypeId} {f0 f1 : Field} {k0 k1 : IntKind} {cs : List Value} {n : Nat} {y : DataW H × List MemPlace} (ht : P.underlying t = some (.struct #[f0, f1])) (hone : oneCellFields P #[f0, f1] = true)
    (hC : P.cellsOf t = 2) (h0 : P.underlying f0.type = some (.int k0)) (h1 : P.underlying f1.type = some (.int k1)) (h : DataW.trod enc P w base spare held n t cs = some y) :
    ∃ r : Int × Int, cs = [.int k0 r.1, .int k1 r.2] ∧ (Lit.int k0 r.1).wf = true ∧ (Lit.int k1 r.2).wf = true := by
  obtain ⟨xs, m, _, _, hlen, hxl, hf⟩ := DataW.trod_struct ht h
  rw [hC] at hlen
  obtain ⟨o0, q0⟩ := hone_of hone 0 f0 rfl
  obtain ⟨o1, q1⟩ := hone_of hone 1 f1 rfl
  match cs, hlen with
  | [c0, c1], _ =>
    have g0 := hf 0 f0 rfl
    have g1 := hf 1 f1 rfl
    rw [o0, q0] at g0
    rw [o1, q1] at g1
    have l0 : 0 < xs.length := by rw [hxl]; simp
    have l1 : 1 < xs.length := by rw [hxl]; simp
    rw [List.getElem?_eq_getElem l0] at g0
    rw [List.getElem?_eq_getElem l1] at g1
    obtain ⟨a, ha, _, wa⟩ := DataW.trod_int h0 g0
    obtain ⟨b, hb, _, wb⟩ := DataW.trod_int h1 g1
    simp at ha hb
    exact ⟨(a, b), by rw [ha, hb], wa, wb⟩
end
end Go.Proofs.Ythadkjgadhbidaa
/-
  What every statement's last step uses: the program's start, integers that came in.
-/
namespace Go.Proofs.Ythadkjgadhbidaa
open Go.ChangeShapes Go.WideShapes Go.ChangeAt Go.RowKit
set_option linter.unusedVariables false
namespace Rw
theorem own : ownKnob Try.prog.godebug = none := by kernel_rfl
theorem laidOut : laidOutB Try.prog = true := by kernel_rfl
theorem u64 {x : Int} (h : (Lit.int .u64 x).wf = true) : 0 ≤ x ∧ x ≤ 18446744073709551615 := by
  simp [Lit.wf, IntKind.min, IntKind.max, IntKind.signed, IntKind.bits] at h
  exact ⟨by omega, by omega⟩
theorem i64 {x : Int} (h : (Lit.int .i64 x).wf = true) : -9223372036854775808 ≤ x ∧ x ≤ 9223372036854775807 := by
  simp [Lit.wf, IntKind.min, IntKind.max, IntKind.signed, IntKind.bits] at h
  exact ⟨by omega, by omega⟩
theorem u8 {x : Int} (h : (Lit.int .u8 x).wf = true) : 0 ≤ x ∧ x ≤ 255 := by
  simp [Lit.wf, IntKind.min, IntKind.max, IntKind.signed, IntKind.bits] at h
  exact ⟨by omega, by omega⟩
end Rw
end Go.Proofs.Ythadkjgadhbidaa
/-
  The walk of mill.Mod: the remainder from 0 on.
-/
namespace Go.Proofs.Ythadkjgadhbidaa
open Go.RowKit
set_option linter.unusedVariables false
theorem tmod_pos {v n : Int} (h : 0 ≤ v.tmod n) (hn : 1 ≤ n) : v.tmod n = v % n := by
  by_cases h0 : 0 ≤ v
  · exact Int.tmod_eq_emod_of_nonneg h0
  · have e := Int.neg_tmod (-v) n
    rw [Int.neg_neg, Int.tmod_eq_emod_of_nonneg (show 0 ≤ -v by omega)] at e
    have h1 := Int.emod_nonneg (-v) (show n ≠ 0 by omega)
    have h2 : (-v) % n = 0 := by omega
    rw [e, h2]
    have h3 : n ∣ -v := Int.dvd_of_emod_eq_zero h2
    have h4 : n ∣ v := by
      have := Int.dvd_neg.mpr h3
      rwa [Int.neg_neg] at this
    rw [Int.emod_eq_zero_of_dvd h4]; rfl
theorem tmod_neg {v n : Int} (h : v.tmod n < 0) (hn : 1 ≤ n) : v.tmod n + n = v % n ∧ -n < v.tmod n := by
  have h0 : ¬ 0 ≤ v := by
    intro h0
    rw [Int.tmod_eq_emod_of_nonneg h0] at h
    have := Int.emod_nonneg v (show n ≠ 0 by omega)
    omega
  have e := Int.neg_tmod (-v) n
  rw [Int.neg_neg, Int.tmod_eq_emod_of_nonneg (show 0 ≤ -v by omega)] at e
  have h1 := Int.emod_nonneg (-v) (show n ≠ 0 by omega)
  have h2 := Int.emod_lt_of_pos (-v) (show 0 < n by omega)
  rw [e] at h ⊢
  refine ⟨?_, by omega⟩
  have h3 : v = (n - (-v) % n) + n * (-((-v) / n) - 1) := by
    have h5 := Int.emod_add_mul_ediv (-v) n
    have h6 : n * (-((-v) / n) - 1) = -(n * ((-v) / n)) - n := by rw [Int.mul_sub, Int.mul_neg, Int.mul_one]
    rw [h6]
    generalize n * ((-v) / n) = X at *
    generalize (-v) % n = Y at *
    omega
  have h4 : v % n = (n - (-v) % n) % n := by
    conv => lhs; rw [h3]
    rw [Int.add_mul_emod_self_left]
  rw [h4]
  generalize (-v) % n = Y at *
  rw [Int.emod_eq_of_lt (by omega) (by omega)]
  omega
theorem mod_any (v n : Int) (hn : 1 ≤ n) (hn' : n ≤ 9223372036854775807) (w : World) :
    Calls Try.prog 18 #[.int .i64 v, .int .i64 n] w fun e w' => e = .returned (.int .i64 (v % n)) ∧ w = w' := by
  by_cases h : v.tmod n < 0
  · obtain ⟨e, hl⟩ := tmod_neg h hn
    have hb : (n == 0) = false := by simp; omega
    rw [← e]
    clear e
    go_enter Try.func18, Try.ntmps18
    go_wp2
    go_ret
    exact ⟨rfl, rfl⟩
  · have h' : 0 ≤ v.tmod n := by omega
    have e := tmod_pos h' hn
    have hb : (n == 0) = false := by simp; omega
    rw [← e]
    clear e h
    go_enter Try.func18, Try.ntmps18
    go_wp2
    go_ret
    exact ⟨rfl, rfl⟩
end Go.Proofs.Ythadkjgadhbidaa
/-
  The walks of mill's deck: New, Left, Next, Range, Output.
-/
namespace Go.Proofs.Ythadkjgadhbidaa
open Go.RowKit
set_option linter.unusedVariables false

def ints (l : List Int) : List Value := l.map (Value.int .i64)
theorem ints_length (l : List Int) : (ints l).length = l.length := by simp [ints]
theorem ints_get (l : List Int) (i : Nat) (h : i < l.length) : (ints l)[i]? = some (.int .i64 (l.getD i 0)) := by
  simp [ints, List.getElem?_map, List.getElem?_eq_getElem h, List.getD_eq_getElem?_getD]
theorem ints_one (l : List Int) : (ints l).all Value.oneCell' = true := by simp [ints, Value.oneCell']

/-- What a deck gives: the next number below n, and the numbers that are left. -/
def nx (l : List Int) (n : Int) : Int × List Int := match l with | [] => (0, []) | v :: r => (v % n, r)
theorem nx_bd (l : List Int) {n : Int} (hn : 1 ≤ n) : 0 ≤ (nx l n).1 ∧ (nx l n).1 < n := by
  cases l with
  | nil => exact ⟨Int.le_refl _, by show (0 : Int) < n; omega⟩
  | cons v r => exact ⟨Int.emod_nonneg _ (by omega), Int.emod_lt_of_pos _ (by omega)⟩

/-- The deck in block g: its numbers lie below block B. -/
def Dk (w : World) (B g : Nat) (l : List Int) : Prop :=
  B ≤ g ∧ ∃ (A : Option Addr) (c : Nat) (at_ : Nat) (full : List Int), w.heap[g]? = some (.cells #[.slice A full.length c, .int .i64 at_] 112 (0, 0)) ∧ at_ ≤ full.length ∧ full.length ≤ maxLen ∧ l = full.drop at_ ∧
    (full = [] ∨ ∃ b off, A = some ⟨b, off, none⟩ ∧ b < B ∧ ∀ j u, (ints full)[j]? = some u → w.cell? ⟨b, off + j, none⟩ = some u)
theorem Dk.lt {w : World} {B g : Nat} {l : List Int} (h : Dk w B g l) : g < w.heap.size := by
  obtain ⟨_, A, c, at_, full, h1, _⟩ := h
  exact lt_of_block h1
theorem Dk.up {w w' : World} {B g : Nat} {l : List Int} (h : Dk w B g l) (hb : Old w w') : Dk w' B g l := by
  obtain ⟨h0, A, c, at_, full, h1, h2, h3, h4, h5⟩ := h
  refine ⟨h0, A, c, at_, full, hb.block h1, h2, h3, h4, ?_⟩
  rcases h5 with h5 | ⟨b, off, hA, hlt, hc⟩
  · exact Or.inl h5
  · exact Or.inr ⟨b, off, hA, hlt, fun j u hu => hb.cell (hc j u hu)⟩
/-- Another block than the deck, from B on, has turned. -/
theorem Dk.far {w w' : World} {B g : Nat} {l : List Int} (h : Dk w B g l) {row : Option Nat} (hg : w.grownBy w' row) (hne : row ≠ some g) (hB : ∀ k, row = some k → B ≤ k) : Dk w' B g l := by
  obtain ⟨h0, A, c, at_, full, h1, h2, h3, h4, h5⟩ := h
  refine ⟨h0, A, c, at_, full, (hg.block g (lt_of_block h1) (fun e => hne e.symm)).trans h1, h2, h3, h4, ?_⟩
  rcases h5 with h5 | ⟨b, off, hA, hlt, hc⟩
  · exact Or.inl h5
  · exact Or.inr ⟨b, off, hA, hlt, fun j u hu => hg.cell (hc j u hu) (fun e => by have := hB b e.symm; omega)⟩
/-- A row of the call's own was appended to. -/
theorem Dk.push {w w' : World} {B g : Nat} {l : List Int} (h : Dk w B g l) {base size n : Nat} {e : TypeId} {v : Value} {xs : List Value} (hown : Own w base e size v n xs) (hne : e ≠ 112) (hB : B ≤ base) (hg : w.grownBy w' v.ownBlock) : Dk w' B g l := by
  refine h.far hg ?_ (fun k hk => Nat.le_trans hB (World.ownsRow.lt hown k hk).1)
  intro hk
  obtain ⟨_, A, c, at_, full, h1, _⟩ := h
  rcases hown with ⟨_, ⟨rfl, _⟩ | ⟨g', cap, cu, rfl, _, hgg, _⟩⟩
  · simp [Value.ownBlock] at hk
  · simp [Value.ownBlock] at hk
    subst hk
    rw [hgg] at h1
    simp at h1
    exact hne h1.2
/-- What stays when the deck is turned. -/
theorem Dk.own {w w' : World} {B g : Nat} {l : List Int} (h : Dk w B g l) (hg : w.grownBy w' (some g)) {base size n : Nat} {e : TypeId} {v : Value} {xs : List Value} (hown : Own w base e size v n xs) (hne : e ≠ 112) : Own w' base e size v n xs := by
  obtain ⟨_, A, c, at_, full, h1, _⟩ := h
  refine World.ownsRow.kept hown hg ?_
  rcases hown with ⟨_, ⟨rfl, _⟩ | ⟨g', cap, cu, rfl, _, hgg, _⟩⟩
  · exact Or.inl rfl
  · refine Or.inr ?_
    intro hk
    simp [Value.ownBlock] at hk
    subst hk
    rw [hgg] at h1
    simp at h1
    exact hne h1.2
theorem Dk.ts {w w' : World} {B g : Nat} {l : List Int} (h : Dk w B g l) (hg : w.grownBy w' (some g)) {e : TypeId} {A : Option Addr} {xs : List Value} (ht : Ts w e A xs) (hne : e ≠ 112) : Ts w' e A xs := by
  obtain ⟨_, A', c, at_, full, h1, _⟩ := h
  rcases ht with rfl | ⟨b, off, cur, fz, rfl, hh, hc⟩
  · exact Ts.nil_
  · refine Or.inr ⟨b, off, cur, fz, rfl, ?_, hc⟩
    rw [hg.block b (lt_of_block hh) ?_]
    · exact hh
    · intro hk
      injection hk with hk
      subst hk
      rw [hh] at h1
      simp at h1
      exact hne h1.2.1
theorem Dk.fs {w w' : World} {B g : Nat} {l : List Int} (h : Dk w B g l) (hg : w.grownBy w' (some g)) {A : Option Addr} {xs : List Value} (ht : Fs w A xs) : Fs w' A xs := by
  obtain ⟨_, A', c, at_, full, h1, _⟩ := h
  exact ht.far h1 hg
theorem Dk.fsL {w w' : World} {B g : Nat} {l : List Int} (h : Dk w B g l) (hg : w.grownBy w' (some g)) {cells : List Value} {xss : List (List Value)} (ht : FsL w cells xss) : FsL w' cells xss := by
  obtain ⟨_, A', c, at_, full, h1, _⟩ := h
  exact ht.far h1 hg
theorem Dk.old {w0 w w' : World} {g : Nat} (h0 : Old w0 w) (hg : w.grownBy w' (some g)) (hle : w0.heap.size ≤ g) : Old w0 w' :=
  Below.grown h0 hg h0.size (by intro k hk; injection hk with hk; omega)

theorem newDeck (A : Option Addr) (c : Nat) (l : List Int) (w : World) (hr : Rs w A (ints l)) (hm : l.length ≤ maxLen) :
    Calls Try.prog 28 #[.slice A l.length c] w fun e w' => e = .returned (.pointer (some ⟨w.heap.size, 0, none⟩)) ∧ Dk w' w.heap.size w.heap.size l ∧ Old w w' := by
  go_enter Try.func28, Try.ntmps28
  go_wp2_with fail
  go_ret
  refine ⟨rfl, ⟨Nat.le_refl _, A, c, 0, l, heap_alloc_new w _, Nat.zero_le _, hm, rfl, ?_⟩, (Old.refl w).alloc _⟩
  rcases (hr.alloc (.cells #[.slice A l.length c, .int .i64 0] 112)) with h | ⟨b, off, hA, hc⟩
  · left; simpa [ints] using h
  · rcases Nat.eq_zero_or_pos l.length with h0 | h0
    · left; exact List.eq_nil_of_length_eq_zero h0
    · obtain ⟨b', off', hA', hlt, _⟩ := hr.at_ (by rw [ints_length]; exact h0)
      rw [hA] at hA'
      simp only [Option.some.injEq, Addr.mk.injEq, and_true] at hA'
      obtain ⟨rfl, rfl⟩ := hA'
      exact Or.inr ⟨b, off, hA, hlt, hc⟩

theorem leftDeck (B g : Nat) (l : List Int) (w : World) (h : Dk w B g l) :
    Calls Try.prog 59 #[.pointer (some ⟨g, 0, none⟩)] w fun e w' => e = .returned (.bool (!l.isEmpty)) ∧ ∃ k, w' = w.drewN k := by
  obtain ⟨_, A, c, at_, full, h1, h2, h3, rfl, _⟩ := h
  unfold maxLen at h3
  have c0 : w.cell? ⟨g, 0, none⟩ = some (.slice A full.length c) := by rw [cell_of_row w g 0 _ _ _ h1]; rfl
  have c1 : w.cell? ⟨g, 1, none⟩ = some (.int .i64 at_) := by rw [cell_of_row w g 1 _ _ _ h1]; rfl
  have he : (!(full.drop at_).isEmpty) = decide (at_ < full.length) := by
    by_cases hl : at_ < full.length
    · have : full.drop at_ ≠ [] := by simp; omega
      simp [hl]
    · simp [hl]; omega
  rw [he]
  clear he h1
  go_enter Try.func59, Try.ntmps59
  go_wp2_with fail
  go_quiet (fail)
  go_wp2_with fail
  go_ret
  exact ⟨rfl, _, rfl⟩

def NextPost (w : World) (B g : Nat) (r : Int × List Int) (e : Ending) (w' : World) : Prop := e = .returned (.int .i64 r.1) ∧ Dk w' B g r.2 ∧ w.grownBy w' (some g)
theorem nextDeck (B g : Nat) (l : List Int) (n : Int) (w : World) (h : Dk w B g l) (hn : 1 ≤ n) (hn' : n ≤ 9223372036854775807) :
    Calls Try.prog 30 #[.pointer (some ⟨g, 0, none⟩), .int .i64 n] w (NextPost w B g (nx l n)) := by
  have hL := leftDeck B g l w h
  obtain ⟨h0, A, c, at_, full, h1, h2, h3, rfl, h5⟩ := h
  have h3' := h3
  unfold maxLen at h3
  by_cases hl : at_ < full.length
  · have he : (!(full.drop at_).isEmpty) = true := by
      have : full.drop at_ ≠ [] := by simp; omega
      simp; omega
    rw [he] at hL
    have HL := Lib.hid hL
    have hnx : nx (full.drop at_) n = ((full.getD at_ 0) % n, full.drop (at_ + 1)) := by
      rw [List.drop_eq_getElem_cons hl, List.getD_eq_getElem?_getD, List.getElem?_eq_getElem hl]; rfl
    rw [hnx]
    have hf : full ≠ [] := by intro h; rw [h] at hl; simp at hl
    obtain ⟨b, off, rfl, hlt, hc⟩ := h5.resolve_left hf
    have hbg : b ≠ g := by omega
    have hx := hc _ _ (ints_get full at_ hl)
    have hgl := lt_of_block h1
    have c0 : w.cell? ⟨g, 0, none⟩ = some (.slice (some ⟨b, off, none⟩) full.length c) := by rw [cell_of_row w g 0 _ _ _ h1]; rfl
    have c1 : w.cell? ⟨g, 1, none⟩ = some (.int .i64 at_) := by rw [cell_of_row w g 1 _ _ _ h1]; rfl
    have f1 : w.frozen? ⟨g, 1, none⟩ = false := frozen_of_row w g 1 _ _ h1
    have hset := heap_setCell_same w g 1 _ _ (.int .i64 ((at_ : Int) + 1)) h1
    have hgr : w.grownBy (w.setCell ⟨g, 1, none⟩ (.int .i64 ((at_ : Int) + 1))) (some g) :=
      ⟨rfl, rfl, rfl, by simp, fun k _ hk => heap_setCell_other w ⟨g, 1, none⟩ k _ (fun e => hk (by simp [e]))⟩
    have HC := Lib.hid hc
    have HS := Lib.hid hset
    have HE := Lib.hid he
    clear he hL hnx hf hc hset h5
    generalize full.getD at_ 0 = x at *
    go_enter Try.func30, Try.ntmps30
    go_wp2_with fail
    refine (HL.out).mono ?_; rintro e w' ⟨rfl, n', rfl⟩
    go_wp2_with fail
    have d0 : ((w.drewN n').setCell ⟨g, 1, none⟩ (.int .i64 ((at_ : Int) + 1))).cell? ⟨g, 0, none⟩ = some (.slice (some ⟨b, off, none⟩) full.length c) := by
      rw [cell_of_row _ g 0 _ _ _ (show ((w.drewN n').setCell ⟨g, 1, none⟩ (.int .i64 ((at_ : Int) + 1))).heap[g]? = _ from HS.out)]; rfl
    have d1 : ((w.drewN n').setCell ⟨g, 1, none⟩ (.int .i64 ((at_ : Int) + 1))).cell? ⟨g, 1, none⟩ = some (.int .i64 ((at_ : Int) + 1)) := by
      rw [cell_of_row _ g 1 _ _ _ (show ((w.drewN n').setCell ⟨g, 1, none⟩ (.int .i64 ((at_ : Int) + 1))).heap[g]? = _ from HS.out)]; rfl
    have d2 : ((w.drewN n').setCell ⟨g, 1, none⟩ (.int .i64 ((at_ : Int) + 1))).cell? ⟨b, off + at_, none⟩ = some (.int .i64 x) := by
      rw [World.cell?_setCell_other _ _ _ _ (by intro h; injection h with h; exact hbg h.symm)]; exact hx
    have hdk : Dk ((w.drewN n').setCell ⟨g, 1, none⟩ (.int .i64 ((at_ : Int) + 1))) B g (full.drop (at_ + 1)) := by
      refine ⟨h0, some ⟨b, off, none⟩, c, at_ + 1, full, HS.out, by omega, h3', rfl, Or.inr ⟨b, off, rfl, hlt, fun j u hu => ?_⟩⟩
      rw [World.cell?_setCell_other _ _ _ _ (by intro h; injection h with h; exact hbg h.symm)]; exact HC.out j u hu
    have hgg : w.grownBy ((w.drewN n').setCell ⟨g, 1, none⟩ (.int .i64 ((at_ : Int) + 1))) (some g) := ⟨hgr.os, hgr.tape, hgr.output, hgr.size, hgr.block⟩
    have i5 : IntKind.i64.wrap ((at_ : Int) + 1 - 1) = (at_ : Int) := by rw [IntWalk.i64_in _ (by omega)]; omega
    have i1 : (0 : Int) ≤ (at_ : Int) := by omega
    have i2 : (at_ : Int) < (full.length : Int) := by omega
    clear h1 c0 c1 hx f1 hgr HC HS HE HL
    generalize (w.drewN n').setCell ⟨g, 1, none⟩ (.int .i64 ((at_ : Int) + 1)) = W at *
    go_quiet ((go_at_call 18; exact quiet_same (mod_any x n hn hn' _)))
    clear i5
    go_wp2_with fail
    go_ret
    exact ⟨rfl, hdk, grown_drewN hgg _⟩
  · have he : full.drop at_ = [] := List.drop_eq_nil_of_le (by omega)
    rw [he] at hL
    rw [he]
    have HL := Lib.hid hL
    clear hL
    go_enter Try.func30, Try.ntmps30
    go_wp2_with fail
    refine (HL.out).mono ?_; rintro e w' ⟨rfl, n', rfl⟩
    go_wp2_with fail
    go_ret
    exact ⟨rfl, ⟨h0, A, c, at_, full, h1, h2, h3', he.symm, h5⟩, ⟨rfl, rfl, rfl, Nat.le_refl _, fun _ _ _ => rfl⟩⟩

theorem rangeDeck (B g : Nat) (l : List Int) (lo hi : Int) (w : World) (h : Dk w B g l) (h0 : 0 ≤ lo) (h1 : lo ≤ hi) (h2 : hi ≤ 1000000) :
    Calls Try.prog 29 #[.pointer (some ⟨g, 0, none⟩), .int .i64 lo, .int .i64 hi] w (NextPost w B g (lo + (nx l (hi - lo + 1)).1, (nx l (hi - lo + 1)).2)) := by
  have hN := nextDeck B g l (hi - lo + 1) w h (by omega) (by omega)
  have hbd := nx_bd l (show 1 ≤ hi - lo + 1 by omega)
  have HN := Lib.hid hN
  clear hN
  generalize nx l (hi - lo + 1) = r at *
  obtain ⟨b0, b1⟩ := hbd
  go_enter Try.func29, Try.ntmps29
  go_wp2_with fail
  refine (HN.out).mono ?_; rintro e w' ⟨rfl, hd, hg⟩
  go_wp2_with fail
  go_ret
  exact ⟨rfl, hd, hg⟩

def outTable : List (List UInt8) := [[111, 107], [111], [107], [114, 101, 97, 100, 121, 10], [117, 112], [10, 103, 111, 111], [49, 50, 120], [97, 98, 97, 98, 99], [99], [10], [122, 122], [27, 91, 49, 109, 104, 105, 13, 10]]
def outOf (i : Int) : List UInt8 := outTable.getD i.toNat [111, 107]
theorem outOf_len (i : Int) : 0 < (outOf i).length ∧ (outOf i).length ≤ 8 := by
  unfold outOf
  rw [List.getD_eq_getElem?_getD]
  by_cases h : i.toNat < outTable.length
  · rw [List.getElem?_eq_getElem h]
    have : ∀ x ∈ outTable, 0 < x.length ∧ x.length ≤ 8 := by decide
    exact this _ (List.getElem_mem h)
  · rw [List.getElem?_eq_none (by omega)]; decide
def OutPost (w : World) (B g : Nat) (b : List UInt8) (r : List Int) (e : Ending) (w' : World) : Prop :=
  ∃ A c, e = .returned (.slice A b.length c) ∧ b.length ≤ c ∧ c ≤ maxLen ∧ Fs w' A (bytes b) ∧ Dk w' B g r ∧ w.grownBy w' (some g)
theorem outputDeck (B g : Nat) (l : List Int) (w : World) (h : Dk w B g l) :
    Calls Try.prog 55 #[.pointer (some ⟨g, 0, none⟩)] w (OutPost w B g (outOf (nx l 12).1) (nx l 12).2) := by
  have hbd := nx_bd l (show (1 : Int) ≤ 12 by decide)
  have hcv := fun (W : World) (b : List UInt8) => run_bytes_of_string (P := Try.prog) W 9 23 5 ⟨b.toArray⟩ Try.underlying9 Try.underlying23 Try.underlying5
  have HCV := Lib.hid hcv
  clear hcv
  have hnd := nextDeck B g l 12 (w.alloc (.cells (outTable.map fun b => Value.string ⟨b.toArray⟩).toArray 9)) (h.up ((Old.refl w).alloc _)) (by decide) (by decide)
  have hgl := h.lt
  have HN := Lib.hid hnd
  clear hnd h
  generalize nx l 12 = r at *
  obtain ⟨i, r⟩ := r
  obtain ⟨i0, i1⟩ := hbd
  simp only at i0 i1
  go_enter Try.func55, Try.ntmps55
  go_wp2_with fail
  refine (HN.out).mono ?_; rintro e w' ⟨rfl, hd, hg⟩
  have hk : w'.heap[w.heap.size]? = some (.cells (outTable.map fun b => Value.string ⟨b.toArray⟩).toArray 9 (0, 0)) :=
    (hg.block w.heap.size (by simp) (by intro h; injection h with h; omega)).trans (heap_alloc_new w _)
  have hc : w'.cell? ⟨w.heap.size, i.toNat, none⟩ = some (.string ⟨(outOf i).toArray⟩) := by
    rw [cell_of_row w' w.heap.size i.toNat _ _ _ hk]
    have hl : i.toNat < outTable.length := by show i.toNat < 12; omega
    unfold outOf
    rw [List.getD_eq_getElem?_getD]
    simp [List.getElem?_eq_getElem hl]
  have hlen := outOf_len i
  have hc2 := HCV.out w' (outOf i)
  have e : (⟨(outOf i).toArray⟩ : ByteArray).size = (outOf i).length := by simp [ByteArray.size]
  rw [e] at hc2
  have hfs := fs_of_string w' (outOf i) (grownCap w' (outOf i).length 0 5) 5 hlen.1
  have hcap := grownCap_ge w' (outOf i).length 0 5
  have hcm := grownCap_le_maxLen w' (outOf i).length 0 5 (by unfold maxLen; omega)
  generalize grownCap w' (outOf i).length 0 5 = N at *
  have hold : Old w' (w'.drew.alloc (.cells (bytesRow ⟨(outOf i).toArray⟩ N) 5 ((bytesRow ⟨(outOf i).toArray⟩ N).size, (bytesRow ⟨(outOf i).toArray⟩ N).size + 1))) := ((Old.refl w').drew).alloc _
  have hgr : w.grownBy w' (some g) := old_grown_ ((Old.refl w).alloc _) hg
  clear hk e hg HCV HN
  generalize (outOf i) = b at *
  generalize w'.drew.alloc (.cells (bytesRow ⟨b.toArray⟩ N) 5 ((bytesRow ⟨b.toArray⟩ N).size, (bytesRow ⟨b.toArray⟩ N).size + 1)) = W at *
  go_wp2_with fail
  go_ret
  exact ⟨_, _, rfl, hcap, hcm, hfs, hd.up hold, grown_old_ hgr hold⟩
end Go.Proofs.Ythadkjgadhbidaa
/-
  Arguments that are slices of ints and of bytes.
-/
namespace Go.Proofs.Ythadkjgadhbidaa
open Go.ChangeShapes Go.WideShapes Go.ChangeAt Go.RowKit Rw
set_option linter.unusedVariables false

theorem flat_singles {α : Type} (f : α → Value) (l : List α) : (l.map fun x => [f x]).flatten = l.map f := by
  induction l with
  | nil => rfl
  | cons x l ih => simp only [List.map_cons, List.flatten_cons, ih]; rfl
theorem open_intl {H : Type} {enc : TypeId × Value → H} {w : World} {base : Nat} {spare : Nat → Bool} {held : Bool} {a : Option Addr} {len cap : Nat} {d : DataW H} {p : List MemPlace}
    (h : DataW.Trod enc Try.prog w base spare held 22 (.slice a len cap) d p) :
    ∃ l : List Int, l.length = len ∧ len ≤ maxLen ∧ Rs w a (ints l) := by
  obtain ⟨cells, hl, hc1, hc2, hr, hc⟩ := open_elems Try.underlying22 (show 0 < Try.prog.cellsOf 3 by decide +kernel) h
  obtain ⟨l, rfl, hp⟩ := list_choose (fun x : Int => [Value.int .i64 x]) (fun _ => True) cells (fun cs hcs => by
    obtain ⟨_, n, y, hy⟩ := hc cs hcs
    obtain ⟨x, h1, h2⟩ := open_one Try.underlying3 hy
    exact ⟨x, h1, trivial⟩)
  refine ⟨l, by simpa using hl, by omega, ?_⟩
  rw [flat_singles] at hr
  exact hr
theorem open_bytel {H : Type} {enc : TypeId × Value → H} {w : World} {base : Nat} {spare : Nat → Bool} {held : Bool} {a : Option Addr} {len cap : Nat} {d : DataW H} {p : List MemPlace}
    (h : DataW.Trod enc Try.prog w base spare held 23 (.slice a len cap) d p) :
    ∃ l : List UInt8, l.length = len ∧ len ≤ cap ∧ cap ≤ maxLen ∧ Rs w a (bytes l) := by
  obtain ⟨cells, hl, hc1, hc2, hr, hc⟩ := open_elems Try.underlying23 (show 0 < Try.prog.cellsOf 5 by decide +kernel) h
  obtain ⟨l, rfl, hp⟩ := list_choose (fun x : Int => [Value.int .u8 x]) (fun x => 0 ≤ x ∧ x ≤ 255) cells (fun cs hcs => by
    obtain ⟨_, n, y, hy⟩ := hc cs hcs
    obtain ⟨x, h1, h2⟩ := open_one Try.underlying5 hy
    exact ⟨x, h1, u8 h2⟩)
  rw [flat_singles] at hr
  obtain ⟨m, hm, hml⟩ := bytes_of_ints l hp
  rw [hm] at hr
  simp only [List.length_map] at hl
  exact ⟨m, by omega, hc1, hc2, hr⟩
end Go.Proofs.Ythadkjgadhbidaa
/-
  Arguments that are slices of slices of bytes, with the reach of each.
-/
namespace Go.Proofs.Ythadkjgadhbidaa
open Go.ChangeShapes Go.WideShapes Go.ChangeAt Go.RowKit Go.Deep Rw
set_option linter.unusedVariables false

section
variable {H : Type} {enc : TypeId × Value → H} {P : Program} {w : World} {base : Nat} {spare : Nat → Bool} {held : Bool}
theorem open_elemsD {t e : TypeId} {a : Option Addr} {len cap : Nat} {d : DataW H} {p : List MemPlace} (ht : P.underlying t = some (.slice e)) (hC : 0 < P.cellsOf e)
    (h : DataW.Trod enc P w base spare held t (.slice a len cap) d p) :
    ∃ (cells : List (List Value)) (D : Nat → DataW H) (sp : List (DataW H)), cells.length = len ∧ len ≤ cap ∧ cap ≤ maxLen ∧ Rs w a cells.flatten ∧ (len = 0 ∨ d = .slice ((List.range len).map D) sp) ∧
      ∀ j, j < len → ∃ cs, cells[j]? = some cs ∧ cs.length = P.cellsOf e ∧ ∃ n pl, DataW.trod enc P w base spare held n e cs = some (D j, pl) := by
  obtain ⟨fuel, hf⟩ := h
  rcases open_slice ht hf with ⟨hcs, _⟩ | ⟨x, l, c, m, n, D, Pl, hcs, _, hl, hm, hmm, hd, hi⟩
  · simp [Value.cells] at hcs
    obtain ⟨rfl, rfl, rfl⟩ := hcs
    exact ⟨[], fun _ => .nil, [], rfl, Nat.zero_le _, Nat.zero_le _, Rs.nil_, Or.inl rfl, fun j hj => by omega⟩
  · simp [Value.cells] at hcs
    obtain ⟨rfl, rfl, rfl⟩ := hcs
    have hlm : len ≤ m := by rw [hmm]; split <;> omega
    obtain ⟨f, hf'⟩ := choose_lt (n := len) (p := fun i cs' => w.cells? base (x.add (i * P.cellsOf e)) (P.cellsOf e) = some cs' ∧ DataW.trod enc P w base spare held n e cs' = some (D i, Pl i)) (fun i hil => hi i (by omega))
    have hlen : ∀ cs ∈ (List.range len).map f, cs.length = P.cellsOf e := by
      intro cs hcs
      simp only [List.mem_map, List.mem_range] at hcs
      obtain ⟨i, hil, rfl⟩ := hcs
      exact (World.cells?_some (hf' i hil).1).2.1
    refine ⟨(List.range len).map f, D, _, by simp, hl, hm, ?_, Or.inr (congrArg Prod.fst hd), fun j hj => ⟨f j, by simp [hj], hlen _ (List.mem_map.2 ⟨j, List.mem_range.2 hj, rfl⟩), n, Pl j, (hf' j hj).2⟩⟩
    have hcell : ∀ j u, ((List.range len).map f).flatten[j]? = some u → w.cell? (x.add j) = some u := by
      intro j u hu
      obtain ⟨cs, h1, h2⟩ := flatten_at hC _ hlen j u hu
      have hj : j / P.cellsOf e < len := by
        have := (List.getElem?_eq_some_iff.mp h1).1
        simpa using this
      rw [List.getElem?_map, List.getElem?_range hj] at h1
      simp at h1
      subst h1
      have h3 := (World.cells?_some (hf' _ hj).1).2.2 (j % P.cellsOf e) (Nat.mod_lt _ hC)
      rw [add_add, h2, show j / P.cellsOf e * P.cellsOf e + j % P.cellsOf e = j from by rw [Nat.mul_comm]; exact Nat.div_add_mod _ _] at h3
      exact h3
    rcases Nat.eq_zero_or_pos ((List.range len).map f).flatten.length with h0 | h0
    · exact Or.inl (List.eq_nil_of_length_eq_zero h0)
    · have h1 := hcell 0 _ (List.getElem?_eq_getElem h0)
      have hsp : x.spot = none := by
        have := World.cell?_spot h1
        simpa [Addr.add] using this
      obtain ⟨b, off, sp⟩ := x
      simp at hsp
      subst hsp
      refine Or.inr ⟨b, off, rfl, fun j u hu => ?_⟩
      have := hcell j u hu
      rwa [Addr.add_lit] at this
theorem rweights_mem {e : TypeId} : ∀ {l : List (DataW H)} {d : DataW H}, d ∈ l → ∀ n ∈ d.weights P e, n ∈ DataW.weightsAll P e l
  | [], _, h, _, _ => by simp at h
  | a :: l, d, h, n, hn => by
    simp only [DataW.weightsAll, List.mem_append]
    rcases List.mem_cons.mp h with rfl | h
    · exact Or.inl hn
    · exact Or.inr (rweights_mem h n hn)
end
theorem bytes_uint8 : Try.prog.bytesOf 5 = 1 := by kernel_rfl
theorem open_rowl {H : Type} {enc : TypeId × Value → H} {w : World} {base : Nat} {spare : Nat → Bool} {held : Bool} {a : Option Addr} {len cap : Nat} {d : DataW H} {p : List MemPlace}
    (h : DataW.Trod enc Try.prog w base spare held 51 (.slice a len cap) d p) (hsz : ∀ n ∈ d.weights Try.prog 51, n ≤ reachBytes) :
    ∃ (P : List (List UInt8)) (cells : List Value), P.length = len ∧ len ≤ maxLen ∧ Rs w a cells ∧ RsL w cells (P.map bytes) ∧ ∀ q ∈ P, q.length ≤ 140737488351232 := by
  obtain ⟨cells, D, sp, hl, hc1, hc2, hr, hd, hc⟩ := open_elemsD Try.underlying51 (show 0 < Try.prog.cellsOf 23 by decide +kernel) h
  have hone : Try.prog.cellsOf 23 = 1 := by decide +kernel
  have each : ∀ j, j < len → ∃ x : List UInt8 × Option Addr × Nat, cells[j]? = some [.slice x.2.1 x.1.length x.2.2] ∧ x.1.length ≤ x.2.2 ∧ x.2.2 ≤ maxLen ∧ Rs w x.2.1 (bytes x.1) ∧ x.1.length ≤ 140737488351232 := by
    intro j hj
    obtain ⟨cs, h1, h2, n, pl, h3⟩ := hc j hj
    rcases open_slice Try.underlying23 h3 with ⟨rfl, _⟩ | ⟨x, l, c, m, n', D', Pl', rfl, _, hl', hm', hmm', hd', _⟩
    · exact ⟨([], none, 0), h1, Nat.le_refl _, Nat.zero_le _, Rs.nil_, by simp⟩
    · obtain ⟨q, q1, q2, q3, q4⟩ := open_bytel (enc := enc) (w := w) (base := base) (spare := spare) (held := held) (a := some x) (len := l) (cap := c) (d := D j) (p := pl) ⟨n, h3⟩
      subst q1
      refine ⟨(q, some x, c), h1, q2, q3, q4, ?_⟩
      have hD : D j = .slice ((List.range q.length).map D') ((List.range (m - q.length)).map fun i => D' (q.length + i)) := congrArg Prod.fst hd'
      have h5 : (q.length + (m - q.length)) * 1 ≤ reachBytes := by
        refine hsz _ ?_
        rcases hd with hd | hd
        · omega
        · rw [hd]
          simp only [DataW.weights, Try.underlying51, List.mem_cons, List.mem_append]
          refine Or.inr (Or.inl (rweights_mem (List.mem_map.2 ⟨j, List.mem_range.2 hj, rfl⟩) _ ?_))
          rw [hD]
          simp [DataW.weights, Try.underlying23, bytes_uint8]
      have h6 : reachBytes = 140737488351232 := rfl
      simp only
      omega
  obtain ⟨f, hf⟩ := choose_lt each
  have hP : ((List.range len).map fun j => (f j).1).length = len := by simp
  have hcl : cells.flatten = (List.range len).map fun j => .slice (f j).2.1 (f j).1.length (f j).2.2 := by
    have e : cells = (List.range len).map fun j => [Value.slice (f j).2.1 (f j).1.length (f j).2.2] := by
      apply List.ext_getElem?
      intro j
      by_cases hj : j < len
      · rw [(hf j hj).1]; simp [hj]
      · rw [List.getElem?_eq_none (by omega), List.getElem?_eq_none (by simp; omega)]
    rw [e, flat_singles]
  refine ⟨(List.range len).map fun j => (f j).1, cells.flatten, hP, by omega, hr, ⟨?_, fun j x hx => ?_⟩, fun q hq => ?_⟩
  · rw [hcl]; simp
  · rw [hcl]
    have hj : j < len := by have := (List.getElem?_eq_some_iff.mp hx).1; simpa using this
    simp [hj] at hx
    subst hx
    obtain ⟨g1, g2, g3, g4, _⟩ := hf j hj
    refine ⟨(f j).2.1, (f j).2.2, by simp [hj, bytes_length], by rw [bytes_length]; exact g2, g3, g4⟩
  · obtain ⟨j, hj, rfl⟩ := List.mem_map.mp hq
    exact (hf j (List.mem_range.mp hj)).2.2.2.2
end Go.Proofs.Ythadkjgadhbidaa
/-
  newMatcher.
-/
namespace Go.Proofs.Ythadkjgadhbidaa
open Go.RowKit
set_option linter.unusedVariables false

theorem info_mbo : (Try.prog.info? 4).map (fun i => (i.zero, i.size, i.bytes)) = some (some (.bool false), 1, 1) := by kernel_rfl
def MNew (w : World) (st : List Nd) (A : Option Addr) (c : Nat) (e : Ending) (w' : World) : Prop :=
  ∃ g gm B lv, e = .returned (.pointer (some ⟨g, 0, none⟩)) ∧ MK w w' B g gm st A c lv true 0 (ndone st (nspread st true false (enterM [] 0))) (nspread st true false (enterM [] 0)) (nspread st true false (enterM [] 0))
theorem made_mkm (m : Nat) : (madeCells #[Value.bool false] m).toList = mkm m [] := by
  unfold madeCells mkm
  rw [Array.toList_map, Array.toList_range]
  apply List.map_congr_left
  intro k _
  have e : k % #[Value.bool false].size = 0 := Nat.mod_one k
  rw [e]
  simp
theorem own_full {w : World} {B : Nat} {e : TypeId} {g n : Nat} {xs : List Value} (h : Own w B e 1 (.slice (some ⟨g, 0, none⟩) n n) n xs) : w.heap[g]? = some (.cells xs.toArray e (0, 0)) := by
  rcases h with ⟨h1, ⟨h2, _⟩ | ⟨g', cap, cur, h2, hg, hh, hn, hm, hs, hx⟩⟩
  · cases h2
  · injection h2 with e1 _ e3
    injection e1 with e1
    injection e1 with e1
    subst e1
    subst e3
    rw [hh]
    have : cur.toList = xs := by rw [← hx, List.take_of_length_le (by simp; omega)]
    rw [← this]
set_option maxHeartbeats 4000000 in
set_option maxRecDepth 100000 in
theorem mnewC (A : Option Addr) (c : Nat) (st : List Nd) (w : World) (hr : Rs w A (ndsV st)) (hv : svalid st = true) :
    Calls Try.prog 57 #[.slice A st.length c] w (MNew w st A c) := by
  have HR := Lib.hid hr
  have HV := Lib.hid hv
  obtain ⟨h1, h2, _⟩ := svalid_ok hv
  clear hr hv
  go_enter Try.func57, Try.ntmps57
  go_upto_region 1 with fail
  go_wp2_with (at_make; refine wpList_makeN rfl _ _ 68 rfl 4 (.bool false) 1 1 Try.underlying68 info_mbo (by decide) .i64 .i64 _ _ st.length rfl rfl ?pl1 ?pc1 ?pn1 ?_)
  case pl1 => omega
  case pc1 => omega
  case pn1 => omega
  intro w1 ho1 hd1
  rw [made_mkm] at ho1
  have hmk := own_full ho1
  have hd0 := hd1.size
  have hlt := lt_of_block hmk
  have HM0 : Hid (MK w (w1.alloc (.cells #[.slice A st.length c, .slice (some ⟨w.heap.size, 0, none⟩) st.length st.length, .slice none 0 0, .bool true, .int .i64 0, .bool false] 110)) (w1.heap.size + 1) w1.heap.size w.heap.size st A c (.slice none 0 0) true 0 (ndone st []) [] []) := Lib.hid
    ⟨hd1.alloc _, HR.out, heap_alloc_new w1 _, ((Old.refl w1).alloc _).block hmk, Own.nil_ _ _ _ _, hd0, Nat.le_refl _, Nat.lt_succ_self _, by omega, by omega, by simp⟩
  clear hmk ho1 hd1
  go_upto_region 2 with fail
  generalize w1.alloc (.cells #[.slice A st.length c, .slice (some ⟨w.heap.size, 0, none⟩) st.length st.length, .slice none 0 0, .bool true, .int .i64 0, .bool false] 110) = W at *
  have HC := Lib.hid (mbeginC w (w1.heap.size + 1) w1.heap.size w.heap.size st A c (.slice none 0 0) true 0 [] W HM0.out HV.out (Spots.nil _))
  clear HM0
  go_wp2_with fail
  refine (HC.out).mono ?_; rintro e w2 ⟨rfl, lv2, hm, hk⟩
  have HM := Lib.hid hm
  clear hm hk HC
  go_wp2_with fail
  go_ret
  exact ⟨_, _, _, _, rfl, HM.out⟩
end Go.Proofs.Ythadkjgadhbidaa
/-
  What Play returns, on plain lists: the chunk and the number of bytes. No program in sight.
-/
namespace Go.Proofs.Ythadkjgadhbidaa
open Go.RowKit
set_option linter.unusedVariables false

/-- The chunk that holds byte p. -/
def chunkIdx : List (List Nat) → Nat → Nat
  | [], _ => 0
  | c :: cs, p => if p < c.length then 0 else 1 + chunkIdx cs (p - c.length)
/-- The bytes ahead of chunk j. -/
def baseC (cs : List (List Nat)) (j : Nat) : Nat := (cs.take j).flatten.length
theorem baseC_succ (cs : List (List Nat)) (j : Nat) (hj : j < cs.length) : baseC cs (j + 1) = baseC cs j + (cs.getD j []).length := by
  unfold baseC
  rw [List.take_add_one, List.getElem?_eq_getElem hj, List.flatten_append, List.length_append, List.getD_eq_getElem?_getD, List.getElem?_eq_getElem hj]
  simp
theorem baseC_all (cs : List (List Nat)) : baseC cs cs.length = cs.flatten.length := by unfold baseC; rw [List.take_length]
theorem flat_get : ∀ (cs : List (List Nat)) (j k : Nat), j < cs.length → k < (cs.getD j []).length → cs.flatten.getD (baseC cs j + k) 0 = (cs.getD j []).getD k 0 ∧ chunkIdx cs (baseC cs j + k) = j ∧ baseC cs j + k < cs.flatten.length
  | [], j, k, h, _ => by simp at h
  | c :: cs, 0, k, _, hk => by
    have hk' : k < c.length := hk
    have e : baseC (c :: cs) 0 = 0 := rfl
    rw [e, Nat.zero_add, chunkIdx, if_pos hk', List.flatten_cons]
    refine ⟨?_, rfl, by simp; omega⟩
    rw [List.getD_eq_getElem?_getD, List.getElem?_append_left hk', List.getD_eq_getElem?_getD]
    rfl
  | c :: cs, j + 1, k, hj, hk => by
    have hj' : j < cs.length := by simpa using hj
    have hk' : k < (cs.getD j []).length := by simpa using hk
    obtain ⟨h1, h2, h3⟩ := flat_get cs j k hj' hk'
    have e : baseC (c :: cs) (j + 1) = c.length + baseC cs j := by simp [baseC]
    rw [e, List.flatten_cons]
    refine ⟨?_, ?_, by rw [List.length_append]; omega⟩
    · rw [List.getD_eq_getElem?_getD, List.getElem?_append_right (by omega), show c.length + baseC cs j + k - c.length = baseC cs j + k by omega, ← List.getD_eq_getElem?_getD, h1]
      simp
    · rw [chunkIdx, if_neg (by omega), show c.length + baseC cs j + k - c.length = baseC cs j + k by omega, h2]
      omega
/-- Play's chunk and number, out of the least number of bytes. -/
def playM (R : Int) (cs : List (List Nat)) : Int × Int := if R = 0 then (-1, 0) else if R < 0 then ((cs.length : Int), -1) else ((chunkIdx cs (R - 1).toNat : Int), R)
def mA1 (st : List Nd) (bol : Bool) (ch : Nat) (L : List Nat) : List Nat := if ch = 10 then nspread st bol true L else L
def mA2 (st : List Nd) (bol : Bool) (ch : Nat) (L : List Nat) : List Nat := nspread st (ch == 10) false (enterM (nstep st ch (mA1 st bol ch L)) 0)
/-- The run, on from the marks at a place. -/
def nrunA (st : List Nd) (t : List Nat) (f i : Nat) (L1 : List Nat) : Int :=
  if ndone st L1 = true then i
  else if i = t.length then -1
  else if t.getD i 0 = 10 then
    if ndone st (nspread st (bolT t i) true L1) = true then (i : Int) + 1 else nrunF st t f (i + 1) (nstep st (t.getD i 0) (nspread st (bolT t i) true L1))
  else nrunF st t f (i + 1) (nstep st (t.getD i 0) L1)
theorem nrunF_A (st : List Nd) (t : List Nat) (f i : Nat) (L : List Nat) : nrunF st t (f + 1) i L = nrunA st t f i (nspread st (bolT t i) false (enterM L 0)) := rfl
theorem bolT_next (t : List Nat) (i : Nat) : bolT t (i + 1) = (t.getD i 0 == 10) := by unfold bolT; simp
/-- One byte more. -/
theorem feed_step {st : List Nd} {t : List Nat} {f i : Nat} {L : List Nat} {R : Int} (hd : ndone st L = false) (hi : i < t.length) (hU : nrunA st t (f + 1) i L = R) :
    (ndone st (mA1 st (bolT t i) (t.getD i 0) L) = true → R = (i : Int) + 1) ∧
    (ndone st (mA1 st (bolT t i) (t.getD i 0) L) = false → nrunA st t f (i + 1) (mA2 st (bolT t i) (t.getD i 0) L) = R ∧ (ndone st (mA2 st (bolT t i) (t.getD i 0) L) = true → R = (i : Int) + 1)) := by
  unfold nrunA at hU
  rw [if_neg (by rw [hd]; simp), if_neg (by omega)] at hU
  have key : ndone st (mA1 st (bolT t i) (t.getD i 0) L) = false → nrunF st t (f + 1) (i + 1) (nstep st (t.getD i 0) (mA1 st (bolT t i) (t.getD i 0) L)) = R := by
    intro h1
    unfold mA1 at h1 ⊢
    by_cases hc : t.getD i 0 = 10
    · rw [if_pos hc] at h1 hU ⊢
      rw [if_neg (by rw [h1]; simp)] at hU
      exact hU
    · rw [if_neg hc] at hU ⊢
      exact hU
  refine ⟨fun h1 => ?_, fun h1 => ?_⟩
  · unfold mA1 at h1
    by_cases hc : t.getD i 0 = 10
    · rw [if_pos hc] at h1 hU
      rw [if_pos h1] at hU
      exact hU.symm
    · rw [if_neg hc] at h1
      rw [h1] at hd
      cases hd
  · have k := key h1
    rw [nrunF_A, bolT_next] at k
    have k2 : nrunA st t f (i + 1) (mA2 st (bolT t i) (t.getD i 0) L) = R := k
    refine ⟨k2, fun h2 => ?_⟩
    unfold nrunA at k2
    rw [if_pos h2] at k2
    omega
theorem end_step {st : List Nd} {t : List Nat} {f : Nat} {L : List Nat} {R : Int} (hd : ndone st L = false) (hU : nrunA st t f t.length L = R) : R = -1 := by
  unfold nrunA at hU
  rw [if_neg (by rw [hd]; simp), if_pos rfl] at hU
  exact hU.symm
end Go.Proofs.Ythadkjgadhbidaa
/-
  The walk of Compile (nfa).
-/
namespace Go.Proofs.Ythadkjgadhbidaa
open Go.RowKit
set_option linter.unusedVariables false

def NComp (w : World) (l : List Nd) (e : Ending) (w' : World) : Prop :=
  (validM l = true → ∃ v, e = .returned (.tuple #[v, .int .i64 0]) ∧ Own w' w.heap.size 42 7 v (pcompM l).length (ndsV (pcompM l))) ∧ (validM l = false → e = .returned (.tuple #[.slice none 0 0, .int .i64 3])) ∧ Old w w'
set_option maxHeartbeats 8000000 in
set_option maxRecDepth 100000 in
theorem ncompC (A : Option Addr) (c : Nat) (l : List Nd) (w : World) (hr : Rs w A (ndsV l)) (hm : l.length ≤ maxLen) (hso : ∀ x ∈ l, setOk x.set) :
    Calls Try.prog 12 #[.slice A l.length c] w (NComp w l) := by
  have hV := validC A c l w hr hm hso
  cases hv : validM l with
  | false =>
    rw [hv] at hV
    have HV := Lib.hid hV
    have HE : Hid (validM l = true → False) := Lib.hid (by rw [hv]; intro h; cases h)
    clear hV hr hso hm
    go_enter Try.func12, Try.ntmps12
    go_wp2_with fail
    refine (HV.out).mono ?_; rintro e V ⟨rfl, hd⟩
    have HD := Lib.hid hd
    clear hd HV
    go_wp2_with fail
    refine bodyPost_ret (v := .tuple #[.slice none 0 0, .int .i64 3]) (by simp [results, Try.results12, go_sem]) rfl ?_
    exact ⟨fun h => (HE.out h).elim, fun _ => rfl, HD.out⟩
  | true =>
    rw [hv] at hV
    have HV := Lib.hid hV
    have HLN := Lib.hid (validM_len hv)
    have HSB := Lib.hid (validM_sub hv)
    have HVV := Lib.hid hv
    have HR := Lib.hid hr
    have HSO := Lib.hid hso
    clear hV hr hso hm hv
    go_enter Try.func12, Try.ntmps12
    go_wp2_with fail
    refine (HV.out).mono ?_; rintro e V ⟨rfl, hd⟩
    have HD := Lib.hid hd
    have HRV := Lib.hid (HR.out.up hd)
    clear hd HV HR
    go_upto_region 4 with fail
    have hb0 : NB V (V.alloc (.cells #[.slice A l.length c, .slice none 0 0] 65)) (V.heap.size + 1) V.heap.size A l.length c (.slice none 0 0) [] :=
      ⟨(Old.refl V).alloc _, heap_alloc_new V _, Own.nil_ _ _ _ _, Nat.le_refl _, Nat.lt_succ_self _, by simp⟩
    have HA := naddC V (V.heap.size + 1) V.heap.size A l.length c (.slice none 0 0) [] _ hb0 (by simp) ⟨2, 0, 0, 0⟩
    unfold stA at HA
    simp only [setW_zero] at HA
    have HAH := Lib.hid HA
    clear HA hb0
    generalize V.alloc (.cells #[.slice A l.length c, .slice none 0 0] 65) = W at *
    go_wp2_with fail
    refine (HAH.out).mono ?_; rintro e w2 ⟨rfl, lv2, hb2, hf2⟩
    have HA := naddC V (V.heap.size + 1) V.heap.size A l.length c lv2 [⟨2, 0, 0, 0⟩] w2 hb2 (by simp) ⟨5, 0, 0, 0⟩
    unfold stA at HA
    simp only [setW_zero] at HA
    have HAH2 := Lib.hid HA
    clear HA hb2 hf2 HAH
    go_wp2_with fail
    refine (HAH2.out).mono ?_; rintro e w3 ⟨rfl, lv3, hb3, hf3⟩
    have hl1 := HLN.out
    obtain ⟨k, hk⟩ : ∃ k, l.length = k + 1 := ⟨l.length - 1, by omega⟩
    have hk1 : l.length - 1 = k := by omega
    have hsub := HSB.out
    rw [hk1] at hsub
    have HC := nbuildC V (V.heap.size + 1) V.heap.size A c l HRV.out (by omega) HSO.out hsub l.length 1 [⟨2, 0, 0, 0⟩, ⟨5, 0, 0, 0⟩] lv3 w3 (by omega) (by simp; omega) (by omega) hb3
    have hm := pbF_made hsub l.length 1 [⟨2, 0, 0, 0⟩, ⟨5, 0, 0, 0⟩] (by omega)
    have HPC : Hid (pcompM l = (pbF l l.length k 1 [⟨2, 0, 0, 0⟩, ⟨5, 0, 0, 0⟩]).1.set 0 ⟨2, (pbF l l.length k 1 [⟨2, 0, 0, 0⟩, ⟨5, 0, 0, 0⟩]).2, (pbF l l.length k 1 [⟨2, 0, 0, 0⟩, ⟨5, 0, 0, 0⟩]).2, 0⟩) := Lib.hid (by unfold pcompM; rw [hk1])
    generalize pbF l l.length k 1 [⟨2, 0, 0, 0⟩, ⟨5, 0, 0, 0⟩] = r at *
    obtain ⟨R, v⟩ := r
    have HM := Lib.hid hm
    have HCC := Lib.hid HC
    have hke : (l.length : Int) - 1 = (k : Int) := by omega
    clear hm HC hb3 hf3 HAH2 hsub HRV HSO HSB hk1
    generalize l.length = L at *
    subst hk
    go_wp2_with fail
    refine (HCC.out).mono ?_; rintro e w4 ⟨rfl, lv4, hb4, hf4⟩
    have hlR : 2 ≤ R.length := HM.out.len
    have hx0 : R[0]? = some ⟨2, 0, 0, 0⟩ := by
      have h5 : nd R 0 = ⟨2, 0, 0, 0⟩ := HM.out.old 0 (by simp)
      have hlt : 0 < R.length := by omega
      unfold nd at h5
      rw [List.getD_eq_getElem?_getD, List.getElem?_eq_getElem hlt] at h5
      rw [List.getElem?_eq_getElem hlt]
      exact congrArg some h5
    obtain ⟨gb, cb, rfl, _, _, _, _⟩ := hb4.own.form (show 0 < R.length by omega)
    obtain ⟨q1, q2⟩ := hb4.own.cellAt (j := 1) (u := .int .i64 0) (by have := ndsV_get R 0 _ hx0 1 (by omega); rw [Nat.zero_mul, Nat.zero_add] at this; rw [this]; rfl)
    obtain ⟨hb5, hf5⟩ := hb4.put_ hx0 (x' := ⟨2, v, 0, 0⟩) (.int .i64 (v : Int)) (c := 1) (by omega) rfl
    rw [Nat.zero_mul, Nat.zero_add] at hb5
    obtain ⟨_, e1, _⟩ := hb4.cells
    have hx1 : (R.set 0 ⟨2, v, 0, 0⟩)[0]? = some ⟨2, v, 0, 0⟩ := List.getElem?_set_self (by omega)
    have HB4 := Lib.hid hb4
    clear hb4 hf4 hf5 HCC
    have j1 : (0 : Int) < (R.length : Int) := by omega
    go_upto_region 8 with fail
    generalize w4.setCell ⟨gb, 1, none⟩ (.int .i64 (v : Int)) = w5 at *
    clear q1 q2 e1
    have hb5' : NB V w5 (V.heap.size + 1) V.heap.size A (k + 1) c (.slice (some ⟨gb, 0, none⟩) (R.set 0 ⟨2, v, 0, 0⟩).length cb) (R.set 0 ⟨2, v, 0, 0⟩) := by rw [List.length_set]; exact hb5
    obtain ⟨q1, q2⟩ := hb5'.own.cellAt (j := 2) (u := .int .i64 0) (by have := ndsV_get _ 0 _ hx1 2 (by omega); rw [Nat.zero_mul, Nat.zero_add] at this; rw [this]; rfl)
    obtain ⟨hb6, hf6⟩ := hb5'.put_ hx1 (x' := ⟨2, v, v, 0⟩) (.int .i64 (v : Int)) (c := 2) (by omega) rfl
    rw [Nat.zero_mul, Nat.zero_add] at hb6
    obtain ⟨_, e1, _⟩ := hb5.cells
    rw [List.set_set] at hb6
    clear hb5 hb5' hf6 hx1
    go_upto_region 9 with fail
    generalize w5.setCell ⟨gb, 2, none⟩ (.int .i64 (v : Int)) = w6 at *
    clear q1 q2 e1
    obtain ⟨_, e1, _⟩ := hb6.cells
    rw [List.length_set] at e1
    have hown := hb6.own
    have HOW := Lib.hid (hown.base (base' := w.heap.size) (by have := HD.out.size; omega))
    have HOL := Lib.hid (HD.out.up hb6.old)
    clear hb6 hown
    go_wp2_with fail
    refine bodyPost_ret (v := .tuple #[.slice (some ⟨gb, 0, none⟩) R.length cb, .int .i64 0]) (by simp [results, Try.results12, go_sem]) rfl ?_
    refine ⟨fun _ => ⟨_, rfl, ?_⟩, fun h => ?_, HOL.out⟩
    · rw [HPC.out]
      have := HOW.out
      simp only [List.length_set] at this ⊢
      exact this
    · rw [HVV.out] at h; cases h
end Go.Proofs.Ythadkjgadhbidaa
/-
  The program's reader of patterns: part.
-/
namespace Go.Proofs.Ythadkjgadhbidaa
open Go.RowKit
set_option linter.unusedVariables false

theorem plc_join1 (N l : List Nd) (k : Int) : plc N (joinN k l []) = plc N l + 1 := by unfold plc; rw [join_len]; simp; omega
theorem partLoop_bad {B : List Nat} {f : Nat} {l : List Nd} {q : Ps} {R : List Nd × Ps} (h : partLoop B f l q = some R) (he : moreP B q = false) : R = (l, q) := by
  cases f with
  | zero => simp [partLoop] at h
  | succ f =>
    rw [partLoop, if_neg (by rw [he]; decide)] at h
    exact (Option.some.inj h).symm
def PtRel (w0 : World) (B g : Nat) (s : ByteArray) (a d : Nat) (N : List Nd) (R : List Nd × Ps) (v : Value) (wr : World) : Prop :=
  ∃ (f : Nat) (l : List Nd) (aa : Nat) (lv : Value), v = .int .i64 (plc N l) ∧ 0 < l.length ∧ l.length + 2 ≤ 2 * (aa - a) + 1 ∧ a ≤ aa ∧ aa ≤ s.size ∧ Hid (RP w0 wr B g s aa d lv (N ++ l.map (shiftNd (N.length : Int)))) ∧ Hid (partLoop (bs s) f l ⟨aa, d, 0⟩ = some R)
set_option maxHeartbeats 8000000 in
set_option maxRecDepth 100000 in
theorem partG (f : Nat) (hA : AtomG f) : PartG (f + 1) := by
  intro w0 B g s a d lv0 N w R h hs ha hd hN hR
  rw [partP] at hR
  cases hq : atomP (bs s) f ⟨a, d, 0⟩ with
  | none => rw [hq] at hR; cases hR
  | some lq =>
  rw [hq] at hR
  obtain ⟨l0, ⟨a0, d0, e0⟩⟩ := lq
  simp only at hR
  have hG : Good (bs s).length ⟨a, d, 0⟩ l0 ⟨a0, d0, e0⟩ 2 := (parse_good (bs s) f).2.2.2.2.2.2 ⟨a, d, 0⟩ (l0, ⟨a0, d0, e0⟩) ⟨rfl, by rw [bs_length]; show a ≤ _; omega, hd⟩ (by rw [bs_length]; exact ha) hq
  rw [bs_length] at hG
  have HG := Lib.hid hG
  have HC := Lib.hid (hA w0 B g s a d lv0 N w (l0, ⟨a0, d0, e0⟩) h hs ha hd hN hq)
  have HRR := Lib.hid hR
  have HL : Hid (∀ (aa : Nat) (l : List Nd), l.length + 2 ≤ 2 * (aa - a) + 1 → aa ≤ s.size → N.length + l.length ≤ 100000) := Lib.hid (fun aa l h1 h2 => by unfold Room at hN; omega)
  clear h hR hG hq
  go_enter Try.func90, Try.ntmps90
  by_cases he : e0 = 0
  · subst he
    obtain ⟨g1, g2, g3, g4, g5⟩ := HG.out.ok rfl
    replace g1 : d0 = d := g1
    replace g2 : a ≤ a0 := g2
    replace g3 : a0 ≤ s.size := g3
    replace g5 : l0.length + 2 ≤ 2 * (a0 - a) + 1 := g5
    subst g1
    have HC2 := Lib.hid (HC.out.mono fun e w' h => h.ok rfl)
    clear HC
    go_wp2_with fail
    refine (HC2.out).mono ?_; rintro e W1 ⟨rfl, lv1, hr⟩
    have HP1 := Lib.hid hr
    clear hr HC2
    go_wp2_with fail
    go_loopw [4] (fun s4 wr => PtRel w0 B g s a d0 N R s4 wr) (fun s4 _ => (200000 - intOf s4).toNat)
    case atStart => exact ⟨f, l0, a0, lv1, rfl, g4, by omega, g2, g3, HP1, HRR⟩
    case round =>
      clear HP1 HRR HG g2 g3 g4 g5
      obtain ⟨f, l, aa, lv, rfl, hl0, hl2, hage, haa, HP, HM⟩ := hrel
      generalize d0 = d at *
      have hen := endedC w0 B g s aa d lv _ wr HP.out (by omega)
      have HPB : Hid (plc N l ≤ 120000 ∧ 0 ≤ plc N l) := Lib.hid (by have := HL.out aa l hl2 haa; unfold plc; omega)
      by_cases hend : aa = s.size
      · have HE : Hid (R = (l, ⟨aa, d, 0⟩)) := Lib.hid (partLoop_bad HM.out (by unfold moreP; rw [bs_length]; simp; omega))
        rw [decide_eq_true hend] at hen
        have HEN := Lib.hid hen
        clear hen hend HM
        go_wp2_with fail
        refine (HEN.out).mono ?_; rintro e W5 ⟨rfl, n5, rfl⟩
        have HPD := Lib.hid (HP.out.drewN n5)
        generalize wr.drewN n5 = W6 at *
        clear HP
        have HP := Lib.hid HPD.out
        have HPF := Lib.hid HP.out
        go_wp2_with fail
        go_ret2
        rw [HE.out]
        exact ⟨fun _ => ⟨rfl, lv, HPF.out⟩, fun e => absurd rfl e⟩
      · have hlt : aa < s.size := by omega
        have HBB := Lib.hid (bs_get s aa hlt)
        have i3 : (0 : Int) ≤ (aa : Int) := by omega
        have i4 : (aa : Int) < (s.size : Int) := by omega
        have i5 : (s.size : Int) ≤ 10000 := by omega
        rw [decide_eq_false hend] at hen
        have HEN := Lib.hid hen
        clear hen hend
        go_wp2_with fail
        refine (HEN.out).mono ?_; rintro e W5 ⟨rfl, n5, rfl⟩
        have HPD := Lib.hid (HP.out.drewN n5)
        generalize wr.drewN n5 = W5' at *
        clear HP HEN
        have HP := Lib.hid HPD.out
        clear HPD
        obtain ⟨c0, c1, c2, c3, f1, f2, f3⟩ := HP.out.cells
        clear c2 c3 f1 f2 f3
        go_wp2_with fail
        go_quiet (fail)
        have HPD := Lib.hid (HP.out.drewN nq)
        generalize W5'.drewN nq = W6 at *
        clear HP c0 c1
        have HP := Lib.hid HPD.out
        clear HPD
        have hcase : s[aa].toNat = 42 ∨ s[aa].toNat = 43 ∨ s[aa].toNat = 63 ∨ (s[aa].toNat ≠ 42 ∧ s[aa].toNat ≠ 43 ∧ s[aa].toNat ≠ 63) := by omega
        rcases hcase with hb | hb | hb | ⟨n1, n2, n3⟩
        · obtain ⟨f', HM'⟩ : ∃ f', Hid (partLoop (bs s) f' (joinN 5 l []) ⟨aa + 1, d, 0⟩ = some R) := by
            have h := HM.out
            cases f with
            | zero => simp [partLoop] at h
            | succ f =>
              rw [partLoop, if_pos ((moreP_iff _ _).2 ⟨rfl, by rw [bs_length]; exact hlt⟩)] at h
              rw [show bAt (bs s) ⟨aa, d, 0⟩ = 42 from HBB.out.trans hb] at h
              exact ⟨f, h⟩
          have HSJ := Lib.hid (shift_join1 5 l N.length (by decide))
          have hpj := plc_join1 N l 5
          have hjl : (joinN 5 l []).length = l.length + 1 := by rw [join_len]; simp
          have g1 : s[aa].toNat = 42 := hb
          clear HM
          rw [g1]
          clear hb
          obtain ⟨c0, c1, c2, c3, f1, f2, f3⟩ := HP.out.cells
          clear c0 c2 c3 f2 f3
          have HP1 : Hid (RP w0 (W6.setCell ⟨g, 1, none⟩ (.int .i64 ((aa : Int) + 1))) B g s (aa + 1) d lv (N ++ l.map (shiftNd (N.length : Int)))) := Lib.hid (by
            have := HP.out.at_ (aa + 1)
            rw [show ((aa + 1 : Nat) : Int) = (aa : Int) + 1 by omega] at this
            exact this)
          go_upto_region 15 with fail
          clear c1 f1 HP
          generalize W6.setCell ⟨g, 1, none⟩ (.int .i64 ((aa : Int) + 1)) = W7 at *
          have HA := Lib.hid (addZ w0 B g s (aa + 1) d lv _ W7 HP1.out (by rw [List.length_append, List.length_map]; exact HL.out aa l hl2 haa) 5 (plc N l) 0)
          go_wp2_with fail
          refine (HA.out).mono ?_; rintro e W8 ⟨rfl, lv8, hr⟩
          have HR8 : Hid (RP w0 W8 B g s (aa + 1) d lv8 (N ++ (joinN 5 l []).map (shiftNd (N.length : Int)))) := Lib.hid (by
            rw [HSJ.out, ← List.append_assoc]
            exact hr)
          have HVV : Hid (Value.int .i64 ((N.length : Int) + (l.length : Int)) = .int .i64 (plc N (joinN 5 l []))) := Lib.hid (by
            rw [hpj]
            unfold plc
            congr 1
            omega)
          clear hr HA HP1 HSJ
          go_wp2_with fail
          go_roundw
          case rel => exact ⟨f', joinN 5 l [], aa + 1, lv8, HVV.out, by omega, by omega, by omega, by omega, HR8, HM'⟩
          case measure =>
            have h1 := HPB.out
            simp [intOf]
            unfold plc at h1 ⊢
            omega
        · obtain ⟨f', HM'⟩ : ∃ f', Hid (partLoop (bs s) f' (joinN 6 l []) ⟨aa + 1, d, 0⟩ = some R) := by
            have h := HM.out
            cases f with
            | zero => simp [partLoop] at h
            | succ f =>
              rw [partLoop, if_pos ((moreP_iff _ _).2 ⟨rfl, by rw [bs_length]; exact hlt⟩)] at h
              rw [show bAt (bs s) ⟨aa, d, 0⟩ = 43 from HBB.out.trans hb] at h
              exact ⟨f, h⟩
          have HSJ := Lib.hid (shift_join1 6 l N.length (by decide))
          have hpj := plc_join1 N l 6
          have hjl : (joinN 6 l []).length = l.length + 1 := by rw [join_len]; simp
          have g1 : s[aa].toNat = 43 := hb
          clear HM
          rw [g1]
          clear hb
          obtain ⟨c0, c1, c2, c3, f1, f2, f3⟩ := HP.out.cells
          clear c0 c2 c3 f2 f3
          have HP1 : Hid (RP w0 (W6.setCell ⟨g, 1, none⟩ (.int .i64 ((aa : Int) + 1))) B g s (aa + 1) d lv (N ++ l.map (shiftNd (N.length : Int)))) := Lib.hid (by
            have := HP.out.at_ (aa + 1)
            rw [show ((aa + 1 : Nat) : Int) = (aa : Int) + 1 by omega] at this
            exact this)
          go_upto_region 15 with fail
          clear c1 f1 HP
          generalize W6.setCell ⟨g, 1, none⟩ (.int .i64 ((aa : Int) + 1)) = W7 at *
          have HA := Lib.hid (addZ w0 B g s (aa + 1) d lv _ W7 HP1.out (by rw [List.length_append, List.length_map]; exact HL.out aa l hl2 haa) 6 (plc N l) 0)
          go_wp2_with fail
          refine (HA.out).mono ?_; rintro e W8 ⟨rfl, lv8, hr⟩
          have HR8 : Hid (RP w0 W8 B g s (aa + 1) d lv8 (N ++ (joinN 6 l []).map (shiftNd (N.length : Int)))) := Lib.hid (by
            rw [HSJ.out, ← List.append_assoc]
            exact hr)
          have HVV : Hid (Value.int .i64 ((N.length : Int) + (l.length : Int)) = .int .i64 (plc N (joinN 6 l []))) := Lib.hid (by
            rw [hpj]
            unfold plc
            congr 1
            omega)
          clear hr HA HP1 HSJ
          go_wp2_with fail
          go_roundw
          case rel => exact ⟨f', joinN 6 l [], aa + 1, lv8, HVV.out, by omega, by omega, by omega, by omega, HR8, HM'⟩
          case measure =>
            have h1 := HPB.out
            simp [intOf]
            unfold plc at h1 ⊢
            omega
        · obtain ⟨f', HM'⟩ : ∃ f', Hid (partLoop (bs s) f' (joinN 7 l []) ⟨aa + 1, d, 0⟩ = some R) := by
            have h := HM.out
            cases f with
            | zero => simp [partLoop] at h
            | succ f =>
              rw [partLoop, if_pos ((moreP_iff _ _).2 ⟨rfl, by rw [bs_length]; exact hlt⟩)] at h
              rw [show bAt (bs s) ⟨aa, d, 0⟩ = 63 from HBB.out.trans hb] at h
              exact ⟨f, h⟩
          have HSJ := Lib.hid (shift_join1 7 l N.length (by decide))
          have hpj := plc_join1 N l 7
          have hjl : (joinN 7 l []).length = l.length + 1 := by rw [join_len]; simp
          have g1 : s[aa].toNat = 63 := hb
          clear HM
          rw [g1]
          clear hb
          obtain ⟨c0, c1, c2, c3, f1, f2, f3⟩ := HP.out.cells
          clear c0 c2 c3 f2 f3
          have HP1 : Hid (RP w0 (W6.setCell ⟨g, 1, none⟩ (.int .i64 ((aa : Int) + 1))) B g s (aa + 1) d lv (N ++ l.map (shiftNd (N.length : Int)))) := Lib.hid (by
            have := HP.out.at_ (aa + 1)
            rw [show ((aa + 1 : Nat) : Int) = (aa : Int) + 1 by omega] at this
            exact this)
          go_upto_region 15 with fail
          clear c1 f1 HP
          generalize W6.setCell ⟨g, 1, none⟩ (.int .i64 ((aa : Int) + 1)) = W7 at *
          have HA := Lib.hid (addZ w0 B g s (aa + 1) d lv _ W7 HP1.out (by rw [List.length_append, List.length_map]; exact HL.out aa l hl2 haa) 7 (plc N l) 0)
          go_wp2_with fail
          refine (HA.out).mono ?_; rintro e W8 ⟨rfl, lv8, hr⟩
          have HR8 : Hid (RP w0 W8 B g s (aa + 1) d lv8 (N ++ (joinN 7 l []).map (shiftNd (N.length : Int)))) := Lib.hid (by
            rw [HSJ.out, ← List.append_assoc]
            exact hr)
          have HVV : Hid (Value.int .i64 ((N.length : Int) + (l.length : Int)) = .int .i64 (plc N (joinN 7 l []))) := Lib.hid (by
            rw [hpj]
            unfold plc
            congr 1
            omega)
          clear hr HA HP1 HSJ
          go_wp2_with fail
          go_roundw
          case rel => exact ⟨f', joinN 7 l [], aa + 1, lv8, HVV.out, by omega, by omega, by omega, by omega, HR8, HM'⟩
          case measure =>
            have h1 := HPB.out
            simp [intOf]
            unfold plc at h1 ⊢
            omega
        · have HE : Hid (R = (l, ⟨aa, d, 0⟩)) := Lib.hid (by
            have h := HM.out
            cases f with
            | zero => simp [partLoop] at h
            | succ f =>
              have e : bAt (bs s) ⟨aa, d, 0⟩ = s[aa].toNat := HBB.out
              rw [partLoop, if_pos ((moreP_iff _ _).2 ⟨rfl, by rw [bs_length]; exact hlt⟩), e, if_neg n1, if_neg n2, if_neg n3] at h
              exact (Option.some.inj h).symm)
          have q1 : (((s[aa].toNat : Nat) : Int) == 42) = false := by simp; omega
          have q2 : (((s[aa].toNat : Nat) : Int) == 43) = false := by simp; omega
          have q3 : (((s[aa].toNat : Nat) : Int) == 63) = false := by simp; omega
          clear n1 n2 n3 HM HBB
          have HPF := Lib.hid HP.out
          go_wp2_with fail
          go_ret2
          rw [HE.out]
          exact ⟨fun _ => ⟨rfl, lv, HPF.out⟩, fun e => absurd rfl e⟩
  · have HC2 := Lib.hid (HC.out.mono fun e w' h => h.no he)
    have hne : (e0 != 0) = true := by simpa using he
    have HE : Hid (R = (l0, ⟨a0, d0, e0⟩)) := Lib.hid (partLoop_bad HRR.out (by unfold moreP; simp [he]))
    clear HC HRR
    go_wp2_with fail
    refine (HC2.out).mono ?_; rintro e W3 ⟨v, rfl, ho⟩
    have HO3 := Lib.hid ho
    clear ho HC2
    go_wp2_with fail
    go_ret2
    rw [HE.out]
    exact ⟨fun e => absurd e he, fun _ => ⟨0, rfl, HO3.out⟩⟩
end Go.Proofs.Ythadkjgadhbidaa
/-
  The program's reader of patterns: alternative.
-/
namespace Go.Proofs.Ythadkjgadhbidaa
open Go.RowKit
set_option linter.unusedVariables false

def lft (N l : List Nd) : Int := if l.length = 0 then -1 else plc N l
theorem lft_nil (N : List Nd) : lft N [] = -1 := rfl
theorem lft_pos {N l : List Nd} (h : 0 < l.length) : lft N l = plc N l ∧ 0 ≤ plc N l := by
  unfold lft plc
  rw [if_neg (by omega)]
  exact ⟨rfl, by omega⟩
def AtRel (F : Nat) (w0 : World) (B g : Nat) (s : ByteArray) (a d : Nat) (N : List Nd) (R : List Nd × Ps) (v : Value) (wr : World) : Prop :=
  ∃ (f : Nat) (l : List Nd) (aa : Nat) (lv : Value), f ≤ F ∧ v = .int .i64 (lft N l) ∧ (l = [] ∧ aa = a ∨ 0 < l.length ∧ l.length + 2 ≤ 2 * (aa - a) + 1 ∧ a ≤ aa) ∧ aa ≤ s.size ∧ Hid (RP w0 wr B g s aa d lv (N ++ l.map (shiftNd (N.length : Int)))) ∧ Hid (catLoop (bs s) f l ⟨aa, d, 0⟩ = some R)
set_option maxHeartbeats 8000000 in
set_option maxRecDepth 100000 in
theorem altG (F : Nat) (hA : ∀ k, k ≤ F → PartG k) : AltG (F + 1) := by
  intro w0 B g s a d lv0 N w R h hs ha hd hN hR
  rw [catP] at hR
  have HP0 := Lib.hid h
  have HRR := Lib.hid hR
  have HPT := Lib.hid (fun k hk w0 B g s a d lv N w R h1 h2 h3 h4 h5 h6 => hA k hk w0 B g s a d lv N w R h1 h2 h3 h4 h5 h6)
  have HL0 : Hid (N.length ≤ 100000) := Lib.hid hN.len
  clear h hR hA
  go_enter Try.func87, Try.ntmps87
  go_wp2_with fail
  go_loopw [4] (fun s4 wr => AtRel F w0 B g s a d N R s4 wr) (fun s4 _ => (200000 - intOf s4).toNat)
  case atStart => exact ⟨F, [], a, lv0, Nat.le_refl _, rfl, Or.inl ⟨rfl, rfl⟩, ha, Lib.hid (by have := HP0.out; simpa using this), HRR⟩
  case round =>
    clear HP0 HRR
    obtain ⟨f, l, aa, lv, hf, rfl, hl, haa, HP, HM⟩ := hrel
    have hen := fun n => endedC w0 B g s aa d lv _ (wr.drewN n) (HP.out.drewN n) (by omega)
    by_cases hend : aa = s.size
    · have HE : Hid (R = (if l.length = 0 then leafN 1 0 else l, ⟨aa, d, 0⟩)) := Lib.hid (by
        have h := HM.out
        cases f with
        | zero => simp [catLoop] at h
        | succ f =>
          rw [catLoop, if_neg (fun h => by have h2 := ((moreP_iff _ _).1 h.1).2; rw [bs_length] at h2; simp only at h2; omega)] at h
          exact (Option.some.inj h).symm)
      rw [decide_eq_true hend] at hen
      have HEN := Lib.hid hen
      clear hen hend HM
      go_wp2_with fail
      go_quiet ((go_at_call 79; exact Calls.quiet_of (HEN.out _)))
      have HPD := Lib.hid (HP.out.drewN nq)
      generalize wr.drewN nq = W6 at *
      clear HP HEN
      have HP := Lib.hid HPD.out
      clear HPD
      rcases hl with ⟨rfl, rfl⟩ | ⟨hl0, hl2, hl3⟩
      · have HE2 : Hid (R = (leafN 1 0, ⟨aa, d, 0⟩)) := Lib.hid HE.out
        have HP' : Hid (RP w0 W6 B g s aa d lv N) := Lib.hid (by have := HP.out; simpa using this)
        have HA := Lib.hid (fun W (h : RP w0 W B g s aa d lv N) => addZ w0 B g s aa d lv N W h HL0.out 1 0 0)
        have HLN : Hid (lft N [] = -1) := Lib.hid rfl
        clear HE HP
        go_wp2_with fail
        refine (HA.out _ HP'.out).mono ?_; rintro e W9 ⟨rfl, lv9, hr⟩
        have HR9 := Lib.hid hr
        clear hr HA HP'
        go_wp2_with fail
        go_ret2
        exact leaf_post HE2.out (by decide) HR9.out
      · have HE2 : Hid (R = (l, ⟨aa, d, 0⟩)) := Lib.hid (by rw [HE.out, if_neg (by omega)])
        obtain ⟨e1, e2⟩ := lft_pos (N := N) hl0
        rw [e1]
        clear HE e1
        have HPF := Lib.hid HP.out
        clear HP
        go_wp2_with fail
        go_ret2
        rw [HE2.out]
        exact ⟨fun _ => ⟨rfl, lv, HPF.out⟩, fun e => absurd rfl e⟩
    · have hlt : aa < s.size := by omega
      have HBB := Lib.hid (bs_get s aa hlt)
      have i3 : (0 : Int) ≤ (aa : Int) := by omega
      have i4 : (aa : Int) < (s.size : Int) := by omega
      have i5 : (s.size : Int) ≤ 10000 := by omega
      have hmo : moreP (bs s) ⟨aa, d, 0⟩ = true := (moreP_iff _ _).2 ⟨rfl, by rw [bs_length]; exact hlt⟩
      have HMO := Lib.hid hmo
      rw [decide_eq_false hend] at hen
      have HEN := Lib.hid hen
      clear hen hend hmo
      obtain ⟨c0, c1, c2, c3, f1, f2, f3⟩ := HP.out.cells
      clear c2 c3 f1 f2 f3
      by_cases h124 : s[aa].toNat = 124
      · have HE : Hid (R = (if l.length = 0 then leafN 1 0 else l, ⟨aa, d, 0⟩)) := Lib.hid (by
          have h := HM.out
          cases f with
          | zero => simp [catLoop] at h
          | succ f =>
            rw [catLoop, if_neg (fun h => h.2.1 (HBB.out.trans h124))] at h
            exact (Option.some.inj h).symm)
        have q1 : (((s[aa].toNat : Nat) : Int) != 124) = false := by simp; omega
        clear h124 HM HBB HMO
        go_wp2_with fail
        go_quiet ((go_at_call 79; exact Calls.quiet_of (HEN.out _)))
        have HPD := Lib.hid (HP.out.drewN nq)
        generalize wr.drewN nq = W6 at *
        clear HP HEN
        have HP := Lib.hid HPD.out
        clear HPD
        clear q1 c0 c1
        rcases hl with ⟨rfl, rfl⟩ | ⟨hl0, hl2, hl3⟩
        · have HE2 : Hid (R = (leafN 1 0, ⟨aa, d, 0⟩)) := Lib.hid HE.out
          have HP' : Hid (RP w0 W6 B g s aa d lv N) := Lib.hid (by have := HP.out; simpa using this)
          have HA := Lib.hid (fun W (h : RP w0 W B g s aa d lv N) => addZ w0 B g s aa d lv N W h HL0.out 1 0 0)
          have HLN : Hid (lft N [] = -1) := Lib.hid rfl
          clear HE HP
          go_wp2_with fail
          refine (HA.out _ HP'.out).mono ?_; rintro e W9 ⟨rfl, lv9, hr⟩
          have HR9 := Lib.hid hr
          clear hr HA HP'
          go_wp2_with fail
          go_ret2
          exact leaf_post HE2.out (by decide) HR9.out
        · have HE2 : Hid (R = (l, ⟨aa, d, 0⟩)) := Lib.hid (by rw [HE.out, if_neg (by omega)])
          obtain ⟨e1, e2⟩ := lft_pos (N := N) hl0
          rw [e1]
          clear HE e1
          have HPF := Lib.hid HP.out
          clear HP
          go_wp2_with fail
          go_ret2
          rw [HE2.out]
          exact ⟨fun _ => ⟨rfl, lv, HPF.out⟩, fun e => absurd rfl e⟩
      by_cases h41 : s[aa].toNat = 41
      · have HE : Hid (R = (if l.length = 0 then leafN 1 0 else l, ⟨aa, d, 0⟩)) := Lib.hid (by
          have h := HM.out
          cases f with
          | zero => simp [catLoop] at h
          | succ f =>
            rw [catLoop, if_neg (fun h => h.2.2 (HBB.out.trans h41))] at h
            exact (Option.some.inj h).symm)
        have q1 : (((s[aa].toNat : Nat) : Int) != 124) = true := by simp; omega
        have q2 : (((s[aa].toNat : Nat) : Int) != 41) = false := by simp; omega
        clear h124 h41 HM HBB HMO
        go_wp2_with fail
        go_quiet ((go_at_call 79; exact Calls.quiet_of (HEN.out _)))
        have HPD := Lib.hid (HP.out.drewN nq)
        generalize wr.drewN nq = W6 at *
        clear HP HEN
        have HP := Lib.hid HPD.out
        clear HPD
        clear q1 q2 c0 c1
        rcases hl with ⟨rfl, rfl⟩ | ⟨hl0, hl2, hl3⟩
        · have HE2 : Hid (R = (leafN 1 0, ⟨aa, d, 0⟩)) := Lib.hid HE.out
          have HP' : Hid (RP w0 W6 B g s aa d lv N) := Lib.hid (by have := HP.out; simpa using this)
          have HA := Lib.hid (fun W (h : RP w0 W B g s aa d lv N) => addZ w0 B g s aa d lv N W h HL0.out 1 0 0)
          have HLN : Hid (lft N [] = -1) := Lib.hid rfl
          clear HE HP
          go_wp2_with fail
          refine (HA.out _ HP'.out).mono ?_; rintro e W9 ⟨rfl, lv9, hr⟩
          have HR9 := Lib.hid hr
          clear hr HA HP'
          go_wp2_with fail
          go_ret2
          exact leaf_post HE2.out (by decide) HR9.out
        · have HE2 : Hid (R = (l, ⟨aa, d, 0⟩)) := Lib.hid (by rw [HE.out, if_neg (by omega)])
          obtain ⟨e1, e2⟩ := lft_pos (N := N) hl0
          rw [e1]
          clear HE e1
          have HPF := Lib.hid HP.out
          clear HP
          go_wp2_with fail
          go_ret2
          rw [HE2.out]
          exact ⟨fun _ => ⟨rfl, lv, HPF.out⟩, fun e => absurd rfl e⟩
      · obtain ⟨f', hf', x, q, hq, hR⟩ : ∃ f', f' ≤ F ∧ ∃ x q, partP (bs s) f' ⟨aa, d, 0⟩ = some (x, q) ∧ (if q.e = 0 then catLoop (bs s) f' (if l.length = 0 then x else joinN 3 l x) q else some ([], q)) = some R := by
          have h := HM.out
          cases f with
          | zero => simp [catLoop] at h
          | succ f =>
            rw [catLoop, if_pos ⟨HMO.out, fun e => h124 (HBB.out.symm.trans e), fun e => h41 (HBB.out.symm.trans e)⟩] at h
            cases hq : partP (bs s) f ⟨aa, d, 0⟩ with
            | none => rw [hq] at h; cases h
            | some xq =>
              rw [hq] at h
              exact ⟨f, by omega, xq.1, xq.2, hq, h⟩
        have q1 : (((s[aa].toNat : Nat) : Int) != 124) = true := by simp; omega
        have q2 : (((s[aa].toNat : Nat) : Int) != 41) = true := by simp; omega
        obtain ⟨a1, d1, e1⟩ := q
        have hG : Good (bs s).length ⟨aa, d, 0⟩ x ⟨a1, d1, e1⟩ 2 := (parse_good (bs s) f').2.2.2.2.1 ⟨aa, d, 0⟩ (x, ⟨a1, d1, e1⟩) ⟨rfl, by rw [bs_length]; show aa ≤ _; omega, hd⟩ (by rw [bs_length]; exact hlt) hq
        rw [bs_length] at hG
        have HG := Lib.hid hG
        have hroom : Room s aa (N ++ l.map (shiftNd (N.length : Int))) := by
          unfold Room at hN ⊢
          rw [List.length_append, List.length_map]
          rcases hl with ⟨rfl, rfl⟩ | ⟨hl0, hl2, hl3⟩
          · simp; omega
          · omega
        have HC := Lib.hid (fun W h => HPT.out f' hf' w0 B g s aa d lv (N ++ l.map (shiftNd (N.length : Int))) W (x, ⟨a1, d1, e1⟩) h hs hlt hd hroom hq)
        have HRR := Lib.hid hR
        clear h124 h41 HM HBB HMO hq hG hroom hR
        go_wp2_with fail
        go_quiet ((go_at_call 79; exact Calls.quiet_of (HEN.out _)))
        have HPD := Lib.hid (HP.out.drewN nq)
        generalize wr.drewN nq = W6 at *
        clear HP HEN
        have HP := Lib.hid HPD.out
        clear HPD
        clear q1 q2 c0 c1
        by_cases he : e1 = 0
        · subst he
          obtain ⟨g1, g2, g3, g4, g5⟩ := HG.out.ok rfl
          replace g1 : d1 = d := g1
          replace g2 : aa ≤ a1 := g2
          replace g3 : a1 ≤ s.size := g3
          replace g5 : x.length + 2 ≤ 2 * (a1 - aa) + 1 := g5
          subst g1
          have HC2 := Lib.hid ((HC.out W6 HP.out).mono fun e w' h => h.ok rfl)
          have HRN : Hid (catLoop (bs s) f' (if l.length = 0 then x else joinN 3 l x) ⟨a1, d1, 0⟩ = some R) := Lib.hid (by have := HRR.out; rwa [if_pos rfl] at this)
          clear HC HRR HP HG
          go_wp2_with fail
          refine (HC2.out).mono ?_; rintro e W7 ⟨rfl, lv7, hr⟩
          have HP7 := Lib.hid hr
          clear hr HC2
          rcases hl with ⟨rfl, rfl⟩ | ⟨hl0, hl2, hl3⟩
          · have HLN : lft N [] = -1 := rfl
            rw [HLN]
            have HP8 : Hid (RP w0 W7 B g s a1 d1 lv7 (N ++ x.map (shiftNd (N.length : Int)))) := Lib.hid (by have := HP7.out; simpa using this)
            have HVV : Hid (plc (N ++ ([] : List Nd).map (shiftNd (N.length : Int))) x = lft N x) := Lib.hid (by rw [(lft_pos g4).1]; simp)
            have HRN2 : Hid (catLoop (bs s) f' x ⟨a1, d1, 0⟩ = some R) := Lib.hid HRN.out
            rw [HVV.out]
            have hb := lft_pos (N := N) g4
            clear HP7 HRN HLN
            go_wp2_with fail
            go_roundw
            case rel => exact ⟨f', x, a1, lv7, hf', by rw [hb.1], Or.inr ⟨g4, g5, g2⟩, g3, HP8, HRN2⟩
            case measure =>
              simp [intOf]
              have h7 := lft_nil N
              have h8 := hb.1
              have h9 := hb.2
              omega
          · obtain ⟨u1, u2⟩ := lft_pos (N := N) hl0
            rw [u1]
            have HSJ := Lib.hid (shift_join2 3 l x N.length (by decide) g4)
            have hlen : (N ++ l.map (shiftNd (N.length : Int))).length = N.length + l.length := by rw [List.length_append, List.length_map]
            have hpx : plc (N ++ l.map (shiftNd (N.length : Int))) x = (N.length : Int) + l.length + x.length - 1 := by unfold plc; rw [hlen]; push_cast; rfl
            rw [hlen] at HP7
            have hjl : (joinN 3 l x).length = l.length + x.length + 1 := join_len _ _ _
            have hpj : plc N (joinN 3 l x) = (N.length : Int) + l.length + x.length := by unfold plc; rw [hjl]; omega
            have hll := lft_pos (N := N) (l := joinN 3 l x) (by omega)
            have HA := Lib.hid (addZ w0 B g s a1 d1 lv7 _ W7 HP7.out (by
              rw [List.length_append, List.length_append, List.length_map, List.length_map]
              unfold Room at hN
              omega) 3 (plc N l) ((N.length : Int) + l.length + x.length - 1))
            rw [hpx]
            have hpl : plc N l = (N.length : Int) + l.length - 1 := rfl
            have HRN2 : Hid (catLoop (bs s) f' (joinN 3 l x) ⟨a1, d1, 0⟩ = some R) := Lib.hid (by have := HRN.out; rwa [if_neg (by omega)] at this)
            clear hpx HRN
            go_wp2_with fail
            refine (HA.out).mono ?_; rintro e W8 ⟨rfl, lv8, hr⟩
            have HR8 : Hid (RP w0 W8 B g s a1 d1 lv8 (N ++ (joinN 3 l x).map (shiftNd (N.length : Int)))) := Lib.hid (by
              rw [HSJ.out, ← List.append_assoc, ← List.append_assoc]
              exact hr)
            have HVV : Hid ((((N ++ l.map (shiftNd (N.length : Int))) ++ x.map (shiftNd ((N.length + l.length : Nat) : Int))).length : Int) = lft N (joinN 3 l x)) := Lib.hid (by
              rw [hll.1, hpj, List.length_append, List.length_append, List.length_map, List.length_map]
              push_cast
              rfl)
            clear hr HA HP7 HSJ
            go_wp2_with fail
            go_roundw
            case rel => exact ⟨f', joinN 3 l x, a1, lv8, hf', (by rw [hll.1, hpj]; congr 1; omega), Or.inr ⟨by omega, by omega, by omega⟩, g3, HR8, HRN2⟩
            case measure =>
              simp [intOf]
              unfold Room at hN
              omega
        · have HC2 := Lib.hid ((HC.out W6 HP.out).mono fun e w' h => h.no he)
          have hne : (e1 != 0) = true := by simpa using he
          have HE : Hid (R = ([], ⟨a1, d1, e1⟩)) := Lib.hid (by
            have := HRR.out
            rw [if_neg he] at this
            exact (Option.some.inj this).symm)
          clear HC HRR HP
          go_wp2_with fail
          refine (HC2.out).mono ?_; rintro e W7 ⟨v, rfl, ho⟩
          have HO3 := Lib.hid ho
          clear ho HC2
          go_wp2_with fail
          go_ret2
          rw [HE.out]
          exact ⟨fun e => absurd e he, fun _ => ⟨0, rfl, HO3.out⟩⟩
end Go.Proofs.Ythadkjgadhbidaa
/-
  The program's reader of patterns: pattern.
-/
namespace Go.Proofs.Ythadkjgadhbidaa
open Go.RowKit
set_option linter.unusedVariables false

def PaOk (F : Nat) (w0 : World) (B g : Nat) (s : ByteArray) (a d : Nat) (N : List Nd) (R : List Nd × Ps) (v v5 : Value) (wr : World) : Prop :=
  ∃ (f : Nat) (l : List Nd) (aa : Nat) (lv : Value), f ≤ F ∧ v = .int .i64 (plc N l) ∧ v5 = .int .i64 0 ∧ 0 < l.length ∧ l.length ≤ 2 * (aa - a) + 1 ∧ a ≤ aa ∧ aa ≤ s.size ∧ Hid (RP w0 wr B g s aa d lv (N ++ l.map (shiftNd (N.length : Int)))) ∧ Hid (altLoop (bs s) f l ⟨aa, d, 0⟩ = some R)
def PaNo (w0 : World) (R : List Nd × Ps) (v v5 : Value) (wr : World) : Prop :=
  ∃ (x c : Int), v = .int .i64 x ∧ v5 = .int .i64 c ∧ c ≠ 0 ∧ R.2.e = c ∧ Hid (Old w0 wr)
def PaRel (F : Nat) (w0 : World) (B g : Nat) (s : ByteArray) (a d : Nat) (N : List Nd) (R : List Nd × Ps) (v v5 : Value) (wr : World) : Prop := PaOk F w0 B g s a d N R v v5 wr ∨ PaNo w0 R v v5 wr
theorem altLoop_bad {B : List Nat} {f : Nat} {l : List Nd} {q : Ps} {R : List Nd × Ps} (h : altLoop B f l q = some R) (he : ¬ (moreP B q = true ∧ bAt B q = 124)) : R = (l, q) := by
  cases f with
  | zero => simp [altLoop] at h
  | succ f =>
    rw [altLoop, if_neg he] at h
    exact (Option.some.inj h).symm
set_option maxHeartbeats 8000000 in
set_option maxRecDepth 100000 in
theorem patG (F : Nat) (hA : ∀ k, k ≤ F → AltG k) : PatG (F + 1) := by
  intro w0 B g s a d lv0 N w R h hs ha hd hN hR
  rw [altP] at hR
  cases hq : catP (bs s) F ⟨a, d, 0⟩ with
  | none => rw [hq] at hR; cases hR
  | some lq =>
  rw [hq] at hR
  obtain ⟨l0, ⟨a0, d0, e0⟩⟩ := lq
  simp only at hR
  have hG : Good (bs s).length ⟨a, d, 0⟩ l0 ⟨a0, d0, e0⟩ 0 := (parse_good (bs s) F).2.2.1 ⟨a, d, 0⟩ (l0, ⟨a0, d0, e0⟩) ⟨rfl, by rw [bs_length]; exact ha, hd⟩ hq
  rw [bs_length] at hG
  have HG := Lib.hid hG
  have HC := Lib.hid (hA F (Nat.le_refl _) w0 B g s a d lv0 N w (l0, ⟨a0, d0, e0⟩) h hs ha hd hN hq)
  have HRR := Lib.hid hR
  have HPT := Lib.hid (fun k hk w0 B g s a d lv N w R h1 h2 h3 h4 h5 h6 => hA k hk w0 B g s a d lv N w R h1 h2 h3 h4 h5 h6)
  have HL0 : Hid (N.length ≤ 100000) := Lib.hid hN.len
  clear h hR hG hq hA
  go_enter Try.func78, Try.ntmps78
  have HSTART : Hid (∀ e w', GPost w0 B g s d N (l0, ⟨a0, d0, e0⟩) e w' → ∃ v v5, e = .returned (.tuple #[v, v5]) ∧ PaRel F w0 B g s a d N R v v5 w') := Lib.hid (by
    intro e w' hp
    by_cases he : e0 = 0
    · subst he
      obtain ⟨g1, g2, g3, g4, g5⟩ := HG.out.ok rfl
      replace g1 : d0 = d := g1
      subst g1
      obtain ⟨rfl, lv1, hr⟩ := hp.ok rfl
      exact ⟨_, _, rfl, Or.inl ⟨F, l0, a0, lv1, Nat.le_refl _, rfl, rfl, g4, g5, g2, g3, hr, HRR.out⟩⟩
    · obtain ⟨v, rfl, ho⟩ := hp.no he
      have hE : R = (l0, ⟨a0, d0, e0⟩) := altLoop_bad HRR.out (fun h => he ((moreP_iff _ _).1 h.1).1)
      exact ⟨_, _, rfl, Or.inr ⟨v, e0, rfl, rfl, he, by rw [hE], ho⟩⟩)
  have HC2 := Lib.hid (HC.out.mono fun e w' h => HSTART.out e w' h)
  clear HC HSTART HRR HG
  go_wp2_with fail
  refine (HC2.out).mono ?_; rintro e W1 ⟨v4, v5, rfl, hrel0⟩
  have HREL := Lib.hid hrel0
  clear hrel0 HC2
  go_wp2_with fail
  go_loopw [4, 5] (fun s4 s5 wr => PaRel F w0 B g s a d N R s4 s5 wr) (fun s4 s5 _ => 2 * (200000 - intOf s4).toNat + (if intOf s5 = 0 then 1 else 0))
  case atStart => exact HREL.out
  case round =>
    clear HREL
    rcases hrel with ⟨f, l, aa, lv, hf, rfl, rfl, hl0, hl2, hl3, haa, HP, HM⟩ | ⟨x, c, rfl, rfl, hc, hre, HO⟩
    · have hen := fun n => endedC w0 B g s aa d lv _ (wr.drewN n) (HP.out.drewN n) (by omega)
      by_cases hend : aa = s.size
      · have HE : Hid (R = (l, ⟨aa, d, 0⟩)) := Lib.hid (altLoop_bad HM.out (fun h => by have h2 := ((moreP_iff _ _).1 h.1).2; rw [bs_length] at h2; simp only at h2; omega))
        rw [decide_eq_true hend] at hen
        have HEN := Lib.hid hen
        clear hen hend HM
        go_wp2_with fail
        go_quiet ((go_at_call 79; exact Calls.quiet_of (HEN.out _)))
        have HPD := Lib.hid (HP.out.drewN nq)
        generalize wr.drewN nq = W6 at *
        clear HP HEN
        have HP := Lib.hid HPD.out
        clear HPD
        have HPF := Lib.hid HP.out
        clear HP
        go_wp2_with fail
        go_ret2
        rw [HE.out]
        exact ⟨fun _ => ⟨rfl, lv, HPF.out⟩, fun e => absurd rfl e⟩
      · have hlt : aa < s.size := by omega
        have HBB := Lib.hid (bs_get s aa hlt)
        have i3 : (0 : Int) ≤ (aa : Int) := by omega
        have i4 : (aa : Int) < (s.size : Int) := by omega
        have i5 : (s.size : Int) ≤ 10000 := by omega
        rw [decide_eq_false hend] at hen
        have HEN := Lib.hid hen
        clear hen hend
        obtain ⟨c0, c1, c2, c3, f1, f2, f3⟩ := HP.out.cells
        clear c2 c3 f1 f2 f3
        by_cases h124 : s[aa].toNat = 124
        · obtain ⟨f', hf', x, q, hq, hR⟩ : ∃ f', f' ≤ F ∧ ∃ x q, catP (bs s) f' ⟨aa + 1, d, 0⟩ = some (x, q) ∧ (if q.e = 0 then altLoop (bs s) f' (joinN 4 l x) q else some ([], q)) = some R := by
            have h := HM.out
            cases f with
            | zero => simp [altLoop] at h
            | succ f =>
              rw [altLoop, if_pos ⟨(moreP_iff _ _).2 ⟨rfl, by rw [bs_length]; exact hlt⟩, HBB.out.trans h124⟩, show upP ⟨aa, d, 0⟩ = (⟨aa + 1, d, 0⟩ : Ps) from rfl] at h
              cases hq : catP (bs s) f ⟨aa + 1, d, 0⟩ with
              | none => rw [hq] at h; cases h
              | some xq =>
                rw [hq] at h
                exact ⟨f, by omega, xq.1, xq.2, hq, h⟩
          have q1 : (((s[aa].toNat : Nat) : Int) == 124) = true := by simp; omega
          obtain ⟨a1, d1, e1⟩ := q
          have hG : Good (bs s).length ⟨aa + 1, d, 0⟩ x ⟨a1, d1, e1⟩ 0 := (parse_good (bs s) f').2.2.1 ⟨aa + 1, d, 0⟩ (x, ⟨a1, d1, e1⟩) ⟨rfl, by rw [bs_length]; show aa + 1 ≤ _; omega, hd⟩ hq
          rw [bs_length] at hG
          have HG := Lib.hid hG
          have hroom : Room s (aa + 1) (N ++ l.map (shiftNd (N.length : Int))) := by
            unfold Room at hN ⊢
            rw [List.length_append, List.length_map]
            omega
          have HC := Lib.hid (fun W h => HPT.out f' hf' w0 B g s (aa + 1) d lv (N ++ l.map (shiftNd (N.length : Int))) W (x, ⟨a1, d1, e1⟩) h hs (by omega) hd hroom hq)
          have HRR := Lib.hid hR
          clear h124 HM HBB hq hG hroom hR
          go_wp2_with fail
          go_quiet ((go_at_call 79; exact Calls.quiet_of (HEN.out _)))
          have HPD := Lib.hid (HP.out.drewN nq)
          generalize wr.drewN nq = W6 at *
          clear HP HEN
          have HP := Lib.hid HPD.out
          clear HPD
          clear q1 c0 c1
          obtain ⟨c0, c1, c2, c3, f1, f2, f3⟩ := HP.out.cells
          clear c0 c2 c3 f2 f3
          have HP1 : Hid (RP w0 (W6.setCell ⟨g, 1, none⟩ (.int .i64 ((aa : Int) + 1))) B g s (aa + 1) d lv (N ++ l.map (shiftNd (N.length : Int)))) := Lib.hid (by
            have := HP.out.at_ (aa + 1)
            rw [show ((aa + 1 : Nat) : Int) = (aa : Int) + 1 by omega] at this
            exact this)
          go_upto_region 4 with fail
          clear c1 f1 HP
          generalize W6.setCell ⟨g, 1, none⟩ (.int .i64 ((aa : Int) + 1)) = W5 at *
          by_cases he : e1 = 0
          · subst he
            obtain ⟨g1, g2, g3, g4, g5⟩ := HG.out.ok rfl
            replace g1 : d1 = d := g1
            replace g2 : aa + 1 ≤ a1 := g2
            replace g3 : a1 ≤ s.size := g3
            replace g5 : x.length + 0 ≤ 2 * (a1 - (aa + 1)) + 1 := g5
            subst g1
            have HC2 := Lib.hid ((HC.out W5 HP1.out).mono fun e w' h => h.ok rfl)
            have HRN : Hid (altLoop (bs s) f' (joinN 4 l x) ⟨a1, d1, 0⟩ = some R) := Lib.hid (by have := HRR.out; rwa [if_pos rfl] at this)
            clear HC HRR HP1 HG
            go_wp2_with fail
            refine (HC2.out).mono ?_; rintro e W7 ⟨rfl, lv7, hr⟩
            have HP7 := Lib.hid hr
            clear hr HC2
            have HSJ := Lib.hid (shift_join2 4 l x N.length (by decide) g4)
            have hlen : (N ++ l.map (shiftNd (N.length : Int))).length = N.length + l.length := by rw [List.length_append, List.length_map]
            have hpx : plc (N ++ l.map (shiftNd (N.length : Int))) x = (N.length : Int) + l.length + x.length - 1 := by unfold plc; rw [hlen]; push_cast; rfl
            rw [hlen] at HP7
            have hjl : (joinN 4 l x).length = l.length + x.length + 1 := join_len _ _ _
            have hpj : plc N (joinN 4 l x) = (N.length : Int) + l.length + x.length := by unfold plc; rw [hjl]; omega
            have HA := Lib.hid (addZ w0 B g s a1 d1 lv7 _ W7 HP7.out (by
              rw [List.length_append, List.length_append, List.length_map, List.length_map]
              unfold Room at hN
              omega) 4 (plc N l) ((N.length : Int) + l.length + x.length - 1))
            rw [hpx]
            have hpl : plc N l = (N.length : Int) + l.length - 1 := rfl
            clear hpx
            go_wp2_with fail
            refine (HA.out).mono ?_; rintro e W8 ⟨rfl, lv8, hr⟩
            have HR8 : Hid (RP w0 W8 B g s a1 d1 lv8 (N ++ (joinN 4 l x).map (shiftNd (N.length : Int)))) := Lib.hid (by
              rw [HSJ.out, ← List.append_assoc, ← List.append_assoc]
              exact hr)
            clear hr HA HP7 HSJ
            go_wp2_with fail
            go_roundw
            case rel => exact Or.inl ⟨f', joinN 4 l x, a1, lv8, hf', (by rw [hpj]; congr 1; omega), rfl, by omega, by omega, by omega, g3, HR8, HRN⟩
            case measure =>
              simp [intOf]
              unfold Room at hN
              omega
          · have HC2 := Lib.hid ((HC.out W5 HP1.out).mono fun e w' h => h.no he)
            have hne : (e1 == 0) = false := by simpa using he
            have HE : Hid (R.2.e = e1) := Lib.hid (by
              have := HRR.out
              rw [if_neg he] at this
              rw [← Option.some.inj this])
            clear HC HRR HP1
            go_wp2_with fail
            refine (HC2.out).mono ?_; rintro e W7 ⟨v, rfl, ho⟩
            have HO3 := Lib.hid ho
            clear ho HC2
            go_wp2_with fail
            go_roundw
            case rel => exact Or.inr ⟨_, e1, rfl, rfl, he, HE.out, HO3⟩
            case measure =>
              simp [intOf, he]
        · have HE : Hid (R = (l, ⟨aa, d, 0⟩)) := Lib.hid (altLoop_bad HM.out (fun h => h124 (HBB.out.symm.trans h.2)))
          have q1 : (((s[aa].toNat : Nat) : Int) == 124) = false := by simp; omega
          clear h124 HM HBB
          go_wp2_with fail
          go_quiet ((go_at_call 79; exact Calls.quiet_of (HEN.out _)))
          have HPD := Lib.hid (HP.out.drewN nq)
          generalize wr.drewN nq = W6 at *
          clear HP HEN
          have HP := Lib.hid HPD.out
          clear HPD
          clear q1 c0 c1
          have HPF := Lib.hid HP.out
          clear HP
          go_wp2_with fail
          go_ret2
          rw [HE.out]
          exact ⟨fun _ => ⟨rfl, lv, HPF.out⟩, fun e => absurd rfl e⟩
    · have hne : (c == 0) = false := by simpa using hc
      have HRE := Lib.hid hre
      have HC9 := Lib.hid hc
      clear hre hc
      go_wp2_with fail
      go_quiet (fail)
      go_wp2_with fail
      go_ret2
      exact ⟨fun e => absurd (HRE.out.symm.trans e) HC9.out, fun _ => ⟨x, by rw [HRE.out]; rfl, HO.out.drewN nq⟩⟩
end Go.Proofs.Ythadkjgadhbidaa
/-
  The walk of the reference's Parse.
-/
namespace Go.Proofs.Ythadkjgadhbidaa
open Go.RowKit
set_option linter.unusedVariables false

theorem all_ok : ∀ f : Nat, AltOK f ∧ CatOK f ∧ PartOK f ∧ AtomOK f := by
  intro f
  induction f using Nat.strongRecOn with
  | _ f ih =>
    cases f with
    | zero =>
      refine ⟨?_, ?_, ?_, ?_⟩
      · intro g s p R w _ _ _ h; simp [altP] at h
      · intro g s p R w _ _ _ h; simp [catP] at h
      · intro g s p R w _ _ _ _ h; simp [partP] at h
      · intro g s p R w _ _ _ _ h; simp [atomP] at h
    | succ f =>
      refine ⟨altC f (fun k hk => (ih k (by omega)).2.1), catC f (fun k hk => (ih k (by omega)).2.2.1), partC f (ih f (by omega)).2.2.2, ?_⟩
      intro g s p R w h1 h2 h3 h4 h5
      exact atomC f (ih f (by omega)).1 g s p R w h1 h2 h3 h4 h5
def ParsePost (w : World) (r : List Nd × Int) (e : Ending) (w' : World) : Prop := ∃ v, e = .returned (.tuple #[v, .int .i64 r.2]) ∧ Own w' w.heap.size 114 7 v r.1.length (ndsV r.1) ∧ Old w w'
theorem LB.start {w w' : World} {s : ByteArray} {q : Ps} {v : Value} {l : List Nd} {o : Obj} (h : LB (w.alloc o) s w.heap.size q v l w') : Own w' w.heap.size 114 7 v l.length (ndsV l) ∧ Old w w' := by
  refine ⟨h.ow.base (by simp), ?_⟩
  exact Below.grown ((Old.refl w).alloc o) h.gr (by simp) (by intro k hk; injection hk with hk; omega)
set_option maxHeartbeats 4000000 in
set_option maxRecDepth 100000 in
theorem parseC (f : Nat) (s : ByteArray) (r : List Nd × Int) (w : World) (hs : s.size ≤ 9223372036854775807) (hR : parseF f (bs s) = some r) : Calls Try.prog 22 #[.string s] w (ParsePost w r) := by
  unfold parseF at hR
  rw [bs_length] at hR
  by_cases hl : 128 < s.size
  · rw [if_pos hl] at hR
    have HE := Lib.hid (Option.some.inj hR).symm
    have hl2 : (128 : Int) < (s.size : Int) := by omega
    clear hR hl
    go_enter Try.func22, Try.ntmps22
    go_wp2_with fail
    refine bodyPost_ret (v := .tuple #[.slice none 0 0, .int .i64 1]) (by simp [results, Try.results22, go_sem]) rfl ?_
    rw [HE.out]
    exact ⟨_, rfl, Own.nil_ _ _ _ _, Old.refl _⟩
  rw [if_neg hl] at hR
  cases hq : altP (bs s) f ⟨0, 0, 0⟩ with
  | none => rw [hq] at hR; cases hR
  | some lp =>
  rw [hq] at hR
  obtain ⟨l, q⟩ := lp
  have hst : Start s.size ⟨0, 0, 0⟩ := ⟨rfl, Nat.zero_le _, Nat.zero_le _⟩
  have hP : (w.alloc (PzC s ⟨0, 0, 0⟩)).heap[w.heap.size]? = some (PzC s ⟨0, 0, 0⟩) := heap_alloc_new w _
  have hA := (all_ok f).1 w.heap.size s ⟨0, 0, 0⟩ (l, q) (w.alloc (PzC s ⟨0, 0, 0⟩)) hP (by omega) hst hq
  have hG : Good (bs s).length ⟨0, 0, 0⟩ l q 0 := (parse_good (bs s) f).1 ⟨0, 0, 0⟩ (l, q) (by rw [bs_length]; exact hst) hq
  rw [bs_length] at hG
  obtain ⟨a, d, e⟩ := q
  have hatb := hG.atb
  have hlen := hG.len
  simp only at hatb
  have hl2 : ¬ (128 : Int) < (s.size : Int) := by omega
  have hR2 : r = (if (if (if e = 0 ∧ a < s.size then failP ⟨a, d, e⟩ 83 else ⟨a, d, e⟩ : Ps).e = 0 ∧ 256 < l.length then failP (if e = 0 ∧ a < s.size then failP ⟨a, d, e⟩ 83 else ⟨a, d, e⟩) 1 else (if e = 0 ∧ a < s.size then failP ⟨a, d, e⟩ 83 else ⟨a, d, e⟩) : Ps).e = 0 then (l, 0) else ([], (if (if e = 0 ∧ a < s.size then failP ⟨a, d, e⟩ 83 else ⟨a, d, e⟩ : Ps).e = 0 ∧ 256 < l.length then failP (if e = 0 ∧ a < s.size then failP ⟨a, d, e⟩ 83 else ⟨a, d, e⟩) 1 else (if e = 0 ∧ a < s.size then failP ⟨a, d, e⟩ 83 else ⟨a, d, e⟩) : Ps).e)) := (Option.some.inj hR).symm
  have HR2 := Lib.hid hR2
  have HA := Lib.hid hA
  clear hA hR hR2 hG hq hst hP hl
  go_enter Try.func22, Try.ntmps22
  go_wp2_with fail
  refine (HA.out).mono ?_; rintro e V ⟨v, rfl, hL⟩
  go_upto_region 5 with fail
  obtain ⟨c0, c1, c2, c3, f1', f2', f3'⟩ := PzC_cells hL.pz
  simp only at c0 c1 c2 c3
  clear c0 c2 f1' f2' f3'
  obtain ⟨Al, cl, rfl, htl, _⟩ := hL.ow.shape
  clear htl
  by_cases he : e = 0
  · subst he
    by_cases hal : a < s.size
    · have HE : Hid (r = ([], 83)) := Lib.hid (by rw [HR2.out]; simp [hal, failP])
      have hd1 : decide (a < s.size) = true := decide_eq_true hal
      clear HR2 hal
      have HFL := Lib.hid (failC w.heap.size s ⟨a, d, 0⟩ 83 V hL.pz)
      go_wp2_with fail
      refine (HFL.out).mono ?_; rintro e X ⟨rfl, hp, hg2⟩
      have hL2 := hL.keep hp hg2
      have hfe : failP ⟨a, d, 0⟩ 83 = ⟨a, d, 83⟩ := rfl
      rw [hfe] at hL2
      clear hp hg2 HFL hL hfe
      clear c1 c3 hd1
      go_upto_region 7 with fail
      obtain ⟨c0, c1, c2, c3, f1', f2', f3'⟩ := PzC_cells hL2.pz
      simp only at c0 c1 c2 c3
      clear c0 c1 c2 f1' f2' f3'
      go_wp2_with fail
      go_quiet (fail)
      have hL3 := hL2.drewN nq
      clear c3
      go_wp2_with fail
      refine bodyPost_ret (v := .tuple #[.slice none 0 0, .int .i64 83]) (by simp [results, Try.results22, go_sem]) rfl ?_
      rw [HE.out]
      exact ⟨_, rfl, Own.nil_ _ _ _ _, hL3.start.2⟩
    · have hd1 : decide (a < s.size) = false := decide_eq_false hal
      by_cases hll : 256 < l.length
      · have HE : Hid (r = ([], 1)) := Lib.hid (by rw [HR2.out]; simp [hal, hll, failP])
        have hd2 : (256 : Int) < (l.length : Int) := by omega
        clear HR2 hal hll
        have HFL := Lib.hid (failC w.heap.size s ⟨a, d, 0⟩ 1 V hL.pz)
        go_wp2_with fail
        refine (HFL.out).mono ?_; rintro e X ⟨rfl, hp, hg2⟩
        have hL2 := hL.keep hp hg2
        have hfe : failP ⟨a, d, 0⟩ 1 = ⟨a, d, 1⟩ := rfl
        rw [hfe] at hL2
        clear hp hg2 HFL hL hfe
        clear c1 c3 hd1 hd2
        go_upto_region 9 with fail
        obtain ⟨c0, c1, c2, c3, f1', f2', f3'⟩ := PzC_cells hL2.pz
        simp only at c0 c1 c2 c3
        clear c0 c1 c2 f1' f2' f3'
        go_wp2_with fail
        go_quiet (fail)
        have hL3 := hL2.drewN nq
        clear c3
        go_wp2_with fail
        refine bodyPost_ret (v := .tuple #[.slice none 0 0, .int .i64 1]) (by simp [results, Try.results22, go_sem]) rfl ?_
        rw [HE.out]
        exact ⟨_, rfl, Own.nil_ _ _ _ _, hL3.start.2⟩
      · have HE : Hid (r = (l, 0)) := Lib.hid (by rw [HR2.out]; simp [hal, hll])
        have hd2 : ¬ (256 : Int) < (l.length : Int) := by omega
        clear HR2 hal hll
        go_wp2_with fail
        refine bodyPost_ret (v := .tuple #[.slice Al l.length cl, .int .i64 0]) (by simp [results, Try.results22, go_sem]) rfl ?_
        rw [HE.out]
        exact ⟨_, rfl, hL.start⟩
  · have HE : Hid (r = ([], e)) := Lib.hid (by rw [HR2.out]; simp [he])
    have hd1 : (e == 0) = false := by simpa using he
    have hd2 : (e != 0) = true := by simpa using he
    clear HR2 he
    have hL2 := hL
    clear hL c1 c3
    obtain ⟨c0, c1, c2, c3, f1', f2', f3'⟩ := PzC_cells hL2.pz
    simp only at c0 c1 c2 c3
    clear c0 c1 c2 f1' f2' f3'
    go_wp2_with fail
    go_quiet (fail)
    have hL3 := hL2.drewN nq
    clear c3
    go_wp2_with fail
    refine bodyPost_ret (v := .tuple #[.slice none 0 0, .int .i64 e]) (by simp [results, Try.results22, go_sem]) rfl ?_
    rw [HE.out]
    exact ⟨_, rfl, Own.nil_ _ _ _ _, hL3.start.2⟩
end Go.Proofs.Ythadkjgadhbidaa
/-
  The program's Parse gives what the reference's reader gives.
-/
namespace Go.Proofs.Ythadkjgadhbidaa
open Go.RowKit
set_option linter.unusedVariables false

def ClN (l : List Nd) : Prop := ∀ x ∈ l, shiftNd 0 x = x
theorem ClN.nil_ : ClN [] := fun x h => by cases h
theorem ClN.leaf (k : Int) (z : BSet) (hk : kidsN k = 0) : ClN (leafN k z) := by
  intro x hx
  simp [leafN] at hx
  subst hx
  simp [shiftNd, shiftN, hk]
theorem ClN.join1 {k : Int} {l : List Nd} (hk : kidsN k = 1) (hl : ClN l) : ClN (joinN k l []) := by
  intro x hx
  unfold joinN at hx
  rcases List.mem_append.mp hx with hx | hx
  · rcases List.mem_append.mp hx with hx | hx
    · exact hl x hx
    · simp at hx
  · simp at hx
    subst hx
    simp [shiftNd, shiftN, hk]
theorem ClN.join2 {k : Int} {l r : List Nd} (hk : kidsN k = 2) (hl : ClN l) : ClN (joinN k l r) := by
  intro x hx
  unfold joinN at hx
  rcases List.mem_append.mp hx with hx | hx
  · rcases List.mem_append.mp hx with hx | hx
    · exact hl x hx
    · obtain ⟨y, hy, rfl⟩ := List.mem_map.mp hx
      rw [shiftNd_shiftNd]
      congr 1
      omega
  · simp at hx
    subst hx
    simp [shiftNd, shiftN, hk]
theorem parse_clean (B : List Nat) : ∀ f : Nat,
    (∀ p R, altP B f p = some R → ClN R.1) ∧ (∀ l p R, ClN l → altLoop B f l p = some R → ClN R.1) ∧ (∀ p R, catP B f p = some R → ClN R.1) ∧
    (∀ l p R, ClN l → catLoop B f l p = some R → ClN R.1) ∧ (∀ p R, partP B f p = some R → ClN R.1) ∧ (∀ l p R, ClN l → partLoop B f l p = some R → ClN R.1) ∧
    (∀ p R, atomP B f p = some R → ClN R.1) := by
  intro f
  induction f with
  | zero =>
    refine ⟨?_, ?_, ?_, ?_, ?_, ?_, ?_⟩
    · intro p R h; simp [altP] at h
    · intro l p R _ h; simp [altLoop] at h
    · intro p R h; simp [catP] at h
    · intro l p R _ h; simp [catLoop] at h
    · intro p R h; simp [partP] at h
    · intro l p R _ h; simp [partLoop] at h
    · intro p R h; simp [atomP] at h
  | succ f ih =>
    obtain ⟨iAlt, iAltL, iCat, iCatL, iPart, iPartL, iAtom⟩ := ih
    refine ⟨?_, ?_, ?_, ?_, ?_, ?_, ?_⟩
    · intro p R h
      rw [altP] at h
      split at h
      · cases h
      · rename_i l q hq
        exact iAltL l q R (iCat p (l, q) hq) h
    · intro l p R hl h
      rw [altLoop] at h
      split at h
      · split at h
        · cases h
        · rename_i x q hq
          split at h
          · exact iAltL _ q R (ClN.join2 (by decide) hl) h
          · injection h with h; subst h; exact ClN.nil_
      · injection h with h; subst h; exact hl
    · intro p R h
      rw [catP] at h
      exact iCatL [] p R ClN.nil_ h
    · intro l p R hl h
      rw [catLoop] at h
      split at h
      · split at h
        · cases h
        · rename_i x q hq
          split at h
          · refine iCatL _ q R ?_ h
            split
            · exact iPart _ (x, q) hq
            · exact ClN.join2 (by decide) hl
          · injection h with h; subst h; exact ClN.nil_
      · injection h with h; subst h
        show ClN (if l.length = 0 then leafN 1 0 else l)
        split
        · exact ClN.leaf _ _ (by decide)
        · exact hl
    · intro p R h
      rw [partP] at h
      split at h
      · cases h
      · rename_i l q hq
        exact iPartL l q R (iAtom p (l, q) hq) h
    · intro l p R hl h
      rw [partLoop] at h
      split at h
      · split at h
        · exact iPartL _ _ R (ClN.join1 (by decide) hl) h
        · split at h
          · exact iPartL _ _ R (ClN.join1 (by decide) hl) h
          · split at h
            · exact iPartL _ _ R (ClN.join1 (by decide) hl) h
            · injection h with h; subst h; exact hl
      · injection h with h; subst h; exact hl
    · intro p R h
      rw [atomP] at h
      simp only at h
      split at h
      · injection h with h; subst h; exact ClN.leaf _ _ (by decide)
      split at h
      · injection h with h; subst h; exact ClN.leaf _ _ (by decide)
      split at h
      · injection h with h; subst h; exact ClN.leaf _ _ (by decide)
      split at h
      · injection h with h; subst h; exact ClN.leaf _ _ (by decide)
      split at h
      · split at h
        · cases h
        · rename_i s r hq
          injection h with h; subst h; exact ClN.leaf _ _ (by decide)
      split at h
      · injection h with h; subst h; exact ClN.leaf _ _ (by decide)
      split at h
      · injection h with h; subst h; exact ClN.leaf _ _ (by decide)
      split at h
      · split at h
        · injection h with h; subst h; exact ClN.nil_
        · split at h
          · cases h
          · rename_i l r hq
            injection h with h; subst h; exact iAlt _ (l, r) hq
      · injection h with h; subst h; exact ClN.leaf _ _ (by decide)
theorem ClN.map_ {l : List Nd} (h : ClN l) : l.map (shiftNd 0) = l := by
  rw [List.map_congr_left (g := id) (fun x hx => h x hx), List.map_id]
theorem all_g : ∀ f : Nat, PatG f ∧ AltG f ∧ PartG f ∧ AtomG f := by
  intro f
  induction f using Nat.strongRecOn with
  | _ f ih =>
    cases f with
    | zero =>
      refine ⟨?_, ?_, ?_, ?_⟩
      · intro w0 B g s a d lv N w R _ _ _ _ _ h; simp [altP] at h
      · intro w0 B g s a d lv N w R _ _ _ _ _ h; simp [catP] at h
      · intro w0 B g s a d lv N w R _ _ _ _ _ h; simp [partP] at h
      · intro w0 B g s a d lv N w R _ _ _ _ _ h; simp [atomP] at h
    | succ f =>
      exact ⟨patG f (fun k hk => (ih k (by omega)).2.1), altG f (fun k hk => (ih k (by omega)).2.2.1), partG f (ih f (by omega)).2.2.2, atomG f (ih f (by omega)).1⟩
theorem RP.begin (s : ByteArray) (w : World) : RP w (w.alloc (pzO s 0 0 (.slice none 0 0))) (w.heap.size + 1) w.heap.size s 0 0 (.slice none 0 0) [] :=
  ⟨(Old.refl w).alloc _, heap_alloc_new w _, Own.nil_ _ _ _ _, Nat.le_refl _, by omega, by simp⟩
set_option maxHeartbeats 8000000 in
set_option maxRecDepth 100000 in
theorem parseG (f : Nat) (s : ByteArray) (r : List Nd × Int) (w : World) (hR : parseF f (bs s) = some r) : Calls Try.prog 56 #[.string s] w (ParsePost w r) := by
  unfold parseF at hR
  rw [bs_length] at hR
  by_cases hl : 128 < s.size
  · rw [if_pos hl] at hR
    have HE := Lib.hid (Option.some.inj hR).symm
    have HO := Lib.hid (Old.refl w)
    have hl2 : (128 : Int) < (s.size : Int) := by omega
    clear hR hl
    go_enter Try.func56, Try.ntmps56
    go_wp2_with fail
    go_ret2
    rw [HE.out]
    exact ⟨_, rfl, Own.nil_ _ _ _ _, HO.out⟩
  rw [if_neg hl] at hR
  cases hq : altP (bs s) f ⟨0, 0, 0⟩ with
  | none => rw [hq] at hR; cases hR
  | some lp =>
  rw [hq] at hR
  obtain ⟨l, ⟨a, d, e⟩⟩ := lp
  have hA := (all_g f).1 w (w.heap.size + 1) w.heap.size s 0 0 (.slice none 0 0) [] (w.alloc (pzO s 0 0 (.slice none 0 0))) (l, ⟨a, d, e⟩) (RP.begin s w) (by omega) (Nat.zero_le _) (Nat.zero_le _) (by unfold Room; simp; omega) hq
  have hG : Good (bs s).length ⟨0, 0, 0⟩ l ⟨a, d, e⟩ 0 := (parse_good (bs s) f).1 ⟨0, 0, 0⟩ (l, ⟨a, d, e⟩) ⟨rfl, Nat.zero_le _, Nat.zero_le _⟩ hq
  rw [bs_length] at hG
  have hcl := ((parse_clean (bs s) f).1 ⟨0, 0, 0⟩ (l, ⟨a, d, e⟩) hq).map_
  have hl2 : ¬ (128 : Int) < (s.size : Int) := by omega
  have hR2 : r = (if (if (if e = 0 ∧ a < s.size then failP ⟨a, d, e⟩ 83 else ⟨a, d, e⟩ : Ps).e = 0 ∧ 256 < l.length then failP (if e = 0 ∧ a < s.size then failP ⟨a, d, e⟩ 83 else ⟨a, d, e⟩) 1 else (if e = 0 ∧ a < s.size then failP ⟨a, d, e⟩ 83 else ⟨a, d, e⟩) : Ps).e = 0 then (l, 0) else ([], (if (if e = 0 ∧ a < s.size then failP ⟨a, d, e⟩ 83 else ⟨a, d, e⟩ : Ps).e = 0 ∧ 256 < l.length then failP (if e = 0 ∧ a < s.size then failP ⟨a, d, e⟩ 83 else ⟨a, d, e⟩) 1 else (if e = 0 ∧ a < s.size then failP ⟨a, d, e⟩ 83 else ⟨a, d, e⟩) : Ps).e)) := (Option.some.inj hR).symm
  have HR2 := Lib.hid hR2
  have HA := Lib.hid hA
  have HG := Lib.hid hG
  have HCL := Lib.hid hcl
  have hsz : s.size ≤ 128 := by omega
  clear hA hR hR2 hG hq hl hcl
  unfold pzO at HA
  go_enter Try.func56, Try.ntmps56
  by_cases he : e = 0
  · subst he
    obtain ⟨g1, g2, g3, g4, g5⟩ := HG.out.ok rfl
    replace g1 : d = 0 := g1
    replace g3 : a ≤ s.size := g3
    subst g1
    have HA2 := Lib.hid (HA.out.mono fun e w' h => h.ok rfl)
    clear HA
    go_wp2_with fail
    refine (HA2.out).mono ?_; rintro e V ⟨rfl, lv, hr⟩
    have HP : Hid (RP w V (w.heap.size + 1) w.heap.size s a 0 lv l) := Lib.hid (by
      have h2 : l.map (shiftNd 0) = l := HCL.out
      have := hr
      simp only [List.nil_append, List.length_nil] at this
      rw [show (((0 : Nat) : Int)) = 0 from rfl, h2] at this
      exact this)
    have hen := endedC w (w.heap.size + 1) w.heap.size s a 0 lv l V HP.out (by omega)
    clear hr HA2 HCL HG
    by_cases hend : a = s.size
    · rw [decide_eq_true hend] at hen
      have HEN := Lib.hid hen
      clear hen
      obtain ⟨Al, cl, rfl, _, _, _⟩ := HP.out.own.shape
      by_cases hll : 256 < l.length
      · have HE : Hid (r = ([], 1)) := Lib.hid (by rw [HR2.out]; simp [hll, hend, failP])
        have hl3 : (256 : Int) < (l.length : Int) := by omega
        clear HR2 hend hll
        go_wp2_with fail
        refine (HEN.out).mono ?_; rintro e W2 ⟨rfl, n2, rfl⟩
        have HP2 := Lib.hid (HP.out.drewN n2)
        generalize V.drewN n2 = W3 at *
        have HO := Lib.hid HP2.out.old
        obtain ⟨_, _, _, c3, _, _, _⟩ := HP2.out.cells
        clear HP HEN
        go_wp2_with fail
        go_ret2
        rw [HE.out]
        exact ⟨_, rfl, Own.nil_ _ _ _ _, HO.out⟩
      · have HE : Hid (r = (l, 0)) := Lib.hid (by rw [HR2.out]; simp [hll, hend])
        have hl3 : ¬ (256 : Int) < (l.length : Int) := by omega
        clear HR2 hend hll
        go_wp2_with fail
        refine (HEN.out).mono ?_; rintro e W2 ⟨rfl, n2, rfl⟩
        have HP2 := Lib.hid (HP.out.drewN n2)
        generalize V.drewN n2 = W3 at *
        have HO := Lib.hid HP2.out.old
        obtain ⟨_, _, _, c3, _, _, _⟩ := HP2.out.cells
        clear HP HEN
        go_wp2_with fail
        go_ret2
        rw [HE.out]
        exact ⟨_, rfl, HP2.out.own.base (by omega), HO.out⟩
    · have HE : Hid (r = ([], 83)) := Lib.hid (by
        have : a < s.size := by omega
        rw [HR2.out]; simp [this, failP])
      rw [decide_eq_false hend] at hen
      have HEN := Lib.hid hen
      clear hen hend HR2
      go_wp2_with fail
      refine (HEN.out).mono ?_; rintro e W2 ⟨rfl, n2, rfl⟩
      have HO := Lib.hid (HP.out.drewN n2).old
      generalize V.drewN n2 = W3 at *
      clear HP HEN
      go_wp2_with fail
      go_ret2
      rw [HE.out]
      exact ⟨_, rfl, Own.nil_ _ _ _ _, HO.out⟩
  · have HE : Hid (r = ([], e)) := Lib.hid (by rw [HR2.out]; simp [he])
    have HA2 := Lib.hid (HA.out.mono fun e w' h => h.no he)
    have hne : (e != 0) = true := by simpa using he
    clear HA HR2
    go_wp2_with fail
    refine (HA2.out).mono ?_; rintro e V ⟨v9, rfl, ho⟩
    have HO := Lib.hid ho
    clear ho HA2
    go_wp2_with fail
    go_ret2
    rw [HE.out]
    exact ⟨_, rfl, Own.nil_ _ _ _ _, HO.out⟩
end Go.Proofs.Ythadkjgadhbidaa
/-
  The walk of Play (matcher).
-/
namespace Go.Proofs.Ythadkjgadhbidaa
open Go.RowKit
set_option linter.unusedVariables false

/-- Chunks in memory. -/
structure ChR (w : World) (A : Option Addr) (cs : List (List Nat)) (ad : Nat → Option Addr) (cp : Nat → Nat) : Prop where
  outer : Rs w A ((List.range cs.length).map fun j => .slice (ad j) (cs.getD j []).length (cp j))
  rows : ∀ j, j < cs.length → Rs w (ad j) (txt (cs.getD j []))
theorem ChR.up {w w' : World} {A : Option Addr} {cs : List (List Nat)} {ad : Nat → Option Addr} {cp : Nat → Nat} (h : ChR w A cs ad cp) (ho : Old w w') : ChR w' A cs ad cp := ⟨h.outer.up ho, fun j hj => (h.rows j hj).up ho⟩
def PlayPost (w : World) (s : ByteArray) (cs : List (List Nat)) (e : Ending) (w' : World) : Prop :=
  (∀ n c, parseR (bs s) = (n, c) → e = .returned (.tuple #[.int .i64 (if c = 0 then (playM (rfirstM n cs.flatten) cs).1 else 0), .int .i64 (if c = 0 then (playM (rfirstM n cs.flatten) cs).2 else 0), .int .i64 c])) ∧ Old w w'
def PlayOut (w2 : World) (B g gm : Nat) (st : List Nd) (A : Option Addr) (c : Nat) (t : List Nat) (R : Int) (i : Nat) (wr : World) : Prop :=
  ∃ lv L, Hid (MK w2 wr B g gm st A c lv (bolT t i) i false L L) ∧ Hid (ndone st L = false) ∧ Hid (Spots st.length L) ∧ Hid (nrunA st t (t.length - i) i L = R)
def PlJ (w2 : World) (B g gm : Nat) (st : List Nd) (A : Option Addr) (c : Nat) (cs : List (List Nat)) (R : Int) (v : Value) (wr : World) : Prop :=
  ∃ j : Nat, v = .int .i64 j ∧ j ≤ cs.length ∧ PlayOut w2 B g gm st A c cs.flatten R (baseC cs j) wr
def PlK (w2 : World) (B g gm : Nat) (st : List Nd) (A : Option Addr) (c : Nat) (cs : List (List Nat)) (R : Int) (j : Nat) (chk : List Nat) (v : Value) (wr : World) : Prop :=
  ∃ k : Nat, v = .int .i64 k ∧ k ≤ chk.length ∧ PlayOut w2 B g gm st A c cs.flatten R (baseC cs j + k) wr
theorem range_at {α : Type} {n i : Nat} (F : Nat → α) (h : i < n) : ((List.range n).map F)[i]? = some (F i) := by simp [h]
theorem play_at {R : Int} {i j : Nat} {cs : List (List Nat)} (hR : R = (i : Int) + 1) (hi : chunkIdx cs i = j) : playM R cs = ((j : Int), (i : Int) + 1) := by
  subst hR
  unfold playM
  rw [if_neg (by omega), if_neg (by omega), show ((i : Int) + 1 - 1).toNat = i by omega, hi]
set_option maxHeartbeats 8000000 in
set_option maxRecDepth 100000 in
theorem mplayC (s : ByteArray) (Ac : Option Addr) (cc : Nat) (cs : List (List Nat)) (ad : Nat → Option Addr) (cp : Nat → Nat) (w : World) (hc : ChR w Ac cs ad cp) (hb : ∀ x ∈ cs.flatten, x < 256) (hl : cs.flatten.length < 1000000000) (hl2 : cs.length < 1000000000) :
    Calls Try.prog 26 #[.string s, .slice Ac cs.length cc] w (PlayPost w s cs) := by
  have HC := Lib.hid hc
  have HB := Lib.hid hb
  have HL := Lib.hid hl
  have HL2 := Lib.hid hl2
  have HP := Lib.hid (parseG (6 * (bs s).length + 6) s (parseR (bs s)) w (parseR_eq _))
  have htr := fun n (h : parseR (bs s) = (n, 0)) => parse_tr (l := n) (h ▸ parseR_eq (bs s))
  have hset := parseR_sets (B := bs s) (fun x hx => by unfold bs at hx; obtain ⟨y, _, rfl⟩ := List.mem_map.mp hx; exact y.toNat_lt)
  obtain ⟨⟨n, c⟩, hr⟩ : ∃ r, parseR (bs s) = r := ⟨_, rfl⟩
  have HRR := Lib.hid hr
  rw [hr] at HP htr hset
  have HTR := Lib.hid (htr n)
  have HSET := Lib.hid hset
  clear hc hb hl hl2 htr hset hr
  go_enter Try.func26, Try.ntmps26
  go_wp2_with fail
  refine (HP.out).mono ?_; rintro e w1 ⟨v1, rfl, ho1, hd1⟩
  obtain ⟨A1, c1, rfl, ht1, _, _⟩ := ho1.shape
  have HN1 := Lib.hid ht1.rs
  have HD1 := Lib.hid hd1
  clear ho1 ht1 hd1 HP
  by_cases h0 : c = 0
  case neg =>
    have hb0 : (c != 0) = true := by simpa using h0
    have HPO : Hid (∀ w', Old w w' → PlayPost w s cs (.returned (.tuple #[.int .i64 0, .int .i64 0, .int .i64 c])) w') := Lib.hid (fun w' ho => ⟨fun n' c' h => by rw [HRR.out] at h; injection h with h1 h2; subst h2; rw [if_neg h0, if_neg h0], ho⟩)
    clear h0
    go_wp2_with fail
    refine bodyPost_ret (v := .tuple #[.int .i64 0, .int .i64 0, .int .i64 c]) (by simp [results, Try.results26, go_sem]) rfl ?_
    exact HPO.out _ HD1.out
  subst h0
  obtain ⟨htr, hln, _⟩ := HTR.out rfl
  have hv := Tr.valid htr hln
  have HCC := Lib.hid (ncompC A1 c1 n w1 HN1.out (by unfold maxLen; omega) HSET.out)
  obtain ⟨_, hsv, _, _, _⟩ := pcomp_ok hv
  have HRUN : Hid (nrunF (pcompM n) cs.flatten (cs.flatten.length + 1) 0 [] = rfirstM n cs.flatten) := Lib.hid (by have := pcomp_run hv cs.flatten; unfold nrunM at this; rw [if_pos hsv] at this; exact this)
  have HSV := Lib.hid hsv
  have HVV := Lib.hid hv
  clear htr hln hv hsv HTR HSET HN1
  go_wp2_with fail
  refine (HCC.out).mono ?_; rintro e w2 ⟨q1, _, hd2⟩
  obtain ⟨v2, rfl, how⟩ := q1 HVV.out
  clear q1 HCC
  generalize pcompM n = st at *
  obtain ⟨A2, c2, rfl, ht2, _, _⟩ := how.shape
  have HNW := Lib.hid (mnewC A2 c2 st w2 ht2.rs HSV.out)
  have HD2 := Lib.hid (HD1.out.up hd2)
  clear how ht2 hd2 HD1
  go_wp2_with fail
  refine (HNW.out).mono ?_; rintro e w3 ⟨g, gm, B, lv, rfl, hm⟩
  have HM := Lib.hid hm
  clear hm HNW
  have hR := HRUN.out
  rw [nrunF_A] at hR
  have HR0 : Hid (nrunA st cs.flatten cs.flatten.length 0 (nspread st true false (enterM [] 0)) = rfirstM n cs.flatten) := Lib.hid hR
  have HPO : Hid (∀ w' (a b : Int), Old w w' → playM (rfirstM n cs.flatten) cs = (a, b) → PlayPost w s cs (.returned (.tuple #[.int .i64 a, .int .i64 b, .int .i64 0])) w') := Lib.hid (fun w' a b ho hab => ⟨fun n' c' h => by
    rw [HRR.out] at h
    injection h with h1 h2
    subst h1
    subst h2
    rw [if_pos rfl, if_pos rfl, hab], ho⟩)
  have HSP : Hid (Spots st.length (nspread st true false (enterM [] 0))) := Lib.hid (Spots.nspreadF HSV.out _ _ _ ((Spots.nil _).enter (by have := (svalid_ok HSV.out).1; omega)))
  clear hR HRUN HRR HVV
  generalize rfirstM n cs.flatten = R at *
  generalize nspread st true false (enterM [] 0) = L0 at *
  obtain ⟨_, _, _, _, _, y5⟩ := HM.out.cells
  cases hd : ndone st L0 with
  | true =>
    rw [hd] at y5
    have hR : R = 0 := by have := HR0.out; unfold nrunA at this; rw [if_pos hd] at this; simpa using this.symm
    subst hR
    have HX := Lib.hid (HPO.out w3 (-1) 0 (HD2.out.up HM.out.old) rfl)
    clear hd HPO HR0
    go_wp2_with fail
    refine bodyPost_ret (v := .tuple #[.int .i64 (-1), .int .i64 0, .int .i64 0]) (by simp [results, Try.results26, go_sem]) rfl ?_
    exact HX.out
  | false =>
    rw [hd] at y5
    have HST : Hid (PlJ w2 B g gm st A2 c2 cs R (.int .i64 0) w3) := Lib.hid ⟨0, rfl, Nat.zero_le _, lv, L0, Lib.hid (by have := HM.out; rw [hd] at this; exact this), Lib.hid hd, HSP, Lib.hid (by rw [show baseC cs 0 = 0 from rfl]; exact HR0.out)⟩
    clear hd HM HSP HR0
    go_wp2_with fail
    go_loopw [39] (fun s39 wr => PlJ w2 B g gm st A2 c2 cs R s39 wr) (fun s39 _ => cs.length - (intOf s39).toNat)
    case atStart => exact HST.out
    case round =>
      clear HST
      obtain ⟨j, rfl, hj, lvj, Lj, HMJ, HDJ, HSJ, HUJ⟩ := hrel
      have hl2 := HL2.out
      by_cases hlt : j < cs.length
      · have i1 : (j : Int) < (cs.length : Int) := by omega
        have i0 : (0 : Int) ≤ (j : Int) := by omega
        obtain ⟨bA, oA, rfl, _, hcA⟩ := (HC.out.up (HD2.out.up HMJ.out.old)).outer.at_ (by simp; omega)
        have cA := hcA j _ (range_at _ hlt)
        clear hcA
        have HRW := Lib.hid (fun w' (h : Old w w') => (HC.out.up h).rows j hlt)
        have HFG := Lib.hid (fun k (hk : k < (cs.getD j []).length) => flat_get cs j k hlt hk)
        have HBS := Lib.hid (baseC_succ cs j hlt)
        generalize ad j = aj at *
        generalize cs.getD j [] = chk at *
        go_wp2_with fail
        go_loopw [46] (fun s46 wr => PlK w2 B g gm st A2 c2 cs R j chk s46 wr) (fun s46 _ => chk.length - (intOf s46).toNat)
        case atStart => exact ⟨0, rfl, Nat.zero_le _, lvj, Lj, HMJ, HDJ, HSJ, HUJ⟩
        case round =>
          clear HMJ HDJ HSJ HUJ cA
          obtain ⟨k, rfl, hk, lvk, Lk, HMK, HDK, HSK, HUK⟩ := hrel
          have hlf := HL.out
          by_cases hltk : k < chk.length
          · have k1 : (k : Int) < (chk.length : Int) := by omega
            have k0 : (0 : Int) ≤ (k : Int) := by omega
            obtain ⟨bR, oR, rfl, _, hcR⟩ := (HRW.out wr (HD2.out.up HMK.out.old)).at_ (by rw [txt_length]; omega)
            have cK := hcR k _ (txt_get _ k hltk)
            obtain ⟨h1, h2, h3⟩ := HFG.out k hltk
            have HIX := Lib.hid h2
            have hmm := HMK.out
            rw [← HDK.out] at hmm
            have hch : chk.getD k 0 < 256 := by
              rw [← h1]
              refine HB.out _ ?_
              rw [List.getD_eq_getElem?_getD, List.getElem?_eq_getElem h3]
              exact List.getElem_mem h3
            have hF := mfeedC w2 B g gm st A2 c2 lvk (bolT cs.flatten (baseC cs j + k)) (baseC cs j + k) Lk wr hmm HSV.out HSK.out (by omega) (chk.getD k 0) hch
            have hU := HUK.out
            rw [show cs.flatten.length - (baseC cs j + k) = (cs.flatten.length - (baseC cs j + (k + 1))) + 1 by omega] at hU
            obtain ⟨g1, g2⟩ := feed_step HDK.out h3 hU
            rw [h1] at g1 g2
            have HG1 := Lib.hid g1
            have HG2 := Lib.hid g2
            have HFF := Lib.hid hF
            have HBN : Hid (bolT cs.flatten (baseC cs j + (k + 1)) = (chk.getD k 0 == 10)) := Lib.hid (by rw [← Nat.add_assoc, bolT_next, h1])
            have HS1 := Lib.hid (HSK.out.mL1 HSV.out (bol := bolT cs.flatten (baseC cs j + k)) (ch := chk.getD k 0))
            have hll := HL.out
            clear hmm hch hF hU g1 g2 h1 h2 hcR HUK HDK HMK
            generalize chk.getD k 0 = ch at *
            go_wp2_with fail
            refine (HFF.out).mono ?_; rintro e w4 ⟨rfl, f1, f2⟩
            clear HFF cK
            cases hq : ndone st (mL1 st (bolT cs.flatten (baseC cs j + k)) ch Lk) with
            | true =>
              obtain ⟨lv4, hm4, _⟩ := f1 hq
              have hR : R = ((baseC cs j + k : Nat) : Int) + 1 := HG1.out hq
              have HOO := Lib.hid (HD2.out.up hm4.old)
              obtain ⟨_, _, _, _, z4, z5⟩ := hm4.cells
              clear hq f1 f2 hm4 HG1 HG2
              have HX := Lib.hid (fun w' (h : Old w w') => HPO.out w' (j : Int) (((baseC cs j + k : Nat) : Int) + 1) h (play_at hR HIX.out))
              clear HPO hR
              go_upto_region 18 with fail
              go_quiet (fail)
              go_wp2_with fail
              refine bodyPost_ret (v := .tuple #[.int .i64 (j : Int), .int .i64 (((baseC cs j + k : Nat) : Int) + 1), .int .i64 0]) (by simp [results, Try.results26, go_sem]) rfl ?_
              exact HX.out _ (HOO.out.drewN _)
            | false =>
              obtain ⟨lv4, hm4, _⟩ := f2 hq
              obtain ⟨gU, gR⟩ := HG2.out hq
              cases hq2 : ndone st (mL2 st (bolT cs.flatten (baseC cs j + k)) ch Lk) with
              | true =>
                have hR : R = ((baseC cs j + k : Nat) : Int) + 1 := gR hq2
                rw [hq2] at hm4
                have HOO := Lib.hid (HD2.out.up hm4.old)
                obtain ⟨_, _, _, _, z4, z5⟩ := hm4.cells
                clear hq hq2 f1 f2 hm4 HG1 HG2 gU gR
                have HX := Lib.hid (fun w' (h : Old w w') => HPO.out w' (j : Int) (((baseC cs j + k : Nat) : Int) + 1) h (play_at hR HIX.out))
                clear HPO hR
                go_upto_region 18 with fail
                go_quiet (fail)
                go_wp2_with fail
                refine bodyPost_ret (v := .tuple #[.int .i64 (j : Int), .int .i64 (((baseC cs j + k : Nat) : Int) + 1), .int .i64 0]) (by simp [results, Try.results26, go_sem]) rfl ?_
                exact HX.out _ (HOO.out.drewN _)
              | false =>
                rw [hq2] at hm4
                obtain ⟨_, _, _, _, z4, z5⟩ := hm4.cells
                have HW : Hid (PlK w2 B g gm st A2 c2 cs R j chk (.int .i64 ((k + 1 : Nat) : Int)) w4) := Lib.hid ⟨k + 1, rfl, hltk, lv4, _, Lib.hid (by rw [HBN.out]; exact hm4), Lib.hid hq2, Lib.hid (Spots.nspreadF HSV.out _ _ _ ((Spots.nstep HSV.out _ HS1.out).enter (by have := (svalid_ok HSV.out).1; omega))), Lib.hid gU⟩
                clear hq hq2 f1 f2 hm4 HG1 HG2 gU gR HS1
                go_wp2_with fail
                go_roundw
                case rel => exact HW.out
                case measure => simp [intOf]; omega
          · have HW : Hid (PlJ w2 B g gm st A2 c2 cs R (.int .i64 ((j + 1 : Nat) : Int)) wr) := Lib.hid ⟨j + 1, rfl, hlt, lvk, Lk, by rw [HBS.out, show chk.length = k by omega]; exact ⟨HMK, HDK, HSK, HUK⟩⟩
            have hke : ¬ (k : Int) < (chk.length : Int) := by omega
            clear HMK HDK HSK HUK
            go_wp2_with fail
            go_roundw
            case rel => exact HW.out
            case measure => simp [intOf]; omega
      · obtain rfl : j = cs.length := by omega
        have hR : R = -1 := by
          have h5 := HUJ.out
          rw [baseC_all] at h5
          exact end_step HDJ.out h5
        subst hR
        have HX := Lib.hid (HPO.out wr (cs.length : Int) (-1) (HD2.out.up HMJ.out.old) rfl)
        clear HPO HUJ HDJ HMJ
        go_wp2_with fail
        refine bodyPost_ret (v := .tuple #[.int .i64 (cs.length : Int), .int .i64 (-1), .int .i64 0]) (by simp [results, Try.results26, go_sem]) rfl ?_
        exact HX.out
end Go.Proofs.Ythadkjgadhbidaa
/-
  How output is divided: the number of bytes stays the same; the first chunks. No program in sight.
-/
namespace Go.Proofs.Ythadkjgadhbidaa
open Go.RowKit
set_option linter.unusedVariables false

theorem rfirst_bd {l : List Nd} (hv : validM l = true) (t : List Nat) : -1 ≤ rfirstM l t ∧ rfirstM l t ≤ t.length := by
  rcases rfirst_least hv t with ⟨n, hn, hr, _⟩ | ⟨hr, _⟩ <;> omega
theorem take_take_le (t : List Nat) (m n : Nat) (h : n ≤ m) : (t.take m).take n = t.take n := by rw [List.take_take, Nat.min_eq_left h]
/-- What a pattern finds in the first bytes of a text. -/
theorem rfirst_take {l : List Nd} (hv : validM l = true) (t : List Nat) (m : Nat) (hm : m ≤ t.length) : rfirstM l (t.take m) = if 0 ≤ rfirstM l t ∧ rfirstM l t ≤ m then rfirstM l t else -1 := by
  have hl : (t.take m).length = m := by rw [List.length_take]; omega
  have hh : ∀ n, n ≤ m → (Hit l (t.take m) n ↔ Hit l t n) := fun n hn => by unfold Hit; rw [take_take_le t m n hn]
  refine LeastHit.one (l := l) (t := t.take m) (rfirst_least hv _) ?_
  rcases rfirst_least hv t with ⟨n, hn, hr, h1, h2⟩ | ⟨hr, h1⟩
  · rw [hr]
    by_cases hnm : n ≤ m
    · rw [if_pos (by omega)]
      exact Or.inl ⟨n, by omega, rfl, (hh n hnm).2 h1, fun k hk hx => h2 k hk ((hh k (by omega)).1 hx)⟩
    · rw [if_neg (by omega)]
      exact Or.inr ⟨rfl, fun k hk hx => h2 k (by omega) ((hh k (by omega)).1 hx)⟩
  · rw [hr, if_neg (by omega)]
    exact Or.inr ⟨rfl, fun k hk hx => h1 k (by omega) ((hh k (by omega)).1 hx)⟩
def singles (t : List Nat) : List (List Nat) := t.map fun x => [x]
theorem singles_flat (t : List Nat) : (singles t).flatten = t := by
  induction t with
  | nil => rfl
  | cons x t ih => unfold singles at *; rw [List.map_cons, List.flatten_cons, ih]; rfl
theorem singles_idx : ∀ (t : List Nat) (p : Nat), p < t.length → chunkIdx (singles t) p = p
  | [], p, h => by simp at h
  | x :: t, 0, _ => rfl
  | x :: t, p + 1, h => by
    have ih := singles_idx t p (by simpa using h)
    unfold singles at *
    rw [List.map_cons, chunkIdx, if_neg (by simp)]
    have : p + 1 - [x].length = p := by simp
    rw [this, ih]
    omega
theorem play_num (R : Int) (cs : List (List Nat)) : (playM R cs).2 = if R < 0 then -1 else R := by
  unfold playM
  by_cases h0 : R = 0
  · rw [if_pos h0, if_neg (by omega)]; exact h0.symm
  · rw [if_neg h0]
    by_cases h1 : R < 0
    · rw [if_pos h1, if_pos h1]
    · rw [if_neg h1, if_neg h1]
/-- The statement MatcherDivides on plain lists. -/
theorem divides_law {l : List Nd} (hv : validM l = true) (cs : List (List Nat)) :
    (playM (rfirstM l cs.flatten) cs).2 = (playM (rfirstM l [cs.flatten].flatten) [cs.flatten]).2 ∧
    (playM (rfirstM l cs.flatten) cs).2 = (playM (rfirstM l (singles cs.flatten).flatten) (singles cs.flatten)).2 ∧
    ((playM (rfirstM l cs.flatten) cs).2 < 0 → (playM (rfirstM l cs.flatten) cs).1 = cs.length ∧ (playM (rfirstM l (singles cs.flatten).flatten) (singles cs.flatten)).1 = cs.flatten.length) ∧
    (0 ≤ (playM (rfirstM l cs.flatten) cs).2 → (playM (rfirstM l (singles cs.flatten).flatten) (singles cs.flatten)).1 = (playM (rfirstM l cs.flatten) cs).2 - 1 ∧ ((playM (rfirstM l cs.flatten) cs).1 < 0 ↔ (playM (rfirstM l cs.flatten) cs).2 = 0)) := by
  have e1 : [cs.flatten].flatten = cs.flatten := by simp
  rw [e1, singles_flat]
  have hb := rfirst_bd hv cs.flatten
  generalize rfirstM l cs.flatten = R at *
  rw [play_num, play_num, play_num]
  refine ⟨rfl, rfl, fun h => ?_, fun h => ?_⟩
  · have hR : R < 0 := by
      by_cases h1 : R < 0
      · exact h1
      · rw [if_neg h1] at h; exact absurd h h1
    have hR0 : R ≠ 0 := by omega
    unfold playM
    simp only [if_neg hR0, if_pos hR]
    exact ⟨trivial, by unfold singles; rw [List.length_map]⟩
  · have hR : ¬ R < 0 := by
      intro h1
      rw [if_pos h1] at h
      omega
    rw [if_neg hR]
    unfold playM
    by_cases h0 : R = 0
    · simp only [if_pos h0]
      exact ⟨by omega, ⟨fun _ => h0, fun _ => by omega⟩⟩
    · simp only [if_neg h0, if_neg hR]
      rw [singles_idx _ _ (by omega)]
      exact ⟨by omega, ⟨fun h => by omega, fun h => by omega⟩⟩
end Go.Proofs.Ythadkjgadhbidaa
/-
  The first chunks of output: Play finds a pattern in them, or does not. No program in sight.
-/
namespace Go.Proofs.Ythadkjgadhbidaa
open Go.RowKit
set_option linter.unusedVariables false

theorem idx_spec : ∀ (cs : List (List Nat)) (p : Nat), p < cs.flatten.length → chunkIdx cs p < cs.length ∧ baseC cs (chunkIdx cs p) ≤ p ∧ p < baseC cs (chunkIdx cs p + 1) ∧ ∀ k, chunkIdx cs p < k → chunkIdx (cs.take k) p = chunkIdx cs p
  | [], p, h => by simp at h
  | c :: cs, p, h => by
    have e : ∀ j, baseC (c :: cs) (j + 1) = c.length + baseC cs j := fun j => by simp [baseC]
    rw [List.flatten_cons, List.length_append] at h
    rw [chunkIdx]
    by_cases hp : p < c.length
    · rw [if_pos hp]
      refine ⟨by simp, Nat.zero_le _, by rw [e]; omega, fun k hk => ?_⟩
      obtain ⟨k, rfl⟩ : ∃ m, k = m + 1 := ⟨k - 1, by omega⟩
      rw [List.take_succ_cons, chunkIdx, if_pos hp]
    · rw [if_neg hp]
      obtain ⟨h1, h2, h3, h4⟩ := idx_spec cs (p - c.length) (by omega)
      rw [show 1 + chunkIdx cs (p - c.length) = chunkIdx cs (p - c.length) + 1 by omega, e, e]
      refine ⟨by simpa using h1, by omega, by omega, fun k hk => ?_⟩
      obtain ⟨k, rfl⟩ : ∃ m, k = m + 1 := ⟨k - 1, by omega⟩
      rw [List.take_succ_cons, chunkIdx, if_neg hp, h4 k (by omega)]
      omega
theorem baseC_mono (cs : List (List Nat)) : ∀ (d i : Nat), baseC cs i ≤ baseC cs (i + d)
  | 0, i => Nat.le_refl _
  | d + 1, i => by
    refine Nat.le_trans (baseC_mono cs d i) ?_
    by_cases h : i + d < cs.length
    · rw [show i + (d + 1) = i + d + 1 by omega, baseC_succ cs _ h]; omega
    · unfold baseC
      rw [List.take_of_length_le (by omega), List.take_of_length_le (by omega)]
      exact Nat.le_refl _
theorem flat_take (cs : List (List Nat)) (k : Nat) : (cs.take k).flatten = cs.flatten.take (baseC cs k) := by
  have h : cs.flatten = (cs.take k).flatten ++ (cs.drop k).flatten := by rw [← List.flatten_append, List.take_append_drop]
  unfold baseC
  rw [h, List.take_left]
/-- The statement MatcherEarliest on plain lists. -/
theorem earliest_law {l : List Nd} (hv : validM l = true) (cs : List (List Nat)) (k : Nat) (hk : k ≤ cs.length) :
    -1 ≤ (playM (rfirstM l cs.flatten) cs).1 ∧ (playM (rfirstM l cs.flatten) cs).1 ≤ cs.length ∧
    ((playM (rfirstM l cs.flatten) cs).1 < k → playM (rfirstM l (cs.take k).flatten) (cs.take k) = playM (rfirstM l cs.flatten) cs) ∧
    (k ≤ (playM (rfirstM l cs.flatten) cs).1 → playM (rfirstM l (cs.take k).flatten) (cs.take k) = ((k : Int), -1)) := by
  have hbk : baseC cs k ≤ cs.flatten.length := by
    have := baseC_mono cs (cs.length - k) k
    rw [show k + (cs.length - k) = cs.length by omega, baseC_all] at this
    exact this
  have hT := rfirst_take hv cs.flatten (baseC cs k) hbk
  rw [← flat_take] at hT
  rw [hT]
  have hb := rfirst_bd hv cs.flatten
  generalize rfirstM l cs.flatten = R at *
  have hlen : (cs.take k).length = k := by rw [List.length_take]; omega
  by_cases h0 : R = 0
  · subst h0
    rw [if_pos (by omega)]
    have e : ∀ x : List (List Nat), playM 0 x = (-1, 0) := fun x => by unfold playM; rw [if_pos rfl]
    rw [e, e]
    exact ⟨by simp, by simp only; omega, fun _ => rfl, fun h => by simp only at h; omega⟩
  by_cases h1 : R < 0
  · rw [if_neg (by omega)]
    have e : ∀ (x : List (List Nat)) (r : Int), r < 0 → playM r x = ((x.length : Int), -1) := fun x r hr => by unfold playM; rw [if_neg (by omega), if_pos hr]
    rw [e cs R h1, e _ (-1) (by decide), hlen]
    exact ⟨by simp only; omega, by simp, fun h => by simp only at h; omega, fun _ => rfl⟩
  · obtain ⟨i1, i2, i3, i4⟩ := idx_spec cs (R - 1).toNat (by omega)
    have e : ∀ (x : List (List Nat)), playM R x = ((chunkIdx x (R - 1).toNat : Int), R) := fun x => by unfold playM; rw [if_neg h0, if_neg h1]
    have en : ∀ (x : List (List Nat)), playM (-1) x = ((x.length : Int), -1) := fun x => by unfold playM; rw [if_neg (by decide), if_pos (by decide)]
    rw [e cs]
    simp only
    refine ⟨by omega, by omega, fun h => ?_, fun h => ?_⟩
    · have := baseC_mono cs (k - (chunkIdx cs (R - 1).toNat + 1)) (chunkIdx cs (R - 1).toNat + 1)
      rw [show chunkIdx cs (R - 1).toNat + 1 + (k - (chunkIdx cs (R - 1).toNat + 1)) = k by omega] at this
      rw [if_pos (by omega), e, i4 k (by omega)]
    · have := baseC_mono cs (chunkIdx cs (R - 1).toNat - k) k
      rw [show k + (chunkIdx cs (R - 1).toNat - k) = chunkIdx cs (R - 1).toNat by omega] at this
      rw [if_neg (by omega), en, hlen]
end Go.Proofs.Ythadkjgadhbidaa
/-
  The examples of the sanity check (matcher). No program in sight.
-/
namespace Go.Proofs.Ythadkjgadhbidaa
open Go.RowKit
set_option linter.unusedVariables false

theorem s11p' : parseF (6 * [98, 36].length + 6) [98, 36] = some ([⟨2, 0, 0, 2 ^ 98⟩, ⟨9, 0, 0, 0⟩, ⟨3, 0, 1, 0⟩], 0) := by decide +kernel
theorem s11q' : parseF (6 * ([] : List Nat).length + 6) [] = some ([⟨1, 0, 0, 0⟩], 0) := by decide +kernel
theorem s11a : playM (rfirstM [⟨2, 0, 0, 2 ^ 98⟩, ⟨9, 0, 0, 0⟩, ⟨3, 0, 1, 0⟩] [[97, 98], [98], [10, 120]].flatten) [[97, 98], [98], [10, 120]] = (2, 4) := by decide +kernel
theorem s11b : playM (rfirstM [⟨1, 0, 0, 0⟩] ([] : List (List Nat)).flatten) [] = (-1, 0) := by decide +kernel
end Go.Proofs.Ythadkjgadhbidaa
/-
  The patterns of the statements on the matcher: each one is read without an error.
-/
namespace Go.Proofs.Ythadkjgadhbidaa
open Go.RowKit
set_option linter.unusedVariables false

def patsT : List (List Nat) := [[111, 107], [], [114, 46, 42, 121, 36], [94, 117, 112, 124, 103, 111, 43], [91, 48, 45, 57, 93, 43, 120, 63], [40, 97, 98, 41, 42, 99], [94, 36]]
def patsObj : Obj := .cells (patsT.map fun b => Value.string (strOf b)).toArray 9
set_option maxRecDepth 100000 in
theorem mpatternsC (w : World) : Calls Try.prog 25 #[] w fun e w' => e = .returned (.slice (some ⟨w.heap.size, 0, none⟩) 7 7) ∧ w' = w.alloc patsObj := by
  go_enter Try.func25, Try.ntmps25
  go_wp2_with fail
  go_ret
  exact ⟨rfl, rfl⟩
theorem pats_ok : ∀ i, i < 7 → (parseR (patsT.getD i [])).2 = 0 := by decide +kernel
theorem pats_lt : ∀ i, i < 7 → ∀ x ∈ patsT.getD i [], x < 256 := by decide +kernel
end Go.Proofs.Ythadkjgadhbidaa
/-
  append where the operation bears a guard that says yes. No program in sight.
-/
namespace Go.Proofs.Ythadkjgadhbidaa
open Go.RowKit
section
variable {P : Program} {w : World} {ops : Array Oper} {rest : List Oper} {o : Oper} {a : Act} {Q : Exit → Act → World → Prop}
theorem wpList_pushAllG (hgd : Region.wanted o (yielded ops a.tmps) = true) (s x : Operand) (t : TypeId)
    (ho : o.op = .call { callee := .builtin .append, args := #[s, x], argTypes := #[t, t] })
    (base : Nat) (e : TypeId) (z : Value) (size bytes : Nat) (ht : P.underlying t = some (.slice e))
    (hi : (P.info? e).map (fun i => (i.zero, i.size, i.bytes)) = some (some z, size, bytes)) (hzs : z.cells.size = size) (hsz : 0 < size) (hby : bytes ≤ 1024)
    (v : Value) (n : Nat) (xs : List Value) (hs : a.eval s = v) (hown : Own w base e size v n xs)
    (A : Option Addr) (m c : Nat) (news : List Value) (hx : a.eval x = .slice A m c) (hr : Rs w A news) (hl : news.length = m * size) (h1 : news.all Value.oneCell' = true)
    (hn : n + m ≤ 68719476736) (hbase : base ≤ w.heap.size)
    (h : ∀ v' w', Own w' base e size v' (n + m) (xs ++ news) → w.grownBy w' v.ownBlock → (∀ w0, Old w0 w → w0.heap.size ≤ base → Old w0 w') → wpList P ops Q rest (a.put o.dst v') w') : wpList P ops Q (o :: rest) a w := by
  obtain ⟨i, hii, hz, hsize, hbb⟩ := info_parts hi
  have hb2 : (n + m) * bytes ≤ 68719476736 * 1024 := Nat.mul_le_mul hn hby
  cases A with
  | none =>
    obtain rfl := hr.nil_iff
    obtain rfl : m = 0 := by
      rcases Nat.eq_zero_or_pos m with h0 | h0
      · exact h0
      · have := Nat.mul_pos h0 hsz; simp at hl; omega
    refine BigFrame.wpList_want hgd fun K hK => ?_
    have hrun := run_append_nil_src (P := P) (w := w) base t o.type e i size ht hii v n xs hown c
    unfold Oper.wp
    simp [execOp, ho, resolve, invoke, builtin, hs, hx, hrun, Result.andThen]
    exact hK _ _ (h v w (by simpa using hown) (World.grownBy.refl _ _) (fun w0 h0 _ => h0))
  | some ad =>
    refine BigFrame.wpList_want hgd fun K hK => ?_
    refine wp_append_own _ s x t ho base e i z size bytes ht hii hz hsize hbb hzs hsz v n xs hs hown ad m c news hx hl ?_ (by simpa using h1) (by unfold maxLen; omega) (by omega) hbase ?_
    · intro j u hu
      rcases hr with rfl | ⟨b, off, hA, hc⟩
      · simp at hu
      · obtain rfl := Option.some.inj hA
        rw [Addr.add_lit]
        exact hc j u hu
    · intro v' w' h2 h3 _
      exact hK _ _ (h v' w' h2 h3 (fun w0 h0 hb => Own.grown_old h0 hown hb h3))
end
end Go.Proofs.Ythadkjgadhbidaa
/-
  The walk of pieces (the statements on the matcher).
-/
namespace Go.Proofs.Ythadkjgadhbidaa
open Go.RowKit
set_option linter.unusedVariables false

theorem info_rows8m : (Try.prog.info? 23).map (fun i => (i.zero, i.size, i.bytes)) = some (some (.slice none 0 0), 1, 24) := by kernel_rfl
/-- Pieces behind j rounds, and the numbers that are left. -/
def outs (l : List Int) : Nat → List (List UInt8) × List Int
  | 0 => ([], l)
  | j + 1 => ((outs l j).1 ++ [outOf (nx (outs l j).2 12).1], (nx (outs l j).2 12).2)
def piecesL (l : List Int) : List (List UInt8) := (outs (nx l 6).2 (nx l 6).1.toNat).1
theorem outs_succ (l : List Int) (j : Nat) : outs l (j + 1) = ((outs l j).1 ++ [outOf (nx (outs l j).2 12).1], (nx (outs l j).2 12).2) := rfl
theorem outs_len (l : List Int) (j : Nat) : (outs l j).1.length = j := by
  induction j with
  | zero => rfl
  | succ j ih => rw [outs_succ]; simp [ih]
theorem outs_small (l : List Int) (j : Nat) : ∀ p ∈ (outs l j).1, p.length ≤ 8 := by
  induction j with
  | zero => intro p hp; simp [outs] at hp
  | succ j ih =>
    intro p hp
    rw [outs_succ, List.mem_append] at hp
    rcases hp with hp | hp
    · exact ih p hp
    · simp at hp; subst hp; exact (outOf_len _).2
theorem piecesL_len (l : List Int) : (piecesL l).length ≤ 5 := by
  unfold piecesL
  rw [outs_len]
  have hk := nx_bd l (show (1 : Int) ≤ 6 by decide)
  omega
theorem piecesL_small (l : List Int) : ∀ p ∈ piecesL l, p.length ≤ 8 := outs_small _ _

def PiecesPost (w : World) (P : List (List UInt8)) (e : Ending) (w' : World) : Prop :=
  ∃ v cells, e = .returned v ∧ Own w' w.heap.size 23 1 v P.length cells ∧ FsL w' cells (P.map bytes) ∧ Old w w'

set_option maxRecDepth 100000 in
set_option maxHeartbeats 2000000 in
theorem piecesC (A : Option Addr) (c : Nat) (l : List Int) (w : World) (hr : Rs w A (ints l)) (hm : l.length ≤ maxLen) :
    Calls Try.prog 24 #[.slice A l.length c] w (PiecesPost w (piecesL l)) := by
  go_enter Try.func24, Try.ntmps24
  go_wp2_with fail
  refine (newDeck A c l w hr hm).mono ?_; rintro e w1 ⟨rfl, hd, hb⟩
  go_wp2_with fail
  refine (nextDeck w.heap.size w.heap.size l 6 w1 hd (by decide) (by decide)).mono ?_; rintro e w2 ⟨rfl, hd2, hg⟩
  have hb2 := Dk.old hb hg (Nat.le_refl _)
  have hbd := nx_bd l (show (1 : Int) ≤ 6 by decide)
  have hres : piecesL l = (outs (nx l 6).2 (nx l 6).1.toNat).1 := rfl
  have HRES := Lib.hid hres
  clear hres hg hd hb hr
  generalize nx l 6 = r at *
  obtain ⟨K, l1⟩ := r
  obtain ⟨b0, b1⟩ := hbd
  simp only at b0 b1 hd2 HRES
  obtain ⟨K, rfl⟩ := Int.eq_ofNat_of_zero_le b0
  rw [Int.toNat_natCast] at HRES
  go_wp2_with fail
  go_loopw [4, 5] (fun v k wr => ∃ (j : Nat) (cells : List Value), j ≤ K ∧ k = .int .i64 ((K : Int) - j) ∧ Own wr w.heap.size 23 1 v j cells ∧ FsL wr cells ((outs l1 j).1.map bytes) ∧ Dk wr w.heap.size w.heap.size (outs l1 j).2 ∧ Old w wr) (fun _ k _ => (intOf k).toNat)
  case atStart => exact ⟨0, [], Nat.zero_le _, by go_num, Own.nil_ _ _ _ _, FsL.nil_, hd2, hb2⟩
  case round =>
    obtain ⟨j, cells, hj, rfl, hown, hfl, hdk, hb⟩ := hrel
    clear hd2 hb2
    have hs := Lib.hid (outs_succ l1 j)
    have hol := outs_len l1 j
    by_cases hlt : j < K
    · have hO := outputDeck w.heap.size w.heap.size (outs l1 j).2 wr hdk
      have hlen := outOf_len (nx (outs l1 j).2 12).1
      have HO := Lib.hid hO
      have HOL := Lib.hid hol
      clear hO hol
      generalize nx (outs l1 j).2 12 = r at *
      generalize outOf r.1 = p at *
      generalize outs l1 j = o at *
      obtain ⟨P, rest⟩ := o
      obtain ⟨p1, p2⟩ := hlen
      simp only at *
      go_wp2_with fail
      refine (HO.out).mono ?_; rintro e w2 ⟨Ap, cp, rfl, hcp1, hcp2, hfs, hdk2, hg⟩
      replace hown := hdk.own hg hown (by decide)
      replace hfl := hdk.fsL hg hfl
      replace hb := Dk.old hb hg (Nat.le_refl _)
      have hsz := hb.size
      clear hg hdk HO
      go_wp2_with (at_builtin; refine wpList_push (wr := w2) rfl _ _ 51 rfl _ 23 (.slice none 0 0) 1 24 Try.underlying51 info_rows8m rfl (by decide) (by decide) _ _ _ rfl hown 1 1 [.slice Ap p.length cp] rfl rfl rfl rfl ?pn1 hsz ?_)
      case pn1 => omega
      intro v4 w4 hown4 hg4 hd4
      have hb4 := hd4 w hb (Nat.le_refl _)
      have hfl4 := hfl.grown hown hg4
      have hfs4 := hfs.grown hown hg4
      have hdk4 := hdk2.push hown (by decide) (Nat.le_refl _) hg4
      clear hg4 hd4 hown hfl hfs hdk2
      go_wp2_with fail
      go_roundw
      case rel =>
        have hsn := hfl4.snoc (A := Ap) (c := cp) (xs := bytes p) (by rw [bytes_length]; exact hcp1) hcp2 hfs4
        rw [bytes_length] at hsn
        refine ⟨j + 1, cells ++ [.slice Ap p.length cp], by omega, by go_num, hown4, ?_, ?_, hb4⟩
        · rw [hs.out]; simp only [List.map_append, List.map_cons, List.map_nil]; exact hsn
        · rw [hs.out]; exact hdk4
      case measure => simp [intOf]; omega
    · obtain rfl : j = K := by omega
      have hlen : (piecesL l).length = j := by rw [HRES.out]; exact hol
      have HLEN := Lib.hid hlen
      clear hlen
      go_wp2_with fail
      go_ret
      rw [PiecesPost, HLEN.out]
      exact ⟨_, cells, rfl, hown, by rw [HRES.out]; exact hfl, hb⟩

/-- The chunks' addresses and capacities, out of a list of slices. -/
theorem chr_of {w : World} {A : Option Addr} {cells : List Value} {cs : List (List Nat)} (h : Rs w A cells) (hl : RsL w cells (cs.map txt)) : ∃ ad cp, ChR w A cs ad cp := by
  have hc : ∀ j : Nat, ∃ q : Option Addr × Nat, j < cs.length → cells[j]? = some (.slice q.1 (cs.getD j []).length q.2) ∧ Rs w q.1 (txt (cs.getD j [])) := fun j => by
    by_cases hj : j < cs.length
    · obtain ⟨B, c, h1, _, _, h4⟩ := hl.2 j (txt (cs.getD j [])) (by rw [List.getElem?_map, List.getElem?_eq_getElem hj, List.getD_eq_getElem?_getD, List.getElem?_eq_getElem hj]; rfl)
      rw [txt_length] at h1
      exact ⟨(B, c), fun _ => ⟨h1, h4⟩⟩
    · exact ⟨(none, 0), fun h => absurd h hj⟩
  have hq := fun j => (hc j).choose_spec
  have hlen : cells.length = cs.length := by rw [hl.1, List.length_map]
  refine ⟨fun j => (hc j).choose.1, fun j => (hc j).choose.2, ?_, fun j hj => (hq j hj).2⟩
  have e : (List.range cs.length).map (fun j => Value.slice (hc j).choose.1 (cs.getD j []).length (hc j).choose.2) = cells := by
    apply List.ext_getElem?
    intro j
    by_cases hj : j < cs.length
    · rw [range_at _ hj]
      exact (hq j hj).1.symm
    · rw [List.getElem?_eq_none (by simp; omega), List.getElem?_eq_none (by omega)]
  rw [e]
  exact h
def PlayVal (s : ByteArray) (cs : List (List Nat)) (w : World) (e : Ending) (w' : World) : Prop :=
  e = .returned (.tuple #[.int .i64 (if (parseR (bs s)).2 = 0 then (playM (rfirstM (parseR (bs s)).1 cs.flatten) cs).1 else 0), .int .i64 (if (parseR (bs s)).2 = 0 then (playM (rfirstM (parseR (bs s)).1 cs.flatten) cs).2 else 0), .int .i64 (parseR (bs s)).2]) ∧ Old w w'
/-- Play on chunks, told as a list of slices. -/
theorem playL (s : ByteArray) (A : Option Addr) (c : Nat) (cells : List Value) (cs : List (List Nat)) (w : World) (h : Rs w A cells) (hl : RsL w cells (cs.map txt)) (hb : ∀ x ∈ cs.flatten, x < 256) (h1 : cs.flatten.length < 1000000000) (h2 : cs.length < 1000000000) :
    Calls Try.prog 26 #[.string s, .slice A cs.length c] w (PlayVal s cs w) := by
  obtain ⟨ad, cp, hc⟩ := chr_of h hl
  exact (mplayC s A c cs ad cp w hc hb h1 h2).mono fun e w' hp => ⟨hp.1 _ _ rfl, hp.2⟩
/-- Play with one of the patterns. -/
theorem playP (i : Nat) (hi : i < 7) (A : Option Addr) (c : Nat) (cells : List Value) (cs : List (List Nat)) (w : World) (h : Rs w A cells) (hl : RsL w cells (cs.map txt)) (hb : ∀ x ∈ cs.flatten, x < 256) (h1 : cs.flatten.length < 1000000000) (h2 : cs.length < 1000000000) :
    Calls Try.prog 26 #[.string (strOf (patsT.getD i [])), .slice A cs.length c] w fun e w' => e = .returned (.tuple #[.int .i64 (playM (rfirstM (parseR (patsT.getD i [])).1 cs.flatten) cs).1, .int .i64 (playM (rfirstM (parseR (patsT.getD i [])).1 cs.flatten) cs).2, .int .i64 0]) ∧ Old w w' := by
  refine (playL (strOf (patsT.getD i [])) A c cells cs w h hl hb h1 h2).mono fun e w' hp => ?_
  unfold PlayVal at hp
  rw [bs_strOf _ (pats_lt i hi), if_pos (pats_ok i hi), if_pos (pats_ok i hi), pats_ok i hi] at hp
  exact hp
theorem pats_valid (i : Nat) (hi : i < 7) : validM (parseR (patsT.getD i [])).1 = true := by
  have h : parseR (patsT.getD i []) = ((parseR (patsT.getD i [])).1, 0) := by rw [← pats_ok i hi]
  have htr := parse_tr (l := (parseR (patsT.getD i [])).1) (h ▸ parseR_eq (patsT.getD i []))
  exact Tr.valid htr.1 htr.2.1
end Go.Proofs.Ythadkjgadhbidaa
/-
  The walk of the sanity check (the statements on the matcher).
-/
namespace Go.Proofs.Ythadkjgadhbidaa
open Go.RowKit
set_option linter.unusedVariables false

theorem rs_marked (w : World) (cs : List Value) (e : TypeId) (fz : Nat × Nat) : Rs (w.alloc (.cells cs.toArray e fz)) (some ⟨w.heap.size, 0, none⟩) cs :=
  Or.inr ⟨_, _, rfl, fun j u h => by
    rw [Nat.zero_add, cell_of_row _ w.heap.size j cs.toArray e fz (heap_alloc_new w _)]
    simpa using h⟩
theorem bs_abd : bs ⟨#[98, 36]⟩ = [98, 36] := rfl
theorem bs_nil : bs ⟨#[]⟩ = [] := rfl
theorem s11P : parseR [98, 36] = ([⟨2, 0, 0, 2 ^ 98⟩, ⟨9, 0, 0, 0⟩, ⟨3, 0, 1, 0⟩], 0) := by
  have h := parseR_eq [98, 36]
  rw [s11p'] at h
  exact (Option.some.inj h).symm
theorem s11Q : parseR [] = ([⟨1, 0, 0, 0⟩], 0) := by
  have h := parseR_eq []
  rw [s11q'] at h
  exact (Option.some.inj h).symm
theorem alsz (w : World) (o : Obj) : (w.alloc o).heap.size = w.heap.size + 1 := by simp
def c11 : List (List Nat) := [[97, 98], [98], [10, 120]]
def o11 (l : List Nat) : Obj := .cells (txt l).toArray 5 (l.length, l.length + 1)
def k11 (H : Nat) : List Value := [.slice (some ⟨H, 0, none⟩) 2 2, .slice (some ⟨H + 1, 0, none⟩) 1 1, .slice (some ⟨H + 2, 0, none⟩) 2 2]
def w11 (w : World) : World := (((w.alloc (o11 [97, 98])).alloc (o11 [98])).alloc (o11 [10, 120])).alloc (.cells (k11 w.heap.size).toArray 23)
theorem w11_old (w : World) : Old w (w11 w) := ((((Old.refl w).alloc _).alloc _).alloc _).alloc _
theorem w11_rs (w : World) : Rs (w11 w) (some ⟨w.heap.size + 3, 0, none⟩) (k11 w.heap.size) := by
  have h := rs_new (((w.alloc (o11 [97, 98])).alloc (o11 [98])).alloc (o11 [10, 120])) (k11 w.heap.size) 23
  simp only [alsz] at h
  exact h
theorem w11_rl (w : World) : RsL (w11 w) (k11 w.heap.size) (c11.map txt) := by
  have h1 := rs_marked w (txt [97, 98]) 5 (2, 3)
  have h2 := rs_marked (w.alloc (o11 [97, 98])) (txt [98]) 5 (1, 2)
  have h3 := rs_marked ((w.alloc (o11 [97, 98])).alloc (o11 [98])) (txt [10, 120]) 5 (2, 3)
  have g1 : Rs (w11 w) (some ⟨w.heap.size, 0, none⟩) (txt [97, 98]) := h1.up ((((Old.refl _).alloc _).alloc _).alloc _)
  have g2 : Rs (w11 w) (some ⟨w.heap.size + 1, 0, none⟩) (txt [98]) := by
    have := h2.up ((((Old.refl _).alloc (o11 [10, 120])).alloc (.cells (k11 w.heap.size).toArray 23)))
    simp only [alsz] at this
    exact this
  have g3 : Rs (w11 w) (some ⟨w.heap.size + 2, 0, none⟩) (txt [10, 120]) := by
    have := h3.up ((Old.refl _).alloc (.cells (k11 w.heap.size).toArray 23))
    simp only [alsz] at this
    exact this
  have k1 := (RsL.nil_ (w := w11 w)).snoc (c := 2) (by simp [txt]) (by decide) g1
  have k2 := k1.snoc (c := 1) (by simp [txt]) (by decide) g2
  have k3 := k2.snoc (c := 2) (by simp [txt]) (by decide) g3
  exact k3
set_option maxRecDepth 100000 in
theorem sane11C (w : World) : Calls Try.prog 23 #[] w (ValOld (.bool true) w) := by
  have kc := fun (w : World) (C : Array Value) (n c : Nat) => Lib.run_convert_bytes_const (P := Try.prog) w 23 5 C n c Try.underlying23 Try.underlying5
  have hp := playL ⟨#[98, 36]⟩ (some ⟨w.heap.size + 3, 0, none⟩) 3 (k11 w.heap.size) c11 (w11 w) (w11_rs w) (w11_rl w) (by decide) (by decide) (by decide)
  unfold PlayVal at hp
  rw [bs_abd, s11P] at hp
  simp only [if_true] at hp
  rw [show playM (rfirstM [⟨2, 0, 0, 2 ^ 98⟩, ⟨9, 0, 0, 0⟩, ⟨3, 0, 1, 0⟩] c11.flatten) c11 = (2, 4) from s11a] at hp
  have HP := Lib.hid hp
  have kc1 := kc w #[.int .u8 97, .int .u8 98] 2 2
  have kc2 := kc (w.alloc (o11 [97, 98])) #[.int .u8 98] 1 1
  have kc3 := kc ((w.alloc (o11 [97, 98])).alloc (o11 [98])) #[.int .u8 10, .int .u8 120] 2 2
  simp only [alsz] at kc2 kc3
  replace kc1 : _ = Result.ok (Value.slice (some ⟨w.heap.size, 0, none⟩) 2 2) (w.alloc (o11 [97, 98])) := kc1
  replace kc2 : _ = Result.ok (Value.slice (some ⟨w.heap.size + 1, 0, none⟩) 1 1) ((w.alloc (o11 [97, 98])).alloc (o11 [98])) := kc2
  replace kc3 : _ = Result.ok (Value.slice (some ⟨w.heap.size + 1 + 1, 0, none⟩) 2 2) (((w.alloc (o11 [97, 98])).alloc (o11 [98])).alloc (o11 [10, 120])) := kc3
  clear kc
  have hq := fun W => playL ⟨#[]⟩ none 0 [] [] W Rs.nil_ RsL.nil_ (by simp) (by decide) (by decide)
  unfold PlayVal at hq
  simp only [bs_nil, s11Q, if_true] at hq
  rw [s11b] at hq
  have HQ := Lib.hid hq
  have HO := Lib.hid (w11_old w)
  clear hp hq
  go_enter Try.func23, Try.ntmps23
  go_wp2_with fail
  refine (HP.out).mono ?_; rintro e w1 ⟨rfl, hd1⟩
  have HD1 := Lib.hid (HO.out.up hd1)
  clear hd1 HP HO kc1 kc2 kc3
  go_wp2_with fail
  refine (HQ.out _).mono ?_; rintro e w2 ⟨rfl, hd2⟩
  have HD2 := Lib.hid (HD1.out.up hd2)
  clear hd2 HQ HD1
  go_wp2_with fail
  go_ret
  exact ⟨rfl, HD2.out⟩
end Go.Proofs.Ythadkjgadhbidaa
/-
  The walk of the statement MatcherDivides.
-/
namespace Go.Proofs.Ythadkjgadhbidaa
open Go.RowKit
set_option linter.unusedVariables false

def natL (b : List UInt8) : List Nat := b.map UInt8.toNat
theorem natL_txt (b : List UInt8) : txt (natL b) = bytes b := by unfold txt natL bytes; rw [List.map_map]; rfl
theorem natL_lt (b : List UInt8) : ∀ x ∈ natL b, x < 256 := by
  intro x hx
  obtain ⟨y, _, rfl⟩ := List.mem_map.mp hx
  exact y.toNat_lt
theorem natL_len (b : List UInt8) : (natL b).length = b.length := by simp [natL]
def natLL (P : List (List UInt8)) : List (List Nat) := P.map natL
theorem natLL_txt (P : List (List UInt8)) : (natLL P).map txt = P.map bytes := by
  unfold natLL
  rw [List.map_map]
  exact List.map_congr_left (fun b _ => natL_txt b)
theorem natLL_flat (P : List (List UInt8)) : (natLL P).flatten = natL P.flatten := by
  unfold natLL natL
  rw [List.map_flatten]
theorem flat_small {P : List (List UInt8)} (h : ∀ p ∈ P, p.length ≤ 8) : P.flatten.length ≤ 8 * P.length := by
  induction P with
  | nil => simp
  | cons a P ih =>
    have h1 := ih (fun p hp => h p (by simp [hp]))
    have h2 := h a (by simp)
    simp only [List.flatten_cons, List.length_append, List.length_cons]
    omega
/-- The bytes ahead of piece j. -/
def ahead (P : List (List UInt8)) (j : Nat) : List UInt8 := (P.take j).flatten
theorem ahead_succ (P : List (List UInt8)) (j : Nat) (hj : j < P.length) : ahead P (j + 1) = ahead P j ++ P.getD j [] := by
  unfold ahead
  rw [List.take_add_one, List.getElem?_eq_getElem hj, List.flatten_append, List.getD_eq_getElem?_getD, List.getElem?_eq_getElem hj]
  simp
theorem ahead_all (P : List (List UInt8)) : ahead P P.length = P.flatten := by unfold ahead; rw [List.take_length]
theorem ahead_len {P : List (List UInt8)} (h : ∀ p ∈ P, p.length ≤ 8) (j : Nat) : (ahead P j).length ≤ 8 * P.length := by
  have h1 := flat_small (P := P.take j) (fun p hp => h p (List.mem_of_mem_take hp))
  have h2 : (P.take j).length ≤ P.length := by rw [List.length_take]; omega
  unfold ahead
  omega
/-- Bytes one by one. -/
def ones (b : List UInt8) : List (List Value) := b.map fun x => bytes [x]
theorem ones_len (b : List UInt8) : (ones b).length = b.length := by simp [ones]
theorem ones_snoc (b : List UInt8) (k : Nat) (hk : k < b.length) : ones (b.take (k + 1)) = ones (b.take k) ++ [bytes [b.getD k 0]] := by
  unfold ones
  rw [List.take_add_one, List.getElem?_eq_getElem hk, List.map_append, List.getD_eq_getElem?_getD, List.getElem?_eq_getElem hk]
  rfl
theorem ones_app (a b : List UInt8) : ones (a ++ b) = ones a ++ ones b := by simp [ones]
theorem ones_single (b : List UInt8) : (singles (natL b)).map txt = ones b := by
  unfold singles natL ones
  rw [List.map_map, List.map_map]
  rfl
theorem Fs.one_at {w : World} {b off : Nat} {p : List UInt8} (h : Fs w (some ⟨b, off, none⟩) (bytes p)) (k : Nat) (hk : k < p.length) : Fs w (some ⟨b, off + k, none⟩) (bytes [p.getD k 0]) := by
  rcases h with h | ⟨b', off', cur, e, fz, hA, hh, hz, hc⟩
  · have := congrArg List.length h
    rw [bytes_length] at this
    simp at this
    subst this
    simp at hk
  · simp only [Option.some.injEq, Addr.mk.injEq, and_true] at hA
    obtain ⟨rfl, rfl⟩ := hA
    refine Or.inr ⟨b, off + k, cur, e, fz, rfl, hh, hz, fun j u hu => ?_⟩
    have hj : j = 0 := by have := (List.getElem?_eq_some_iff.mp hu).1; rw [bytes_length] at this; simp at this; exact this
    subst hj
    have h1 := hc k _ (bytes_get p k hk)
    rw [Nat.add_zero, h1, ← hu]
    rfl
theorem rows_one (x : List (List Value)) {w : World} {cells : List Value} (h : RsL w cells x) : cells.all Value.oneCell' = true := h.one

theorem info_d8 : (Try.prog.info? 5).map (fun i => (i.zero, i.size, i.bytes)) = some (some (.int .u8 0), 1, 1) := by kernel_rfl
set_option maxHeartbeats 8000000 in
set_option maxRecDepth 100000 in
theorem divides_any (A : Option Addr) (c : Nat) (l : List Int) (p : Int) (w : World) (hr : Rs w A (ints l)) (hm : l.length ≤ maxLen) :
    Calls Try.prog 8 #[.slice A l.length c, .int .i64 p] w (ValOld (.bool true) w) := by
  have HS := Lib.hid (sane11C w)
  have HR := Lib.hid hr
  clear hr
  go_enter Try.func8, Try.ntmps8
  go_wp2_with fail
  refine (HS.out).mono ?_; rintro e w1 ⟨rfl, hd1⟩
  have HP := Lib.hid (piecesC A c l w1 (HR.out.up hd1) hm)
  have HD1 := Lib.hid hd1
  clear hd1 HS
  go_wp2_with fail
  refine (HP.out).mono ?_; rintro e w2 ⟨v, cells, rfl, hown, hfl, hd2⟩
  have HD2 := Lib.hid (HD1.out.up hd2)
  obtain ⟨Ax, cx, rfl, htx, hcx, _⟩ := hown.shape
  have HTX := Lib.hid htx.rs
  have HFL := Lib.hid hfl
  have h5 := piecesL_len l
  have H8 := Lib.hid (piecesL_small l)
  clear hown htx hfl hd2 HP HD1 HR
  generalize piecesL l = P at *
  go_wp2_with fail
  go_loopw [6, 7, 27] (fun vw vb jv wr => ∃ (j : Nat) (cb : List Value), jv = .int .i64 j ∧ j ≤ P.length ∧ Own wr w2.heap.size 5 1 vw (ahead P j).length (bytes (ahead P j)) ∧ Own wr w2.heap.size 23 1 vb (ahead P j).length cb ∧ FsL wr cb (ones (ahead P j)) ∧ Old w2 wr) (fun _ _ jv _ => P.length - (intOf jv).toNat)
  case atStart => exact ⟨0, [], rfl, Nat.zero_le _, Own.nil_ _ _ _ _, Own.nil_ _ _ _ _, FsL.nil_, Old.refl _⟩
  case round =>
    obtain ⟨j, cb, rfl, hj, hvw, hvb, hfb, hO⟩ := hrel
    have hal := ahead_len H8.out j
    by_cases hlt : j < P.length
    · have i1 : (j : Int) < (P.length : Int) := by omega
      have i0 : (0 : Int) ≤ (j : Int) := by omega
      have HAS := Lib.hid (ahead_succ P j hlt)
      have hget : (P.map bytes)[j]? = some (bytes (P.getD j [])) := by rw [List.getElem?_map, List.getElem?_eq_getElem hlt, List.getD_eq_getElem?_getD, List.getElem?_eq_getElem hlt]; rfl
      obtain ⟨Ap, cp, hcell, hcp, _, hfs⟩ := HFL.out.2 j _ hget
      rw [bytes_length] at hcell hcp
      have hp8 : (P.getD j []).length ≤ 8 := H8.out _ (by rw [List.getD_eq_getElem?_getD, List.getElem?_eq_getElem hlt]; exact List.getElem_mem hlt)
      obtain ⟨bA, oA, rfl, _, hcA⟩ := (HTX.out.up hO).at_ (by have := (List.getElem?_eq_some_iff.mp hcell).1; omega)
      have cA := hcA j _ hcell
      have HFS := Lib.hid hfs
      clear hcA hget hcell hfs
      generalize P.getD j [] = q at *
      go_wp2_with (at_builtin; refine wpList_pushAll rfl _ _ 23 rfl _ 5 (.int .u8 0) 1 1 Try.underlying23 info_d8 rfl (by decide) (by decide) _ _ _ (by rfl) hvw _ _ _ _ (by rfl) (HFS.out.up hO).rs (by rw [bytes_length, Nat.mul_one]) (bytes_one _) ?pn2 hO.size ?_)
      case pn2 => omega
      intro v4 w4 ho4 hg4 hd4
      have hO4 := hd4 w2 hO (Nat.le_refl _)
      have hvb4 := Own.grown hvb hvw (by decide) hg4
      have hfb4 := hfb.grown hvw hg4
      have HO4 := Lib.hid ho4
      clear hvw hvb hfb hg4 hd4 hO cA ho4
      go_wp2_with fail
      go_loopw [7, 36] (fun vb kv wr => ∃ (k : Nat) (cb : List Value), kv = .int .i64 k ∧ k ≤ q.length ∧ Own wr w2.heap.size 5 1 v4 ((ahead P j).length + q.length) (bytes (ahead P j) ++ bytes q) ∧ Own wr w2.heap.size 23 1 vb ((ahead P j).length + k) cb ∧ FsL wr cb (ones (ahead P j) ++ ones (q.take k)) ∧ Old w2 wr) (fun _ kv _ => q.length - (intOf kv).toNat)
      case atStart => exact ⟨0, cb, rfl, Nat.zero_le _, HO4.out, hvb4, by simpa [ones] using hfb4, hO4⟩
      case round =>
        clear hvb4 hfb4 hO4 HO4
        obtain ⟨k, cb, rfl, hk, hvw, hvb, hfb, hO⟩ := hrel
        by_cases hltk : k < q.length
        · have k1 : (k : Int) < (q.length : Int) := by omega
          have k0 : (0 : Int) ≤ (k : Int) := by omega
          obtain ⟨bq, oq, rfl, _, _⟩ := HFS.out.rs.at_ (by rw [bytes_length]; omega)
          have HF1 := Lib.hid (fun w' (h : Old w2 w') => (HFS.out.up h).one_at k hltk)
          have HON := Lib.hid (ones_snoc q k hltk)
          have hsl := fun W => run_slice_mid (P := Try.prog) (t := 23) (by kernel_rfl) (fun _ => rfl) bq oq q.length cp k 1 (k : Int) ((k : Int) + 1) rfl (by omega) (by omega) W
          simp only [show ¬ cp = k by omega, if_false] at hsl
          go_wp2_with (at_builtin; refine wpList_push (wr := wr) rfl _ _ 51 rfl _ 23 (.slice none 0 0) 1 24 Try.underlying51 info_rows8m rfl (by decide) (by decide) _ _ _ rfl hvb 1 1 [.slice (some ⟨bq, oq + k, none⟩) 1 (cp - k)] rfl rfl rfl rfl ?pn1 hO.size ?_)
          case pn1 => omega
          intro v5 w5 ho5 hg5 hd5
          have hO5 := hd5 w2 hO (Nat.le_refl _)
          have hvw5 := Own.grown hvw hvb (by decide) hg5
          have hfb5 := hfb.grown hvb hg5
          have HF5 := Lib.hid (HF1.out _ hO5)
          have hsn := hfb5.snoc (A := some ⟨bq, oq + k, none⟩) (c := cp - k) (xs := bytes [q.getD k 0]) (by rw [bytes_length]; show 1 ≤ _; omega) (by unfold maxLen at *; omega) HF5.out
          rw [List.append_assoc, ← HON.out] at hsn
          have HW : Hid (∃ (k' : Nat) (cb : List Value), (Value.int .i64 ((k + 1 : Nat) : Int)) = .int .i64 k' ∧ k' ≤ q.length ∧ Own w5 w2.heap.size 5 1 v4 ((ahead P j).length + q.length) (bytes (ahead P j) ++ bytes q) ∧ Own w5 w2.heap.size 23 1 v5 ((ahead P j).length + k') cb ∧ FsL w5 cb (ones (ahead P j) ++ ones (q.take k')) ∧ Old w2 w5) := Lib.hid ⟨k + 1, _, rfl, hltk, hvw5, ho5, hsn, hO5⟩
          clear hvw hvb hfb hO hsl ho5 hg5 hd5 hO5 hvw5 hfb5 hsn HF1 HF5 HON
          go_wp2_with fail
          go_roundw
          case rel => exact HW.out
          case measure => simp [intOf]; omega
        · obtain rfl : k = q.length := by omega
          rw [List.take_length] at hfb
          obtain ⟨Ab, cbb, rfl, _, _, _⟩ := hvb.shape
          have HW : Hid (∃ (j' : Nat) (cb : List Value), (Value.int .i64 ((j + 1 : Nat) : Int)) = .int .i64 j' ∧ j' ≤ P.length ∧ Own wr w2.heap.size 5 1 v4 (ahead P j').length (bytes (ahead P j')) ∧ Own wr w2.heap.size 23 1 (.slice Ab ((ahead P j).length + q.length) cbb) (ahead P j').length cb ∧ FsL wr cb (ones (ahead P j')) ∧ Old w2 wr) := Lib.hid ⟨j + 1, cb, rfl, hlt, by rw [HAS.out, List.length_append, bytes_append]; exact hvw, by rw [HAS.out, List.length_append]; exact hvb, by rw [HAS.out, ones_app]; exact hfb, hO⟩
          have hke : ¬ (q.length : Int) < (q.length : Int) := by omega
          clear hvw hvb hfb hO
          go_wp2_with fail
          go_roundw
          case rel => exact HW.out
          case measure => simp [intOf]; omega
    · obtain rfl : j = P.length := by omega
      rw [ahead_all] at hvw hvb hfb hal
      obtain ⟨Aw, cw, rfl, htw, hcw, hcwm⟩ := hvw.shape
      obtain ⟨Ab, cbb, rfl, htb, hcb, _⟩ := hvb.shape
      have HTW := Lib.hid htw.rs
      have HTB := Lib.hid htb.rs
      have HFB := Lib.hid hfb.rs
      have HO := Lib.hid hO
      have HCW := Lib.hid (And.intro hcw hcwm)
      clear hvw hvb hfb htw htb hO hcw hcwm
      obtain ⟨i, hi⟩ := Int.eq_ofNat_of_zero_le (Int.emod_nonneg p (show (7 : Int) ≠ 0 by decide))
      have hi7 : i < 7 := by have := Int.emod_lt_of_pos p (show (0 : Int) < 7 by decide); omega
      have hmd := fun W => mod_any p 7 (by decide) (by decide) W
      simp only [hi] at hmd
      have HMD := Lib.hid hmd
      have HL := Lib.hid (divides_law (pats_valid i hi7) (natLL P))
      have HB := Lib.hid (rfirst_bd (pats_valid i hi7) (natLL P).flatten)
      have hnl : (natLL P).length = P.length := by simp [natLL]
      have hfl : (natLL P).flatten.length = P.flatten.length := by rw [natLL_flat, natL_len]
      have h256 : ∀ x ∈ (natLL P).flatten, x < 256 := by rw [natLL_flat]; exact natL_lt _
      have hp1 := fun W (h : Old w2 W) => playP i hi7 Ax cx cells (natLL P) W (HTX.out.up h) (by rw [natLL_txt]; exact HFL.out.rs.up h) h256 (by omega) (by omega)
      have hp2 := fun W (h : Old wr W) => playP i hi7 (some ⟨W.heap.size, 0, none⟩) 1 [.slice Aw P.flatten.length cw] [natL P.flatten] (W.alloc (.cells #[.slice Aw P.flatten.length cw] 23)) (rs_new W [.slice Aw P.flatten.length cw] 23) (by
        have := (RsL.nil_ (w := W.alloc (.cells #[.slice Aw P.flatten.length cw] 23))).snoc (A := Aw) (c := cw) (xs := bytes P.flatten) (by rw [bytes_length]; exact HCW.out.1) HCW.out.2 ((HTW.out.up h).alloc _)
        rw [bytes_length] at this
        rw [show [natL P.flatten].map txt = [bytes P.flatten] by rw [← natL_txt]; rfl]
        exact this) (by simpa using natL_lt P.flatten) (by simp only [List.flatten_cons, List.flatten_nil, List.append_nil, natL_len]; omega) (by simp)
      have hp3 := fun W (h : Old wr W) => playP i hi7 Ab cbb cb (singles (natL P.flatten)) W (HTB.out.up h) (by rw [ones_single]; exact HFB.out.up h) (by rw [singles_flat]; exact natL_lt _) (by rw [singles_flat, natL_len]; omega) (by unfold singles; rw [List.length_map, natL_len]; omega)
      have hsl : (singles (natL P.flatten)).length = P.flatten.length := by unfold singles; rw [List.length_map, natL_len]
      rw [natLL_flat] at HL HB
      simp only [natLL_flat] at hp1
      rw [hnl] at hp1 HL
      rw [hsl] at hp3
      rw [natL_len] at HL HB
      simp only [List.length_cons, List.length_nil, Nat.zero_add] at hp2
      generalize P.flatten = F at *
      have hpn := play_num (rfirstM (parseR (patsT.getD i [])).1 (natL F)) (natLL P)
      have HP1 := Lib.hid hp1
      have HP2 := Lib.hid hp2
      have HP3 := Lib.hid hp3
      clear hp1 hp2 hp3 hi hmd hnl hfl h256 hsl HTX HFL HTW HTB HFB HCW H8
      obtain ⟨b0, b1⟩ := HB.out
      have HMP := Lib.hid (mpatternsC wr)
      have hstr : (wr.alloc patsObj).cell? ⟨wr.heap.size, i, none⟩ = some (.string (strOf (patsT.getD i []))) := by
        rw [cell_of_row _ wr.heap.size i _ _ _ (heap_alloc_new wr patsObj)]
        have hl : i < patsT.length := hi7
        rw [List.getElem?_toArray, List.getElem?_map, List.getElem?_eq_getElem hl, List.getD_eq_getElem?_getD, List.getElem?_eq_getElem hl]
        rfl
      have i0 : (0 : Int) ≤ (i : Int) := by omega
      have i7 : (i : Int) < 7 := by omega
      generalize rfirstM (parseR (patsT.getD i [])).1 (natL F) = R at *
      generalize strOf (patsT.getD i []) = S at *
      generalize rfirstM (parseR (patsT.getD i [])).1 [natL F].flatten = R2 at *
      generalize rfirstM (parseR (patsT.getD i [])).1 (singles (natL F)).flatten = R3 at *
      generalize playM R (natLL P) = r1 at *
      generalize playM R2 [natL F] = r2 at *
      generalize playM R3 (singles (natL F)) = r3 at *
      obtain ⟨i1, a⟩ := r1
      obtain ⟨i2, a2⟩ := r2
      obtain ⟨i3, a3⟩ := r3
      obtain ⟨e1, e2, e3, e4⟩ := HL.out
      simp only at e1 e2 e3 e4 hpn HP1 HP2 HP3
      subst e1
      subst e2
      have ha : -1 ≤ a ∧ a ≤ F.length := by rw [hpn]; split <;> omega
      obtain ⟨a0, a1⟩ := ha
      have HE3 := Lib.hid e3
      have HE4 := Lib.hid e4
      have HAL := Lib.hid hal
      clear e3 e4 hpn HL HB b0 b1
      have HO3 : Hid (Old wr (wr.alloc patsObj)) := Lib.hid ((Old.refl wr).alloc _)
      go_wp2_with fail
      refine (HMP.out).mono ?_; rintro e w3 ⟨rfl, rfl⟩
      generalize wr.alloc patsObj = w3 at *
      go_wp2_with fail
      refine (HMD.out _).mono ?_; rintro e w3' ⟨rfl, rfl⟩
      have HC1 := Lib.hid (HP1.out w3 (HO.out.up HO3.out))
      clear HMP HMD HP1
      go_wp2_with fail
      refine (HC1.out).mono ?_; rintro e w4 ⟨rfl, hd4⟩
      have HO4 := Lib.hid (HO3.out.up hd4)
      have HC2 := Lib.hid (HP2.out w4 HO4.out)
      clear HC1 HP2 hd4 hstr HO3
      go_wp2_with fail
      refine (HC2.out).mono ?_; rintro e w5 ⟨rfl, hd5⟩
      have HO5 := Lib.hid ((HO4.out.alloc _).up hd5)
      have HC3 := Lib.hid (HP3.out w5 HO5.out)
      clear HC2 HP3 hd5 HO4
      go_wp2_with fail
      refine (HC3.out).mono ?_; rintro e w6 ⟨rfl, hd6⟩
      have HO6 := Lib.hid (HD2.out.up (HO.out.up (HO5.out.up hd6)))
      clear HC3 hd6 HO5 HO HD2
      by_cases han : a < 0
      · obtain ⟨f1, f2⟩ := HE3.out han
        subst f1
        subst f2
        have n0 : decide (a < 0) = true := by simpa using han
        clear HE3 HE4
        go_wp2_with fail
        go_ret
        exact ⟨rfl, HO6.out⟩
      · obtain ⟨f1, f2⟩ := HE4.out (by omega)
        subst f1
        have n0 : decide (a < 0) = false := by simpa using han
        have hal := HAL.out
        have n1 : IntKind.i64.wrap (a - 1) = a - 1 := by rw [IntWalk.i64_in _ (by omega)]
        by_cases h0 : a = 0
        · have hi1 : i1 < 0 := f2.2 h0
          subst h0
          clear HE3 HE4 f2 han
          go_wp2_with fail
          go_ret
          exact ⟨rfl, HO6.out⟩
        · have n3 : decide (i1 < 0) = false := decide_eq_false (fun h => h0 (f2.1 h))
          have n2 : (a == 0) = false := by simpa using h0
          clear HE3 HE4 f2
          go_wp2_with fail
          go_ret
          exact ⟨rfl, HO6.out⟩
end Go.Proofs.Ythadkjgadhbidaa
/-
  The walk of the reference's Play (matcher).
-/
namespace Go.Proofs.Ythadkjgadhbidaa
open Go.RowKit
set_option linter.unusedVariables false

def RComp (w : World) (l : List Nd) (e : Ending) (w' : World) : Prop :=
  (∃ v, e = .returned (.tuple #[v, .int .i64 0]) ∧ Own w' w.heap.size 42 7 v (rcompM l).length (ndsV (rcompM l))) ∧ Old w w'
set_option maxHeartbeats 8000000 in
set_option maxRecDepth 100000 in
theorem rcompC (A : Option Addr) (c : Nat) (l : List Nd) (w : World) (hr : Rs w A (ndsV l)) (hm : l.length ≤ maxLen) (hso : ∀ x ∈ l, setOk x.set) (hv : validM l = true) :
    Calls Try.prog 17 #[.slice A l.length c] w (RComp w l) := by
  have hV := rvalidC A c l w hr hm hso
  rw [hv] at hV
  have HV := Lib.hid hV
  have hlen := validM_len hv
  obtain ⟨k, hk⟩ : ∃ k, l.length = k + 1 := ⟨l.length - 1, by omega⟩
  have hk1 : l.length - 1 = k := by omega
  have hsub := validM_sub hv
  rw [hk1] at hsub
  have hm := (rbF_made hsub l.length 0 (by omega)).few
  have HC0 := Lib.hid (fun w' (h : Old w w') => rbuildC A c l (by omega) hsub l.length 0 w' (by omega) (by omega) (hr.up h))
  have HE0 : Hid (rcompM l = rbF l l.length k 0 ++ [⟨5, 0, 0, 0⟩]) := Lib.hid (by unfold rcompM; rw [hk1])
  clear hV hr hso hv hsub
  have hke : (l.length : Int) - 1 = (k : Int) := by omega
  generalize rbF l l.length k 0 = r at *
  generalize l.length = L at *
  subst hk
  go_enter Try.func17, Try.ntmps17
  go_wp2_with fail
  refine (HV.out).mono ?_; rintro e V ⟨rfl, hd⟩
  have HD := Lib.hid hd
  have HC := Lib.hid (HC0.out V hd)
  clear hd HV HC0
  go_wp2_with fail
  refine (HC.out).mono ?_; rintro e w2 ⟨v2, rfl, ho2, hd2⟩
  obtain ⟨A2, c2, rfl, ht2, _, _⟩ := ho2.shape
  have HO2 := Lib.hid ho2
  have HB2 := Lib.hid hd2.size
  have HD2 := Lib.hid hd2
  clear ho2 ht2 hd2 HC
  have hlr : r.length ≤ 1000 := by omega
  go_wp2_with (at_builtin; refine wpList_push (wr := w2) rfl _ _ 28 rfl _ 42 (.agg #[.int .i64 0, .int .i64 0, .int .i64 0, .int .u64 0, .int .u64 0, .int .u64 0, .int .u64 0]) 7 56 Try.underlying28 info_st rfl (by decide) (by decide) _ _ _ rfl HO2.out 1 1 [.int .i64 5, .int .i64 0, .int .i64 0, .int .u64 0, .int .u64 0, .int .u64 0, .int .u64 0] rfl rfl rfl rfl ?pn1 HB2.out ?_)
  case pn1 => omega
  intro v4 w4 ho4 hg4 hd4
  have ho4' : Own w4 V.heap.size 42 7 v4 (r.length + 1) (ndsV (r ++ [⟨5, 0, 0, 0⟩])) := by
    rw [ndsV_append]
    have e : ndsV [(⟨5, 0, 0, 0⟩ : Nd)] = [.int .i64 5, .int .i64 0, .int .i64 0, .int .u64 0, .int .u64 0, .int .u64 0, .int .u64 0] := by simp [ndsV, ndCells, setW_zero]
    rw [e]; exact ho4
  have HO4 := Lib.hid ho4'
  have HD4 := Lib.hid (hd4 w (HD.out.up HD2.out) HD.out.size)
  obtain ⟨A4, c4, rfl, ht4, _, _⟩ := ho4'.shape
  clear ho4 ho4' hg4 hd4 HO2 ht4
  go_wp2_with fail
  refine bodyPost_ret (v := .tuple #[.slice A4 (r.length + 1) c4, .int .i64 0]) (by simp [results, Try.results17, go_sem]) rfl ?_
  refine ⟨⟨_, rfl, ?_⟩, HD4.out⟩
  rw [HE0.out]
  exact (own_st_len HO4.out).base HD.out.size

/-- What the pattern finds in the first chunks. -/
theorem rfirst_chunks {l : List Nd} (hv : validM l = true) (cs : List (List Nat)) (j : Nat) : rfirstM l (cs.take j).flatten = if 0 ≤ rfirstM l cs.flatten ∧ rfirstM l cs.flatten ≤ baseC cs j then rfirstM l cs.flatten else -1 := by
  have h1 : cs.flatten = (cs.take j).flatten ++ (cs.drop j).flatten := by rw [← List.flatten_append, List.take_append_drop]
  have h2 : (cs.take j).flatten = cs.flatten.take (baseC cs j) := by
    unfold baseC
    rw [h1, List.take_left' rfl]
  have h3 : baseC cs j ≤ cs.flatten.length := by
    have := congrArg List.length h1
    rw [List.length_append] at this
    unfold baseC
    omega
  rw [h2]
  exact rfirst_take hv cs.flatten _ h3
theorem take_flat_succ (cs : List (List Nat)) (j : Nat) (hj : j < cs.length) : (cs.take (j + 1)).flatten = (cs.take j).flatten ++ cs.getD j [] := by
  rw [List.take_add_one, List.getElem?_eq_getElem hj, List.flatten_append, List.getD_eq_getElem?_getD, List.getElem?_eq_getElem hj]
  simp
def RcJ (w : World) (B : Nat) (cs : List (List Nat)) (R : Int) (tv jv : Value) (wr : World) : Prop :=
  ∃ j : Nat, jv = .int .i64 j ∧ j ≤ cs.length ∧ Own wr B 5 1 tv (baseC cs j) (txt (cs.take j).flatten) ∧ Old w wr ∧ ¬ (0 ≤ R ∧ R ≤ baseC cs j)
theorem info_r8 : (Try.prog.info? 5).map (fun i => (i.zero, i.size, i.bytes)) = some (some (.int .u8 0), 1, 1) := by kernel_rfl
theorem rtxt_one (t : List Nat) : (txt t).all Value.oneCell' = true := by simp [txt, Value.oneCell']
theorem rtxt_append (a b : List Nat) : txt (a ++ b) = txt a ++ txt b := by unfold txt; rw [List.map_append]
theorem rc_idx (cs : List (List Nat)) (j : Nat) (R : Int) (hj : j < cs.length) (h1 : ¬ (0 ≤ R ∧ R ≤ baseC cs j)) (h2 : 0 ≤ R) (h3 : R ≤ baseC cs (j + 1)) : playM R cs = ((j : Int), R) := by
  have hb := baseC_succ cs j hj
  obtain ⟨k, rfl⟩ : ∃ k : Nat, R = ((baseC cs j + k : Nat) : Int) + 1 := ⟨(R - 1).toNat - baseC cs j, by omega⟩
  obtain ⟨_, q2, _⟩ := flat_get cs j k hj (by omega)
  exact play_at rfl q2
set_option maxHeartbeats 8000000 in
set_option maxRecDepth 100000 in
theorem rplayC (s : ByteArray) (hs : s.size ≤ 9223372036854775807) (Ac : Option Addr) (cc : Nat) (cs : List (List Nat)) (ad : Nat → Option Addr) (cp : Nat → Nat) (w : World) (hc : ChR w Ac cs ad cp) (hb : ∀ x ∈ cs.flatten, x < 256) (hl : cs.flatten.length < 1000000000) (hl2 : cs.length < 1000000000) :
    Calls Try.prog 27 #[.string s, .slice Ac cs.length cc] w (PlayPost w s cs) := by
  have HC := Lib.hid hc
  have HB := Lib.hid hb
  have HL := Lib.hid hl
  have HL2 := Lib.hid hl2
  have HP := Lib.hid (parseC (6 * (bs s).length + 6) s (parseR (bs s)) w hs (parseR_eq _))
  have htr := fun n (h : parseR (bs s) = (n, 0)) => parse_tr (l := n) (h ▸ parseR_eq (bs s))
  have hset := parseR_sets (B := bs s) (fun x hx => by unfold bs at hx; obtain ⟨y, _, rfl⟩ := List.mem_map.mp hx; exact y.toNat_lt)
  obtain ⟨⟨n, c⟩, hr⟩ : ∃ r, parseR (bs s) = r := ⟨_, rfl⟩
  have HRR := Lib.hid hr
  rw [hr] at HP htr hset
  have HTR := Lib.hid (htr n)
  have HSET := Lib.hid hset
  clear hc hb hl hl2 htr hset hr hs
  go_enter Try.func27, Try.ntmps27
  go_wp2_with fail
  refine (HP.out).mono ?_; rintro e w1 ⟨v1, rfl, ho1, hd1⟩
  obtain ⟨A1, c1, rfl, ht1, _, _⟩ := ho1.shape
  have HN1 := Lib.hid ht1.rs
  have HD1 := Lib.hid hd1
  clear ho1 ht1 hd1 HP
  by_cases h0 : c = 0
  case neg =>
    have hb0 : (c != 0) = true := by simpa using h0
    have HPO : Hid (∀ w', Old w w' → PlayPost w s cs (.returned (.tuple #[.int .i64 0, .int .i64 0, .int .i64 c])) w') := Lib.hid (fun w' ho => ⟨fun n' c' h => by rw [HRR.out] at h; injection h with h1 h2; subst h2; rw [if_neg h0, if_neg h0], ho⟩)
    clear h0
    go_wp2_with fail
    refine bodyPost_ret (v := .tuple #[.int .i64 0, .int .i64 0, .int .i64 c]) (by simp [results, Try.results27, go_sem]) rfl ?_
    exact HPO.out _ HD1.out
  subst h0
  obtain ⟨htr, hln, _⟩ := HTR.out rfl
  have hv := Tr.valid htr hln
  have HCC := Lib.hid (rcompC A1 c1 n w1 HN1.out (by unfold maxLen; omega) HSET.out hv)
  obtain ⟨_, _, hfew, hne, hsets⟩ := rcomp_ok hv
  have hRUN := fun t => rcomp_run hv t
  have HFT := Lib.hid (fun j => rfirst_chunks hv cs j)
  have HBD := Lib.hid (rfirst_bd hv cs.flatten)
  have hso := hsets HSET.out
  have HPO : Hid (∀ w' (a b : Int), Old w w' → playM (rfirstM n cs.flatten) cs = (a, b) → PlayPost w s cs (.returned (.tuple #[.int .i64 a, .int .i64 b, .int .i64 0])) w') := Lib.hid (fun w' a b ho hab => ⟨fun n' c' h => by
    rw [HRR.out] at h
    injection h with h1 h2
    subst h1
    subst h2
    rw [if_pos rfl, if_pos rfl, hab], ho⟩)
  have HRC := Lib.hid (fun (W : World) (A At : Option Addr) (c ct j : Nat) (hs : Rs W A (ndsV (rcompM n))) (ht : Rs W At (txt (cs.take j).flatten)) (hmt : (cs.take j).flatten.length ≤ 1000000000) => by
    have := rrunC A At c ct (rcompM n) (cs.take j).flatten W hs ht (by unfold maxLen; omega) hmt (fun x hx => HB.out x (by
      have h1 : cs.flatten = (cs.take j).flatten ++ (cs.drop j).flatten := by rw [← List.flatten_append, List.take_append_drop]
      rw [h1]; exact List.mem_append_left _ hx)) hso
    rw [hRUN, HFT.out] at this
    exact this)
  clear htr hln hv HTR HSET HN1 hRUN hso hsets HFT HRR
  go_wp2_with fail
  refine (HCC.out).mono ?_; rintro e w2 ⟨⟨v2, rfl, how⟩, hd2⟩
  obtain ⟨A2, c2, rfl, ht2, _, _⟩ := how.shape
  have HST := Lib.hid ht2.rs
  have HD2 := Lib.hid (HD1.out.up hd2)
  clear how ht2 hd2 HD1 HCC
  generalize rcompM n = st at *
  generalize rfirstM n cs.flatten = R at *
  have hr0 := HRC.out w2 A2 none c2 0 0 HST.out Rs.nil_ (by simp)
  have e0 : baseC cs 0 = 0 := rfl
  have e1 : ((cs.take 0).flatten).length = 0 := rfl
  rw [e0, e1] at hr0
  have HR0 := Lib.hid hr0
  clear hr0 e0 e1
  by_cases hR0 : R = 0
  · subst hR0
    have hq := HR0.out
    rw [if_pos (by omega)] at hq
    have HQ := Lib.hid hq
    clear hq HR0 HRC
    go_wp2_with fail
    refine (HQ.out).mono ?_; rintro e w3 ⟨rfl, hd3⟩
    have HX := Lib.hid (HPO.out w3 (-1) 0 (HD2.out.up hd3) rfl)
    clear HPO HQ hd3
    go_wp2_with fail
    refine bodyPost_ret (v := .tuple #[.int .i64 (-1), .int .i64 0, .int .i64 0]) (by simp [results, Try.results27, go_sem]) rfl ?_
    exact HX.out
  · have hq := HR0.out
    rw [if_neg (by omega)] at hq
    have HQ := Lib.hid hq
    clear hq HR0
    go_wp2_with fail
    refine (HQ.out).mono ?_; rintro e w3 ⟨rfl, hd3⟩
    have HD3 := Lib.hid hd3
    have HI : Hid (RcJ w2 w2.heap.size cs R (.slice none 0 0) (.int .i64 0) w3) := Lib.hid ⟨0, rfl, Nat.zero_le _, Own.nil_ _ _ _ _, hd3, by show ¬ (0 ≤ R ∧ R ≤ ((0 : Nat) : Int)); omega⟩
    clear HQ hd3 hR0
    go_wp2_with fail
    go_loopw [11, 12] (fun tv jv wr => RcJ w2 w2.heap.size cs R tv jv wr) (fun _ jv _ => cs.length - (intOf jv).toNat)
    case atStart => exact HI.out
    case round =>
      clear HI HD3
      obtain ⟨j, rfl, hj, ho, hO, hnb⟩ := hrel
      have hl2 := HL2.out
      have hlf := HL.out
      have HO := Lib.hid hO
      have HNB := Lib.hid hnb
      clear hO hnb
      by_cases hlt : j < cs.length
      · have i1 : (j : Int) < (cs.length : Int) := by omega
        have i0 : (0 : Int) ≤ (j : Int) := by omega
        have hch := HC.out.up (HD2.out.up HO.out)
        obtain ⟨bA, oA, rfl, _, hcA⟩ := hch.outer.at_ (by simp; omega)
        have cA := hcA j _ (range_at _ hlt)
        have HRW := Lib.hid (hch.rows j hlt)
        have HBS := Lib.hid (baseC_succ cs j hlt)
        have HTK := Lib.hid (take_flat_succ cs j hlt)
        have HIX := Lib.hid (rc_idx cs j R hlt HNB.out)
        have hbl : baseC cs (j + 1) ≤ cs.flatten.length := by
          have h1 : cs.flatten = (cs.take (j + 1)).flatten ++ (cs.drop (j + 1)).flatten := by rw [← List.flatten_append, List.take_append_drop]
          have := congrArg List.length h1
          rw [List.length_append] at this
          unfold baseC
          omega
        have hsum : baseC cs j + (cs.getD j []).length < 1000000000 := by rw [← HBS.out]; omega
        have HSZ := Lib.hid HO.out.size
        clear hcA hch hbl HNB
        generalize cs.getD j [] = chk at *
        generalize ad j = aj at *
        go_wp2_with (at_builtin; refine wpList_pushAll rfl _ _ 23 rfl _ 5 (.int .u8 0) 1 1 Try.underlying23 info_r8 rfl (by decide) (by decide) _ _ _ (by rfl) ho _ _ _ _ (by rfl) HRW.out (by rw [txt_length, Nat.mul_one]) (rtxt_one _) ?pn2 HSZ.out ?_)
        case pn2 => omega
        intro v4 w4 ho4 hg4 hd4
        have hO4 := hd4 w2 HO.out (Nat.le_refl _)
        rw [← rtxt_append, ← HTK.out, ← HBS.out] at ho4
        obtain ⟨A4, c4, rfl, ht4, _, _⟩ := ho4.shape
        have HO4 := Lib.hid ho4
        have HD4 := Lib.hid hO4
        have hr1 := HRC.out w4 A2 A4 c2 c4 (j + 1) (HST.out.up hO4) ht4.rs (by show baseC cs (j + 1) ≤ _; rw [HBS.out]; omega)
        change Calls _ _ #[_, .slice A4 (baseC cs (j + 1)) c4] _ _ at hr1
        have HR1 := Lib.hid hr1
        clear ho ho4 ht4 hg4 hd4 hO4 hr1 HO cA HRW HTK HSZ
        by_cases hhit : 0 ≤ R ∧ R ≤ baseC cs (j + 1)
        · have hq := HR1.out
          rw [if_pos hhit] at hq
          have HQ := Lib.hid hq
          have hix := HIX.out hhit.1 hhit.2
          obtain ⟨h1, h2⟩ := hhit
          have HX := Lib.hid (fun w' (h : Old w2 w') => HPO.out w' (j : Int) R (HD2.out.up h) hix)
          clear hq HR1 HIX hix h2 HPO HRC HC HB
          generalize baseC cs (j + 1) = bj at *
          go_wp2_with fail
          refine (HQ.out).mono ?_; rintro e w5 ⟨rfl, hd5⟩
          have HD5 := Lib.hid (HD4.out.up hd5)
          clear hd5 HQ
          go_wp2_with fail
          refine bodyPost_ret (v := .tuple #[.int .i64 (j : Int), .int .i64 R, .int .i64 0]) (by simp [results, Try.results27, go_sem]) rfl ?_
          exact HX.out _ HD5.out
        · have hq := HR1.out
          rw [if_neg hhit] at hq
          have HQ := Lib.hid hq
          have HH := Lib.hid hhit
          clear hq HR1 HIX hhit
          go_wp2_with fail
          refine (HQ.out).mono ?_; rintro e w5 ⟨rfl, hd5⟩
          have HW : Hid (RcJ w2 w2.heap.size cs R (.slice A4 (baseC cs (j + 1)) c4) (.int .i64 ((j + 1 : Nat) : Int)) w5) := Lib.hid ⟨j + 1, rfl, hlt, HO4.out.up hd5, HD4.out.up hd5, HH.out⟩
          clear hd5 HQ HO4 HD4 HBS
          go_wp2_with fail
          go_roundw
          case rel => exact HW.out
          case measure => simp [intOf]; omega
      · obtain rfl : j = cs.length := by omega
        have hR : R = -1 := by
          have h5 := HNB.out
          rw [baseC_all] at h5
          have := HBD.out
          omega
        subst hR
        have HX := Lib.hid (HPO.out wr (cs.length : Int) (-1) (HD2.out.up HO.out) rfl)
        clear HPO ho HO HNB HRC
        go_wp2_with fail
        refine bodyPost_ret (v := .tuple #[.int .i64 (cs.length : Int), .int .i64 (-1), .int .i64 0]) (by simp [results, Try.results27, go_sem]) rfl ?_
        exact HX.out
end Go.Proofs.Ythadkjgadhbidaa
/-
  The walk of the statement MatcherFinds.
-/
namespace Go.Proofs.Ythadkjgadhbidaa
open Go.RowKit
set_option linter.unusedVariables false

/-- Both Plays return the same. -/
theorem playBoth (s : ByteArray) (hs : s.size ≤ 9223372036854775807) (A : Option Addr) (c : Nat) (cells : List Value) (cs : List (List Nat)) (w : World) (h : Rs w A cells) (hl : RsL w cells (cs.map txt)) (hb : ∀ x ∈ cs.flatten, x < 256) (h1 : cs.flatten.length < 1000000000) (h2 : cs.length < 1000000000) :
    ∃ r1 r2 r3 : Int, ∀ W, Old w W → Calls Try.prog 26 #[.string s, .slice A cs.length c] W (ValOld (.tuple #[.int .i64 r1, .int .i64 r2, .int .i64 r3]) W) ∧
      Calls Try.prog 27 #[.string s, .slice A cs.length c] W (ValOld (.tuple #[.int .i64 r1, .int .i64 r2, .int .i64 r3]) W) := by
  obtain ⟨ad, cp, hc⟩ := chr_of h hl
  refine ⟨_, _, _, fun W hW => ⟨(mplayC s A c cs ad cp W (hc.up hW) hb h1 h2).mono fun e w' hp => ⟨hp.1 _ _ rfl, hp.2⟩, (rplayC s hs A c cs ad cp W (hc.up hW) hb h1 h2).mono fun e w' hp => ⟨hp.1 _ _ rfl, hp.2⟩⟩⟩
def FdSum (w1 : World) (P : List (List UInt8)) (nv jv : Value) (wr : World) : Prop := ∃ j : Nat, jv = .int .i64 j ∧ j ≤ P.length ∧ nv = .int .i64 ((ahead P j).length : Int) ∧ Old w1 wr
theorem ahead_bd {P : List (List UInt8)} (h : ∀ q ∈ P, q.length ≤ 140737488351232) : ∀ j, (ahead P j).length ≤ 140737488351232 * j := by
  intro j
  induction j with
  | zero => simp [ahead]
  | succ j ih =>
    by_cases hj : j < P.length
    · rw [ahead_succ P j hj, List.length_append]
      have := h (P.getD j []) (by rw [List.getD_eq_getElem?_getD, List.getElem?_eq_getElem hj]; exact List.getElem_mem hj)
      omega
    · have : ahead P (j + 1) = ahead P j := by unfold ahead; rw [List.take_of_length_le (by omega), List.take_of_length_le (by omega)]
      rw [this]; omega
def FdRel (wB : World) (v : Value) (wr : World) : Prop := ∃ i : Nat, v = .int .i64 i ∧ i ≤ 2 ∧ Hid (Old wB wr)
set_option maxHeartbeats 8000000 in
set_option maxRecDepth 100000 in
theorem finds_any (A : Option Addr) (c : Nat) (l : List Int) (p : Int) (raw : ByteArray) (A3 : Option Addr) (c3 : Nat) (P3 : List (List UInt8)) (cells3 : List Value) (w : World) (hr : Rs w A (ints l)) (hm : l.length ≤ maxLen)
    (hr3 : Rs w A3 cells3) (hl3 : RsL w cells3 (P3.map bytes)) (hm3 : P3.length ≤ maxLen) (hq3 : ∀ q ∈ P3, q.length ≤ 140737488351232) (hraw : raw.size ≤ maxLen) :
    Calls Try.prog 7 #[.slice A l.length c, .int .i64 p, .string raw, .slice A3 P3.length c3] w (ValOld (.bool true) w) := by
  have HS := Lib.hid (sane11C w)
  have HR := Lib.hid hr
  have HR3 := Lib.hid hr3
  have HL3 := Lib.hid hl3
  have HQ3 := Lib.hid hq3
  have hm3' := hm3
  unfold maxLen at hm3' hraw
  clear hr hr3 hl3 hq3
  go_enter Try.func7, Try.ntmps7
  go_wp2_with fail
  refine (HS.out).mono ?_; rintro e w1 ⟨rfl, hd1⟩
  have HD1 := Lib.hid hd1
  clear hd1 HS
  by_cases h20 : 20 < raw.size
  case pos =>
    have i1 : (20 : Int) < (raw.size : Int) := by omega
    go_wp2_with fail
    go_ret
    exact ⟨rfl, HD1.out⟩
  have i20 : ¬ (20 : Int) < (raw.size : Int) := by omega
  by_cases h5 : 5 < P3.length
  case pos =>
    have i1 : (5 : Int) < (P3.length : Int) := by omega
    go_wp2_with fail
    go_ret
    exact ⟨rfl, HD1.out⟩
  have i5 : ¬ (5 : Int) < (P3.length : Int) := by omega
  go_wp2_with fail
  go_loopw [9, 35] (fun nv jv wr => FdSum w1 P3 nv jv wr) (fun _ jv _ => P3.length - (intOf jv).toNat)
  case atStart => exact ⟨0, rfl, Nat.zero_le _, rfl, Old.refl _⟩
  case round =>
    obtain ⟨j, rfl, hj, rfl, hO⟩ := hrel
    have hab := ahead_bd HQ3.out j
    by_cases hlt : j < P3.length
    · have i1 : (j : Int) < (P3.length : Int) := by omega
      have i0 : (0 : Int) ≤ (j : Int) := by omega
      have HAS := Lib.hid (ahead_succ P3 j hlt)
      have hget : (P3.map bytes)[j]? = some (bytes (P3.getD j [])) := by rw [List.getElem?_map, List.getElem?_eq_getElem hlt, List.getD_eq_getElem?_getD, List.getElem?_eq_getElem hlt]; rfl
      obtain ⟨Ap, cp, hcell, hcp, _, hfs⟩ := HL3.out.2 j _ hget
      rw [bytes_length] at hcell hcp
      have hp8 : (P3.getD j []).length ≤ 140737488351232 := HQ3.out _ (by rw [List.getD_eq_getElem?_getD, List.getElem?_eq_getElem hlt]; exact List.getElem_mem hlt)
      obtain ⟨bA, oA, rfl, _, hcA⟩ := (HR3.out.up (HD1.out.up hO)).at_ (by have := (List.getElem?_eq_some_iff.mp hcell).1; omega)
      have cA := hcA j _ hcell
      clear hcA hget hcell hfs
      generalize P3.getD j [] = q at *
      have HW : Hid (FdSum w1 P3 (.int .i64 (((ahead P3 j).length : Int) + (q.length : Int))) (.int .i64 ((j + 1 : Nat) : Int)) wr) := Lib.hid ⟨j + 1, rfl, hlt, by rw [HAS.out, List.length_append]; rfl, hO⟩
      clear hO HAS
      generalize (ahead P3 j).length = na at *
      go_wp2_with fail
      go_roundw
      case rel => exact HW.out
      case measure => simp [intOf]; omega
    · obtain rfl : j = P3.length := by omega
      rw [ahead_all] at hab ⊢
      have HO := Lib.hid hO
      clear hO
      generalize hnf : P3.flatten.length = nf at *
      have HNF := Lib.hid hnf
      clear hnf
      by_cases h16 : 16 < nf
      case pos =>
        have i1 : (16 : Int) < (nf : Int) := by omega
        go_wp2_with fail
        go_ret
        exact ⟨rfl, HD1.out.up HO.out⟩
      have i16 : ¬ (16 : Int) < (nf : Int) := by omega
      have HP := Lib.hid (piecesC A c l wr (HR.out.up (HD1.out.up HO.out)) hm)
      clear HR
      have h5' := piecesL_len l
      have h40 := flat_small (piecesL_small l)
      go_wp2_with fail
      refine (HP.out).mono ?_; rintro e w2 ⟨v, cells, rfl, hown, hfl, hd2⟩
      have HD2 := Lib.hid ((HD1.out.up HO.out).up hd2)
      obtain ⟨Ax, cx, rfl, htx, hcx, _⟩ := hown.shape
      have HTX := Lib.hid htx.rs
      have HFL := Lib.hid hfl.rs
      clear hown htx hfl hd2 HP HO HD1
      generalize piecesL l = P at *
      obtain ⟨i, hi⟩ := Int.eq_ofNat_of_zero_le (Int.emod_nonneg p (show (7 : Int) ≠ 0 by decide))
      have hi7 : i < 7 := by have := Int.emod_lt_of_pos p (show (0 : Int) < 7 by decide); omega
      have hmd := fun W => mod_any p 7 (by decide) (by decide) W
      simp only [hi] at hmd
      have HMD := Lib.hid hmd
      have HMP := Lib.hid (mpatternsC w2)
      have hstr : (w2.alloc patsObj).cell? ⟨w2.heap.size, i, none⟩ = some (.string (strOf (patsT.getD i []))) := by
        rw [cell_of_row _ w2.heap.size i _ _ _ (heap_alloc_new w2 patsObj)]
        have hl : i < patsT.length := hi7
        rw [List.getElem?_toArray, List.getElem?_map, List.getElem?_eq_getElem hl, List.getD_eq_getElem?_getD, List.getElem?_eq_getElem hl]
        rfl
      have hsz : (strOf (patsT.getD i [])).size ≤ 9223372036854775807 := by
        have : ∀ i, i < 7 → (strOf (patsT.getD i [])).size ≤ 100 := by decide +kernel
        have := this i hi7
        omega
      have i0 : (0 : Int) ≤ (i : Int) := by omega
      have i7 : (i : Int) < 7 := by omega
      generalize strOf (patsT.getD i []) = S at *
      have hB1 : ∀ s : ByteArray, s.size ≤ 9223372036854775807 → ∃ r1 r2 r3 : Int, ∀ W, Old w2 W → Calls Try.prog 26 #[.string s, .slice Ax P.length cx] W (ValOld (.tuple #[.int .i64 r1, .int .i64 r2, .int .i64 r3]) W) ∧
          Calls Try.prog 27 #[.string s, .slice Ax P.length cx] W (ValOld (.tuple #[.int .i64 r1, .int .i64 r2, .int .i64 r3]) W) := fun s hs => by
        have := playBoth s hs Ax cx cells (natLL P) w2 HTX.out (by rw [natLL_txt]; exact HFL.out) (by rw [natLL_flat]; exact natL_lt _) (by rw [natLL_flat, natL_len]; omega) (by simp [natLL]; omega)
        rwa [show (natLL P).length = P.length by simp [natLL]] at this
      have hB2 : ∀ s : ByteArray, s.size ≤ 9223372036854775807 → ∃ r1 r2 r3 : Int, ∀ W, Old w2 W → Calls Try.prog 26 #[.string s, .slice A3 P3.length c3] W (ValOld (.tuple #[.int .i64 r1, .int .i64 r2, .int .i64 r3]) W) ∧
          Calls Try.prog 27 #[.string s, .slice A3 P3.length c3] W (ValOld (.tuple #[.int .i64 r1, .int .i64 r2, .int .i64 r3]) W) := fun s hs => by
        have := playBoth s hs A3 c3 cells3 (natLL P3) w2 (HR3.out.up HD2.out) (by rw [natLL_txt]; exact HL3.out.up HD2.out) (by rw [natLL_flat]; exact natL_lt _) (by rw [natLL_flat, natL_len, HNF.out]; omega) (by simp [natLL]; omega)
        rwa [show (natLL P3).length = P3.length by simp [natLL]] at this
      have HC : Hid (∃ (SS : Nat → ByteArray) (AA : Nat → Option Addr) (LL CC : Nat → Nat), (SS 0 = S ∧ SS 1 = raw ∧ AA 0 = Ax ∧ AA 1 = A3 ∧ LL 0 = P.length ∧ LL 1 = P3.length ∧ CC 0 = cx ∧ CC 1 = c3) ∧
          ∀ i k, i < 2 → k < 2 → ∃ r1 r2 r3 : Int, ∀ W, Old w2 W → Calls Try.prog 26 #[.string (SS i), .slice (AA k) (LL k) (CC k)] W (ValOld (.tuple #[.int .i64 r1, .int .i64 r2, .int .i64 r3]) W) ∧
          Calls Try.prog 27 #[.string (SS i), .slice (AA k) (LL k) (CC k)] W (ValOld (.tuple #[.int .i64 r1, .int .i64 r2, .int .i64 r3]) W)) := Lib.hid (by
        refine ⟨fun i => if i = 0 then S else raw, fun k => if k = 0 then Ax else A3, fun k => if k = 0 then P.length else P3.length, fun k => if k = 0 then cx else c3, ⟨rfl, rfl, rfl, rfl, rfl, rfl, rfl, rfl⟩, fun i k hi hk => ?_⟩
        have hi' : i = 0 ∨ i = 1 := by omega
        have hk' : k = 0 ∨ k = 1 := by omega
        rcases hi' with rfl | rfl <;> rcases hk' with rfl | rfl
        · exact hB1 S hsz
        · exact hB2 S hsz
        · exact hB1 raw (by omega)
        · exact hB2 raw (by omega))
      clear hB1 hB2 hsz hi hmd HTX HFL HR3 HL3 HQ3 h40 hab
      have HO3 : Hid (Old w2 (w2.alloc patsObj)) := Lib.hid ((Old.refl w2).alloc _)
      go_wp2_with fail
      refine (HMP.out).mono ?_; rintro e w3 ⟨rfl, rfl⟩
      generalize w2.alloc patsObj = w3 at *
      go_wp2_with fail
      refine (HMD.out _).mono ?_; rintro e w3' ⟨rfl, rfl⟩
      have hb := heap_alloc_new w3 (.cells #[.string S, .string raw] 9)
      have HO4 := Lib.hid (HO3.out.alloc (.cells #[.string S, .string raw] 9))
      go_upto_region 15 with fail
      generalize w3.alloc (.cells #[.string S, .string raw] 9) = w4 at *
      have HB := Lib.hid hb
      clear hb HO3 hstr HMP HMD
      generalize w3.heap.size = kb at *
      go_wp2_with fail
      go_loopw [56] (fun iv wr => FdRel w4 iv wr) (fun iv _ => 2 - (intOf iv).toNat)
      case atStart => exact ⟨0, rfl, by omega, Lib.hid (Old.refl _)⟩
      case round =>
        obtain ⟨i, rfl, hi, HO⟩ := hrel
        by_cases hi2 : i < 2
        · obtain ⟨SS, AA, LL, CC, ⟨e1, e2, e3, e4, e5, e6, e7, e8⟩, hall⟩ := HC.out
          have hx : wr.cell? ⟨kb, i, none⟩ = some (.string (SS i)) := by
            have hb := HO.out.block HB.out
            have h2 : i = 0 ∨ i = 1 := by omega
            rcases h2 with rfl | rfl
            · rw [e1, cell_of_row wr kb 0 _ _ _ hb]; rfl
            · rw [e2, cell_of_row wr kb 1 _ _ _ hb]; rfl
          have HALL := Lib.hid (fun k hk => hall i k hi2 hk)
          have i3 : (0 : Int) ≤ (i : Int) := by omega
          have i4 : (i : Int) < 2 := by omega
          have hb := heap_alloc_new wr (.cells #[.slice Ax P.length cx, .slice A3 P3.length c3] 51)
          have HO5 := Lib.hid (HO.out.alloc (.cells #[.slice Ax P.length cx, .slice A3 P3.length c3] 51))
          clear e1 e2 hall HC
          generalize SS i = s at *
          go_upto_region 18 with fail
          generalize wr.alloc (.cells #[.slice Ax P.length cx, .slice A3 P3.length c3] 51) = w5 at *
          have HB5 := Lib.hid hb
          clear hb HO hx
          generalize wr.heap.size = kc at *
          go_wp2_with fail
          go_loopw [64] (fun kv wr => FdRel w5 kv wr) (fun kv _ => 2 - (intOf kv).toNat)
          case atStart => exact ⟨0, rfl, by omega, Lib.hid (Old.refl _)⟩
          case round =>
            obtain ⟨k, rfl, hk, HO⟩ := hrel
            by_cases hk2 : k < 2
            · have hx : wr.cell? ⟨kc, k, none⟩ = some (.slice (AA k) (LL k) (CC k)) := by
                have hb := HO.out.block HB5.out
                have h2 : k = 0 ∨ k = 1 := by omega
                rcases h2 with rfl | rfl
                · rw [e3, e5, e7, cell_of_row wr kc 0 _ _ _ hb]; rfl
                · rw [e4, e6, e8, cell_of_row wr kc 1 _ _ _ hb]; rfl
              have j3 : (0 : Int) ≤ (k : Int) := by omega
              have j4 : (k : Int) < 2 := by omega
              obtain ⟨r1, r2, r3, hc⟩ := HALL.out k hk2
              have HO6 := Lib.hid ((HO4.out.up HO5.out).up HO.out)
              have HCC := Lib.hid hc
              have HP1 := Lib.hid (HCC.out wr HO6.out).1
              clear hc e3 e4 e5 e6 e7 e8 HALL
              generalize AA k = Ak at *
              generalize LL k = Lk at *
              generalize CC k = Ck at *
              go_wp2_with fail
              refine (HP1.out).mono ?_; rintro e w6 ⟨rfl, hd6⟩
              have HO7 := Lib.hid (HO6.out.up hd6)
              have HO7' := Lib.hid (HO.out.up hd6)
              have HP2 := Lib.hid (HCC.out w6 HO7.out).2
              clear hd6 HP1 HCC HO6 HO hx
              go_wp2_with fail
              refine (HP2.out).mono ?_; rintro e w7 ⟨rfl, hd7⟩
              have HW : Hid (FdRel w5 (.int .i64 ((k + 1 : Nat) : Int)) w7) := Lib.hid ⟨k + 1, rfl, hk2, Lib.hid (HO7'.out.up hd7)⟩
              have n1 : (r1 != r1) = false := by simp
              have n2 : (r2 != r2) = false := by simp
              have n3 : (r3 != r3) = false := by simp
              clear hd7 HP2 HO7 HO7'
              go_wp2_with fail
              go_roundw
              case rel => exact HW.out
              case measure => simp [intOf]; omega
            · obtain rfl : k = 2 := by omega
              have HW : Hid (FdRel w4 (.int .i64 ((i + 1 : Nat) : Int)) wr) := Lib.hid ⟨i + 1, rfl, hi2, Lib.hid (HO5.out.up HO.out)⟩
              clear e3 e4 e5 e6 e7 e8 HALL
              go_wp2_with fail
              go_roundw
              case rel => exact HW.out
              case measure => simp [intOf]; omega
        · obtain rfl : i = 2 := by omega
          have HF := Lib.hid ((HD2.out.up HO4.out).up HO.out)
          clear HC
          go_wp2_with fail
          go_ret
          exact ⟨rfl, HF.out⟩
end Go.Proofs.Ythadkjgadhbidaa
namespace Go.Proofs.Ythadkjgadhbidaa
open Go.ChangeMaps Go.ChangeShapes Go.WideShapes Go.ChangeAt Go.RowKit Rw
set_option linter.unusedVariables false

theorem matcherFinds_row {Al : Option Addr} {len1 c1 : Nat} {p : Int} {raw : ByteArray} {A3 : Option Addr} {len3 c3 : Nat} {W : World} (h : ∃ l : List Int, l.length = len1 ∧ len1 ≤ maxLen ∧ Rs W Al (ints l)) (h2 : raw.size ≤ maxLen)
    (h3 : ∃ (P : List (List UInt8)) (cells : List Value), P.length = len3 ∧ len3 ≤ maxLen ∧ Rs W A3 cells ∧ RsL W cells (P.map bytes) ∧ ∀ q ∈ P, q.length ≤ 140737488351232) :
    Calls Try.prog 7 #[.slice Al len1 c1, .int .i64 p, .string raw, .slice A3 len3 c3] W fun e w' => e = .returned (.bool true) ∧ Below W.heap.size W w' := by
  obtain ⟨l, rfl, hm, hr⟩ := h
  obtain ⟨P, cells, rfl, hm3, hr3, hl3, hq3⟩ := h3
  exact finds_any Al c1 l p raw A3 c3 P cells W hr hm hr3 hl3 hm3 hq3 h2
set_option maxRecDepth 100000 in
theorem matcherFinds_lifted (os : Os) (started : os.Started) (H : Type) (enc : TypeId × Value → H) :
    ReturnsInHanded {} Try.checked os 7 .any (Rows.matcherFindsSpec.pre6 enc Try.prog Try.f7 Rows.matcherFindsRow.domain false) (Rows.matcherFindsSpec.post enc Try.prog Try.f7 false true false false) := by
  refine returnsInHanded_of_change_sized (C := Try.checked) own started (by kernel_rfl) Try.func7
    (ChangeSpec.witness6 (enc := enc) (C := Try.checked) false ⟨#[], #[.slice none 0 0, .int .i64 0, .string ⟨#[]⟩, .slice none 0 0], []⟩ 8 (by kernel_rfl) (by kernel_rfl) (by kernel_rfl) (by kernel_rfl)) ?_
  intro W base args ds gs before hval0 hW hcnd hsz0 _
  have hsz : (DataW.weightsEach Try.prog (Try.f7.params.toList ++ Rows.matcherFindsSpec.plain.varTypes Try.prog) (ds ++ gs)).all (· ≤ reachBytes) = true := hsz0
  have hval : ∀ (j : Nat) t v, Try.f7.params[j]? = some t → args[j]? = some v → Value.okWide Try.prog W .any base t v := hval0
  have hW' := hW
  obtain ⟨p, q, hA0, hV, rfl, hfz, hnd⟩ := hW
  have hA : DataW.TrodAll enc Try.prog W 0 (fun _ => true) true Try.f7.params.toList args.toList ds p := hA0
  rw [Try.params7] at hA hval hsz
  obtain ⟨v0, vs0, d0, ds0, p0, q0, hargs, rfl, rfl, h0, r0⟩ := trodAll_cons hA
  obtain ⟨v1, vs1, d1, ds1, p1, q1, rfl, rfl, rfl, h1, r1⟩ := trodAll_cons r0
  obtain ⟨v2, vs2, d2, ds2, p2, q2, rfl, rfl, rfl, h2, r2⟩ := trodAll_cons r1
  obtain ⟨v3, vs3, d3, ds3, p3, q3, rfl, rfl, rfl, h3, r3⟩ := trodAll_cons r2
  obtain ⟨rfl, rfl, rfl⟩ := trodAll_nil r3
  obtain rfl : args = #[v0, v1, v2, v3] := by cases args; simp_all
  obtain ⟨rfl, rfl⟩ := trodVars_none hV
  obtain ⟨a0, len0, cap0, rfl⟩ := okWide_slice Try.underlying22 (hval 0 22 v0 rfl rfl)
  have lt0 : ∀ x ∈ p0, x.block < W.heap.size := by obtain ⟨m, hm⟩ := h0; exact DataW.trod_lt m _ _ _ hm
  have w0 := open_intl h0
  obtain ⟨a1, rfl, rfl, rfl, w1⟩ := open_int Try.underlying3 (hval 1 3 v1 rfl rfl) h1
  obtain ⟨a2, rfl, rfl, rfl, w2⟩ := open_string Try.underlying9 (hval 2 9 v2 rfl rfl) h2
  obtain ⟨a3, len3, cap3, rfl⟩ := okWide_slice Try.underlying51 (hval 3 51 v3 rfl rfl)
  have lt3 : ∀ x ∈ p3, x.block < W.heap.size := by obtain ⟨m, hm⟩ := h3; exact DataW.trod_lt m _ _ _ hm
  have w3 := open_rowl h3 (fun n hn => of_decide_eq_true (List.all_eq_true.1 hsz n (DataW.weights_mem_each (j := 3) rfl rfl n hn)))
  clear hA0 hval0
  refine (matcherFinds_row w0 w2 w3).mono fun e W' ⟨he, bel⟩ => ?_
  subst he
  exact ⟨_, rfl, _, _, _, [], _, [], hW', trodAll_mk1 (shut_bool Try.underlying4 _), (trodAll_cons_mk (Below.trod laidOut (by kernel_rfl) (of_decide_eq_true (by kernel_rfl)) h0 bel lt0) (trodAll_cons_mk (shut_int Try.underlying3 w1) (trodAll_cons_mk (shut_string Try.underlying9 w2) (trodAll_cons_mk (Below.trod laidOut (by kernel_rfl) (of_decide_eq_true (by kernel_rfl)) h3 bel lt3) trodAll_mk0)))), rfl, bel.frame _, fun h => by cases h⟩

theorem matcherFinds_holds : Rows.MatcherFindsSaid :=
  OpenClaim.holds_of_wide 7 Try.f7 rfl rfl rfl rfl rfl rfl rfl ⟨rfl, rfl, rfl, rfl, rfl⟩ rfl rfl rfl rfl rfl (by kernel_rfl) Try.func7 (by kernel_rfl)
    (of_decide_eq_true (by kernel_rfl)) (by unfold Func.isWrapper; first | (rw [if_pos (by decide +kernel)]; kernel_rfl) | (rw [if_neg (by decide +kernel)]; exact ⟨rfl, rfl⟩))
    (fun os started H enc _ => matcherFinds_lifted os started H enc)

end Go.Proofs.Ythadkjgadhbidaa
