/-
  Words on memory that the walks share: a slice value that reads as a list of cells; what stays when other blocks are made or written. No program in sight.
-/
import Derived.WalkKit
import Derived.Lib.Hide
import Derived.Deep.QuietTactic
namespace Go.Proofs.Ytfejefndcckdbaa
open Go.RowKit

/-- The slice's address A leads to the cells xs, in a block below B; nothing is asked where xs is empty. -/
def Rd (w : World) (B : Nat) (A : Option Addr) (xs : List Value) : Prop :=
  xs = [] ∨ ∃ b off, A = some ⟨b, off, none⟩ ∧ b < B ∧ ∀ j u, xs[j]? = some u → w.cell? ⟨b, off + j, none⟩ = some u

theorem Rd.nil_ {w : World} {B : Nat} {A : Option Addr} : Rd w B A [] := Or.inl rfl
theorem Rd.at_ {w : World} {B : Nat} {A : Option Addr} {xs : List Value} (h : Rd w B A xs) (hne : 0 < xs.length) :
    ∃ b off, A = some ⟨b, off, none⟩ ∧ b < B ∧ ∀ j u, xs[j]? = some u → w.cell? ⟨b, off + j, none⟩ = some u := by
  rcases h with rfl | h
  · simp at hne
  · exact h
theorem Rd.keep {w w' : World} {B : Nat} {A : Option Addr} {xs : List Value} (h : Rd w B A xs) (hk : ∀ p : Addr, p.block < B → w'.cell? p = w.cell? p) : Rd w' B A xs := by
  rcases h with rfl | ⟨b, off, hA, hb, hc⟩
  · exact Rd.nil_
  · exact Or.inr ⟨b, off, hA, hb, fun j u hu => (hk _ hb).trans (hc j u hu)⟩
theorem Rd.below {w w' : World} {B : Nat} {A : Option Addr} {xs : List Value} (h : Rd w B A xs) (hb : Below B w w') : Rd w' B A xs := h.keep fun _ hp => hb.cell hp
theorem Rd.mono {w : World} {B B' : Nat} {A : Option Addr} {xs : List Value} (h : Rd w B A xs) (hB : B ≤ B') : Rd w B' A xs := by
  rcases h with rfl | ⟨b, off, hA, hb, hc⟩
  · exact Rd.nil_
  · exact Or.inr ⟨b, off, hA, by omega, hc⟩
theorem Rd.alloc {w : World} {B : Nat} {A : Option Addr} {xs : List Value} (h : Rd w B A xs) (hB : B ≤ w.heap.size) (o : Obj) : Rd (w.alloc o) B A xs := h.below ((Below.refl B w).alloc hB o)
theorem Rd.drewN {w : World} {B : Nat} {A : Option Addr} {xs : List Value} (h : Rd w B A xs) (n : Nat) : Rd (w.drewN n) B A xs := h
theorem Rd.drop {w : World} {B : Nat} {b off : Nat} {xs : List Value} (h : Rd w B (some ⟨b, off, none⟩) xs) (k : Nat) : Rd w B (some ⟨b, off + k, none⟩) (xs.drop k) := by
  rcases h with rfl | ⟨b, off, hA, hb, hc⟩
  · simp; exact Rd.nil_
  · simp only [Option.some.injEq, Addr.mk.injEq, and_true] at hA
    obtain ⟨rfl, rfl⟩ := hA
    refine Or.inr ⟨_, _, rfl, hb, fun j u hu => ?_⟩
    rw [List.getElem?_drop] at hu
    rw [Nat.add_assoc]
    exact hc _ _ hu
theorem Rd.take {w : World} {B : Nat} {A : Option Addr} {xs : List Value} (h : Rd w B A xs) (k : Nat) : Rd w B A (xs.take k) := by
  rcases h with rfl | ⟨b, off, hA, hb, hc⟩
  · simp; exact Rd.nil_
  · refine Or.inr ⟨_, _, hA, hb, fun j u hu => ?_⟩
    rw [List.getElem?_take] at hu
    split at hu
    · exact hc _ _ hu
    · cases hu

/-- An owned row is a slice value of that length, and reads. -/
theorem own_shape {w : World} {base : Nat} {e : TypeId} {size : Nat} {v : Value} {n : Nat} {xs : List Value} (h : w.ownsRow base e size v n xs) :
    ∃ A c, v = .slice A n c ∧ Rd w w.heap.size A xs ∧ xs.length = n * size ∧ n ≤ c ∧ c ≤ maxLen := by
  have hc := fun g hg j u => h.cells (g := g) hg j u
  rcases h with ⟨h1, ⟨rfl, rfl⟩ | ⟨g, cap, cur, rfl, hg, hh, hn, hm, hs, hx⟩⟩
  · refine ⟨none, 0, rfl, Or.inl (List.eq_nil_of_length_eq_zero (by simpa using h1)), h1, Nat.le_refl _, Nat.zero_le _⟩
  · refine ⟨_, cap, rfl, ?_, h1, hn, hm⟩
    refine Or.inr ⟨g, 0, rfl, ?_, fun j u hu => ?_⟩
    · rcases Nat.lt_or_ge g w.heap.size with h | h
      · exact h
      · rw [Array.getElem?_eq_none h] at hh; cases hh
    · have := hc g rfl j u hu
      unfold Addr.add at this
      split at this
      · next h0 => subst h0; simpa using this
      · simpa using this
/-- What is owned stays owned behind a call that makes memory and writes nothing old. -/
theorem own_below {w w' : World} {base : Nat} {e : TypeId} {size : Nat} {v : Value} {n : Nat} {xs : List Value} (h : w.ownsRow base e size v n xs) (hb : Below w.heap.size w w') :
    w'.ownsRow base e size v n xs := by
  refine h.kept (row := none) ⟨hb.os, hb.tape, hb.output, hb.size, fun k hk _ => hb.block k hk⟩ ?_
  cases hv : v.ownBlock with
  | none => exact Or.inl rfl
  | some k => exact Or.inr (by simp)
theorem own_base {w : World} {base base' : Nat} {e : TypeId} {size : Nat} {v : Value} {n : Nat} {xs : List Value} (h : w.ownsRow base e size v n xs) (hb : base' ≤ base) :
    w.ownsRow base' e size v n xs := by
  rcases h with ⟨h1, ⟨h2, h3⟩ | ⟨g, cap, cur, h2, hg, h4⟩⟩
  · exact ⟨h1, Or.inl ⟨h2, h3⟩⟩
  · exact ⟨h1, Or.inr ⟨g, cap, cur, h2, by omega, h4⟩⟩
theorem below_drewN {B : Nat} {a w : World} (h : Below B a w) (n : Nat) : Below B a (w.drewN n) := ⟨h.os, h.tape, h.output, h.size, h.block⟩
/-- A contract that leaves the world as it is, for a region that draws its order. -/
theorem quiet_same {P : Program} {f : FuncId} {args : Array Value} {w : World} {n : Nat} {v : Value}
    (h : Calls P f args (w.drewN n) fun e w' => e = .returned v ∧ w.drewN n = w') : Calls P f args (w.drewN n) fun e w'' => e = .returned v ∧ ∃ m, w'' = w.drewN m :=
  h.mono fun _ _ ⟨he, hm⟩ => ⟨he, n, hm.symm⟩
/-- The same for a contract that only draws. -/
theorem quiet_draws {P : Program} {f : FuncId} {args : Array Value} {w : World} {n : Nat} {v : Value}
    (h : Calls P f args (w.drewN n) fun e w' => e = .returned v ∧ ∃ k, w' = (w.drewN n).drewN k) : Calls P f args (w.drewN n) fun e w'' => e = .returned v ∧ ∃ m, w'' = w.drewN m :=
  h.mono fun _ _ ⟨he, k, hm⟩ => ⟨he, n + k, by rw [hm, World.drewN_drewN]⟩
/-- The call returns a slice that it has made itself: n elements of type e, of these cells; nothing old is written. -/
def NewRow (w : World) (e : TypeId) (size n : Nat) (xs : List Value) (d : Ending) (w' : World) : Prop :=
  ∃ v, d = .returned v ∧ w'.ownsRow w.heap.size e size v n xs ∧ Below w.heap.size w w'
/-- The cells of a block just made. -/
theorem new_cells (w : World) (cs : List Value) (e : TypeId) (j : Nat) (u : Value) (h : cs[j]? = some u) : (w.alloc (.cells cs.toArray e)).cell? ((⟨w.heap.size, 0, none⟩ : Addr).add j) = some u := by
  have hc : (w.alloc (.cells cs.toArray e)).cell? ⟨w.heap.size, j, none⟩ = some u := by
    rw [cell_of_row _ w.heap.size j cs.toArray e (0, 0) (heap_alloc_new w _)]
    simpa using h
  unfold Addr.add
  split
  · next h0 => subst h0; exact hc
  · simpa using hc
/-- Behind an append of a block just made: what was there when the call began is as it was. -/
theorem below_append {B : Nat} {w wr w2 : World} {e : TypeId} {size n : Nat} {v : Value} {xs : List Value} (hb : Below B w wr) (hB : B ≤ w.heap.size) (o : Obj) (hown : wr.ownsRow B e size v n xs)
    (hg : (wr.alloc o).grownBy w2 v.ownBlock) : Below B w w2 := by
  have h1 : B ≤ wr.heap.size := Nat.le_trans hB hb.size
  exact (hb.alloc h1 o).grown hg (by simp; omega) (fun k hk => (hown.lt k hk).1)
theorem new_cells_at (w : World) (cs : List Value) (e : TypeId) (g : Nat) (hg : g = w.heap.size) (j : Nat) (u : Value) (h : cs[j]? = some u) :
    (w.alloc (.cells cs.toArray e)).cell? ((⟨g, 0, none⟩ : Addr).add j) = some u := by subst hg; exact new_cells w cs e j u h
/-- A block made before the append, younger than the row: its cells are as they were. -/
theorem keep_new {wr W1 w2 : World} {B : Nat} {e : TypeId} {size n : Nat} {v : Value} {xs : List Value} (hown : wr.ownsRow B e size v n xs) (hg : W1.grownBy w2 v.ownBlock) {p : Addr} {u : Value}
    (hp : wr.heap.size ≤ p.block) (h : W1.cell? p = some u) : w2.cell? p = some u := by
  refine hg.cell h ?_
  intro hk
  have := (hown.lt _ hk.symm).2
  omega
/-- The same as below_append, over two blocks made. -/
theorem below_append2 {B : Nat} {w wr w2 : World} {e : TypeId} {size n : Nat} {v : Value} {xs : List Value} (hb : Below B w wr) (hB : B ≤ w.heap.size) (o o' : Obj) (hown : wr.ownsRow B e size v n xs)
    (hg : ((wr.alloc o).alloc o').grownBy w2 v.ownBlock) : Below B w w2 := by
  have h1 : B ≤ wr.heap.size := Nat.le_trans hB hb.size
  exact ((hb.alloc h1 o).alloc (by simp; omega) o').grown hg (by simp; omega) (fun k hk => (hown.lt k hk).1)
end Go.Proofs.Ytfejefndcckdbaa
