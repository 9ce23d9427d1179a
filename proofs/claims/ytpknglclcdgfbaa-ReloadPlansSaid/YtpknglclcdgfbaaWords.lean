/-
  Words on memory that the walks share: a slice that reads as a list of cells; a row of the call's own; a block known whole; worlds that only add. No program in sight.
-/
import Derived.WalkKit
import Derived.Lib.Hide
import Derived.Deep.QuietTactic
import Derived.Maps.AppendAt
import Derived.Deep.AppendLies
namespace Go.Proofs.Ytpknglclcdgfbaa
open Go.RowKit

/-- w' is w with more memory: nothing that was there has turned. -/
def Old (w w' : World) : Prop := Below w.heap.size w w'
theorem Old.out {w w' : World} (h : Old w w') : Below w.heap.size w w' := h
theorem Old.refl (w : World) : Old w w := Below.refl _ _
theorem Old.size {w w' : World} (h : Old w w') : w.heap.size ≤ w'.heap.size := Below.size h
theorem Old.up {a b c : World} (h : Old a b) (k : Old b c) : Old a c := Below.trans h (Below.mono k h.size)
theorem Old.drewN {a b : World} (h : Old a b) (n : Nat) : Old a (b.drewN n) := ⟨h.out.os, h.out.tape, h.out.output, h.out.size, h.out.block⟩
theorem Old.drew {a b : World} (h : Old a b) : Old a b.drew := Below.drew h
theorem Old.alloc {a b : World} (h : Old a b) (o : Obj) : Old a (b.alloc o) := Below.alloc h h.size o
theorem Old.setCell {a b : World} (h : Old a b) {p : Addr} (hp : a.heap.size ≤ p.block) (u : Value) : Old a (b.setCell p u) := Below.setCell h hp u
theorem Old.of_below {B : Nat} {a b : World} (h : Below B a b) (hB : a.heap.size ≤ B) : Old a b := Below.mono h hB
theorem Old.of_same {a b : World} (h : a = b) : Old a b := h ▸ Old.refl a
theorem Old.cell {w w' : World} (h : Old w w') {p : Addr} {u : Value} (hc : w.cell? p = some u) : w'.cell? p = some u :=
  (Below.cell h (block_lt_of_cell hc)).trans hc
theorem Old.block {w w' : World} (h : Old w w') {b : Nat} {o : Obj} (hc : w.heap[b]? = some o) : w'.heap[b]? = some o :=
  (Below.block h b (lt_of_block hc)).trans hc
theorem Old.frozen {w w' : World} (h : Old w w') {p : Addr} (hp : p.block < w.heap.size) : w'.frozen? p = w.frozen? p := Below.frozen h hp
theorem below_drewN {B : Nat} {a w : World} (h : Below B a w) (n : Nat) : Below B a (w.drewN n) := ⟨h.os, h.tape, h.output, h.size, h.block⟩
/-- The same, said of a bound: below B the world is as it was. -/
theorem Old.below {B : Nat} {a b c : World} (h : Below B a b) (k : Old b c) (hB : B ≤ a.heap.size) : Below B a c := Below.trans h (Below.mono k (Nat.le_trans hB h.size))

/-- The slice's address A leads to the cells xs; nothing is asked where xs is empty. -/
def Rs (w : World) (A : Option Addr) (xs : List Value) : Prop :=
  xs = [] ∨ ∃ b off, A = some ⟨b, off, none⟩ ∧ ∀ j u, xs[j]? = some u → w.cell? ⟨b, off + j, none⟩ = some u
theorem Rs.nil_ {w : World} {A : Option Addr} : Rs w A [] := Or.inl rfl
theorem Rs.at_ {w : World} {A : Option Addr} {xs : List Value} (h : Rs w A xs) (hne : 0 < xs.length) :
    ∃ b off, A = some ⟨b, off, none⟩ ∧ b < w.heap.size ∧ ∀ j u, xs[j]? = some u → w.cell? ⟨b, off + j, none⟩ = some u := by
  rcases h with rfl | ⟨b, off, hA, hc⟩
  · simp at hne
  · refine ⟨b, off, hA, ?_, hc⟩
    have := hc 0 _ (List.getElem?_eq_getElem hne)
    exact block_lt_of_cell this
theorem Rs.keep {w w' : World} {A : Option Addr} {xs : List Value} (h : Rs w A xs) (hk : ∀ p : Addr, ∀ u, w.cell? p = some u → w'.cell? p = some u) : Rs w' A xs := by
  rcases h with rfl | ⟨b, off, hA, hc⟩
  · exact Rs.nil_
  · exact Or.inr ⟨b, off, hA, fun j u hu => hk _ _ (hc j u hu)⟩
theorem Rs.up {w w' : World} {A : Option Addr} {xs : List Value} (h : Rs w A xs) (hb : Old w w') : Rs w' A xs := h.keep fun _ _ hp => hb.cell hp
theorem Rs.drewN {w : World} {A : Option Addr} {xs : List Value} (h : Rs w A xs) (n : Nat) : Rs (w.drewN n) A xs := h
theorem Rs.drew {w : World} {A : Option Addr} {xs : List Value} (h : Rs w A xs) : Rs w.drew A xs := h
theorem Rs.alloc {w : World} {A : Option Addr} {xs : List Value} (h : Rs w A xs) (o : Obj) : Rs (w.alloc o) A xs := h.up ((Old.refl w).alloc o)
theorem Rs.take {w : World} {A : Option Addr} {xs : List Value} (h : Rs w A xs) (k : Nat) : Rs w A (xs.take k) := by
  rcases h with rfl | ⟨b, off, hA, hc⟩
  · simp; exact Rs.nil_
  · refine Or.inr ⟨_, _, hA, fun j u hu => ?_⟩
    rw [List.getElem?_take] at hu
    split at hu
    · exact hc _ _ hu
    · cases hu
theorem Rs.drop {w : World} {b off : Nat} {xs : List Value} (h : Rs w (some ⟨b, off, none⟩) xs) (k : Nat) : Rs w (some ⟨b, off + k, none⟩) (xs.drop k) := by
  rcases h with rfl | ⟨b, off, hA, hc⟩
  · simp; exact Rs.nil_
  · simp only [Option.some.injEq, Addr.mk.injEq, and_true] at hA
    obtain ⟨rfl, rfl⟩ := hA
    refine Or.inr ⟨_, _, rfl, fun j u hu => ?_⟩
    rw [List.getElem?_drop] at hu
    rw [Nat.add_assoc]
    exact hc _ _ hu
/-- A cut from k on, as the model writes its address. -/
theorem Rs.cut {w : World} {A : Option Addr} {xs : List Value} (h : Rs w A xs) {n c k size : Nat} (hl : xs.length = n * size) (hn : n ≤ c) (hk : k ≤ n) :
    Rs w (if c = k then A else A.map (·.add (k * size))) (xs.drop (k * size)) := by
  by_cases hkn : k = n
  · left; subst hkn; exact List.drop_eq_nil_of_le (by omega)
  · rw [if_neg (by omega)]
    rcases h with rfl | ⟨b, off, rfl, hc⟩
    · left; simp
    · have := Rs.drop (w := w) (b := b) (off := off) (xs := xs) (Or.inr ⟨b, off, rfl, hc⟩) (k * size)
      simpa [Addr.add_lit] using this
theorem Rs.nil_iff {w : World} {xs : List Value} (h : Rs w none xs) : xs = [] := by
  rcases h with h | ⟨b, off, hA, _⟩
  · exact h
  · cases hA
theorem Rs.cellAt {w : World} {b off : Nat} {xs : List Value} (h : Rs w (some ⟨b, off, none⟩) xs) {j : Nat} {u : Value} (hu : xs[j]? = some u) : w.cell? ⟨b, off + j, none⟩ = some u := by
  rcases h with rfl | ⟨b, off, hA, hc⟩
  · simp at hu
  · simp only [Option.some.injEq, Addr.mk.injEq, and_true] at hA
    obtain ⟨rfl, rfl⟩ := hA
    exact hc _ _ hu

/-- The same, and the block's element type is known. -/
def Ts (w : World) (e : TypeId) (A : Option Addr) (xs : List Value) : Prop :=
  xs = [] ∨ ∃ b off cur fz, A = some ⟨b, off, none⟩ ∧ w.heap[b]? = some (.cells cur e fz) ∧ ∀ j u, xs[j]? = some u → cur[off + j]? = some u
theorem Ts.nil_ {w : World} {e : TypeId} {A : Option Addr} : Ts w e A [] := Or.inl rfl
theorem Ts.rs {w : World} {e : TypeId} {A : Option Addr} {xs : List Value} (h : Ts w e A xs) : Rs w A xs := by
  rcases h with rfl | ⟨b, off, cur, fz, hA, hh, hc⟩
  · exact Rs.nil_
  · refine Or.inr ⟨b, off, hA, fun j u hu => ?_⟩
    rw [cell_of_row w b (off + j) cur e fz hh]
    exact hc j u hu
theorem Ts.up {w w' : World} {e : TypeId} {A : Option Addr} {xs : List Value} (h : Ts w e A xs) (hb : Old w w') : Ts w' e A xs := by
  rcases h with rfl | ⟨b, off, cur, fz, hA, hh, hc⟩
  · exact Ts.nil_
  · exact Or.inr ⟨b, off, cur, fz, hA, hb.block hh, hc⟩
theorem Ts.drewN {w : World} {e : TypeId} {A : Option Addr} {xs : List Value} (h : Ts w e A xs) (n : Nat) : Ts (w.drewN n) e A xs := h
theorem Ts.take {w : World} {e : TypeId} {A : Option Addr} {xs : List Value} (h : Ts w e A xs) (k : Nat) : Ts w e A (xs.take k) := by
  rcases h with rfl | ⟨b, off, cur, fz, hA, hh, hc⟩
  · simp; exact Ts.nil_
  · refine Or.inr ⟨b, off, cur, fz, hA, hh, fun j u hu => ?_⟩
    rw [List.getElem?_take] at hu
    split at hu
    · exact hc _ _ hu
    · cases hu
theorem Ts.cut {w : World} {e : TypeId} {A : Option Addr} {xs : List Value} (h : Ts w e A xs) {n c k size : Nat} (hl : xs.length = n * size) (hn : n ≤ c) (hk : k ≤ n) :
    Ts w e (if c = k then A else A.map (·.add (k * size))) (xs.drop (k * size)) := by
  by_cases hkn : k = n
  · left; subst hkn; exact List.drop_eq_nil_of_le (by omega)
  · rw [if_neg (by omega)]
    rcases h with rfl | ⟨b, off, cur, fz, rfl, hh, hc⟩
    · left; simp
    · refine Or.inr ⟨b, off + k * size, cur, fz, by simp [Addr.add_lit], hh, fun j u hu => ?_⟩
      rw [List.getElem?_drop] at hu
      rw [Nat.add_assoc]
      exact hc _ _ hu

/-- A row of the call's own (blocks from base on). -/
def Own (w : World) (base : Nat) (e : TypeId) (size : Nat) (v : Value) (n : Nat) (xs : List Value) : Prop := w.ownsRow base e size v n xs
theorem Own.out {w : World} {base : Nat} {e : TypeId} {size : Nat} {v : Value} {n : Nat} {xs : List Value} (h : Own w base e size v n xs) : w.ownsRow base e size v n xs := h
theorem Own.nil_ (w : World) (base : Nat) (e : TypeId) (size : Nat) : Own w base e size (.slice none 0 0) 0 [] := World.ownsRow_nil w base e size
theorem Own.len {w : World} {base : Nat} {e : TypeId} {size : Nat} {v : Value} {n : Nat} {xs : List Value} (h : Own w base e size v n xs) : xs.length = n * size := h.out.1
theorem Own.base {w : World} {base base' : Nat} {e : TypeId} {size : Nat} {v : Value} {n : Nat} {xs : List Value} (h : Own w base e size v n xs) (hb : base' ≤ base) :
    Own w base' e size v n xs := by
  rcases h with ⟨h1, ⟨h2, h3⟩ | ⟨g, cap, cur, h2, hg, h4⟩⟩
  · exact ⟨h1, Or.inl ⟨h2, h3⟩⟩
  · exact ⟨h1, Or.inr ⟨g, cap, cur, h2, by omega, h4⟩⟩
theorem Own.up {w w' : World} {base : Nat} {e : TypeId} {size : Nat} {v : Value} {n : Nat} {xs : List Value} (h : Own w base e size v n xs) (hb : Old w w') : Own w' base e size v n xs := by
  refine World.ownsRow.kept (row := none) h ⟨hb.out.os, hb.out.tape, hb.out.output, hb.out.size, fun k hk _ => hb.out.block k hk⟩ ?_
  cases hv : v.ownBlock with
  | none => exact Or.inl rfl
  | some k => exact Or.inr (by simp)
theorem Own.alloc {w : World} {base : Nat} {e : TypeId} {size : Nat} {v : Value} {n : Nat} {xs : List Value} (h : Own w base e size v n xs) (o : Obj) : Own (w.alloc o) base e size v n xs := h.up ((Old.refl w).alloc o)
/-- Its shape. -/
theorem Own.shape {w : World} {base : Nat} {e : TypeId} {size : Nat} {v : Value} {n : Nat} {xs : List Value} (h : Own w base e size v n xs) :
    ∃ A c, v = .slice A n c ∧ Ts w e A xs ∧ n ≤ c ∧ c ≤ maxLen := by
  rcases h with ⟨h1, ⟨rfl, rfl⟩ | ⟨g, cap, cur, rfl, hg, hh, hn, hm, hs, hx⟩⟩
  · refine ⟨none, 0, rfl, Or.inl (List.eq_nil_of_length_eq_zero (by simpa using h1)), Nat.le_refl _, Nat.zero_le _⟩
  · refine ⟨_, cap, rfl, Or.inr ⟨g, 0, cur, (0, 0), rfl, hh, fun j u hu => ?_⟩, hn, hm⟩
    rw [← hx, List.getElem?_take] at hu
    split at hu
    · simpa using hu
    · cases hu
/-- Where it lies, if it has elements. -/
theorem Own.form {w : World} {base : Nat} {e : TypeId} {size : Nat} {v : Value} {n : Nat} {xs : List Value} (h : Own w base e size v n xs) (hn : 0 < n) :
    ∃ g c, v = .slice (some ⟨g, 0, none⟩) n c ∧ base ≤ g ∧ g < w.heap.size ∧ n ≤ c ∧ c ≤ maxLen := by
  rcases h with ⟨h1, ⟨rfl, rfl⟩ | ⟨g, cap, cur, rfl, hg, hh, hnc, hm, hs, hx⟩⟩
  · omega
  · exact ⟨g, cap, rfl, hg, lt_of_block hh, hnc, hm⟩

/-- Only the row's block has turned: the cells that lie elsewhere are as they were. -/
theorem grown_old {w0 w w' : World} {row : Option Nat} (h : Old w0 w) (hg : w.grownBy w' row) (hr : ∀ g, row = some g → w0.heap.size ≤ g) : Old w0 w' :=
  Below.grown h hg h.size hr
theorem Own.grown_old {w0 w w' : World} {base : Nat} {e : TypeId} {size : Nat} {v : Value} {n : Nat} {xs : List Value} (h : Old w0 w) (hown : Own w base e size v n xs) (hb : w0.heap.size ≤ base)
    (hg : w.grownBy w' v.ownBlock) : Old w0 w' :=
  Below.grown h hg h.size (fun k hk => Nat.le_trans hb (World.ownsRow.lt hown k hk).1)
/-- A row of another element type than the one that was written. -/
theorem Ts.grown {w w' : World} {e e' : TypeId} {A : Option Addr} {xs : List Value} {base size n : Nat} {v : Value} {ys : List Value} (h : Ts w e A xs) (hown : Own w base e' size v n ys) (hne : e ≠ e') (hg : w.grownBy w' v.ownBlock) : Ts w' e A xs := by
  rcases h with rfl | ⟨b, off, cur, fz, rfl, hh, hc⟩
  · exact Ts.nil_
  · refine Or.inr ⟨b, off, cur, fz, rfl, ?_, hc⟩
    rw [hg.block b (lt_of_block hh) ?_]
    · exact hh
    · intro hk
      rcases hown with ⟨_, ⟨rfl, _⟩ | ⟨g, cap, cu, rfl, _, hgg, _⟩⟩
      · simp [Value.ownBlock] at hk
      · simp [Value.ownBlock] at hk
        subst hk
        rw [hh] at hgg
        simp at hgg
        exact hne hgg.2.1
theorem Own.grown {w w' : World} {base base' : Nat} {e e' : TypeId} {size size' : Nat} {v v' : Value} {n n' : Nat} {xs ys : List Value} (h : Own w base e size v n xs) (hown : Own w base' e' size' v' n' ys) (hne : e ≠ e')
    (hg : w.grownBy w' v'.ownBlock) : Own w' base e size v n xs := by
  refine World.ownsRow.kept h hg ?_
  rcases h with ⟨_, ⟨rfl, _⟩ | ⟨g, cap, cu, rfl, _, hgg, _⟩⟩
  · exact Or.inl rfl
  · rcases hown with ⟨_, ⟨rfl, _⟩ | ⟨g', cap', cu', rfl, _, hgg', _⟩⟩
    · exact Or.inr (by simp [Value.ownBlock])
    · refine Or.inr ?_
      intro hk
      simp [Value.ownBlock] at hk
      subst hk
      rw [hgg] at hgg'
      simp at hgg'
      exact hne hgg'.2

/-- The cells of a block just made. -/
theorem cells_new (w : World) (cs : List Value) (e : TypeId) : ∀ j u, cs[j]? = some u → (w.alloc (.cells cs.toArray e)).cell? ((⟨w.heap.size, 0, none⟩ : Addr).add j) = some u := by
  intro j u h
  rw [Addr.add_lit, Nat.zero_add, cell_of_row _ w.heap.size j cs.toArray e (0, 0) (heap_alloc_new w _)]
  simpa using h
theorem rs_new (w : World) (cs : List Value) (e : TypeId) : Rs (w.alloc (.cells cs.toArray e)) (some ⟨w.heap.size, 0, none⟩) cs :=
  Or.inr ⟨_, _, rfl, fun j u h => by have := cells_new w cs e j u h; rwa [Addr.add_lit] at this⟩
theorem ts_new (w : World) (cs : List Value) (e : TypeId) : Ts (w.alloc (.cells cs.toArray e)) e (some ⟨w.heap.size, 0, none⟩) cs :=
  Or.inr ⟨_, _, cs.toArray, (0, 0), rfl, heap_alloc_new w _, fun j u h => by simpa using h⟩
theorem own_new (w : World) (cs : Array Value) (n size : Nat) (e : TypeId) (hm : n ≤ maxLen) (hs : cs.size = n * size) :
    Own (w.alloc (.cells cs e)) w.heap.size e size (.slice (some ⟨w.heap.size, 0, none⟩) n n) n cs.toList := by
  refine ⟨by simpa using hs, Or.inr ⟨_, n, cs, rfl, Nat.le_refl _, heap_alloc_new w _, Nat.le_refl _, hm, hs, ?_⟩⟩
  exact List.take_of_length_le (by simp; omega)

theorem Own.shrink {w : World} {base : Nat} {e : TypeId} {size : Nat} {A : Option Addr} {n c : Nat} {xs : List Value} (h : Own w base e size (.slice A n c) n xs) {i : Nat} (hi : i ≤ n) :
    Own w base e size (.slice A i c) i (xs.take (i * size)) := by
  have hm : i * size ≤ n * size := Nat.mul_le_mul_right _ hi
  rcases h with ⟨h1, ⟨h2, rfl⟩ | ⟨g, cap, cur, h2, hg, hh, hn, hm', hs, hx⟩⟩
  · obtain rfl : i = 0 := by omega
    have : xs = [] := List.eq_nil_of_length_eq_zero (by simpa using h1)
    subst this
    exact ⟨by simp, Or.inl ⟨h2, rfl⟩⟩
  · simp only [Value.slice.injEq] at h2
    obtain ⟨rfl, _, rfl⟩ := h2
    refine ⟨by rw [List.length_take, h1]; omega, Or.inr ⟨g, c, cur, rfl, hg, hh, by omega, hm', hs, ?_⟩⟩
    rw [← hx, List.take_take, Nat.min_eq_left hm]
theorem Own.set_ {w : World} {base : Nat} {e : TypeId} {size g n c : Nat} {xs : List Value} (h : Own w base e size (.slice (some ⟨g, 0, none⟩) n c) n xs) (j : Nat) (u : Value) :
    Own (w.setCell ⟨g, j, none⟩ u) base e size (.slice (some ⟨g, 0, none⟩) n c) n (xs.set j u) ∧ w.grownBy (w.setCell ⟨g, j, none⟩ u) (some g) := World.ownsRow.stored h j u
theorem Own.cellAt {w : World} {base : Nat} {e : TypeId} {size g n c : Nat} {xs : List Value} (h : Own w base e size (.slice (some ⟨g, 0, none⟩) n c) n xs) {j : Nat} {u : Value} (hu : xs[j]? = some u) :
    w.cell? ⟨g, j, none⟩ = some u ∧ w.frozen? ⟨g, j, none⟩ = false := by
  have hj : j < n * size := by rw [← h.len]; exact (List.getElem?_eq_some_iff.mp hu).1
  exact ⟨(World.ownsRow.cellAt h j hj).trans hu, World.ownsRow.frozenAt h j⟩
theorem Own.setCells {base : Nat} {e : TypeId} {size g n c : Nat} : ∀ (vs : List Value) (o : Nat) (w : World) (xs : List Value), Own w base e size (.slice (some ⟨g, 0, none⟩) n c) n xs →
    ∃ ys, Own (w.setCells g o vs) base e size (.slice (some ⟨g, 0, none⟩) n c) n ys ∧ w.grownBy (w.setCells g o vs) (some g) ∧ ys.take o = xs.take o := by
  intro vs
  induction vs with
  | nil => intro o w xs h; exact ⟨xs, h, World.grownBy.refl _ _, rfl⟩
  | cons v r ih =>
    intro o w xs h
    obtain ⟨h1, h2⟩ := h.set_ o v
    obtain ⟨ys, h3, h4, h5⟩ := ih (o + 1) _ _ h1
    refine ⟨ys, h3, h2.trans h4, ?_⟩
    have h6 := congrArg (List.take o) h5
    rw [List.take_take, List.take_take, Nat.min_eq_left (by omega)] at h6
    rw [h6, List.take_set_of_le (by omega)]

/-! ### append -/
section
variable {P : Program} {w : World} {ops : Array Oper} {rest : List Oper} {o : Oper} {a : Act} {Q : Exit → Act → World → Prop}

/-- 'append(out, x, ..)': the new elements lie in the block made last. -/
theorem wpList_push {wr : World} (hgd : o.guard = none) (s x : Operand) (t : TypeId)
    (ho : o.op = .call { callee := .builtin .append, args := #[s, x], argTypes := #[t, t] })
    (base : Nat) (e : TypeId) (z : Value) (size bytes : Nat) (ht : P.underlying t = some (.slice e))
    (hi : (P.info? e).map (fun i => (i.zero, i.size, i.bytes)) = some (some z, size, bytes)) (hzs : z.cells.size = size) (hsz : 0 < size) (hby : bytes ≤ 1024)
    (v : Value) (n : Nat) (xs : List Value) (hs : a.eval s = v) (hown : Own wr base e size v n xs)
    (m c : Nat) (news : List Value) (hx : a.eval x = .slice (some ⟨wr.heap.size, 0, none⟩) m c) (hw : w = wr.alloc (.cells news.toArray e)) (hl : news.length = m * size) (h1 : news.all Value.oneCell' = true)
    (hn : n + m ≤ 68719476736) (hbase : base ≤ wr.heap.size)
    (h : ∀ v' w', Own w' base e size v' (n + m) (xs ++ news) → wr.grownBy w' v.ownBlock → (∀ w0, Old w0 wr → w0.heap.size ≤ base → Old w0 w') → wpList P ops Q rest (a.put o.dst v') w') : wpList P ops Q (o :: rest) a w := by
  subst hw
  obtain ⟨i, hii, hz, hsize, hbb⟩ := info_parts hi
  have hb2 : (n + m) * bytes ≤ 68719476736 * 1024 := Nat.mul_le_mul hn hby
  refine wpList_append_own _ hgd s x t ho base e i z size bytes ht hii hz hsize hbb hzs hsz v n xs hs (Own.alloc hown _) ⟨wr.heap.size, 0, none⟩ m c news hx hl (cells_new wr news e) (by simpa using h1)
    (by unfold maxLen; omega) (by omega) (by simp; omega) ?_
  intro v' w' h2 h3 _
  have hg : wr.grownBy w' v.ownBlock := World.grownBy.trans (World.grownBy_alloc wr _ _) h3
  exact h v' w' h2 hg (fun w0 h0 hb => Own.grown_old h0 hown hb hg)

theorem run_append_nil_src (base : Nat) (t ty e : TypeId) (i : TypeInfo) (size : Nat) (ht : P.underlying t = some (.slice e)) (hi : P.info? e = some i)
    (v : Value) (n : Nat) (xs : List Value) (hown : w.ownsRow base e size v n xs) (c : Nat) : (Builtin.append_ #[t, t] ty #[v, .slice none 0 c]).run P w = .ok v w := by
  rcases hown.2 with ⟨rfl, rfl⟩ | ⟨g, cap, cur, rfl, _, _, hnc, _⟩
  · simp [Builtin.append_, run_underlying ht, sizeOf, typeInfo, hi, Builtin.lenOf, Builtin.firstCells]
  · simp [Builtin.append_, run_underlying ht, sizeOf, typeInfo, hi, Builtin.lenOf, Builtin.firstCells, hnc, storeCells]

/-- 'append(out, xs...)', xs whatever reads. -/
theorem wpList_pushAll (hgd : o.guard = none) (s x : Operand) (t : TypeId)
    (ho : o.op = .call { callee := .builtin .append, args := #[s, x], argTypes := #[t, t] })
    (base : Nat) (e : TypeId) (z : Value) (size bytes : Nat) (ht : P.underlying t = some (.slice e))
    (hi : (P.info? e).map (fun i => (i.zero, i.size, i.bytes)) = some (some z, size, bytes)) (hzs : z.cells.size = size) (hsz : 0 < size) (hby : bytes ≤ 1024)
    (v : Value) (n : Nat) (xs : List Value) (hs : a.eval s = v) (hown : Own w base e size v n xs)
    (A : Option Addr) (m c : Nat) (news : List Value) (hx : a.eval x = .slice A m c) (hr : Rs w A news) (hl : news.length = m * size) (h1 : news.all Value.oneCell' = true)
    (hn : n + m ≤ 68719476736) (hbase : base ≤ w.heap.size)
    (h : ∀ v' w', Own w' base e size v' (n + m) (xs ++ news) → w.grownBy w' v.ownBlock → (∀ w0, Old w0 w → w0.heap.size ≤ base → Old w0 w') → wpList P ops Q rest (a.put o.dst v') w') : wpList P ops Q (o :: rest) a w := by
  obtain ⟨i, hii, hz, hsize, hbb⟩ := info_parts hi
  have hb2 : (n + m) * bytes ≤ 68719476736 * 1024 := Nat.mul_le_mul hn hby
  cases A with
  | none =>
    obtain rfl := hr.nil_iff
    obtain rfl : m = 0 := by
      rcases Nat.eq_zero_or_pos m with h0 | h0
      · exact h0
      · have := Nat.mul_pos h0 hsz; simp at hl; omega
    refine wpList_plain hgd fun K hK => ?_
    have hrun := run_append_nil_src (P := P) (w := w) base t o.type e i size ht hii v n xs hown c
    unfold Oper.wp
    simp [execOp, ho, resolve, invoke, builtin, hs, hx, hrun, Result.andThen]
    exact hK _ _ (h v w (by simpa using hown) (World.grownBy.refl _ _) (fun w0 h0 _ => h0))
  | some ad =>
    refine wpList_append_own _ hgd s x t ho base e i z size bytes ht hii hz hsize hbb hzs hsz v n xs hs hown ad m c news hx hl ?_ (by simpa using h1) (by unfold maxLen; omega) (by omega) hbase ?_
    · intro j u hu
      rcases hr with rfl | ⟨b, off, hA, hc⟩
      · simp at hu
      · obtain rfl := Option.some.inj hA
        rw [Addr.add_lit]
        exact hc j u hu
    · intro v' w' h2 h3 _
      exact h v' w' h2 h3 (fun w0 h0 hb => Own.grown_old h0 hown hb h3)
/-- 'make([]T, 0, n)'. -/
theorem wpList_make0 (hgd : o.guard = none) (l c : Operand) (t : TypeId) (ho : o.op = Op.makeSlice t l c)
    (e : TypeId) (z : Value) (size bytes : Nat) (ht : P.underlying t = some (.slice e)) (hi : (P.info? e).map (fun i => (i.zero, i.size, i.bytes)) = some (some z, size, bytes)) (hby : bytes ≤ 1024)
    (kl kc : IntKind) (C : Int) (n : Nat) (hl : a.eval l = .int kl 0) (hc : a.eval c = .int kc C) (hC : C = (n : Int)) (hn : n ≤ 68719476736)
    (h : ∀ w', Own w' w.heap.size e size (.slice (some ⟨w.heap.size, 0, none⟩) 0 n) 0 [] → Old w w' → wpList P ops Q rest (a.put o.dst (.slice (some ⟨w.heap.size, 0, none⟩) 0 n)) w') : wpList P ops Q (o :: rest) a w := by
  obtain ⟨i, hii, hz, hsize, hbb⟩ := info_parts hi
  have hb2 : bytes * n ≤ 1024 * 68719476736 := Nat.mul_le_mul hby hn
  refine wpList_make_own _ hgd l c t ho w.heap.size e i z size ht hii hz hsize kl kc C n hl hc hC (by rw [hbb]; omega) (by unfold maxLen; omega) (Nat.le_refl _) ?_
  intro w' h2 h3
  exact h w' h2 (Below.grown (Below.refl _ _) h3 (Nat.le_refl _) (by intro k hk; cases hk))
/-- 'make([]T, n)'. -/
theorem wpList_makeN (hgd : o.guard = none) (l c : Operand) (t : TypeId) (ho : o.op = Op.makeSlice t l c)
    (e : TypeId) (z : Value) (size bytes : Nat) (ht : P.underlying t = some (.slice e)) (hi : (P.info? e).map (fun i => (i.zero, i.size, i.bytes)) = some (some z, size, bytes)) (hby : bytes ≤ 1024)
    (kl kc : IntKind) (L C : Int) (n : Nat) (hl : a.eval l = .int kl L) (hc : a.eval c = .int kc C) (hL : L = (n : Int)) (hC : C = (n : Int)) (hn : n ≤ 68719476736)
    (h : ∀ w', Own w' w.heap.size e size (.slice (some ⟨w.heap.size, 0, none⟩) n n) n (madeCells z.cells (n * size)).toList → Old w w' → wpList P ops Q rest (a.put o.dst (.slice (some ⟨w.heap.size, 0, none⟩) n n)) w') : wpList P ops Q (o :: rest) a w := by
  obtain ⟨i, hii, hz, hsize, hbb⟩ := info_parts hi
  have hb2 : bytes * n ≤ 1024 * 68719476736 := Nat.mul_le_mul hby hn
  refine wpList_make_full _ hgd l c t ho w.heap.size e i z size ht hii hz hsize kl kc L C n hl hc hL hC (by rw [hbb]; omega) (by unfold maxLen; omega) (Nat.le_refl _) ?_
  intro w' h2 h3
  exact h w' h2 (Below.grown (Below.refl _ _) h3 (Nat.le_refl _) (by intro k hk; cases hk))
end

/-! ### quiet calls -/
/-- A contract that leaves the world as it is, for a region that draws its order. -/
theorem quiet_same {P : Program} {f : FuncId} {args : Array Value} {w : World} {n : Nat} {v : Value}
    (h : Calls P f args (w.drewN n) fun e w' => e = .returned v ∧ w.drewN n = w') : Calls P f args (w.drewN n) fun e w'' => e = .returned v ∧ ∃ m, w'' = w.drewN m :=
  h.mono fun _ _ ⟨he, hm⟩ => ⟨he, n, hm.symm⟩
/-- The same for a contract that only draws. -/
theorem quiet_draws {P : Program} {f : FuncId} {args : Array Value} {w : World} {n : Nat} {v : Value}
    (h : Calls P f args (w.drewN n) fun e w' => e = .returned v ∧ ∃ k, w' = (w.drewN n).drewN k) : Calls P f args (w.drewN n) fun e w'' => e = .returned v ∧ ∃ m, w'' = w.drewN m :=
  h.mono fun _ _ ⟨he, k, hm⟩ => ⟨he, n + k, by rw [hm, World.drewN_drewN]⟩
theorem quiet_draws_add {P : Program} {f : FuncId} {args : Array Value} {w : World} {a n : Nat} {v : Value}
    (h : Calls P f args (w.drewN (a + n)) fun e w' => e = .returned v ∧ ∃ m, w' = (w.drewN (a + n)).drewN m) :
    Calls P f args (w.drewN (a + n)) fun e w'' => e = .returned v ∧ ∃ m, w'' = w.drewN (a + m) :=
  h.mono fun _ _ ⟨he, m, hm⟩ => ⟨he, n + m, by rw [hm, World.drewN_drewN, Nat.add_assoc]⟩
theorem quiet_same_add {P : Program} {f : FuncId} {args : Array Value} {w : World} {a n : Nat} {v : Value}
    (h : Calls P f args (w.drewN (a + n)) fun e w' => e = .returned v ∧ w.drewN (a + n) = w') :
    Calls P f args (w.drewN (a + n)) fun e w'' => e = .returned v ∧ ∃ m, w'' = w.drewN (a + m) :=
  h.mono fun _ _ ⟨he, hm⟩ => ⟨he, n, hm.symm⟩
/-- The call returns a slice that it has made itself: n elements of type e, of these cells; nothing old is written. -/
def Made (w : World) (e : TypeId) (size n : Nat) (xs : List Value) (d : Ending) (w' : World) : Prop :=
  ∃ v, d = .returned v ∧ Own w' w.heap.size e size v n xs ∧ Old w w'
theorem ret_bool {a b : Bool} (h : a = b) : Ending.returned (.bool a) = .returned (.bool b) := by rw [h]
theorem ret_int {k : IntKind} {a b : Int} (h : a = b) : Ending.returned (.int k a) = .returned (.int k b) := by rw [h]
theorem drewN_zero (w : World) : w = w.drewN 0 := rfl
end Go.Proofs.Ytpknglclcdgfbaa
