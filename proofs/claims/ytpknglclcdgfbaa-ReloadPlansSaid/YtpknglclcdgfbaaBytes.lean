/-
  Words on bytes and on lists of slices. No program in sight.
-/
import Derived.Test.YtpknglclcdgfbaaWords
import Derived.Laws.IdiomStrings
import Derived.Laws.BytesArg
namespace Go.Proofs.Ytpknglclcdgfbaa
open Go.RowKit
set_option linter.unusedVariables false

theorem grown_drewN {a w : World} {row : Option Nat} (h : a.grownBy w row) (n : Nat) : a.grownBy (w.drewN n) row := ⟨h.os, h.tape, h.output, h.size, h.block⟩
theorem grown_old_ {a w w' : World} {row : Option Nat} (h : a.grownBy w row) (k : Old w w') : a.grownBy w' row :=
  h.trans ⟨k.out.os, k.out.tape, k.out.output, k.out.size, fun i hi _ => k.out.block i hi⟩
theorem old_grown_ {a w w' : World} {row : Option Nat} (k : Old a w) (h : w.grownBy w' row) : a.grownBy w' row :=
  World.grownBy.trans ⟨k.out.os, k.out.tape, k.out.output, k.out.size, fun i hi _ => k.out.block i hi⟩ h
def bytes (l : List UInt8) : List Value := l.map fun b => .int .u8 (b.toNat : Int)
theorem bytes_length (l : List UInt8) : (bytes l).length = l.length := by simp [bytes]
theorem bytes_get (l : List UInt8) (i : Nat) (h : i < l.length) : (bytes l)[i]? = some (.int .u8 ((l.getD i 0).toNat : Int)) := by
  simp [bytes, List.getElem?_map, List.getElem?_eq_getElem h, List.getD_eq_getElem?_getD]
theorem bytes_one (l : List UInt8) : (bytes l).all Value.oneCell' = true := by simp [bytes, Value.oneCell']
theorem bytes_append (a b : List UInt8) : bytes (a ++ b) = bytes a ++ bytes b := by simp [bytes]
theorem bytes_take (l : List UInt8) (k : Nat) : bytes (l.take k) = (bytes l).take k := by simp [bytes, List.map_take]
theorem bytes_drop (l : List UInt8) (k : Nat) : bytes (l.drop k) = (bytes l).drop k := by simp [bytes, List.map_drop]
theorem bytes_set (l : List UInt8) (k : Nat) (b : UInt8) : bytes (l.set k b) = (bytes l).set k (.int .u8 (b.toNat : Int)) := by simp [bytes, List.map_set]
theorem bytes_of_ints (l : List Int) (h : ∀ x ∈ l, 0 ≤ x ∧ x ≤ 255) : ∃ m : List UInt8, l.map (Value.int .u8) = bytes m ∧ m.length = l.length := by
  induction l with
  | nil => exact ⟨[], rfl, rfl⟩
  | cons x l ih =>
    obtain ⟨m, hm, hl⟩ := ih (fun y hy => h y (by simp [hy]))
    obtain ⟨x0, x1⟩ := h x (by simp)
    refine ⟨UInt8.ofNat x.toNat :: m, ?_, by simp [hl]⟩
    have e : ((UInt8.ofNat x.toNat).toNat : Int) = x := by simp; omega
    rw [bytes, List.map_cons, List.map_cons, e]
    rw [show List.map (fun b => Value.int .u8 (b.toNat : Int)) m = bytes m from rfl, ← hm]

/-- 'string(b)' where b reads as bytes. -/
theorem run_str {P : Program} (w : World) {src dst e : TypeId} (A : Option Addr) (c : Nat) (l : List UInt8) (hs : P.underlying src = some (.slice e)) (he : P.underlying e = some (.int .u8)) (hd : P.underlying dst = some .string)
    (hr : Rs w A (bytes l)) : (convert src dst (.slice A l.length c)).run P w = .ok (.string ⟨l.toArray⟩) w := by
  cases A with
  | none =>
    have h0 := hr.nil_iff
    have h1 : l = [] := by simpa [bytes] using h0
    subst h1
    exact run_convert_bytes_nil w src e hs he 0 c dst hd
  | some ad =>
    refine run_convert_bytes_back w src dst e ad c l hs he hd ?_
    intro j hj
    rcases hr with h | ⟨b, off, hA, hc⟩
    · have : l = [] := by simpa [bytes] using h
      subst this; simp at hj
    · obtain rfl := Option.some.inj hA
      rw [Addr.add_lit]
      have := hc j _ (bytes_get l j hj)
      rw [List.getD_eq_getElem?_getD, List.getElem?_eq_getElem hj] at this
      exact this

/-- 's[lo:hi]' as one equation, elements of one cell. -/
theorem run_slice_mid {P : Program} {t : TypeId} (ht : P.underlying t = some (.slice (P.elem t))) (hs : ∀ w : World, (sizeOf (P.elem t)).run P w = .ok 1 w) (b off len c lo m : Nat) (L H : Int) (hL : L = (lo : Int)) (hH : H = ((lo + m : Nat) : Int)) (h : lo + m ≤ c) (w : World) :
    (Instr.slice t (.slice (some ⟨b, off, none⟩) len c) (some (.int .i64 L)) (some (.int .i64 H)) none).run P w = .ok (.slice (if c = lo then some ⟨b, off, none⟩ else some ⟨b, off + lo, none⟩) m (c - lo)) w := by
  subst hL; subst hH
  rw [run_slice_lh (P := P) w t (some ⟨b, off, none⟩) len c ht .i64 .i64 (lo : Int) ((lo + m : Nat) : Int) (by omega) (by omega) (by omega), hs]
  simp only [Result.andThen, sliced, Int.toNat_natCast, Nat.mul_one, Option.map_some, Addr.add_lit]
  rw [show lo + m - lo = m by omega]
theorem run_slice_from {P : Program} {t : TypeId} (ht : P.underlying t = some (.slice (P.elem t))) (hs : ∀ w : World, (sizeOf (P.elem t)).run P w = .ok 1 w) (A : Option Addr) (len c lo : Nat) (L : Int) (hL : L = (lo : Int)) (h : lo ≤ len) (w : World) :
    (Instr.slice t (.slice A len c) (some (.int .i64 L)) none none).run P w = .ok (.slice (if c = lo then A else A.map (·.add lo)) (len - lo) (c - lo)) w := by
  subst hL
  rw [run_slice_l (P := P) w t A len c ht .i64 (lo : Int) (by omega) (by omega), hs]
  simp only [Result.andThen, sliced, Int.toNat_natCast, Nat.mul_one]
theorem run_slice_to {P : Program} {t : TypeId} (ht : P.underlying t = some (.slice (P.elem t))) (hs : ∀ w : World, (sizeOf (P.elem t)).run P w = .ok 1 w) (A : Option Addr) (len c hi : Nat) (H : Int) (hH : H = (hi : Int)) (h : hi ≤ c) (w : World) :
    (Instr.slice t (.slice A len c) none (some (.int .i64 H)) none).run P w = .ok (.slice A hi c) w := by
  subst hH
  rw [run_slice_h (P := P) w t A len c ht .i64 (hi : Int) (by omega) (by omega), hs]
  simp only [Result.andThen, sliced, Int.toNat_natCast, Nat.zero_mul, Nat.sub_zero]
  by_cases h0 : c = 0
  · rw [if_pos h0]
  · rw [if_neg h0]; cases A <;> simp [Addr.add_zero']
/-- A slice of bytes that a string was turned into: its block bears a mark, so no row of the call's own lies there. -/
def Fs (w : World) (A : Option Addr) (xs : List Value) : Prop :=
  xs = [] ∨ ∃ b off cur e fz, A = some ⟨b, off, none⟩ ∧ w.heap[b]? = some (.cells cur e fz) ∧ fz ≠ (0, 0) ∧ ∀ j u, xs[j]? = some u → cur[off + j]? = some u
theorem Fs.nil_ {w : World} {A : Option Addr} : Fs w A [] := Or.inl rfl
theorem Fs.rs {w : World} {A : Option Addr} {xs : List Value} (h : Fs w A xs) : Rs w A xs := by
  rcases h with rfl | ⟨b, off, cur, e, fz, hA, hh, _, hc⟩
  · exact Rs.nil_
  · refine Or.inr ⟨b, off, hA, fun j u hu => ?_⟩
    rw [cell_of_row w b (off + j) cur e fz hh]
    exact hc j u hu
theorem Fs.up {w w' : World} {A : Option Addr} {xs : List Value} (h : Fs w A xs) (hb : Old w w') : Fs w' A xs := by
  rcases h with rfl | ⟨b, off, cur, e, fz, hA, hh, hz, hc⟩
  · exact Fs.nil_
  · exact Or.inr ⟨b, off, cur, e, fz, hA, hb.block hh, hz, hc⟩
theorem Fs.grown {w w' : World} {A : Option Addr} {xs : List Value} {base : Nat} {e' : TypeId} {size n : Nat} {v : Value} {ys : List Value} (h : Fs w A xs) (hown : Own w base e' size v n ys) (hg : w.grownBy w' v.ownBlock) : Fs w' A xs := by
  rcases h with rfl | ⟨b, off, cur, e, fz, rfl, hh, hz, hc⟩
  · exact Fs.nil_
  · refine Or.inr ⟨b, off, cur, e, fz, rfl, ?_, hz, hc⟩
    rw [hg.block b (lt_of_block hh) ?_]
    · exact hh
    · intro hk
      rcases hown with ⟨_, ⟨rfl, _⟩ | ⟨g, cap, cu, rfl, _, hgg, _⟩⟩
      · simp [Value.ownBlock] at hk
      · simp [Value.ownBlock] at hk
        subst hk
        rw [hh] at hgg
        simp at hgg
        exact hz hgg.2.2
/-- A block with the mark (0, 0) is written. -/
theorem Fs.far {w w' : World} {A : Option Addr} {xs : List Value} {g : Nat} {cs : Array Value} {t : TypeId} (h : Fs w A xs) (hh' : w.heap[g]? = some (.cells cs t (0, 0))) (hg : w.grownBy w' (some g)) : Fs w' A xs := by
  rcases h with rfl | ⟨b, off, cur, e, fz, rfl, hh, hz, hc⟩
  · exact Fs.nil_
  · refine Or.inr ⟨b, off, cur, e, fz, rfl, ?_, hz, hc⟩
    rw [hg.block b (lt_of_block hh) ?_]
    · exact hh
    · intro hk
      injection hk with hk
      subst hk
      rw [hh] at hh'
      simp at hh'
      exact hz hh'.2.2
/-- '[]byte(s)': what was made reads as the string's bytes. -/
theorem fs_of_string (w : World) (l : List UInt8) (n : Nat) (e : TypeId) (hl : 0 < l.length) :
    Fs (w.drew.alloc (.cells (bytesRow ⟨l.toArray⟩ n) e ((bytesRow ⟨l.toArray⟩ n).size, (bytesRow ⟨l.toArray⟩ n).size + 1))) (some ⟨w.heap.size, 0, none⟩) (bytes l) := by
  refine Or.inr ⟨w.heap.size, 0, _, e, _, rfl, heap_alloc_new w.drew _, ?_, fun j u hu => ?_⟩
  · intro h; simp at h
  · have hj : j < l.length := by have := (List.getElem?_eq_some_iff.mp hu).1; simpa [bytes] using this
    rw [bytes_get l j hj] at hu
    rw [Nat.zero_add, bytesRow, Array.getElem?_append_left (by simpa using hj)]
    simp [List.getElem?_eq_getElem hj, List.getD_eq_getElem?_getD] at hu ⊢
    exact hu

/-! ### lists of slices; the inner elements are one cell each -/
def RsL (w : World) (cells : List Value) (xss : List (List Value)) : Prop :=
  cells.length = xss.length ∧ ∀ (i : Nat) (xs : List Value), xss[i]? = some xs → ∃ A c, cells[i]? = some (.slice A xs.length c) ∧ xs.length ≤ c ∧ c ≤ maxLen ∧ Rs w A xs
def TsL (w : World) (e : TypeId) (cells : List Value) (xss : List (List Value)) : Prop :=
  cells.length = xss.length ∧ ∀ (i : Nat) (xs : List Value), xss[i]? = some xs → ∃ A c, cells[i]? = some (.slice A xs.length c) ∧ xs.length ≤ c ∧ c ≤ maxLen ∧ Ts w e A xs
def FsL (w : World) (cells : List Value) (xss : List (List Value)) : Prop :=
  cells.length = xss.length ∧ ∀ (i : Nat) (xs : List Value), xss[i]? = some xs → ∃ A c, cells[i]? = some (.slice A xs.length c) ∧ xs.length ≤ c ∧ c ≤ maxLen ∧ Fs w A xs
theorem TsL.rs {w : World} {e : TypeId} {cells : List Value} {xss : List (List Value)} (h : TsL w e cells xss) : RsL w cells xss :=
  ⟨h.1, fun i xs hx => by obtain ⟨A, c, h1, h2, h3, h4⟩ := h.2 i xs hx; exact ⟨A, c, h1, h2, h3, h4.rs⟩⟩
theorem FsL.rs {w : World} {cells : List Value} {xss : List (List Value)} (h : FsL w cells xss) : RsL w cells xss :=
  ⟨h.1, fun i xs hx => by obtain ⟨A, c, h1, h2, h3, h4⟩ := h.2 i xs hx; exact ⟨A, c, h1, h2, h3, h4.rs⟩⟩
theorem RsL.nil_ {w : World} : RsL w [] [] := ⟨rfl, fun i xs h => by simp at h⟩
theorem TsL.nil_ {w : World} {e : TypeId} : TsL w e [] [] := ⟨rfl, fun i xs h => by simp at h⟩
theorem FsL.nil_ {w : World} : FsL w [] [] := ⟨rfl, fun i xs h => by simp at h⟩
theorem RsL.up {w w' : World} {cells : List Value} {xss : List (List Value)} (h : RsL w cells xss) (hb : Old w w') : RsL w' cells xss :=
  ⟨h.1, fun i xs hx => by obtain ⟨A, c, h1, h2, h3, h4⟩ := h.2 i xs hx; exact ⟨A, c, h1, h2, h3, h4.up hb⟩⟩
theorem TsL.up {w w' : World} {e : TypeId} {cells : List Value} {xss : List (List Value)} (h : TsL w e cells xss) (hb : Old w w') : TsL w' e cells xss :=
  ⟨h.1, fun i xs hx => by obtain ⟨A, c, h1, h2, h3, h4⟩ := h.2 i xs hx; exact ⟨A, c, h1, h2, h3, h4.up hb⟩⟩
theorem FsL.up {w w' : World} {cells : List Value} {xss : List (List Value)} (h : FsL w cells xss) (hb : Old w w') : FsL w' cells xss :=
  ⟨h.1, fun i xs hx => by obtain ⟨A, c, h1, h2, h3, h4⟩ := h.2 i xs hx; exact ⟨A, c, h1, h2, h3, h4.up hb⟩⟩
theorem TsL.grown {w w' : World} {e e' : TypeId} {cells : List Value} {xss : List (List Value)} {base size n : Nat} {v : Value} {ys : List Value} (h : TsL w e cells xss) (hown : Own w base e' size v n ys) (hne : e ≠ e') (hg : w.grownBy w' v.ownBlock) : TsL w' e cells xss :=
  ⟨h.1, fun i xs hx => by obtain ⟨A, c, h1, h2, h3, h4⟩ := h.2 i xs hx; exact ⟨A, c, h1, h2, h3, h4.grown hown hne hg⟩⟩
theorem FsL.grown {w w' : World} {e' : TypeId} {cells : List Value} {xss : List (List Value)} {base size n : Nat} {v : Value} {ys : List Value} (h : FsL w cells xss) (hown : Own w base e' size v n ys) (hg : w.grownBy w' v.ownBlock) : FsL w' cells xss :=
  ⟨h.1, fun i xs hx => by obtain ⟨A, c, h1, h2, h3, h4⟩ := h.2 i xs hx; exact ⟨A, c, h1, h2, h3, h4.grown hown hg⟩⟩
theorem FsL.far {w w' : World} {cells : List Value} {xss : List (List Value)} {g : Nat} {cs : Array Value} {t : TypeId} (h : FsL w cells xss) (hh' : w.heap[g]? = some (.cells cs t (0, 0))) (hg : w.grownBy w' (some g)) : FsL w' cells xss :=
  ⟨h.1, fun i xs hx => by obtain ⟨A, c, h1, h2, h3, h4⟩ := h.2 i xs hx; exact ⟨A, c, h1, h2, h3, h4.far hh' hg⟩⟩
theorem snoc_get {α : Type} {l : List α} {x y : α} {i : Nat} (h : (l ++ [x])[i]? = some y) : (i < l.length ∧ l[i]? = some y) ∨ (i = l.length ∧ y = x) := by
  rw [List.getElem?_append] at h
  split at h
  · next hi => exact Or.inl ⟨hi, h⟩
  · next hi =>
    have h2 : i - l.length = 0 := by
      have := (List.getElem?_eq_some_iff.mp h).1
      simp at this; omega
    rw [h2] at h
    simp at h
    exact Or.inr ⟨by omega, h.symm⟩
theorem RsL.snoc {w : World} {cells : List Value} {xss : List (List Value)} (h : RsL w cells xss) {A : Option Addr} {c : Nat} {xs : List Value} (hc : xs.length ≤ c) (hm : c ≤ maxLen) (hr : Rs w A xs) : RsL w (cells ++ [.slice A xs.length c]) (xss ++ [xs]) := by
  refine ⟨by simp [h.1], fun i ys hy => ?_⟩
  rcases snoc_get hy with ⟨hi, hy⟩ | ⟨rfl, rfl⟩
  · obtain ⟨A', c', h1, h2⟩ := h.2 i ys hy
    exact ⟨A', c', by rw [List.getElem?_append_left (by rw [h.1]; exact hi)]; exact h1, h2⟩
  · exact ⟨A, c, by rw [← h.1]; simp, hc, hm, hr⟩
theorem TsL.snoc {w : World} {e : TypeId} {cells : List Value} {xss : List (List Value)} (h : TsL w e cells xss) {A : Option Addr} {c : Nat} {xs : List Value} (hc : xs.length ≤ c) (hm : c ≤ maxLen) (hr : Ts w e A xs) : TsL w e (cells ++ [.slice A xs.length c]) (xss ++ [xs]) := by
  refine ⟨by simp [h.1], fun i ys hy => ?_⟩
  rcases snoc_get hy with ⟨hi, hy⟩ | ⟨rfl, rfl⟩
  · obtain ⟨A', c', h1, h2⟩ := h.2 i ys hy
    exact ⟨A', c', by rw [List.getElem?_append_left (by rw [h.1]; exact hi)]; exact h1, h2⟩
  · exact ⟨A, c, by rw [← h.1]; simp, hc, hm, hr⟩
theorem FsL.snoc {w : World} {cells : List Value} {xss : List (List Value)} (h : FsL w cells xss) {A : Option Addr} {c : Nat} {xs : List Value} (hc : xs.length ≤ c) (hm : c ≤ maxLen) (hr : Fs w A xs) : FsL w (cells ++ [.slice A xs.length c]) (xss ++ [xs]) := by
  refine ⟨by simp [h.1], fun i ys hy => ?_⟩
  rcases snoc_get hy with ⟨hi, hy⟩ | ⟨rfl, rfl⟩
  · obtain ⟨A', c', h1, h2⟩ := h.2 i ys hy
    exact ⟨A', c', by rw [List.getElem?_append_left (by rw [h.1]; exact hi)]; exact h1, h2⟩
  · exact ⟨A, c, by rw [← h.1]; simp, hc, hm, hr⟩
theorem RsL.append {w : World} {c1 c2 : List Value} {x1 x2 : List (List Value)} (h : RsL w c1 x1) (h' : RsL w c2 x2) : RsL w (c1 ++ c2) (x1 ++ x2) := by
  refine ⟨by simp [h.1, h'.1], fun i ys hy => ?_⟩
  rw [List.getElem?_append] at hy ⊢
  rw [h.1]
  split at hy
  · next hi => rw [if_pos hi]; exact h.2 i ys hy
  · next hi => rw [if_neg hi]; exact h'.2 _ ys hy
theorem RsL.one {w : World} {cells : List Value} {xss : List (List Value)} (h : RsL w cells xss) : cells.all Value.oneCell' = true := by
  rw [List.all_eq_true]
  intro v hv
  obtain ⟨i, hi, rfl⟩ := List.mem_iff_getElem.mp hv
  obtain ⟨A, c, h1, _⟩ := h.2 i _ (List.getElem?_eq_getElem (by rw [← h.1]; exact hi))
  rw [List.getElem?_eq_getElem hi] at h1
  rw [Option.some.inj h1]; rfl
end Go.Proofs.Ytpknglclcdgfbaa
