/-
  The walks of mill's deck: New, Left, Next, Range.
-/
import Derived.Test.YtpknglclcdgfbaaMod
import Derived.Test.YtpknglclcdgfbaaBytes
import Derived.BigQuiet
import Derived.IntWalk
namespace Go.Proofs.Ytpknglclcdgfbaa
open Go.RowKit
set_option linter.unusedVariables false

def ints (l : List Int) : List Value := l.map (Value.int .i64)
theorem ints_length (l : List Int) : (ints l).length = l.length := by simp [ints]
theorem ints_get (l : List Int) (i : Nat) (h : i < l.length) : (ints l)[i]? = some (.int .i64 (l.getD i 0)) := by
  simp [ints, List.getElem?_map, List.getElem?_eq_getElem h, List.getD_eq_getElem?_getD]
theorem ints_one (l : List Int) : (ints l).all Value.oneCell' = true := by simp [ints, Value.oneCell']

/-- What a deck gives: the next number below n, and the numbers that are left. -/
def nx (l : List Int) (n : Int) : Int × List Int := match l with | [] => (0, []) | v :: r => (v % n, r)
theorem nx_bd (l : List Int) {n : Int} (hn : 1 ≤ n) : 0 ≤ (nx l n).1 ∧ (nx l n).1 < n := by
  cases l with
  | nil => exact ⟨Int.le_refl _, by show (0 : Int) < n; omega⟩
  | cons v r => exact ⟨Int.emod_nonneg _ (by omega), Int.emod_lt_of_pos _ (by omega)⟩

/-- The deck in block g: its numbers lie below block B. -/
def Dk (w : World) (B g : Nat) (l : List Int) : Prop :=
  B ≤ g ∧ ∃ (A : Option Addr) (c : Nat) (at_ : Nat) (full : List Int), w.heap[g]? = some (.cells #[.slice A full.length c, .int .i64 at_] 79 (0, 0)) ∧ at_ ≤ full.length ∧ full.length ≤ maxLen ∧ l = full.drop at_ ∧
    (full = [] ∨ ∃ b off, A = some ⟨b, off, none⟩ ∧ b < B ∧ ∀ j u, (ints full)[j]? = some u → w.cell? ⟨b, off + j, none⟩ = some u)
theorem Dk.lt {w : World} {B g : Nat} {l : List Int} (h : Dk w B g l) : g < w.heap.size := by
  obtain ⟨_, A, c, at_, full, h1, _⟩ := h
  exact lt_of_block h1
theorem Dk.up {w w' : World} {B g : Nat} {l : List Int} (h : Dk w B g l) (hb : Old w w') : Dk w' B g l := by
  obtain ⟨h0, A, c, at_, full, h1, h2, h3, h4, h5⟩ := h
  refine ⟨h0, A, c, at_, full, hb.block h1, h2, h3, h4, ?_⟩
  rcases h5 with h5 | ⟨b, off, hA, hlt, hc⟩
  · exact Or.inl h5
  · exact Or.inr ⟨b, off, hA, hlt, fun j u hu => hb.cell (hc j u hu)⟩
/-- Another block than the deck, from B on, has turned. -/
theorem Dk.far {w w' : World} {B g : Nat} {l : List Int} (h : Dk w B g l) {row : Option Nat} (hg : w.grownBy w' row) (hne : row ≠ some g) (hB : ∀ k, row = some k → B ≤ k) : Dk w' B g l := by
  obtain ⟨h0, A, c, at_, full, h1, h2, h3, h4, h5⟩ := h
  refine ⟨h0, A, c, at_, full, (hg.block g (lt_of_block h1) (fun e => hne e.symm)).trans h1, h2, h3, h4, ?_⟩
  rcases h5 with h5 | ⟨b, off, hA, hlt, hc⟩
  · exact Or.inl h5
  · exact Or.inr ⟨b, off, hA, hlt, fun j u hu => hg.cell (hc j u hu) (fun e => by have := hB b e.symm; omega)⟩
/-- A row of the call's own was appended to. -/
theorem Dk.push {w w' : World} {B g : Nat} {l : List Int} (h : Dk w B g l) {base size n : Nat} {e : TypeId} {v : Value} {xs : List Value} (hown : Own w base e size v n xs) (hne : e ≠ 79) (hB : B ≤ base) (hg : w.grownBy w' v.ownBlock) : Dk w' B g l := by
  refine h.far hg ?_ (fun k hk => Nat.le_trans hB (World.ownsRow.lt hown k hk).1)
  intro hk
  obtain ⟨_, A, c, at_, full, h1, _⟩ := h
  rcases hown with ⟨_, ⟨rfl, _⟩ | ⟨g', cap, cu, rfl, _, hgg, _⟩⟩
  · simp [Value.ownBlock] at hk
  · simp [Value.ownBlock] at hk
    subst hk
    rw [hgg] at h1
    simp at h1
    exact hne h1.2
/-- What stays when the deck is turned. -/
theorem Dk.own {w w' : World} {B g : Nat} {l : List Int} (h : Dk w B g l) (hg : w.grownBy w' (some g)) {base size n : Nat} {e : TypeId} {v : Value} {xs : List Value} (hown : Own w base e size v n xs) (hne : e ≠ 79) : Own w' base e size v n xs := by
  obtain ⟨_, A, c, at_, full, h1, _⟩ := h
  refine World.ownsRow.kept hown hg ?_
  rcases hown with ⟨_, ⟨rfl, _⟩ | ⟨g', cap, cu, rfl, _, hgg, _⟩⟩
  · exact Or.inl rfl
  · refine Or.inr ?_
    intro hk
    simp [Value.ownBlock] at hk
    subst hk
    rw [hgg] at h1
    simp at h1
    exact hne h1.2
theorem Dk.ts {w w' : World} {B g : Nat} {l : List Int} (h : Dk w B g l) (hg : w.grownBy w' (some g)) {e : TypeId} {A : Option Addr} {xs : List Value} (ht : Ts w e A xs) (hne : e ≠ 79) : Ts w' e A xs := by
  obtain ⟨_, A', c, at_, full, h1, _⟩ := h
  rcases ht with rfl | ⟨b, off, cur, fz, rfl, hh, hc⟩
  · exact Ts.nil_
  · refine Or.inr ⟨b, off, cur, fz, rfl, ?_, hc⟩
    rw [hg.block b (lt_of_block hh) ?_]
    · exact hh
    · intro hk
      injection hk with hk
      subst hk
      rw [hh] at h1
      simp at h1
      exact hne h1.2.1
theorem Dk.fs {w w' : World} {B g : Nat} {l : List Int} (h : Dk w B g l) (hg : w.grownBy w' (some g)) {A : Option Addr} {xs : List Value} (ht : Fs w A xs) : Fs w' A xs := by
  obtain ⟨_, A', c, at_, full, h1, _⟩ := h
  exact ht.far h1 hg
theorem Dk.fsL {w w' : World} {B g : Nat} {l : List Int} (h : Dk w B g l) (hg : w.grownBy w' (some g)) {cells : List Value} {xss : List (List Value)} (ht : FsL w cells xss) : FsL w' cells xss := by
  obtain ⟨_, A', c, at_, full, h1, _⟩ := h
  exact ht.far h1 hg
theorem Dk.old {w0 w w' : World} {g : Nat} (h0 : Old w0 w) (hg : w.grownBy w' (some g)) (hle : w0.heap.size ≤ g) : Old w0 w' :=
  Below.grown h0 hg h0.size (by intro k hk; injection hk with hk; omega)

theorem newDeck (A : Option Addr) (c : Nat) (l : List Int) (w : World) (hr : Rs w A (ints l)) (hm : l.length ≤ maxLen) :
    Calls Try.prog 11 #[.slice A l.length c] w fun e w' => e = .returned (.pointer (some ⟨w.heap.size, 0, none⟩)) ∧ Dk w' w.heap.size w.heap.size l ∧ Old w w' := by
  go_enter Try.func11, Try.ntmps11
  go_wp2_with fail
  go_ret
  refine ⟨rfl, ⟨Nat.le_refl _, A, c, 0, l, heap_alloc_new w _, Nat.zero_le _, hm, rfl, ?_⟩, (Old.refl w).alloc _⟩
  rcases (hr.alloc (.cells #[.slice A l.length c, .int .i64 0] 79)) with h | ⟨b, off, hA, hc⟩
  · left; simpa [ints] using h
  · rcases Nat.eq_zero_or_pos l.length with h0 | h0
    · left; exact List.eq_nil_of_length_eq_zero h0
    · obtain ⟨b', off', hA', hlt, _⟩ := hr.at_ (by rw [ints_length]; exact h0)
      rw [hA] at hA'
      simp only [Option.some.injEq, Addr.mk.injEq, and_true] at hA'
      obtain ⟨rfl, rfl⟩ := hA'
      exact Or.inr ⟨b, off, hA, hlt, hc⟩

theorem leftDeck (B g : Nat) (l : List Int) (w : World) (h : Dk w B g l) :
    Calls Try.prog 53 #[.pointer (some ⟨g, 0, none⟩)] w fun e w' => e = .returned (.bool (!l.isEmpty)) ∧ ∃ k, w' = w.drewN k := by
  obtain ⟨_, A, c, at_, full, h1, h2, h3, rfl, _⟩ := h
  unfold maxLen at h3
  have c0 : w.cell? ⟨g, 0, none⟩ = some (.slice A full.length c) := by rw [cell_of_row w g 0 _ _ _ h1]; rfl
  have c1 : w.cell? ⟨g, 1, none⟩ = some (.int .i64 at_) := by rw [cell_of_row w g 1 _ _ _ h1]; rfl
  have he : (!(full.drop at_).isEmpty) = decide (at_ < full.length) := by
    by_cases hl : at_ < full.length
    · have : full.drop at_ ≠ [] := by simp; omega
      simp [hl]
    · simp [hl]; omega
  rw [he]
  clear he h1
  go_enter Try.func53, Try.ntmps53
  go_wp2_with fail
  go_quiet (fail)
  go_wp2_with fail
  go_ret
  exact ⟨rfl, _, rfl⟩

def NextPost (w : World) (B g : Nat) (r : Int × List Int) (e : Ending) (w' : World) : Prop := e = .returned (.int .i64 r.1) ∧ Dk w' B g r.2 ∧ w.grownBy w' (some g)
theorem nextDeck (B g : Nat) (l : List Int) (n : Int) (w : World) (h : Dk w B g l) (hn : 1 ≤ n) (hn' : n ≤ 9223372036854775807) :
    Calls Try.prog 24 #[.pointer (some ⟨g, 0, none⟩), .int .i64 n] w (NextPost w B g (nx l n)) := by
  have hL := leftDeck B g l w h
  obtain ⟨h0, A, c, at_, full, h1, h2, h3, rfl, h5⟩ := h
  have h3' := h3
  unfold maxLen at h3
  by_cases hl : at_ < full.length
  · have he : (!(full.drop at_).isEmpty) = true := by
      have : full.drop at_ ≠ [] := by simp; omega
      simp; omega
    rw [he] at hL
    have HL := Lib.hid hL
    have hnx : nx (full.drop at_) n = ((full.getD at_ 0) % n, full.drop (at_ + 1)) := by
      rw [List.drop_eq_getElem_cons hl, List.getD_eq_getElem?_getD, List.getElem?_eq_getElem hl]; rfl
    rw [hnx]
    have hf : full ≠ [] := by intro h; rw [h] at hl; simp at hl
    obtain ⟨b, off, rfl, hlt, hc⟩ := h5.resolve_left hf
    have hbg : b ≠ g := by omega
    have hx := hc _ _ (ints_get full at_ hl)
    have hgl := lt_of_block h1
    have c0 : w.cell? ⟨g, 0, none⟩ = some (.slice (some ⟨b, off, none⟩) full.length c) := by rw [cell_of_row w g 0 _ _ _ h1]; rfl
    have c1 : w.cell? ⟨g, 1, none⟩ = some (.int .i64 at_) := by rw [cell_of_row w g 1 _ _ _ h1]; rfl
    have f1 : w.frozen? ⟨g, 1, none⟩ = false := frozen_of_row w g 1 _ _ h1
    have hset := heap_setCell_same w g 1 _ _ (.int .i64 ((at_ : Int) + 1)) h1
    have hgr : w.grownBy (w.setCell ⟨g, 1, none⟩ (.int .i64 ((at_ : Int) + 1))) (some g) :=
      ⟨rfl, rfl, rfl, by simp, fun k _ hk => heap_setCell_other w ⟨g, 1, none⟩ k _ (fun e => hk (by simp [e]))⟩
    have HC := Lib.hid hc
    have HS := Lib.hid hset
    have HE := Lib.hid he
    clear he hL hnx hf hc hset h5
    generalize full.getD at_ 0 = x at *
    go_enter Try.func24, Try.ntmps24
    go_wp2_with fail
    refine (HL.out).mono ?_; rintro e w' ⟨rfl, n', rfl⟩
    go_wp2_with fail
    have d0 : ((w.drewN n').setCell ⟨g, 1, none⟩ (.int .i64 ((at_ : Int) + 1))).cell? ⟨g, 0, none⟩ = some (.slice (some ⟨b, off, none⟩) full.length c) := by
      rw [cell_of_row _ g 0 _ _ _ (show ((w.drewN n').setCell ⟨g, 1, none⟩ (.int .i64 ((at_ : Int) + 1))).heap[g]? = _ from HS.out)]; rfl
    have d1 : ((w.drewN n').setCell ⟨g, 1, none⟩ (.int .i64 ((at_ : Int) + 1))).cell? ⟨g, 1, none⟩ = some (.int .i64 ((at_ : Int) + 1)) := by
      rw [cell_of_row _ g 1 _ _ _ (show ((w.drewN n').setCell ⟨g, 1, none⟩ (.int .i64 ((at_ : Int) + 1))).heap[g]? = _ from HS.out)]; rfl
    have d2 : ((w.drewN n').setCell ⟨g, 1, none⟩ (.int .i64 ((at_ : Int) + 1))).cell? ⟨b, off + at_, none⟩ = some (.int .i64 x) := by
      rw [World.cell?_setCell_other _ _ _ _ (by intro h; injection h with h; exact hbg h.symm)]; exact hx
    have hdk : Dk ((w.drewN n').setCell ⟨g, 1, none⟩ (.int .i64 ((at_ : Int) + 1))) B g (full.drop (at_ + 1)) := by
      refine ⟨h0, some ⟨b, off, none⟩, c, at_ + 1, full, HS.out, by omega, h3', rfl, Or.inr ⟨b, off, rfl, hlt, fun j u hu => ?_⟩⟩
      rw [World.cell?_setCell_other _ _ _ _ (by intro h; injection h with h; exact hbg h.symm)]; exact HC.out j u hu
    have hgg : w.grownBy ((w.drewN n').setCell ⟨g, 1, none⟩ (.int .i64 ((at_ : Int) + 1))) (some g) := ⟨hgr.os, hgr.tape, hgr.output, hgr.size, hgr.block⟩
    have i5 : IntKind.i64.wrap ((at_ : Int) + 1 - 1) = (at_ : Int) := by rw [IntWalk.i64_in _ (by omega)]; omega
    have i1 : (0 : Int) ≤ (at_ : Int) := by omega
    have i2 : (at_ : Int) < (full.length : Int) := by omega
    clear h1 c0 c1 hx f1 hgr HC HS HE HL
    generalize (w.drewN n').setCell ⟨g, 1, none⟩ (.int .i64 ((at_ : Int) + 1)) = W at *
    go_quiet ((go_at_call 12; exact quiet_same (mod_any x n hn hn' _)))
    clear i5
    go_wp2_with fail
    go_ret
    exact ⟨rfl, hdk, grown_drewN hgg _⟩
  · have he : full.drop at_ = [] := List.drop_eq_nil_of_le (by omega)
    rw [he] at hL
    rw [he]
    have HL := Lib.hid hL
    clear hL
    go_enter Try.func24, Try.ntmps24
    go_wp2_with fail
    refine (HL.out).mono ?_; rintro e w' ⟨rfl, n', rfl⟩
    go_wp2_with fail
    go_ret
    exact ⟨rfl, ⟨h0, A, c, at_, full, h1, h2, h3', he.symm, h5⟩, ⟨rfl, rfl, rfl, Nat.le_refl _, fun _ _ _ => rfl⟩⟩

theorem rangeDeck (B g : Nat) (l : List Int) (lo hi : Int) (w : World) (h : Dk w B g l) (h0 : 0 ≤ lo) (h1 : lo ≤ hi) (h2 : hi ≤ 1000000) :
    Calls Try.prog 48 #[.pointer (some ⟨g, 0, none⟩), .int .i64 lo, .int .i64 hi] w (NextPost w B g (lo + (nx l (hi - lo + 1)).1, (nx l (hi - lo + 1)).2)) := by
  have hN := nextDeck B g l (hi - lo + 1) w h (by omega) (by omega)
  have hbd := nx_bd l (show 1 ≤ hi - lo + 1 by omega)
  have HN := Lib.hid hN
  clear hN
  generalize nx l (hi - lo + 1) = r at *
  obtain ⟨b0, b1⟩ := hbd
  go_enter Try.func48, Try.ntmps48
  go_wp2_with fail
  refine (HN.out).mono ?_; rintro e w' ⟨rfl, hd, hg⟩
  go_wp2_with fail
  go_ret
  exact ⟨rfl, hd, hg⟩

end Go.Proofs.Ytpknglclcdgfbaa
