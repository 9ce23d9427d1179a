/-
  The walks of package ladder and of its reference.
-/
import Derived.Test.YtfejefndcckdbaaTicksW
import Derived.Test.YtfejefndcckdbaaLadderP
import Derived.Test.YtfejefndcckdbaaMem
namespace Go.Proofs.Ytfejefndcckdbaa
open Go.RowKit Go.Shelf
set_option linter.unusedVariables false

/-- The cells of rungs. -/
def rungs (l : List (Int × Int)) : List Value := l.flatMap fun r => [.int .i64 r.1, .int .u64 r.2]

theorem tAdd' (a b : Int) (ha : Tk.U a) (hb : Tk.U b) (w : World) (n : Nat) :
    Calls Try.prog 23 #[.int .u64 a, .int .u64 b] (w.drewN n) fun e w' => e = .returned (.int .u64 (Tk.add a b)) ∧ ∃ m, w' = w.drewN m := quiet_same (tAdd a b ha hb _)

theorem rAdd' (a b : Int) (ha : Tk.U a) (hb : Tk.U b) (w : World) (n : Nat) :
    Calls Try.prog 24 #[.int .u64 a, .int .u64 b] (w.drewN n) fun e w' => e = .returned (.int .u64 (Tk.add a b)) ∧ ∃ m, w' = w.drewN m := quiet_same (rAdd a b ha hb _)
theorem rungs_length (l : List (Int × Int)) : (rungs l).length = 2 * l.length := by
  unfold rungs
  induction l with
  | nil => rfl
  | cons a l ih => simp only [List.flatMap_cons, List.length_append, List.length_cons, ih]; simp; omega
theorem rungs_get (l : List (Int × Int)) : ∀ i, i < l.length → (rungs l)[i * 2]? = some (.int .i64 (l.getD i (0, 0)).1) ∧ (rungs l)[i * 2 + 1]? = some (.int .u64 (l.getD i (0, 0)).2) := by
  induction l with
  | nil => intro i h; simp at h
  | cons a l ih =>
    intro i h
    cases i with
    | zero => exact ⟨rfl, rfl⟩
    | succ i =>
      have e1 : (i + 1) * 2 = i * 2 + 1 + 1 := by omega
      rw [e1]
      exact ih i (by simpa using h)

theorem rungs_take (l : List (Int × Int)) : ∀ m, rungs (l.take m) = (rungs l).take (m * 2) := by
  induction l with
  | nil => intro m; simp [rungs]
  | cons a l ih =>
    intro m
    cases m with
    | zero => simp [rungs]
    | succ m =>
      have e1 : (m + 1) * 2 = m * 2 + 1 + 1 := by omega
      have := ih m
      simp only [rungs, List.take_succ_cons, List.flatMap_cons] at this ⊢
      rw [this, e1]
      rfl
theorem lNext_in (b off c : Nat) (n : Nat) (sent at_ : Int) (s t : Int) (w : World) (h0 : 0 ≤ sent) (h1 : sent < n) (hn : n ≤ maxLen) (ha : Tk.U at_) (ht : Tk.U t)
    (hs : w.cell? ⟨b, off + sent.toNat * 2, none⟩ = some (.int .i64 s)) (hw : w.cell? ⟨b, off + sent.toNat * 2 + 1, none⟩ = some (.int .u64 t)) :
    Calls Try.prog 17 #[.slice (some ⟨b, off, none⟩) n c, .int .i64 sent, .int .u64 at_] w fun e w' =>
      e = .returned (.tuple #[.int .i64 s, .int .u64 (Tk.add at_ t), .bool true]) ∧ ∃ k, w' = w.drewN k := by
  unfold maxLen at hn
  have e1 : (sent == (n : Int)) = false := by simp; omega
  go_enter Try.func17, Try.ntmps17
  go_wp2_with fail
  go_quiet ((go_at_call 23; exact tAdd' _ _ ha ht _ _))
  go_wp2
  go_ret3
  exact ⟨rfl, _, rfl⟩
theorem lNext_end (A : Option Addr) (c n : Nat) (at_ : Int) (w : World) (hn : n ≤ maxLen) :
    Calls Try.prog 17 #[.slice A n c, .int .i64 n, .int .u64 at_] w fun e w' =>
      e = .returned (.tuple #[.int .i64 9, .int .u64 0, .bool false]) ∧ ∃ k, w' = w.drewN k := by
  unfold maxLen at hn
  go_enter Try.func17, Try.ntmps17
  go_wp2_with fail
  go_ret3
  exact ⟨rfl, 0, rfl⟩
theorem lNext_out (A : Option Addr) (c n : Nat) (sent at_ : Int) (w : World) (hn : n ≤ maxLen) (h : sent < 0 ∨ (n : Int) < sent) :
    Calls Try.prog 17 #[.slice A n c, .int .i64 sent, .int .u64 at_] w fun e w' =>
      e = .returned (.tuple #[.int .i64 0, .int .u64 0, .bool false]) ∧ ∃ k, w' = w.drewN k := by
  unfold maxLen at hn
  by_cases h0 : sent < 0
  · clear h
    go_enter Try.func17, Try.ntmps17
    go_wp2_with fail
    go_ret3
    exact ⟨rfl, 0, rfl⟩
  · have h1 : (n : Int) < sent := by omega
    clear h
    go_enter Try.func17, Try.ntmps17
    go_wp2_with fail
    go_ret3
    exact ⟨rfl, 0, rfl⟩
theorem lNext_any (B : Nat) (A : Option Addr) (c : Nat) (l : List (Int × Int)) (sent at_ : Int) (w : World) (hr : Rd w B A (rungs l)) (hl : l.length ≤ maxLen) (hU : Ld.Ok l) (ha : Tk.U at_) :
    Calls Try.prog 17 #[.slice A l.length c, .int .i64 sent, .int .u64 at_] w fun e w' =>
      e = .returned (.tuple #[.int .i64 (Ld.next l sent at_).1, .int .u64 (Ld.next l sent at_).2.1, .bool (Ld.next l sent at_).2.2]) ∧ ∃ k, w' = w.drewN k := by
  by_cases h : sent < 0 ∨ (l.length : Int) < sent
  · rw [Ld.next_out h]; exact lNext_out A c l.length sent at_ w hl h
  · by_cases h1 : sent = l.length
    · subst h1; rw [Ld.next_end]; exact lNext_end A c l.length at_ w hl
    · rw [Ld.next_in (by omega) (by omega)]
      obtain ⟨b, off, rfl, _, hc⟩ := hr.at_ (by rw [rungs_length]; omega)
      obtain ⟨e1, e2⟩ := rungs_get l sent.toNat (by omega)
      exact lNext_in b off c l.length sent at_ _ _ w (by omega) (by omega) hl ha (hU _) (hc _ _ e1) (by rw [Nat.add_assoc]; exact hc _ _ e2)

theorem rNext_in (b off c : Nat) (n : Nat) (sent at_ : Int) (s t : Int) (w : World) (h0 : 0 ≤ sent) (h1 : sent < n) (hn : n ≤ maxLen) (ha : Tk.U at_) (ht : Tk.U t)
    (hs : w.cell? ⟨b, off + sent.toNat * 2, none⟩ = some (.int .i64 s)) (hw : w.cell? ⟨b, off + sent.toNat * 2 + 1, none⟩ = some (.int .u64 t)) :
    Calls Try.prog 18 #[.slice (some ⟨b, off, none⟩) n c, .int .i64 sent, .int .u64 at_] w fun e w' =>
      e = .returned (.tuple #[.int .i64 s, .int .u64 (Tk.add at_ t), .bool true]) ∧ ∃ k, w' = w.drewN k := by
  unfold maxLen at hn
  have e1 : (sent == (n : Int)) = false := by simp; omega
  go_enter Try.func18, Try.ntmps18
  go_wp2_with fail
  go_quiet ((go_at_call 24; exact rAdd' _ _ ha ht _ _))
  go_wp2
  go_ret3
  exact ⟨rfl, _, rfl⟩
theorem rNext_end (A : Option Addr) (c n : Nat) (at_ : Int) (w : World) (hn : n ≤ maxLen) :
    Calls Try.prog 18 #[.slice A n c, .int .i64 n, .int .u64 at_] w fun e w' =>
      e = .returned (.tuple #[.int .i64 9, .int .u64 0, .bool false]) ∧ ∃ k, w' = w.drewN k := by
  unfold maxLen at hn
  go_enter Try.func18, Try.ntmps18
  go_wp2_with fail
  go_ret3
  exact ⟨rfl, 0, rfl⟩
theorem rNext_out (A : Option Addr) (c n : Nat) (sent at_ : Int) (w : World) (hn : n ≤ maxLen) (h : sent < 0 ∨ (n : Int) < sent) :
    Calls Try.prog 18 #[.slice A n c, .int .i64 sent, .int .u64 at_] w fun e w' =>
      e = .returned (.tuple #[.int .i64 0, .int .u64 0, .bool false]) ∧ ∃ k, w' = w.drewN k := by
  unfold maxLen at hn
  by_cases h0 : sent < 0
  · clear h
    go_enter Try.func18, Try.ntmps18
    go_wp2_with fail
    go_ret3
    exact ⟨rfl, 0, rfl⟩
  · have h1 : (n : Int) < sent := by omega
    clear h
    go_enter Try.func18, Try.ntmps18
    go_wp2_with fail
    go_ret3
    exact ⟨rfl, 0, rfl⟩
theorem rNext_any (B : Nat) (A : Option Addr) (c : Nat) (l : List (Int × Int)) (sent at_ : Int) (w : World) (hr : Rd w B A (rungs l)) (hl : l.length ≤ maxLen) (hU : Ld.Ok l) (ha : Tk.U at_) :
    Calls Try.prog 18 #[.slice A l.length c, .int .i64 sent, .int .u64 at_] w fun e w' =>
      e = .returned (.tuple #[.int .i64 (Ld.next l sent at_).1, .int .u64 (Ld.next l sent at_).2.1, .bool (Ld.next l sent at_).2.2]) ∧ ∃ k, w' = w.drewN k := by
  by_cases h : sent < 0 ∨ (l.length : Int) < sent
  · rw [Ld.next_out h]; exact rNext_out A c l.length sent at_ w hl h
  · by_cases h1 : sent = l.length
    · subst h1; rw [Ld.next_end]; exact rNext_end A c l.length at_ w hl
    · rw [Ld.next_in (by omega) (by omega)]
      obtain ⟨b, off, rfl, _, hc⟩ := hr.at_ (by rw [rungs_length]; omega)
      obtain ⟨e1, e2⟩ := rungs_get l sent.toNat (by omega)
      exact rNext_in b off c l.length sent at_ _ _ w (by omega) (by omega) hl ha (hU _) (hc _ _ e1) (by rw [Nat.add_assoc]; exact hc _ _ e2)
end Go.Proofs.Ytfejefndcckdbaa
