/-
  The walks of ladder.Steps, of the reference's Steps and of Same.
-/
import Derived.Test.YtfejefndcckdbaaLadderW
namespace Go.Proofs.Ytfejefndcckdbaa
open Go.RowKit Go.Shelf
set_option linter.unusedVariables false

/-- The cells of shots. -/
def shots (l : List (Int × Int)) : List Value := l.flatMap fun r => [.int .u64 r.1, .int .i64 r.2]
theorem shots_snoc (l : List (Int × Int)) (a s : Int) : shots (l ++ [(a, s)]) = shots l ++ [.int .u64 a, .int .i64 s] := by simp [shots]
theorem info_shot : (Try.prog.info? 36).map (fun i => (i.zero, i.size, i.bytes)) = some (some (.agg #[.int .u64 0, .int .i64 0]), 2, 16) := by kernel_rfl

set_option maxHeartbeats 1000000 in
theorem lSteps (B : Nat) (A : Option Addr) (c : Nat) (l : List (Int × Int)) (at0 : Int) (w : World) (hr : Rd w B A (rungs l)) (hB : B ≤ w.heap.size) (hl : l.length ≤ 1099511627776) (hU : Ld.Ok l) (ha : Tk.U at0) :
    Calls Try.prog 20 #[.slice A l.length c, .int .u64 at0] w (NewRow w 36 2 (l.length + 1) (shots (Ld.steps l at0))) := by
  obtain ⟨i0, hi, hz0, hz1, hz2⟩ := info_parts info_shot
  have hm : l.length ≤ maxLen := by unfold maxLen; omega
  go_enter Try.func20, Try.ntmps20
  go_wp2_with (at_make; refine wpList_make_own _ rfl _ _ 30 rfl w.heap.size 36 i0 _ 2 Try.underlying30 hi hz0 hz1 .i64 .i64 _ (l.length + 1) rfl rfl (by omega) (by rw [hz2]; omega) (by unfold maxLen; omega) (Nat.le_refl _) ?_; intro w1 hown hg)
  have hb1 : Below w.heap.size w w1 := (Below.refl _ _).grown hg (Nat.le_refl _) (by intro k hk; cases hk)
  clear hg
  go_loopw [1, 5, 6] (fun t v i wr => ∃ k : Nat, k ≤ l.length + 1 ∧ i = .int .i64 k ∧ t = .int .u64 (Ld.upTo l at0 k).2 ∧ wr.ownsRow w.heap.size 36 2 v k (shots (Ld.upTo l at0 k).1) ∧ Below w.heap.size w wr) (fun _ _ i _ => l.length + 1 - (intOf i).toNat)
  case atStart => exact ⟨0, Nat.zero_le _, rfl, rfl, hown, hb1⟩
  case round =>
    obtain ⟨k, hk, rfl, rfl, hown, hb⟩ := hrel
    clear hb1
    have hu := Ld.U_upTo hU ha k
    have hrr := hr.below (hb.mono hB)
    have hs := Lib.hid (Ld.upTo_succ l at0 k)
    have hK := fun W => lNext_any B A c l k (Ld.upTo l at0 k).2 W
    by_cases hlt : k ≤ l.length
    · generalize Ld.upTo l at0 k = p at *
      obtain ⟨sh, t⟩ := p
      go_wp2_with fail
      refine (hK _ hrr hm hU hu).mono ?_
      rintro e w' ⟨rfl, n, rfl⟩
      generalize Ld.next l k t = q at *
      obtain ⟨s, d, more⟩ := q
      have hown1 := own_below hown (below_drewN (Below.refl _ _) n)
      have hb2 := below_drewN hb n
      go_wp2_with (at_builtin; refine wpList_append_own _ rfl _ _ 30 rfl w.heap.size 36 i0 _ 2 16 Try.underlying30 hi hz0 hz1 hz2 rfl (by decide) _ _ _ rfl (hown1.alloc _) ⟨wr.heap.size, 0, none⟩ 1 1 [.int .u64 t, .int .i64 s] rfl rfl ?c1 ?c2 ?c3 ?c4 ?c5 ?_)
      case c1 => exact new_cells (wr.drewN n) [.int .u64 t, .int .i64 s] _
      case c2 => intro u hu; simp at hu; rcases hu with rfl | rfl <;> rfl
      case c3 => unfold maxLen; omega
      case c4 => omega
      case c5 => have := hb.size; simp; omega
      intro v' w2 hown2 hg2 _
      have hb3 := below_append hb2 (Nat.le_refl _) _ hown1 hg2
      rw [← shots_snoc] at hown2
      clear hg2
      go_wp2_with fail
      go_roundw
      case rel => exact ⟨k + 1, by omega, by go_num, by rw [hs.out], by rw [hs.out]; exact hown2, hb3⟩
      case measure => simp [intOf]; omega
    · obtain rfl : k = l.length + 1 := by omega
      clear hs hK
      generalize (Ld.upTo l at0 (l.length + 1)).2 = t at *
      go_wp2_with fail
      go_ret
      exact ⟨_, rfl, hown, hb⟩

set_option maxHeartbeats 1000000 in
theorem rSteps (B : Nat) (A : Option Addr) (c : Nat) (l : List (Int × Int)) (at0 : Int) (w : World) (hr : Rd w B A (rungs l)) (hB : B ≤ w.heap.size) (hl : l.length ≤ 1099511627776) (hU : Ld.Ok l) (ha : Tk.U at0) :
    Calls Try.prog 21 #[.slice A l.length c, .int .u64 at0] w (NewRow w 36 2 (l.length + 1) (shots (Ld.steps l at0))) := by
  obtain ⟨i0, hi, hz0, hz1, hz2⟩ := info_parts info_shot
  have hm : l.length ≤ maxLen := by unfold maxLen; omega
  go_enter Try.func21, Try.ntmps21
  go_wp2_with fail
  go_loopw [1, 5, 6] (fun t v i wr => ∃ k : Nat, k ≤ l.length + 1 ∧ i = .int .i64 k ∧ t = .int .u64 (Ld.upTo l at0 k).2 ∧ wr.ownsRow w.heap.size 36 2 v k (shots (Ld.upTo l at0 k).1) ∧ Below w.heap.size w wr) (fun _ _ i _ => l.length + 1 - (intOf i).toNat)
  case atStart => exact ⟨0, Nat.zero_le _, rfl, rfl, World.ownsRow_nil w _ _ _, Below.refl _ _⟩
  case round =>
    obtain ⟨k, hk, rfl, rfl, hown, hb⟩ := hrel
    have hu := Ld.U_upTo hU ha k
    have hrr := hr.below (hb.mono hB)
    have hs := Lib.hid (Ld.upTo_succ l at0 k)
    have hK := fun W => rNext_any B A c l k (Ld.upTo l at0 k).2 W
    by_cases hlt : k ≤ l.length
    · generalize Ld.upTo l at0 k = p at *
      obtain ⟨sh, t⟩ := p
      go_wp2_with fail
      refine (hK _ hrr hm hU hu).mono ?_
      rintro e w' ⟨rfl, n, rfl⟩
      generalize Ld.next l k t = q at *
      obtain ⟨s, d, more⟩ := q
      have hown1 := own_below hown (below_drewN (Below.refl _ _) n)
      have hb2 := below_drewN hb n
      go_wp2_with (at_builtin; refine wpList_append_own _ rfl _ _ 30 rfl w.heap.size 36 i0 _ 2 16 Try.underlying30 hi hz0 hz1 hz2 rfl (by decide) _ _ _ rfl (hown1.alloc _) ⟨wr.heap.size, 0, none⟩ 1 1 [.int .u64 t, .int .i64 s] rfl rfl ?c1 ?c2 ?c3 ?c4 ?c5 ?_)
      case c1 => exact new_cells (wr.drewN n) [.int .u64 t, .int .i64 s] _
      case c2 => intro u hu; simp at hu; rcases hu with rfl | rfl <;> rfl
      case c3 => unfold maxLen; omega
      case c4 => omega
      case c5 => have := hb.size; simp; omega
      intro v' w2 hown2 hg2 _
      have hb3 := below_append hb2 (Nat.le_refl _) _ hown1 hg2
      rw [← shots_snoc] at hown2
      clear hg2
      go_wp2_with fail
      go_roundw
      case rel => exact ⟨k + 1, by omega, by go_num, by rw [hs.out], by rw [hs.out]; exact hown2, hb3⟩
      case measure => simp [intOf]; omega
    · obtain rfl : k = l.length + 1 := by omega
      clear hs hK
      generalize (Ld.upTo l at0 (l.length + 1)).2 = t at *
      go_wp2_with fail
      go_ret
      exact ⟨_, rfl, hown, hb⟩

theorem shots_length (l : List (Int × Int)) : (shots l).length = 2 * l.length := by
  unfold shots
  induction l with
  | nil => rfl
  | cons a l ih => simp only [List.flatMap_cons, List.length_append, List.length_cons, ih]; simp; omega
theorem shots_get (l : List (Int × Int)) : ∀ i, i < l.length → (shots l)[i * 2]? = some (.int .u64 (l.getD i (0, 0)).1) ∧ (shots l)[i * 2 + 1]? = some (.int .i64 (l.getD i (0, 0)).2) := by
  induction l with
  | nil => intro i h; simp at h
  | cons a l ih =>
    intro i h
    cases i with
    | zero => exact ⟨rfl, rfl⟩
    | succ i =>
      have e1 : (i + 1) * 2 = i * 2 + 1 + 1 := by omega
      rw [e1]
      exact ih i (by simpa using h)

theorem shots_take (l : List (Int × Int)) : ∀ m, shots (l.take m) = (shots l).take (m * 2) := by
  induction l with
  | nil => intro m; simp [shots]
  | cons a l ih =>
    intro m
    cases m with
    | zero => simp [shots]
    | succ m =>
      have e1 : (m + 1) * 2 = m * 2 + 1 + 1 := by omega
      have := ih m
      simp only [shots, List.take_succ_cons, List.flatMap_cons] at this ⊢
      rw [this, e1]
      rfl
theorem same_true (B : Nat) (A A' : Option Addr) (c c' : Nat) (l : List (Int × Int)) (w : World) (hr : Rd w B A (shots l)) (hr' : Rd w B A' (shots l)) (hl : l.length ≤ maxLen) :
    Calls Try.prog 19 #[.slice A l.length c, .slice A' l.length c'] w fun e w' => e = .returned (.bool true) ∧ ∃ k, w' = w.drewN k := by
  unfold maxLen at hl
  have hg := shots_get l
  have hn := shots_length l
  go_enter Try.func19, Try.ntmps19
  go_wp2_with fail
  go_loopw [5] (fun i wr => ∃ k m : Nat, k ≤ l.length ∧ i = .int .i64 k ∧ wr = w.drewN m) (fun i _ => l.length - (intOf i).toNat)
  case atStart => exact ⟨0, 0, Nat.zero_le _, rfl, rfl⟩
  case round =>
    obtain ⟨k, m, hk, rfl, rfl⟩ := hrel
    by_cases hlt : k < l.length
    · obtain ⟨b, off, rfl, _, hc⟩ := hr.at_ (by omega)
      obtain ⟨b', off', rfl, _, hc'⟩ := hr'.at_ (by omega)
      obtain ⟨e1, e2⟩ := hg k hlt
      have c1 := hc _ _ e1
      have c2 := hc _ _ e2
      rw [← Nat.add_assoc] at c2
      have d1 := hc' _ _ e1
      have d2 := hc' _ _ e2
      rw [← Nat.add_assoc] at d2
      clear hc hc' e1 e2 hr hr' hg hn
      generalize l.getD k (0, 0) = p at *
      go_wp2_with fail
      go_quiet (fail)
      go_wp2_with fail
      go_roundw
      case rel => exact ⟨k + 1, _, by omega, by go_num, rfl⟩
      case measure => simp [intOf]; omega
    · go_wp2_with fail
      go_ret
      exact ⟨rfl, _, rfl⟩
end Go.Proofs.Ytfejefndcckdbaa
