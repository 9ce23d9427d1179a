/-
  The walks of package ladder and of its reference, in the newer words (XWords).
-/
import Derived.Test.YtpknglclcdgfbaaTicksW
import Derived.Test.YtpknglclcdgfbaaLadderP
import Derived.Test.YtpknglclcdgfbaaWords
namespace Go.Proofs.Ytpknglclcdgfbaa
open Go.RowKit Go.Shelf
set_option linter.unusedVariables false

/-- The cells of rungs. -/
def rungs (l : List (Int × Int)) : List Value := l.flatMap fun r => [.int .i64 r.1, .int .u64 r.2]

theorem tAdd' (a b : Int) (ha : Tk.U a) (hb : Tk.U b) (w : World) (n : Nat) :
    Calls Try.prog 72 #[.int .u64 a, .int .u64 b] (w.drewN n) fun e w' => e = .returned (.int .u64 (Tk.add a b)) ∧ ∃ m, w' = w.drewN m := quiet_same (tAdd a b ha hb _)

theorem rAdd' (a b : Int) (ha : Tk.U a) (hb : Tk.U b) (w : World) (n : Nat) :
    Calls Try.prog 26 #[.int .u64 a, .int .u64 b] (w.drewN n) fun e w' => e = .returned (.int .u64 (Tk.add a b)) ∧ ∃ m, w' = w.drewN m := quiet_same (rAdd a b ha hb _)
theorem rungs_length (l : List (Int × Int)) : (rungs l).length = 2 * l.length := by
  unfold rungs
  induction l with
  | nil => rfl
  | cons a l ih => simp only [List.flatMap_cons, List.length_append, List.length_cons, ih]; simp; omega
theorem rungs_get (l : List (Int × Int)) : ∀ i, i < l.length → (rungs l)[i * 2]? = some (.int .i64 (l.getD i (0, 0)).1) ∧ (rungs l)[i * 2 + 1]? = some (.int .u64 (l.getD i (0, 0)).2) := by
  induction l with
  | nil => intro i h; simp at h
  | cons a l ih =>
    intro i h
    cases i with
    | zero => exact ⟨rfl, rfl⟩
    | succ i =>
      have e1 : (i + 1) * 2 = i * 2 + 1 + 1 := by omega
      rw [e1]
      exact ih i (by simpa using h)

theorem rungs_take (l : List (Int × Int)) : ∀ m, rungs (l.take m) = (rungs l).take (m * 2) := by
  induction l with
  | nil => intro m; simp [rungs]
  | cons a l ih =>
    intro m
    cases m with
    | zero => simp [rungs]
    | succ m =>
      have e1 : (m + 1) * 2 = m * 2 + 1 + 1 := by omega
      have := ih m
      simp only [rungs, List.take_succ_cons, List.flatMap_cons] at this ⊢
      rw [this, e1]
      rfl
theorem lNext_in (b off c : Nat) (n : Nat) (sent at_ : Int) (s t : Int) (w : World) (h0 : 0 ≤ sent) (h1 : sent < n) (hn : n ≤ maxLen) (ha : Tk.U at_) (ht : Tk.U t)
    (hs : w.cell? ⟨b, off + sent.toNat * 2, none⟩ = some (.int .i64 s)) (hw : w.cell? ⟨b, off + sent.toNat * 2 + 1, none⟩ = some (.int .u64 t)) :
    Calls Try.prog 74 #[.slice (some ⟨b, off, none⟩) n c, .int .i64 sent, .int .u64 at_] w fun e w' =>
      e = .returned (.tuple #[.int .i64 s, .int .u64 (Tk.add at_ t), .bool true]) ∧ ∃ k, w' = w.drewN k := by
  unfold maxLen at hn
  have e1 : (sent == (n : Int)) = false := by simp; omega
  go_enter Try.func74, Try.ntmps74
  go_wp2_with fail
  go_quiet ((go_at_call 72; exact tAdd' _ _ ha ht _ _))
  go_wp2
  go_ret3
  exact ⟨rfl, _, rfl⟩
theorem lNext_end (A : Option Addr) (c n : Nat) (at_ : Int) (w : World) (hn : n ≤ maxLen) :
    Calls Try.prog 74 #[.slice A n c, .int .i64 n, .int .u64 at_] w fun e w' =>
      e = .returned (.tuple #[.int .i64 9, .int .u64 0, .bool false]) ∧ ∃ k, w' = w.drewN k := by
  unfold maxLen at hn
  go_enter Try.func74, Try.ntmps74
  go_wp2_with fail
  go_ret3
  exact ⟨rfl, 0, rfl⟩
theorem lNext_out (A : Option Addr) (c n : Nat) (sent at_ : Int) (w : World) (hn : n ≤ maxLen) (h : sent < 0 ∨ (n : Int) < sent) :
    Calls Try.prog 74 #[.slice A n c, .int .i64 sent, .int .u64 at_] w fun e w' =>
      e = .returned (.tuple #[.int .i64 0, .int .u64 0, .bool false]) ∧ ∃ k, w' = w.drewN k := by
  unfold maxLen at hn
  by_cases h0 : sent < 0
  · clear h
    go_enter Try.func74, Try.ntmps74
    go_wp2_with fail
    go_ret3
    exact ⟨rfl, 0, rfl⟩
  · have h1 : (n : Int) < sent := by omega
    clear h
    go_enter Try.func74, Try.ntmps74
    go_wp2_with fail
    go_ret3
    exact ⟨rfl, 0, rfl⟩
theorem lNext_any (A : Option Addr) (c : Nat) (l : List (Int × Int)) (sent at_ : Int) (w : World) (hr : Rs w A (rungs l)) (hl : l.length ≤ maxLen) (hU : Ld.Ok l) (ha : Tk.U at_) :
    Calls Try.prog 74 #[.slice A l.length c, .int .i64 sent, .int .u64 at_] w fun e w' =>
      e = .returned (.tuple #[.int .i64 (Ld.next l sent at_).1, .int .u64 (Ld.next l sent at_).2.1, .bool (Ld.next l sent at_).2.2]) ∧ ∃ k, w' = w.drewN k := by
  by_cases h : sent < 0 ∨ (l.length : Int) < sent
  · rw [Ld.next_out h]; exact lNext_out A c l.length sent at_ w hl h
  · by_cases h1 : sent = l.length
    · subst h1; rw [Ld.next_end]; exact lNext_end A c l.length at_ w hl
    · rw [Ld.next_in (by omega) (by omega)]
      obtain ⟨b, off, rfl, _, hc⟩ := hr.at_ (by rw [rungs_length]; omega)
      obtain ⟨e1, e2⟩ := rungs_get l sent.toNat (by omega)
      exact lNext_in b off c l.length sent at_ _ _ w (by omega) (by omega) hl ha (hU _) (hc _ _ e1) (by rw [Nat.add_assoc]; exact hc _ _ e2)

theorem rNext_in (b off c : Nat) (n : Nat) (sent at_ : Int) (s t : Int) (w : World) (h0 : 0 ≤ sent) (h1 : sent < n) (hn : n ≤ maxLen) (ha : Tk.U at_) (ht : Tk.U t)
    (hs : w.cell? ⟨b, off + sent.toNat * 2, none⟩ = some (.int .i64 s)) (hw : w.cell? ⟨b, off + sent.toNat * 2 + 1, none⟩ = some (.int .u64 t)) :
    Calls Try.prog 61 #[.slice (some ⟨b, off, none⟩) n c, .int .i64 sent, .int .u64 at_] w fun e w' =>
      e = .returned (.tuple #[.int .i64 s, .int .u64 (Tk.add at_ t), .bool true]) ∧ ∃ k, w' = w.drewN k := by
  unfold maxLen at hn
  have e1 : (sent == (n : Int)) = false := by simp; omega
  go_enter Try.func61, Try.ntmps61
  go_wp2_with fail
  go_quiet ((go_at_call 26; exact rAdd' _ _ ha ht _ _))
  go_wp2
  go_ret3
  exact ⟨rfl, _, rfl⟩
theorem rNext_end (A : Option Addr) (c n : Nat) (at_ : Int) (w : World) (hn : n ≤ maxLen) :
    Calls Try.prog 61 #[.slice A n c, .int .i64 n, .int .u64 at_] w fun e w' =>
      e = .returned (.tuple #[.int .i64 9, .int .u64 0, .bool false]) ∧ ∃ k, w' = w.drewN k := by
  unfold maxLen at hn
  go_enter Try.func61, Try.ntmps61
  go_wp2_with fail
  go_ret3
  exact ⟨rfl, 0, rfl⟩
theorem rNext_out (A : Option Addr) (c n : Nat) (sent at_ : Int) (w : World) (hn : n ≤ maxLen) (h : sent < 0 ∨ (n : Int) < sent) :
    Calls Try.prog 61 #[.slice A n c, .int .i64 sent, .int .u64 at_] w fun e w' =>
      e = .returned (.tuple #[.int .i64 0, .int .u64 0, .bool false]) ∧ ∃ k, w' = w.drewN k := by
  unfold maxLen at hn
  by_cases h0 : sent < 0
  · clear h
    go_enter Try.func61, Try.ntmps61
    go_wp2_with fail
    go_ret3
    exact ⟨rfl, 0, rfl⟩
  · have h1 : (n : Int) < sent := by omega
    clear h
    go_enter Try.func61, Try.ntmps61
    go_wp2_with fail
    go_ret3
    exact ⟨rfl, 0, rfl⟩
theorem rNext_any (A : Option Addr) (c : Nat) (l : List (Int × Int)) (sent at_ : Int) (w : World) (hr : Rs w A (rungs l)) (hl : l.length ≤ maxLen) (hU : Ld.Ok l) (ha : Tk.U at_) :
    Calls Try.prog 61 #[.slice A l.length c, .int .i64 sent, .int .u64 at_] w fun e w' =>
      e = .returned (.tuple #[.int .i64 (Ld.next l sent at_).1, .int .u64 (Ld.next l sent at_).2.1, .bool (Ld.next l sent at_).2.2]) ∧ ∃ k, w' = w.drewN k := by
  by_cases h : sent < 0 ∨ (l.length : Int) < sent
  · rw [Ld.next_out h]; exact rNext_out A c l.length sent at_ w hl h
  · by_cases h1 : sent = l.length
    · subst h1; rw [Ld.next_end]; exact rNext_end A c l.length at_ w hl
    · rw [Ld.next_in (by omega) (by omega)]
      obtain ⟨b, off, rfl, _, hc⟩ := hr.at_ (by rw [rungs_length]; omega)
      obtain ⟨e1, e2⟩ := rungs_get l sent.toNat (by omega)
      exact rNext_in b off c l.length sent at_ _ _ w (by omega) (by omega) hl ha (hU _) (hc _ _ e1) (by rw [Nat.add_assoc]; exact hc _ _ e2)
/-- The cells of shots. -/
def shots (l : List (Int × Int)) : List Value := l.flatMap fun r => [.int .u64 r.1, .int .i64 r.2]
theorem shots_snoc (l : List (Int × Int)) (a s : Int) : shots (l ++ [(a, s)]) = shots l ++ [.int .u64 a, .int .i64 s] := by simp [shots]
theorem shots_get (l : List (Int × Int)) : ∀ i, i < l.length → (shots l)[i * 2]? = some (.int .u64 (l.getD i (0, 0)).1) ∧ (shots l)[i * 2 + 1]? = some (.int .i64 (l.getD i (0, 0)).2) := by
  induction l with
  | nil => intro i h; simp at h
  | cons a l ih =>
    intro i h
    cases i with
    | zero => exact ⟨rfl, rfl⟩
    | succ i =>
      have e1 : (i + 1) * 2 = i * 2 + 1 + 1 := by omega
      rw [e1]
      exact ih i (by simpa using h)
theorem shots_length (l : List (Int × Int)) : (shots l).length = 2 * l.length := by
  unfold shots
  induction l with
  | nil => rfl
  | cons a l ih => simp only [List.flatMap_cons, List.length_append, List.length_cons, ih]; simp; omega
theorem info_shot : (Try.prog.info? 65).map (fun i => (i.zero, i.size, i.bytes)) = some (some (.agg #[.int .u64 0, .int .i64 0]), 2, 16) := by kernel_rfl
def StRel (w : World) (l : List (Int × Int)) (at0 : Int) (t v i : Value) (wr : World) : Prop :=
  ∃ (k : Nat) (v1 : Value), v1 = v ∧ k ≤ l.length + 1 ∧ i = .int .i64 k ∧ t = .int .u64 (Ld.upTo l at0 k).2 ∧ Hid (Own wr w.heap.size 65 2 v1 k (shots (Ld.upTo l at0 k).1)) ∧ Hid (Old w wr)
set_option maxHeartbeats 1000000 in
theorem rStepsC (A : Option Addr) (c : Nat) (l : List (Int × Int)) (at0 : Int) (w : World) (hr : Rs w A (rungs l)) (hl : l.length ≤ 1099511627) (hU : Ld.Ok l) (ha : Tk.U at0) :
    Calls Try.prog 30 #[.slice A l.length c, .int .u64 at0] w (Made w 65 2 (l.length + 1) (shots (Ld.steps l at0))) := by
  have hm : l.length ≤ maxLen := by unfold maxLen; omega
  go_enter Try.func30, Try.ntmps30
  go_wp2_with fail
  go_loopw [1, 5, 6] (fun t v i wr => StRel w l at0 t v i wr) (fun _ _ i _ => l.length + 1 - (intOf i).toNat)
  case atStart => exact ⟨0, _, rfl, Nat.zero_le _, rfl, rfl, Lib.hid (Own.nil_ w _ _ _), Lib.hid (Old.refl _)⟩
  case round =>
    obtain ⟨k, v1, rfl, hk, rfl, rfl, HO, HD⟩ := hrel
    have hu := Ld.U_upTo hU ha k
    have hs := Lib.hid (Ld.upTo_succ l at0 k)
    by_cases hlt : k ≤ l.length
    · have HK := Lib.hid (rNext_any A c l k (Ld.upTo l at0 k).2 wr (hr.up HD.out) hm hU hu)
      generalize Ld.upTo l at0 k = p at *
      obtain ⟨sh, t⟩ := p
      go_wp2_with fail
      refine (HK.out).mono ?_; rintro e w1 ⟨rfl, n, rfl⟩
      generalize Ld.next l k t = q at *
      obtain ⟨s, d, more⟩ := q
      have HO1 := Lib.hid (HO.out.up ((Old.refl wr).drewN n))
      have HD1 := Lib.hid (HD.out.drewN n)
      have hsz := HD1.out.size
      go_wp2_with (at_builtin; refine wpList_push (wr := (wr.drewN n)) rfl _ _ 62 rfl _ 65 (.agg #[.int .u64 0, .int .i64 0]) 2 16 Try.underlying62 info_shot rfl (by decide) (by decide) _ _ _ rfl HO1.out 1 1 [.int .u64 t, .int .i64 s] rfl rfl rfl rfl ?pn1 hsz ?_)
      case pn1 => omega
      intro v2 w2 ho2 hg2 hd2
      rw [← shots_snoc] at ho2
      have HX : Hid (StRel w l at0 (.int .u64 d) v2 (.int .i64 ((k + 1 : Nat) : Int)) w2) := Lib.hid ⟨k + 1, _, rfl, by omega, rfl, by rw [hs.out], Lib.hid (by rw [hs.out]; exact ho2), Lib.hid (hd2 _ HD1.out (Nat.le_refl _))⟩
      clear ho2 hg2 hd2 HO HO1 HD HD1 HK hs
      go_wp2_with fail
      go_roundw
      case rel => exact HX.out
      case measure => simp [intOf]; omega
    · obtain rfl : k = l.length + 1 := by omega
      have HX : Hid (Made w 65 2 (l.length + 1) (shots (Ld.steps l at0)) (.returned v1) wr) := Lib.hid ⟨_, rfl, HO.out, HD.out⟩
      clear hs HO
      generalize (Ld.upTo l at0 (l.length + 1)).2 = t at *
      go_wp2_with fail
      go_ret
      exact HX.out
end Go.Proofs.Ytpknglclcdgfbaa
