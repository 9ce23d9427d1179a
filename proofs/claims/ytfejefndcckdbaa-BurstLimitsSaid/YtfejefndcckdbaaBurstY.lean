/-
  The walks of package burst and of its reference: Play, SameTimes; the helpers of the laws.
-/
import Derived.Test.YtfejefndcckdbaaBurstX
namespace Go.Proofs.Ytfejefndcckdbaa
open Go.RowKit Go.Shelf
set_option linter.unusedVariables false

def bools (l : List Bool) : List Value := l.map Value.bool
theorem bools_length (l : List Bool) : (bools l).length = l.length := by simp [bools]
theorem bools_get (l : List Bool) (i : Nat) (h : i < l.length) : (bools l)[i]? = some (.bool (l.getD i false)) := by
  simp [bools, List.getElem?_map, List.getElem?_eq_getElem h, List.getD_eq_getElem?_getD]

set_option maxHeartbeats 1000000 in
theorem bPlay (A : Option Addr) (c : Nat) (l : List Int) (most win : Int) (w : World) (hr : Rs w A (u64s l)) (hm : l.length ≤ 68719476000) (hl : ∀ t ∈ l, Tk.U t) (hw : Tk.U win) :
    Calls Try.prog 38 #[.int .i64 most, .int .u64 win, .slice A l.length c] w (Made w 4 1 l.length (bools (Bu.play most win l))) := by
  have HL := Lib.hid hl
  clear hl
  go_enter Try.func38, Try.ntmps38
  go_wp2_with (at_make; refine wpList_make0 rfl _ _ 55 rfl 4 (.bool false) 1 1 Try.underlying55 info_bool (by decide) .i64 .i64 _ l.length rfl rfl ?pc4 ?pn4 ?_)
  case pc4 => omega
  case pn4 => omega
  intro w1 hown hb
  go_wp2_with fail
  go_loopw [7, 8, 9, 18] (fun t n v i wr => ∃ (k : Nat) (A' : Option Addr) (c' : Nat), k ≤ l.length ∧ i = .int .i64 k ∧ t = .slice A' (Bu.playTo most win l k).1.length c' ∧ Rs wr A' (u64s (Bu.playTo most win l k).1) ∧ n = .int .u64 (Bu.playTo most win l k).2.1 ∧
      Own wr w.heap.size 4 1 v k (bools (Bu.playTo most win l k).2.2) ∧ Old w wr) (fun _ _ _ i _ => l.length - (intOf i).toNat)
  case atStart => exact ⟨0, none, 0, Nat.zero_le _, rfl, rfl, Rs.nil_, rfl, hown, hb⟩
  case round =>
    obtain ⟨k, A', c', hk, rfl, rfl, hrt, rfl, hown, hb⟩ := hrel
    have HUU := Lib.hid (Bu.playTo_U HL.out most win k)
    have hle := (Bu.playTo_le most win l k).1
    have hs := Lib.hid (Bu.playTo_succ most win l k)
    by_cases hlt : k < l.length
    · obtain ⟨b, off, rfl, _, hc⟩ := (hr.up hb).at_ (by rw [u64s_length]; omega)
      have c1 := hc _ _ (u64s_get l k hlt)
      have hU := Bu.getD_U HL.out k
      clear hc
      generalize l.getD k 0 = x at *
      generalize Bu.playTo most win l k = p at *
      obtain ⟨ts, n, ans⟩ := p
      have hmx := Bu.max_U HUU.out.2 hU
      have hA := bAllow A' c' ts most (max n x) win wr hrt (by simp only at hle; omega) HUU.out.1 hmx hw
      have HA := Lib.hid hA
      clear hA
      simp only at hs hle
      generalize Bu.allow ts most (max n x) win = r at *
      obtain ⟨ts', ok⟩ := r
      go_wp2_with fail
      refine (HA.out).mono ?_; rintro e w2 ⟨v2, rfl, hown2, hb2⟩
      obtain ⟨A2, c2, rfl, ht2, _, _⟩ := hown2.shape
      have hown' := hown.up hb2
      have hb' := hb.up hb2
      have hsz := hb'.size
      clear hown hown2 hrt
      go_wp2_with (at_builtin; refine wpList_push (wr := w2) rfl _ _ 55 rfl _ 4 (.bool false) 1 1 Try.underlying55 info_bool rfl (by decide) (by decide) _ _ _ rfl hown' 1 1 [.bool ok] rfl rfl rfl rfl ?pn1 hsz ?_)
      case pn1 => omega
      intro v' w3 hown3 hg3 hd3
      have ht3 := (ht2.grown hown' (by decide) hg3).rs
      clear hg3
      go_wp2_with fail
      go_roundw
      case rel => exact ⟨k + 1, A2, c2, by omega, by go_num, by rw [hs.out], by rw [hs.out]; exact ht3, by rw [hs.out], by rw [hs.out]; unfold bools at hown3 ⊢; rw [List.map_append]; exact hown3, hd3 w hb' (Nat.le_refl _)⟩
      case measure => simp [intOf]; omega
    · obtain rfl : k = l.length := by omega
      unfold Bu.play
      go_wp2_with fail
      go_ret
      exact ⟨_, rfl, hown, hb⟩

set_option maxHeartbeats 1000000 in
theorem rPlay (A : Option Addr) (c : Nat) (l : List Int) (most win : Int) (w : World) (hr : Rs w A (u64s l)) (hm : l.length ≤ 68719476000) (hl : ∀ t ∈ l, Tk.U t) (hw : Tk.U win) :
    Calls Try.prog 39 #[.int .i64 most, .int .u64 win, .slice A l.length c] w (Made w 4 1 l.length (bools (Bu.play most win l))) := by
  have HL := Lib.hid hl
  clear hl
  go_enter Try.func39, Try.ntmps39
  go_wp2_with fail
  go_loopw [7, 8, 9, 10] (fun v t n i wr => ∃ (k : Nat) (A' : Option Addr) (c' : Nat), k ≤ l.length ∧ i = .int .i64 k ∧ t = .slice A' (Bu.playTo most win l k).1.length c' ∧ Rs wr A' (u64s (Bu.playTo most win l k).1) ∧ n = .int .u64 (Bu.playTo most win l k).2.1 ∧
      Own wr w.heap.size 4 1 v k (bools (Bu.playTo most win l k).2.2) ∧ Old w wr) (fun _ _ _ i _ => l.length - (intOf i).toNat)
  case atStart => exact ⟨0, none, 0, Nat.zero_le _, rfl, rfl, Rs.nil_, rfl, Own.nil_ _ _ _ _, Old.refl _⟩
  case round =>
    obtain ⟨k, A', c', hk, rfl, rfl, hrt, rfl, hown, hb⟩ := hrel
    have HUU := Lib.hid (Bu.playTo_U HL.out most win k)
    have hle := (Bu.playTo_le most win l k).1
    have hs := Lib.hid (Bu.playTo_succ most win l k)
    by_cases hlt : k < l.length
    · obtain ⟨b, off, rfl, _, hc⟩ := (hr.up hb).at_ (by rw [u64s_length]; omega)
      have c1 := hc _ _ (u64s_get l k hlt)
      have hU := Bu.getD_U HL.out k
      clear hc
      generalize l.getD k 0 = x at *
      generalize Bu.playTo most win l k = p at *
      obtain ⟨ts, n, ans⟩ := p
      have hmx := Bu.max_U HUU.out.2 hU
      have hA := rAllow A' c' ts most (max n x) win wr hrt (by simp only at hle; omega) HUU.out.1 hmx hw
      have HA := Lib.hid hA
      clear hA
      simp only at hs hle
      generalize Bu.allow ts most (max n x) win = r at *
      obtain ⟨ts', ok⟩ := r
      go_wp2_with fail
      refine (HA.out).mono ?_; rintro e w2 ⟨v2, rfl, hown2, hb2⟩
      obtain ⟨A2, c2, rfl, ht2, _, _⟩ := hown2.shape
      have hown' := hown.up hb2
      have hb' := hb.up hb2
      have hsz := hb'.size
      clear hown hown2 hrt
      go_wp2_with (at_builtin; refine wpList_push (wr := w2) rfl _ _ 55 rfl _ 4 (.bool false) 1 1 Try.underlying55 info_bool rfl (by decide) (by decide) _ _ _ rfl hown' 1 1 [.bool ok] rfl rfl rfl rfl ?pn2 hsz ?_)
      case pn2 => omega
      intro v' w3 hown3 hg3 hd3
      have ht3 := (ht2.grown hown' (by decide) hg3).rs
      clear hg3
      go_wp2_with fail
      go_roundw
      case rel => exact ⟨k + 1, A2, c2, by omega, by go_num, by rw [hs.out], by rw [hs.out]; exact ht3, by rw [hs.out], by rw [hs.out]; unfold bools at hown3 ⊢; rw [List.map_append]; exact hown3, hd3 w hb' (Nat.le_refl _)⟩
      case measure => simp [intOf]; omega
    · obtain rfl : k = l.length := by omega
      unfold Bu.play
      go_wp2_with fail
      go_ret
      exact ⟨_, rfl, hown, hb⟩

theorem sameT (A A' : Option Addr) (c c' : Nat) (l : List Int) (w : World) (hr : Rs w A (u64s l)) (hr' : Rs w A' (u64s l)) (hm : l.length ≤ 68719476736) :
    Calls Try.prog 35 #[.slice A l.length c, .slice A' l.length c'] w fun e w' => e = .returned (.bool true) ∧ ∃ k, w' = w.drewN k := by
  go_enter Try.func35, Try.ntmps35
  go_wp2_with fail
  go_loopw [5] (fun i wr => ∃ k m : Nat, k ≤ l.length ∧ i = .int .i64 k ∧ wr = w.drewN m) (fun i _ => l.length - (intOf i).toNat)
  case atStart => exact ⟨0, 0, Nat.zero_le _, rfl, rfl⟩
  case round =>
    obtain ⟨k, m, hk, rfl, rfl⟩ := hrel
    by_cases hlt : k < l.length
    · obtain ⟨b, off, rfl, _, hc⟩ := hr.at_ (by rw [u64s_length]; omega)
      obtain ⟨b', off', rfl, _, hc'⟩ := hr'.at_ (by rw [u64s_length]; omega)
      have c1 := hc _ _ (u64s_get l k hlt)
      have d1 := hc' _ _ (u64s_get l k hlt)
      clear hc hc' hr hr'
      generalize l.getD k 0 = p at *
      go_wp2_with fail
      go_quiet (fail)
      go_wp2_with fail
      go_roundw
      case rel => exact ⟨k + 1, _, by omega, by go_num, rfl⟩
      case measure => simp [intOf]; omega
    · go_wp2_with fail
      go_ret
      exact ⟨rfl, _, rfl⟩

/-- The list of the law small: each number below n. -/
def smallL (l : List Int) (n : Int) : List Int := l.map (· % n)
theorem smallM (A : Option Addr) (c : Nat) (l : List Int) (n : Int) (w : World) (hr : Rs w A (u64s l)) (hm : l.length ≤ 68719476000) (hl : ∀ t ∈ l, Tk.U t) (hn : 1 ≤ n) (hn' : n ≤ 1000) :
    Calls Try.prog 32 #[.slice A l.length c, .int .u64 n] w (Made w 23 1 l.length (u64s (smallL l n))) := by
  have HL := Lib.hid hl
  have hn0 : (n == 0) = false := by simp; omega
  clear hl
  go_enter Try.func32, Try.ntmps32
  go_wp2_with fail
  go_loopw [5, 10] (fun v i wr => ∃ k : Nat, k ≤ l.length ∧ i = .int .i64 k ∧ Own wr w.heap.size 23 1 v k (u64s (smallL (l.take k) n)) ∧ Old w wr) (fun _ i _ => l.length - (intOf i).toNat)
  case atStart => exact ⟨0, Nat.zero_le _, rfl, Own.nil_ _ _ _ _, Old.refl _⟩
  case round =>
    obtain ⟨k, hk, rfl, hown, hb⟩ := hrel
    by_cases hlt : k < l.length
    · obtain ⟨b, off, rfl, _, hc⟩ := (hr.up hb).at_ (by rw [u64s_length]; omega)
      have c1 := hc _ _ (u64s_get l k hlt)
      have hU := Bu.getD_U HL.out k
      have hts := Lib.hid (Bu.take_snoc l k hlt)
      have hsz := hb.size
      obtain ⟨x0, x1⟩ := hU
      clear hc
      generalize l.getD k 0 = x at *
      go_wp2_with (at_builtin; refine wpList_push (wr := wr) rfl _ _ 47 rfl _ 23 (.int .u64 0) 1 8 Try.underlying47 info_u64 rfl (by decide) (by decide) _ _ _ rfl hown 1 1 [.int .u64 (x % n)] rfl rfl rfl rfl ?pn3 hsz ?_)
      case pn3 => omega
      intro v' w3 hown3 hg3 hd3
      clear hg3
      go_wp2_with fail
      go_roundw
      case rel => exact ⟨k + 1, by omega, by go_num, by rw [hts.out]; unfold u64s smallL at hown3 ⊢; rw [List.map_append, List.map_append]; exact hown3, hd3 w hb (Nat.le_refl _)⟩
      case measure => simp [intOf]; omega
    · obtain rfl : k = l.length := by omega
      rw [List.take_length] at hown
      go_wp2_with fail
      go_ret
      exact ⟨_, rfl, hown, hb⟩
end Go.Proofs.Ytfejefndcckdbaa
