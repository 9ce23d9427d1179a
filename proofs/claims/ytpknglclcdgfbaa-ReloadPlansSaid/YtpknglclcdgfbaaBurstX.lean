/-
  The walks of package burst and of its reference: Trim of the reference, Allow, Play, SameTimes.
-/
import Derived.Test.YtpknglclcdgfbaaBurstW
namespace Go.Proofs.Ytpknglclcdgfbaa
open Go.RowKit Go.Shelf
set_option linter.unusedVariables false

theorem rTrim (A : Option Addr) (c : Nat) (l : List Int) (now win : Int) (w : World) (hr : Rs w A (u64s l)) (hm : l.length ≤ 68719476735) (hl : ∀ t ∈ l, Tk.U t) (hn : Tk.U now) (hw : Tk.U win) :
    Calls Try.prog 91 #[.slice A l.length c, .int .u64 now, .int .u64 win] w (Made w 30 1 (Bu.trim l now win).length (u64s (Bu.trim l now win))) := by
  have HL := Lib.hid hl
  obtain ⟨q, hq⟩ : ∃ q : Int → Bool, q = fun t => decide (Tk.sub now t < win) := ⟨_, rfl⟩
  have hres : Bu.trim l now win = Bu.keepTo q l l.length := by rw [Bu.keepTo_all, hq]; rfl
  have HQ := Lib.hid hq
  rw [hres]
  clear hl hq hres
  go_enter Try.func91, Try.ntmps91
  go_wp2_with fail
  go_loopw [7, 8] (fun v i wr => ∃ k : Nat, k ≤ l.length ∧ i = .int .i64 k ∧ Own wr w.heap.size 30 1 v (Bu.keepTo q l k).length (u64s (Bu.keepTo q l k)) ∧ Old w wr) (fun _ i _ => l.length - (intOf i).toNat)
  case atStart => exact ⟨0, Nat.zero_le _, rfl, Own.nil_ _ _ _ _, Old.refl _⟩
  case round =>
    obtain ⟨k, hk, rfl, hown, hb⟩ := hrel
    by_cases hlt : k < l.length
    · obtain ⟨b, off, rfl, _, hc⟩ := (hr.up hb).at_ (by rw [u64s_length]; omega)
      have c1 := hc _ _ (u64s_get l k hlt)
      have hU := Bu.getD_U HL.out k
      have hle := Bu.keepTo_le q l k
      have kyes := Bu.keepTo_yes (q := q) hlt
      have kno := Bu.keepTo_no (q := q) hlt
      have hqx : q (l.getD k 0) = decide (Tk.sub now (l.getD k 0) < win) := by rw [HQ.out]
      have KY := Lib.hid kyes
      have KN := Lib.hid kno
      have HQX := Lib.hid hqx
      have hsz := hb.size
      clear hc kyes kno hqx
      generalize l.getD k 0 = x at *
      by_cases hp : Tk.sub now x < win
      · have hd : q x = true := by rw [HQX.out]; simpa using hp
        have HD := Lib.hid hd
        clear hd
        go_wp2_with fail
        refine (rSub now x hn hU _).mono ?_; rintro e w' ⟨rfl, rfl⟩
        go_wp2_with (at_builtin; refine wpList_push (wr := wr) rfl _ _ 46 rfl _ 30 (.int .u64 0) 1 8 Try.underlying46 info_u64 rfl (by decide) (by decide) _ _ _ rfl hown 1 1 [.int .u64 x] rfl rfl rfl rfl ?pn1 hsz ?_)
        case pn1 => omega
        intro v' w2 hown2 hg2 hd2
        have hb2 := hd2 w hb (Nat.le_refl _)
        clear hg2 hd2 hown
        go_wp2_with fail
        go_roundw
        case rel => exact ⟨k + 1, by omega, by go_num, by rw [KY.out HD.out]; unfold u64s at hown2 ⊢; rw [List.map_append, List.length_append]; exact hown2, hb2⟩
        case measure => simp [intOf]; omega
      · have hd : q x = false := by rw [HQX.out]; simpa using hp
        have HD := Lib.hid hd
        clear hd
        go_wp2_with fail
        refine (rSub now x hn hU _).mono ?_; rintro e w' ⟨rfl, rfl⟩
        go_wp2_with fail
        go_roundw
        case rel => exact ⟨k + 1, by omega, by go_num, by rw [KN.out HD.out]; exact hown, hb⟩
        case measure => simp [intOf]; omega
    · obtain rfl : k = l.length := by omega
      go_wp2_with fail
      go_ret
      exact ⟨_, rfl, hown, hb⟩

def AllowPost (w : World) (r : List Int × Bool) (e : Ending) (w' : World) : Prop :=
  ∃ v, e = .returned (.tuple #[v, .bool r.2]) ∧ Own w' w.heap.size 30 1 v r.1.length (u64s r.1) ∧ Old w w'
theorem bAllow (A : Option Addr) (c : Nat) (l : List Int) (most now win : Int) (w : World) (hr : Rs w A (u64s l)) (hm : l.length ≤ 68719476734) (hl : ∀ t ∈ l, Tk.U t) (hn : Tk.U now) (hw : Tk.U win) :
    Calls Try.prog 71 #[.slice A l.length c, .int .i64 most, .int .u64 now, .int .u64 win] w (AllowPost w (Bu.allow l most now win)) := by
  have hT := bTrim A c l now win w hr (by omega) hl hn hw
  have hle := Bu.trim_le l now win
  have HT := Lib.hid hT
  clear hT hl
  by_cases hp : ((Bu.trim l now win).length : Int) < most
  · rw [Bu.allow_yes hp]
    generalize Bu.trim l now win = R at *
    go_enter Try.func71, Try.ntmps71
    go_wp2_with fail
    refine (HT.out).mono ?_; rintro e w1 ⟨v, rfl, hown, hb⟩
    obtain ⟨A1, c1, rfl, _, _, _⟩ := hown.shape
    go_wp2_with (at_builtin; refine wpList_push (wr := w1) rfl _ _ 46 rfl _ 30 (.int .u64 0) 1 8 Try.underlying46 info_u64 rfl (by decide) (by decide) _ _ _ rfl hown 1 1 [.int .u64 now] rfl rfl rfl rfl ?pn2 hb.size ?_)
    case pn2 => omega
    intro v' w2 hown2 hg2 hd2
    go_wp2_with fail
    go_ret2
    refine ⟨_, rfl, ?_, hd2 w hb (Nat.le_refl _)⟩
    unfold u64s at hown2 ⊢; rw [List.map_append, List.length_append]; exact hown2
  · rw [Bu.allow_no hp]
    generalize Bu.trim l now win = R at *
    go_enter Try.func71, Try.ntmps71
    go_wp2_with fail
    refine (HT.out).mono ?_; rintro e w1 ⟨v, rfl, hown, hb⟩
    obtain ⟨A1, c1, rfl, _, _, _⟩ := hown.shape
    go_wp2_with fail
    go_ret2
    exact ⟨_, rfl, hown, hb⟩
theorem rAllow (A : Option Addr) (c : Nat) (l : List Int) (most now win : Int) (w : World) (hr : Rs w A (u64s l)) (hm : l.length ≤ 68719476734) (hl : ∀ t ∈ l, Tk.U t) (hn : Tk.U now) (hw : Tk.U win) :
    Calls Try.prog 88 #[.slice A l.length c, .int .i64 most, .int .u64 now, .int .u64 win] w (AllowPost w (Bu.allow l most now win)) := by
  have hT := rTrim A c l now win w hr (by omega) hl hn hw
  have hle := Bu.trim_le l now win
  have HT := Lib.hid hT
  clear hT hl
  by_cases hp : ((Bu.trim l now win).length : Int) < most
  · rw [Bu.allow_yes hp]
    generalize Bu.trim l now win = R at *
    go_enter Try.func88, Try.ntmps88
    go_wp2_with fail
    refine (HT.out).mono ?_; rintro e w1 ⟨v, rfl, hown, hb⟩
    obtain ⟨A1, c1, rfl, _, _, _⟩ := hown.shape
    go_wp2_with (at_builtin; refine wpList_push (wr := w1) rfl _ _ 46 rfl _ 30 (.int .u64 0) 1 8 Try.underlying46 info_u64 rfl (by decide) (by decide) _ _ _ rfl hown 1 1 [.int .u64 now] rfl rfl rfl rfl ?pn3 hb.size ?_)
    case pn3 => omega
    intro v' w2 hown2 hg2 hd2
    go_wp2_with fail
    go_ret2
    refine ⟨_, rfl, ?_, hd2 w hb (Nat.le_refl _)⟩
    unfold u64s at hown2 ⊢; rw [List.map_append, List.length_append]; exact hown2
  · rw [Bu.allow_no hp]
    generalize Bu.trim l now win = R at *
    go_enter Try.func88, Try.ntmps88
    go_wp2_with fail
    refine (HT.out).mono ?_; rintro e w1 ⟨v, rfl, hown, hb⟩
    obtain ⟨A1, c1, rfl, _, _, _⟩ := hown.shape
    go_wp2_with fail
    go_ret2
    exact ⟨_, rfl, hown, hb⟩
end Go.Proofs.Ytpknglclcdgfbaa
