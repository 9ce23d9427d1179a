/-
  The walks of the laws on package burst: BurstAllows, BurstPlays.
-/
import Derived.Test.YtfejefndcckdbaaBurstY
namespace Go.Proofs.Ytfejefndcckdbaa
open Go.RowKit Go.Shelf
set_option linter.unusedVariables false

theorem bsane (w : World) : Calls Try.prog 31 #[] w fun e w' => e = .returned (.bool true) ∧ Old w w' := by
  have hp := bPlay (some ⟨w.heap.size, 0, none⟩) 5 [0, 5, 9, 10, 30] 2 10 _ (rs_new w (u64s [0, 5, 9, 10, 30]) 23) (by decide) (by simp [Tk.U]) ⟨by decide, by decide⟩
  rw [show Bu.play 2 10 [0, 5, 9, 10, 30] = [true, true, false, true, true] by decide +kernel] at hp
  have HP := Lib.hid hp
  clear hp
  go_enter Try.func31, Try.ntmps31
  go_wp2_with fail
  refine (HP.out).mono ?_; rintro e w1 ⟨v, rfl, hown, hb⟩
  have hb' := ((Old.refl w).alloc _).up hb
  obtain ⟨A, c, rfl, hr, _⟩ := hown.shape
  obtain ⟨b, off, rfl, _, hc⟩ := hr.rs.at_ (by decide)
  have c0 := hc 0 (.bool true) rfl
  rw [Nat.add_zero] at c0
  have c1 := hc 1 (.bool true) rfl
  have c2 := hc 2 (.bool false) rfl
  have c3 := hc 3 (.bool true) rfl
  have c4 := hc 4 (.bool true) rfl
  clear hown hr hc HP hb
  go_wp2_with fail
  go_ret
  exact ⟨rfl, hb'⟩

theorem mod_U (a : Int) {n : Int} (hn : 1 ≤ n) (hn' : n ≤ 1000) : Tk.U (a % n) := by
  have h1 := Int.emod_nonneg a (show n ≠ 0 by omega)
  have h2 := Int.emod_lt_of_pos a (show 0 < n by omega)
  exact ⟨h1, by omega⟩
theorem small_U (l : List Int) {n : Int} (hn : 1 ≤ n) (hn' : n ≤ 1000) : ∀ t ∈ smallL l n, Tk.U t := by
  intro t ht
  obtain ⟨x, hx, rfl⟩ := List.mem_map.mp ht
  exact mod_U x hn hn'
theorem small_length (l : List Int) (n : Int) : (smallL l n).length = l.length := by simp [smallL]

/-- An array of two numbers. -/
theorem two_cells (w : World) (k : IntKind) (a b : Int) (e : TypeId) (P : Int → Prop) (ha : P a) (hb : P b) : ∀ i, i < 2 → ∃ x, P x ∧ (w.alloc (.cells #[.int k a, .int k b] e)).cell? ⟨w.heap.size, i, none⟩ = some (.int k x) := by
  intro i hi
  rw [cell_of_row _ _ i _ _ _ (heap_alloc_new w _)]
  match i, hi with
  | 0, _ => exact ⟨a, ha, rfl⟩
  | 1, _ => exact ⟨b, hb, rfl⟩

/-- An array of two slices of numbers. -/
theorem two_lists (w : World) (A A' : Option Addr) (c c' : Nat) (l l' : List Int) (e : TypeId) (m : Nat) (hr : Rs w A (u64s l)) (hr' : Rs w A' (u64s l')) (hl : l.length ≤ m) (hl' : l'.length ≤ m) (hU : ∀ t ∈ l, Tk.U t) (hU' : ∀ t ∈ l', Tk.U t) :
    ∀ i, i < 2 → ∃ B d L, L.length ≤ m ∧ (∀ t ∈ L, Tk.U t) ∧ (w.alloc (.cells #[.slice A l.length c, .slice A' l'.length c'] e)).cell? ⟨w.heap.size, i, none⟩ = some (.slice B L.length d) ∧ Rs (w.alloc (.cells #[.slice A l.length c, .slice A' l'.length c'] e)) B (u64s L) := by
  intro i hi
  match i, hi with
  | 0, _ => exact ⟨A, c, l, hl, hU, by rw [cell_of_row _ _ 0 _ _ _ (heap_alloc_new w _)]; rfl, hr.alloc _⟩
  | 1, _ => exact ⟨A', c', l', hl', hU', by rw [cell_of_row _ _ 1 _ _ _ (heap_alloc_new w _)]; rfl, hr'.alloc _⟩

set_option maxRecDepth 100000 in
set_option maxHeartbeats 4000000 in
theorem ballows_any (A : Option Addr) (c : Nat) (l : List Int) (most now win : Int) (w : World) (hr : Rs w A (u64s l)) (hm : l.length ≤ maxLen) (hl : ∀ t ∈ l, Tk.U t) (hn : Tk.U now) (hw : Tk.U win) :
    Calls Try.prog 11 #[.slice A l.length c, .int .i64 most, .int .u64 now, .int .u64 win] w fun e w' => e = .returned (.bool true) ∧ Old w w' := by
  unfold maxLen at hm
  by_cases hbig : 60 < l.length
  · clear hl
    go_enter Try.func11, Try.ntmps11
    go_wp2_with fail
    refine (bsane _).mono ?_; rintro e w1 ⟨rfl, hb⟩
    go_wp2_with fail
    go_ret
    exact ⟨rfl, hb⟩
  · have HL := Lib.hid hl
    obtain ⟨n0, n1⟩ := hn
    obtain ⟨v0, v1⟩ := hw
    clear hl
    go_enter Try.func11, Try.ntmps11
    go_wp2_with fail
    refine (bsane _).mono ?_; rintro e w1 ⟨rfl, hb⟩
    replace hr := hr.up hb
    go_wp2_with fail
    refine (smallM A c l 50 _ hr (by omega) HL.out (by decide) (by decide)).mono ?_; rintro e w2 ⟨v, rfl, hown, hb2⟩
    obtain ⟨A2, c2, rfl, hr2, _, _⟩ := hown.shape
    replace hr := hr.up hb2
    replace hb := hb.up hb2
    have hlists := two_lists w2 A A2 c c2 l (smallL l 50) 47 60 hr hr2.rs (by omega) (by rw [small_length]; omega) HL.out (small_U l (by decide) (by decide))
    rw [small_length] at hlists
    have HLS := Lib.hid hlists
    have hb3 := hb.alloc (.cells #[.slice A l.length c, .slice A2 l.length c2] 47)
    clear hown hlists hr hr2 hb hb2
    go_wp2_with fail
    generalize (w2.alloc (.cells #[.slice A l.length c, .slice A2 l.length c2] 47)) = W2 at *
    go_loopw [31] (fun i wr => ∃ k : Nat, k ≤ 2 ∧ i = .int .i64 k ∧ Old W2 wr) (fun i _ => 2 - (intOf i).toNat)
    case atStart => exact ⟨0, by omega, rfl, Old.refl _⟩
    case round =>
      obtain ⟨k, hk, rfl, hbw⟩ := hrel
      by_cases hlt : k < 2
      · obtain ⟨A', c', l', hl', hU', hx', hr'⟩ := HLS.out k hlt
        have cx := hbw.cell hx'
        have hr' := hr'.up hbw
        have hb4 := hb3.up hbw
        have HU' := Lib.hid hU'
        clear hx' hU'
        have hd1 : decide ((k : Int) < 2) = true := by simp; omega
        go_wp2_with fail
        have HW2 := Lib.hid (two_cells wr .u64 win (win % 40) 23 Tk.U ⟨v0, v1⟩ (mod_U win (by decide) (by decide)))
        have hb5 := hb4.alloc (.cells #[.int .u64 win, .int .u64 (win % 40)] 23)
        have hr5 := hr'.alloc (.cells #[.int .u64 win, .int .u64 (win % 40)] 23)
        have hbw5 := hbw.alloc (.cells #[.int .u64 win, .int .u64 (win % 40)] 23)
        clear cx hr' hb4 hbw
        generalize wr.alloc (.cells #[.int .u64 win, .int .u64 (win % 40)] 23) = W5 at *
        go_loopw [40] (fun i wr => ∃ k : Nat, k ≤ 2 ∧ i = .int .i64 k ∧ Old W5 wr) (fun i _ => 2 - (intOf i).toNat)
        case atStart => exact ⟨0, by omega, rfl, Old.refl _⟩
        case round =>
          obtain ⟨k2, hk2, rfl, hbw2⟩ := hrel
          by_cases hlt2 : k2 < 2
          · obtain ⟨xw, hxw, hx2⟩ := HW2.out k2 hlt2
            have cx := hbw2.cell hx2
            have hd2 : decide ((k2 : Int) < 2) = true := by simp; omega
            have hb6 := hb5.up hbw2
            have hr6 := hr5.up hbw2
            have hbw6 := hbw5.up hbw2
            obtain ⟨xw0, xw1⟩ := hxw
            clear hx2
            go_wp2_with fail
            have HW3 := Lib.hid (two_cells wr .u64 now (now % 60) 23 Tk.U ⟨n0, n1⟩ (mod_U now (by decide) (by decide)))
            have hb7 := hb6.alloc (.cells #[.int .u64 now, .int .u64 (now % 60)] 23)
            have hr7 := hr6.alloc (.cells #[.int .u64 now, .int .u64 (now % 60)] 23)
            have hbw7 := hbw6.alloc (.cells #[.int .u64 now, .int .u64 (now % 60)] 23)
            have hbx7 := hbw2.alloc (.cells #[.int .u64 now, .int .u64 (now % 60)] 23)
            clear cx hr6 hb6 hbw2 hbw6
            generalize wr.alloc (.cells #[.int .u64 now, .int .u64 (now % 60)] 23) = W7 at *
            go_loopw [49] (fun i wr => ∃ k : Nat, k ≤ 2 ∧ i = .int .i64 k ∧ Old W7 wr) (fun i _ => 2 - (intOf i).toNat)
            case atStart => exact ⟨0, by omega, rfl, Old.refl _⟩
            case round =>
              obtain ⟨k3, hk3, rfl, hbw3⟩ := hrel
              by_cases hlt3 : k3 < 2
              · obtain ⟨xn, hxn, hx3⟩ := HW3.out k3 hlt3
                have cx := hbw3.cell hx3
                have hd3 : decide ((k3 : Int) < 2) = true := by simp; omega
                have hb8 := hb7.up hbw3
                have hr8 := hr7.up hbw3
                have hbw8 := hbw7.up hbw3
                have hbx8 := hbx7.up hbw3
                have HXN := Lib.hid hxn
                clear hx3 hxn
                go_wp2_with fail
                have HW4 := Lib.hid (two_cells wr .i64 most (most.tmod 6) 3 (fun _ => True) trivial trivial)
                have hb9 := hb8.alloc (.cells #[.int .i64 most, .int .i64 (most.tmod 6)] 3)
                have hr9 := hr8.alloc (.cells #[.int .i64 most, .int .i64 (most.tmod 6)] 3)
                have hbw9 := hbw8.alloc (.cells #[.int .i64 most, .int .i64 (most.tmod 6)] 3)
                have hbx9 := hbx8.alloc (.cells #[.int .i64 most, .int .i64 (most.tmod 6)] 3)
                have hby9 := hbw3.alloc (.cells #[.int .i64 most, .int .i64 (most.tmod 6)] 3)
                clear cx hr8 hb8 hbw3 hbw8 hbx8
                generalize wr.alloc (.cells #[.int .i64 most, .int .i64 (most.tmod 6)] 3) = W9 at *
                go_loopw [58] (fun i wr => ∃ k : Nat, k ≤ 2 ∧ i = .int .i64 k ∧ Old W9 wr) (fun i _ => 2 - (intOf i).toNat)
                case atStart => exact ⟨0, by omega, rfl, Old.refl _⟩
                case round =>
                  obtain ⟨k4, hk4, rfl, hbw4⟩ := hrel
                  by_cases hlt4 : k4 < 2
                  · obtain ⟨xm, _, hx4⟩ := HW4.out k4 hlt4
                    have cx := hbw4.cell hx4
                    have hd4 : decide ((k4 : Int) < 2) = true := by simp; omega
                    have hr10 := hr9.up hbw4
                    clear hx4
                    go_wp2_with fail
                    refine (bAllow A' c' l' xm xn xw _ hr10 (by omega) HU'.out HXN.out ⟨xw0, xw1⟩).mono ?_; rintro e w11 ⟨v, rfl, hown, hb11⟩
                    obtain ⟨A11, c11, rfl, hr11, _, _⟩ := hown.shape
                    replace hr10 := hr10.up hb11
                    have hbw5 := hbw4.up hb11
                    clear hown
                    go_wp2_with fail
                    refine (rAllow A' c' l' xm xn xw _ hr10 (by omega) HU'.out HXN.out ⟨xw0, xw1⟩).mono ?_; rintro e w12 ⟨v, rfl, hown, hb12⟩
                    obtain ⟨A12, c12, rfl, hr12, _, _⟩ := hown.shape
                    have hr11 := hr11.up hb12
                    have hbw6 := hbw5.up hb12
                    have hal := Bu.allow_le l' xm xn xw
                    clear hown hr10
                    generalize Bu.allow l' xm xn xw = r at *
                    obtain ⟨ts, ok⟩ := r
                    simp only at hal hr11 hr12
                    go_wp2_with fail
                    refine (sameT A11 A12 c11 c12 ts _ hr11.rs hr12.rs (by omega)).mono ?_; rintro e w13 ⟨rfl, n, rfl⟩
                    go_wp2_with fail
                    go_roundw
                    case rel => exact ⟨k4 + 1, by omega, by go_num, hbw6.drewN n⟩
                    case measure => simp [intOf]; omega
                  · have hr10 := hr9.up hbw4
                    go_wp2_with fail
                    refine (bTrim A' c' l' xn xw _ hr10 (by omega) HU'.out HXN.out ⟨xw0, xw1⟩).mono ?_; rintro e w11 ⟨v, rfl, hown, hb11⟩
                    obtain ⟨A11, c11, rfl, hr11, _, _⟩ := hown.shape
                    replace hr10 := hr10.up hb11
                    have hbw5 := hbw4.up hb11
                    clear hown
                    go_wp2_with fail
                    refine (rTrim A' c' l' xn xw _ hr10 (by omega) HU'.out HXN.out ⟨xw0, xw1⟩).mono ?_; rintro e w12 ⟨v, rfl, hown, hb12⟩
                    obtain ⟨A12, c12, rfl, hr12, _, _⟩ := hown.shape
                    have hr11 := hr11.up hb12
                    have hbw6 := hbw5.up hb12
                    have hal := Bu.trim_le l' xn xw
                    clear hown hr10
                    generalize Bu.trim l' xn xw = ts at *
                    go_wp2_with fail
                    refine (sameT A11 A12 c11 c12 ts _ hr11.rs hr12.rs (by omega)).mono ?_; rintro e w13 ⟨rfl, n, rfl⟩
                    go_wp2_with fail
                    go_roundw
                    case rel => exact ⟨k3 + 1, by omega, by go_num, hby9.up (hbw6.drewN n)⟩
                    case measure => simp [intOf]; omega
              · go_wp2_with fail
                go_roundw
                case rel => exact ⟨k2 + 1, by omega, by go_num, hbx7.up hbw3⟩
                case measure => simp [intOf]; omega
          · go_wp2_with fail
            go_roundw
            case rel => exact ⟨k + 1, by omega, by go_num, hbw5.up hbw2⟩
            case measure => simp [intOf]; omega
      · go_wp2_with fail
        go_ret
        exact ⟨rfl, hb3.up hbw⟩

theorem tmod_bd (a : Int) : -7 < a.tmod 7 ∧ a.tmod 7 < 7 := by
  have := Int.tmod_lt_of_pos a (show (0:Int) < 7 by decide)
  have := Int.lt_tmod_of_pos a (show (0:Int) < 7 by decide)
  omega
set_option maxRecDepth 100000 in
set_option maxHeartbeats 4000000 in
theorem bplays_any (A : Option Addr) (c : Nat) (l : List Int) (most win : Int) (w : World) (hr : Rs w A (u64s l)) (hm : l.length ≤ maxLen) (hl : ∀ t ∈ l, Tk.U t) (hw : Tk.U win) :
    Calls Try.prog 12 #[.int .i64 most, .int .u64 win, .slice A l.length c] w fun e w' => e = .returned (.bool true) ∧ Old w w' := by
  unfold maxLen at hm
  by_cases hbig : 60 < l.length
  · clear hl
    go_enter Try.func12, Try.ntmps12
    go_wp2_with fail
    refine (bsane _).mono ?_; rintro e w1 ⟨rfl, hb⟩
    go_wp2_with fail
    go_ret
    exact ⟨rfl, hb⟩
  · have HL := Lib.hid hl
    obtain ⟨v0, v1⟩ := hw
    clear hl
    go_enter Try.func12, Try.ntmps12
    go_wp2_with fail
    refine (bsane _).mono ?_; rintro e w1 ⟨rfl, hb⟩
    replace hr := hr.up hb
    go_wp2_with fail
    refine (smallM A c l 80 _ hr (by omega) HL.out (by decide) (by decide)).mono ?_; rintro e w2 ⟨v, rfl, hown, hb2⟩
    obtain ⟨A2, c2, rfl, hr2, _, _⟩ := hown.shape
    replace hr := hr.up hb2
    replace hb := hb.up hb2
    have hlists := two_lists w2 A A2 c c2 l (smallL l 80) 47 60 hr hr2.rs (by omega) (by rw [small_length]; omega) HL.out (small_U l (by decide) (by decide))
    rw [small_length] at hlists
    have HLS := Lib.hid hlists
    have hb3 := hb.alloc (.cells #[.slice A l.length c, .slice A2 l.length c2] 47)
    clear hown hlists hr hr2 hb hb2
    go_wp2_with fail
    generalize (w2.alloc (.cells #[.slice A l.length c, .slice A2 l.length c2] 47)) = W2 at *
    go_loopw [22] (fun i wr => ∃ k : Nat, k ≤ 2 ∧ i = .int .i64 k ∧ Old W2 wr) (fun i _ => 2 - (intOf i).toNat)
    case atStart => exact ⟨0, by omega, rfl, Old.refl _⟩
    case round =>
      obtain ⟨k, hk, rfl, hbw⟩ := hrel
      by_cases hlt : k < 2
      · obtain ⟨A', c', l', hl', hU', hx', hr'⟩ := HLS.out k hlt
        have cx := hbw.cell hx'
        have hr' := hr'.up hbw
        have hb4 := hb3.up hbw
        have HU' := Lib.hid hU'
        have hd1 : decide ((k : Int) < 2) = true := by simp; omega
        clear hx' hU'
        go_wp2_with fail
        refine (bPlay A' c' l' (most.tmod 7) (win % 40) _ hr' (by omega) HU'.out (mod_U win (by decide) (by decide))).mono ?_; rintro e w11 ⟨v, rfl, hown, hb11⟩
        obtain ⟨A11, c11, rfl, hr11, _, _⟩ := hown.shape
        replace hr' := hr'.up hb11
        have hbw5 := hbw.up hb11
        clear hown
        go_wp2_with fail
        refine (rPlay A' c' l' (most.tmod 7) (win % 40) _ hr' (by omega) HU'.out (mod_U win (by decide) (by decide))).mono ?_; rintro e w12 ⟨v, rfl, hown, hb12⟩
        obtain ⟨A12, c12, rfl, hr12, _, _⟩ := hown.shape
        have hr11 := (hr11.up hb12).rs
        have hr12 := hr12.rs
        have hbw6 := hbw5.up hb12
        have hlen := Bu.play_length (most.tmod 7) (win % 40) l'
        have hget := bools_get (Bu.play (most.tmod 7) (win % 40) l')
        rw [hlen] at hget
        have HG := Lib.hid hget
        have hbl := bools_length (Bu.play (most.tmod 7) (win % 40) l')
        rw [hlen] at hbl
        have HBL := Lib.hid hbl
        clear hown hr' hget hlen hbl
        go_wp2_with fail
        go_loopw [45] (fun i wr => ∃ k m : Nat, k ≤ l'.length ∧ i = .int .i64 k ∧ wr = w12.drewN m) (fun i _ => l'.length - (intOf i).toNat)
        case atStart => exact ⟨0, 0, by omega, rfl, rfl⟩
        case round =>
          obtain ⟨k2, n, hk2, rfl, rfl⟩ := hrel
          by_cases hlt2 : k2 < l'.length
          · obtain ⟨b, off, rfl, _, hc⟩ := hr11.at_ (by rw [HBL.out]; omega)
            obtain ⟨b', off', rfl, _, hc'⟩ := hr12.at_ (by rw [HBL.out]; omega)
            have e1 := hc _ _ (HG.out k2 hlt2)
            have e2 := hc' _ _ (HG.out k2 hlt2)
            clear hc hc'
            generalize (Bu.play (most.tmod 7) (win % 40) l').getD k2 false = bb at *
            go_wp2_with fail
            go_quiet (fail)
            go_wp2_with fail
            go_roundw
            case rel => exact ⟨k2 + 1, _, by omega, by go_num, rfl⟩
            case measure => simp [intOf]; omega
          · go_wp2_with fail
            go_roundw
            case rel => exact ⟨k + 1, by omega, by go_num, hbw6.drewN _⟩
            case measure => simp [intOf]; omega
      · go_wp2_with fail
        go_ret
        exact ⟨rfl, hb3.up hbw⟩
end Go.Proofs.Ytfejefndcckdbaa
