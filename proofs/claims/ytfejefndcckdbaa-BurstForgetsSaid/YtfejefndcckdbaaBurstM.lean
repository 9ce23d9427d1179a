/-
  The walks of the laws on package burst: BurstLimits, BurstForgets.
-/
import Derived.Test.YtfejefndcckdbaaBurstL
import Derived.Test.YtfejefndcckdbaaBurstQ
import Derived.BigRegion
import Derived.IntWalk
namespace Go.Proofs.Ytfejefndcckdbaa
open Go.RowKit Go.Shelf
set_option linter.unusedVariables false

theorem small_bd (l : List Int) {n : Int} (hn : 1 ≤ n) : ∀ j, 0 ≤ (smallL l n).getD j 0 ∧ (smallL l n).getD j 0 < n := by
  intro j
  rw [List.getD_eq_getElem?_getD]
  by_cases hj : j < (smallL l n).length
  · rw [List.getElem?_eq_getElem hj]
    simp only [smallL, List.getElem_map, Option.getD_some]
    exact ⟨Int.emod_nonneg _ (by omega), Int.emod_lt_of_pos _ (by omega)⟩
  · rw [List.getElem?_eq_none (by omega)]; simp; omega
theorem U_of_bd {l : List Int} {n : Int} (hn : n ≤ 1000) (h : ∀ j, 0 ≤ l.getD j 0 ∧ l.getD j 0 < n) : ∀ t ∈ l, Tk.U t := by
  intro t ht
  obtain ⟨i, hi, rfl⟩ := List.mem_iff_getElem.mp ht
  have := h i
  rw [List.getD_eq_getElem?_getD, List.getElem?_eq_getElem hi] at this
  simp only [Option.getD_some] at this
  exact ⟨this.1, by omega⟩
theorem tmod5 (a : Int) : -5 < a.tmod 5 ∧ a.tmod 5 < 5 := by
  have := Int.tmod_lt_of_pos a (show (0:Int) < 5 by decide)
  have := Int.lt_tmod_of_pos a (show (0:Int) < 5 by decide)
  omega

set_option maxRecDepth 100000 in
set_option maxHeartbeats 4000000 in
theorem blimits_any (A : Option Addr) (c : Nat) (l : List Int) (most win : Int) (w : World) (hr : Rs w A (u64s l)) (hm : l.length ≤ maxLen) (hl : ∀ t ∈ l, Tk.U t) (hw : Tk.U win) :
    Calls Try.prog 13 #[.int .i64 most, .int .u64 win, .slice A l.length c] w fun e w' => e = .returned (.bool true) ∧ Old w w' := by
  unfold maxLen at hm
  by_cases hbig : 60 < l.length
  · clear hl
    go_enter Try.func13, Try.ntmps13
    go_wp2_with fail
    refine (bsane _).mono ?_; rintro e w1 ⟨rfl, hb⟩
    go_wp2_with fail
    go_ret
    exact ⟨rfl, hb⟩
  · have HL := Lib.hid hl
    obtain ⟨v0, v1⟩ := hw
    obtain ⟨m0, m1⟩ := tmod5 most
    clear hl
    go_enter Try.func13, Try.ntmps13
    go_wp2_with fail
    refine (bsane _).mono ?_; rintro e w1 ⟨rfl, hb⟩
    replace hr := hr.up hb
    go_wp2_with fail
    refine (smallM A c l 100 _ hr (by omega) HL.out (by decide) (by decide)).mono ?_; rintro e w2 ⟨v, rfl, hown, hb2⟩
    have hbd := small_bd l (n := 100) (by decide)
    have hsl := small_length l 100
    generalize smallL l 100 = x at *
    rw [← hsl] at hown hbig
    obtain ⟨A2, c2, rfl, _, hc2, hm2⟩ := hown.shape
    replace hown := hown.base (Nat.le_trans (Nat.le_refl _) hb.size)
    have hb3 := hb.up hb2
    have HBD := Lib.hid hbd
    have HSL := Lib.hid hsl
    unfold maxLen at hm2
    clear hr hb2 hbd hsl hb
    go_wp2_with fail
    have g0 := Int.emod_nonneg (most.tmod 5) (show (5 : Int) ≠ 0 by decide)
    have g1 := Int.emod_lt_of_pos (most.tmod 5) (show (0 : Int) < 5 by decide)
    have f0 := Int.emod_nonneg win (show (30 : Int) ≠ 0 by decide)
    have f1 := Int.emod_lt_of_pos win (show (0 : Int) < 30 by decide)
    have g2 : 1 ≤ 1 + most.tmod 5 % 5 := by omega
    have g3 : 1 + most.tmod 5 % 5 ≤ 5 := by omega
    clear g0 g1
    generalize 1 + most.tmod 5 % 5 = M at *
    generalize win % 30 = W at *
    go_loopw [8] (fun i wr => ∃ k : Nat, k ≤ x.length - 1 ∧ i = .int .i64 ((k : Int) + 1) ∧ Own wr w.heap.size 23 1 (.slice A2 x.length c2) x.length (u64s (Bu.runTo x k)) ∧ Old w wr) (fun i _ => x.length + 1 - (intOf i).toNat)
    case atStart => exact ⟨0, by omega, rfl, hown, hb3⟩
    case round =>
      obtain ⟨k, hk, rfl, hown, hb⟩ := hrel
      clear hb3
      have hrl := Bu.runTo_length x k
      by_cases hlt : k + 1 < x.length
      · obtain ⟨g, c', hgc, hgB, _, _, _⟩ := hown.form (by omega)
        simp only [Value.slice.injEq, true_and] at hgc
        obtain ⟨rfl, rfl⟩ := hgc
        obtain ⟨c1, c3⟩ := hown.cellAt (u64s_get (Bu.runTo x k) (k + 1) (by omega))
        have c4 := (hown.cellAt (u64s_get (Bu.runTo x k) k (by omega))).1
        have hset := hown.set_ (k + 1) (.int .u64 (max ((Bu.runTo x k).getD (k + 1) 0) ((Bu.runTo x k).getD k 0)))
        have hsu : (u64s (Bu.runTo x k)).set (k + 1) (.int .u64 (max ((Bu.runTo x k).getD (k + 1) 0) ((Bu.runTo x k).getD k 0))) = u64s (Bu.runTo x (k + 1)) := by
          unfold u64s; rw [← List.map_set]; rfl
        rw [hsu] at hset
        have HSET := Lib.hid hset
        have hrl' := Lib.hid hrl
        clear hset hsu hrl hown
        generalize (Bu.runTo x k).getD (k + 1) 0 = a at *
        generalize (Bu.runTo x k).getD k 0 = b at *
        have i1 : (0 : Int) ≤ (k : Int) + 1 := by omega
        have i2 : (k : Int) + 1 < (x.length : Int) := by omega
        have i3 : (0 : Int) ≤ (k : Int) := by omega
        have i4 : (k : Int) < (x.length : Int) := by omega
        have i5 : IntKind.i64.wrap ((k : Int) + 1 - 1) = (k : Int) := by rw [IntWalk.i64_in _ (by omega)]; omega
        have i6 : ((k : Int) + 1).toNat = k + 1 := by omega
        go_wp2_with fail
        go_region
        go_wp2_with fail
        go_roundw
        case rel => exact ⟨k + 1, by omega, by go_num, HSET.out.1, (hb.setCell hgB _).drew⟩
        case measure => simp [intOf]; omega
      · have hkk : k = x.length - 1 := by omega
        subst hkk
        have hmono : Bu.Mono (Bu.runTo x (x.length - 1)) := by
          intro j hj
          rw [hrl] at hj
          exact Bu.runTo_mono x _ (by omega) j (by omega)
        have hbd := Bu.runTo_bd (n := 100) (by decide) HBD.out (x.length - 1)
        generalize Bu.runTo x (x.length - 1) = X at *
        have hUX := U_of_bd (by decide) hbd
        obtain ⟨_, _, hsh, hr, _, _⟩ := hown.shape
        simp only [Value.slice.injEq, true_and] at hsh
        obtain ⟨rfl, rfl⟩ := hsh
        have hP := bPlay A2 c2 X M W wr hr.rs (by omega) hUX ⟨f0, by omega⟩
        have hlim := fun i h => Bu.limits (most := M) (win := W) hmono (fun j => (hbd j).1) i h
        have hle := fun d i h => Bu.mono_le hmono d i h
        have hpl := Bu.play_length M W X
        have hgo := bools_get (Bu.play M W X)
        have hgx := u64s_get X
        have hbl := bools_length (Bu.play M W X)
        have hul := u64s_length X
        rw [hpl] at hgo hbl
        rw [hrl] at hP hgx hgo hlim hle hbl hul
        generalize Bu.play M W X = ok at *
        have HP := Lib.hid hP
        have HLIM := Lib.hid hlim
        have HLE := Lib.hid hle
        have HGO := Lib.hid hgo
        have HGX := Lib.hid hgx
        have HBL := Lib.hid hbl
        have HUL := Lib.hid hul
        have HRL := Lib.hid hrl
        have HB2 := Lib.hid hbd
        clear hP hlim hle hpl hgo hgx hbl hul hmono hUX hown hbd hrl
        go_wp2_with fail
        refine (HP.out).mono ?_; rintro e w4 ⟨v, rfl, hown4, hb4⟩
        obtain ⟨A4, c4, rfl, hr4, _, _⟩ := hown4.shape
        replace hr := (hr.up hb4).rs
        replace hr4 := hr4.rs
        replace hb := hb.up hb4
        clear hown4 hb4
        go_wp2_with fail
        go_loopw [57] (fun i wr => ∃ k m : Nat, k ≤ x.length ∧ i = .int .i64 k ∧ wr = w4.drewN m) (fun i _ => x.length - (intOf i).toNat)
        case atStart => exact ⟨0, 0, by omega, rfl, rfl⟩
        case round =>
          obtain ⟨k, m, hk, rfl, rfl⟩ := hrel
          by_cases hlt : k < x.length
          · obtain ⟨b, off, rfl, _, hc⟩ := hr.at_ (by rw [HUL.out]; omega)
            obtain ⟨b', off', rfl, _, hc'⟩ := hr4.at_ (by rw [HBL.out]; omega)
            have HC := Lib.hid hc
            have HC' := Lib.hid hc'
            have hd1 : decide ((k : Int) < (x.length : Int)) = true := by simp; omega
            clear hc hc' hr hr4
            go_wp2_with fail
            go_loopw [11, 12] (fun n j wr => ∃ k2 m : Nat, k2 ≤ k ∧ j = .int .i64 k2 ∧ n = .int .i64 (Bu.cnt X ok W k k2) ∧ wr = w4.drewN m) (fun _ j _ => k - (intOf j).toNat)
            case atStart => exact ⟨0, m, by omega, rfl, rfl, rfl⟩
            case round =>
              obtain ⟨k2, m2, hk2, rfl, rfl, rfl⟩ := hrel
              have hcl := Bu.cnt_le X ok W k k2
              by_cases hlt2 : k2 < k
              · have e1 := HC.out _ _ (HGX.out k hlt)
                have e2 := HC.out _ _ (HGX.out k2 (by omega))
                have e3 := HC'.out _ _ (HGO.out k2 (by omega))
                obtain ⟨p0, p1⟩ := HB2.out k
                obtain ⟨q0, q1⟩ := HB2.out k2
                have hab := HLE.out (k - k2) k2 (by omega)
                rw [show k2 + (k - k2) = k by omega] at hab
                have hcn : Bu.cnt X ok W k (k2 + 1) = Bu.cnt X ok W k k2 + if ok.getD k2 false = true ∧ X.getD k 0 - X.getD k2 0 < W then 1 else 0 := rfl
                have HCN := Lib.hid hcn
                have i1 : (0 : Int) ≤ (k : Int) := by omega
                have i2 : (k : Int) < (x.length : Int) := by omega
                have i3 : (0 : Int) ≤ (k2 : Int) := by omega
                have i4 : (k2 : Int) < (x.length : Int) := by omega
                clear hcn
                generalize X.getD k 0 = a at *
                generalize X.getD k2 0 = bb at *
                have i5 : IntKind.u64.wrap (a - bb) = a - bb := wrap_fit ⟨by omega, by omega⟩
                generalize ok.getD k2 false = t at *
                cases t with
                | false =>
                  have hcn2 : Bu.cnt X ok W k (k2 + 1) = Bu.cnt X ok W k k2 := by rw [HCN.out]; simp
                  have HN := Lib.hid hcn2
                  clear hcn2
                  go_wp2_with fail
                  go_quiet (fail)
                  clear i5
                  go_wp2_with fail
                  go_roundw
                  case rel => exact ⟨k2 + 1, _, by omega, by go_num, by rw [HN.out], rfl⟩
                  case measure => simp [intOf] <;> omega
                | true =>
                  by_cases hw' : a - bb < W
                  · have hcn2 : Bu.cnt X ok W k (k2 + 1) = Bu.cnt X ok W k k2 + 1 := by rw [HCN.out]; simp [hw']
                    have HN := Lib.hid hcn2
                    have hd : decide (a - bb < W) = true := by simpa using hw'
                    clear hcn2
                    go_wp2_with fail
                    go_quiet (fail)
                    clear i5
                    go_wp2_with fail
                    go_roundw
                    case rel => exact ⟨k2 + 1, _, by omega, by go_num, by rw [HN.out]; go_num, rfl⟩
                    case measure => simp [intOf] <;> omega
                  · have hcn2 : Bu.cnt X ok W k (k2 + 1) = Bu.cnt X ok W k k2 := by rw [HCN.out]; simp [hw']
                    have HN := Lib.hid hcn2
                    have hd : decide (a - bb < W) = false := by simpa using hw'
                    clear hcn2
                    go_wp2_with fail
                    go_quiet (fail)
                    clear i5
                    go_wp2_with fail
                    go_roundw
                    case rel => exact ⟨k2 + 1, _, by omega, by go_num, by rw [HN.out], rfl⟩
                    case measure => simp [intOf] <;> omega
              · obtain rfl : k2 = k := by omega
                have e3 := HC'.out _ _ (HGO.out k2 hlt)
                rw [HLIM.out k2 hlt] at e3
                generalize Bu.cnt X ok W k2 k2 = n at *
                by_cases hn : (n : Int) < M
                · have hd : decide ((n : Int) < M) = true := by simpa using hn
                  rw [hd] at e3
                  go_wp2_with fail
                  go_roundw
                  case rel => exact ⟨k2 + 1, _, by omega, by go_num, rfl⟩
                  case measure => simp [intOf] <;> omega
                · have hd : decide ((n : Int) < M) = false := by simpa using hn
                  rw [hd] at e3
                  go_wp2_with fail
                  go_roundw
                  case rel => exact ⟨k2 + 1, _, by omega, by go_num, rfl⟩
                  case measure => simp [intOf] <;> omega
          · go_wp2_with fail
            go_ret
            exact ⟨rfl, hb.drewN _⟩

set_option maxRecDepth 100000 in
set_option maxHeartbeats 4000000 in
theorem bforgets_any (A : Option Addr) (c : Nat) (l : List Int) (now more win : Int) (w : World) (hr : Rs w A (u64s l)) (hm : l.length ≤ maxLen) (hl : ∀ t ∈ l, Tk.U t) (hn : Tk.U now) (hmo : Tk.U more) (hw : Tk.U win) :
    Calls Try.prog 14 #[.slice A l.length c, .int .u64 now, .int .u64 more, .int .u64 win] w fun e w' => e = .returned (.bool true) ∧ Old w w' := by
  unfold maxLen at hm
  by_cases hbig : 60 < l.length
  · clear hl
    go_enter Try.func14, Try.ntmps14
    go_wp2_with fail
    refine (bsane _).mono ?_; rintro e w1 ⟨rfl, hb⟩
    go_wp2_with fail
    go_ret
    exact ⟨rfl, hb⟩
  · have HL := Lib.hid hl
    obtain ⟨v0, v1⟩ := hw
    obtain ⟨n0, n1⟩ := hn
    obtain ⟨m0, m1⟩ := hmo
    clear hl
    go_enter Try.func14, Try.ntmps14
    go_wp2_with fail
    refine (bsane _).mono ?_; rintro e w1 ⟨rfl, hb⟩
    replace hr := hr.up hb
    go_wp2_with fail
    refine (smallM A c l 100 _ hr (by omega) HL.out (by decide) (by decide)).mono ?_; rintro e w2 ⟨v, rfl, hown, hb2⟩
    have hbd := small_bd l (n := 100) (by decide)
    have hUX := U_of_bd (by decide) hbd
    have hsl := small_length l 100
    generalize smallL l 100 = x at *
    rw [← hsl] at hown hbig hm
    obtain ⟨Ax, cx, rfl, hrx, _, _⟩ := hown.shape
    replace hrx := hrx.rs
    replace hb := hb.up hb2
    have HUX := Lib.hid hUX
    clear hr hb2 hbd hsl hown hUX
    go_wp2_with fail
    have f0 := Int.emod_nonneg now (show (120 : Int) ≠ 0 by decide)
    have f1 := Int.emod_lt_of_pos now (show (0 : Int) < 120 by decide)
    have f2 := Int.emod_nonneg more (show (50 : Int) ≠ 0 by decide)
    have f3 := Int.emod_lt_of_pos more (show (0 : Int) < 50 by decide)
    have f4 := Int.emod_nonneg win (show (60 : Int) ≠ 0 by decide)
    have f5 := Int.emod_lt_of_pos win (show (0 : Int) < 60 by decide)
    generalize now % 120 = N at *
    generalize more % 50 = D at *
    generalize win % 60 = W at *
    have uN : Tk.U N := ⟨f0, by omega⟩
    have uND : Tk.U (N + D) := ⟨by omega, by omega⟩
    have uW : Tk.U W := ⟨f4, by omega⟩
    have uW2 : Tk.U (W / 2) := ⟨by omega, by omega⟩
    have h1 : Bu.trim (Bu.trim x N W) N W = Bu.trim x N W := Bu.trim_trim x (Int.le_refl _) (Int.le_refl _)
    have h2 : Bu.trim (Bu.trim x N W) (N + D) W = Bu.trim x (N + D) W := Bu.trim_trim x (by omega) (Int.le_refl _)
    have h3 := Bu.trim_smaller x N (show W / 2 ≤ W by omega)
    have h4 := Bu.allow_full x N W
    have t1 := fun W' h => bTrim Ax cx x N W W' h (by omega) HUX.out uN uW
    have t2 := fun W' h => bTrim Ax cx x (N + D) W W' h (by omega) HUX.out uND uW
    have t3 := fun W' h => bTrim Ax cx x N (W / 2) W' h (by omega) HUX.out uN uW2
    have t4 := fun W' h => bAllow Ax cx x (Bu.trim x N W).length N W W' h (by omega) HUX.out uN uW
    rw [h4] at t4
    have hle := Bu.trim_le x N W
    have hle2 := Bu.trim_le x (N + D) W
    have uA := Bu.trim_U HUX.out N W
    have t5 := fun A' c' W' h => bTrim A' c' (Bu.trim x N W) N W W' h (by omega) uA uN uW
    have t6 := fun A' c' W' h => bTrim A' c' (Bu.trim x N W) (N + D) W W' h (by omega) uA uND uW
    rw [h1] at t5
    rw [h2] at t6
    have s1 := fun A' A'' c' c'' W' h1 h2 => sameT A' A'' c' c'' (Bu.trim x N W) W' h1 h2 (by omega)
    have s2 := fun A' A'' c' c'' W' h1 h2 => sameT A' A'' c' c'' (Bu.trim x (N + D) W) W' h1 h2 (by omega)
    have T1 := Lib.hid t1
    have T2 := Lib.hid t2
    have T3 := Lib.hid t3
    have T4 := Lib.hid t4
    have T5 := Lib.hid t5
    have T6 := Lib.hid t6
    have S1 := Lib.hid s1
    have S2 := Lib.hid s2
    clear h1 h2 h4 t1 t2 t3 t4 t5 t6 s1 s2 uA
    generalize Bu.trim x N W = a at *
    generalize Bu.trim x (N + D) W = b at *
    generalize Bu.trim x N (W / 2) = h at *
    refine (T1.out _ hrx).mono ?_; rintro e w3 ⟨v, rfl, hown, hb3⟩
    obtain ⟨Aa, ca, rfl, hra, _, _⟩ := hown.shape
    replace hra := hra.rs
    replace hrx := hrx.up hb3
    replace hb := hb.up hb3
    clear hown hb3
    go_wp2_with fail
    refine (T2.out _ hrx).mono ?_; rintro e w4 ⟨v, rfl, hown, hb3⟩
    obtain ⟨Ab, cb, rfl, hrb, _, _⟩ := hown.shape
    replace hrb := hrb.rs
    replace hrx := hrx.up hb3
    replace hra := hra.up hb3
    replace hb := hb.up hb3
    clear hown hb3
    go_wp2_with fail
    refine (T4.out _ hrx).mono ?_; rintro e w5 ⟨v, rfl, hown, hb3⟩
    obtain ⟨Ac, cc, rfl, hrc, _, _⟩ := hown.shape
    replace hrc := hrc.rs
    replace hrx := hrx.up hb3
    replace hra := hra.up hb3
    replace hrb := hrb.up hb3
    replace hb := hb.up hb3
    clear hown hb3
    go_wp2_with fail
    refine (T5.out _ _ _ hra).mono ?_; rintro e w6 ⟨v, rfl, hown, hb3⟩
    obtain ⟨A1, c1, rfl, hr1, _, _⟩ := hown.shape
    replace hr1 := hr1.rs
    replace hrx := hrx.up hb3
    replace hra := hra.up hb3
    replace hrb := hrb.up hb3
    replace hrc := hrc.up hb3
    replace hb := hb.up hb3
    clear hown hb3
    go_wp2_with fail
    refine (S1.out _ _ _ _ _ hr1 hra).mono ?_; rintro e w7 ⟨rfl, n, rfl⟩
    replace hrx := hrx.drewN n
    replace hra := hra.drewN n
    replace hrb := hrb.drewN n
    replace hrc := hrc.drewN n
    replace hb := hb.drewN n
    clear hr1
    generalize w6.drewN n = w8 at *
    go_wp2_with fail
    refine (T6.out _ _ _ hra).mono ?_; rintro e w9 ⟨v, rfl, hown, hb3⟩
    obtain ⟨A2, c2, rfl, hr2, _, _⟩ := hown.shape
    replace hr2 := hr2.rs
    replace hrx := hrx.up hb3
    replace hra := hra.up hb3
    replace hrb := hrb.up hb3
    replace hrc := hrc.up hb3
    replace hb := hb.up hb3
    clear hown hb3
    go_wp2_with fail
    refine (S2.out _ _ _ _ _ hr2 hrb).mono ?_; rintro e w10 ⟨rfl, n, rfl⟩
    replace hrx := hrx.drewN n
    replace hra := hra.drewN n
    replace hrc := hrc.drewN n
    replace hb := hb.drewN n
    clear hr2 hrb
    generalize w9.drewN n = w11 at *
    go_wp2_with fail
    refine (T3.out _ hrx).mono ?_; rintro e w12 ⟨v, rfl, hown, hb3⟩
    obtain ⟨A3, c3, rfl, hr3, _, _⟩ := hown.shape
    replace hra := hra.up hb3
    replace hrc := hrc.up hb3
    replace hb := hb.up hb3
    clear hown hb3 hrx
    go_wp2_with fail
    refine (S1.out _ _ _ _ _ hra hrc).mono ?_; rintro e w13 ⟨rfl, n, rfl⟩
    go_wp2_with fail
    go_ret
    exact ⟨rfl, hb.drewN _⟩
end Go.Proofs.Ytfejefndcckdbaa
