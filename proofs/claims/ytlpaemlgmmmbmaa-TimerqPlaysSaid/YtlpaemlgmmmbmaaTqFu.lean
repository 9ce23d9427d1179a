/-
  The walk of TimerqFull.
-/
import Derived.Test.YtlpaemlgmmmbmaaTqZ
import Derived.Test.YtlpaemlgmmmbmaaMod
namespace Go.Proofs.Ytlpaemlgmmmbmaa
open Go.RowKit Go.Maps
set_option linter.unusedVariables false

def fullL (t : Int) (k : Nat) : List TOp := (List.range k).map fun (i : Nat) => ⟨1, (i : Int), t⟩
theorem fullL_len (t : Int) (k : Nat) : (fullL t k).length = k := by simp [fullL]
theorem fullL_snoc (t : Int) (k : Nat) : fullL t (k + 1) = fullL t k ++ [⟨1, (k : Int), t⟩] := by simp [fullL, List.range_succ]
theorem fullL_ok {t : Int} {k : Nat} (ht : 0 ≤ t ∧ t < 18446744073709551616) (hk : k ≤ 300) : ∀ o ∈ fullL t k, o.ok := by
  intro o ho
  obtain ⟨i, hi, rfl⟩ := List.mem_map.1 ho
  have := List.mem_range.1 hi
  unfold TOp.ok
  simp only
  omega
def tailL (a b : Int) : List TOp := [⟨1, a, b⟩, ⟨4, 0, 0⟩, ⟨3, 0, 1048576⟩]
def FullRel (w : World) (t : Int) (K : Nat) (lv ix : Value) (wr : World) : Prop :=
  ∃ k : Nat, ix = .int .i64 k ∧ k ≤ K ∧ Hid (Own wr w.heap.size 66 3 lv (fullL t k).length (opv (fullL t k))) ∧ Hid (Old w wr)
set_option maxHeartbeats 1000000 in
set_option maxRecDepth 100000 in
theorem full_ (n tm : Int) (w : World) (ht : 0 ≤ tm ∧ tm < 18446744073709551616) :
    Calls Try.prog 9 #[.int .i64 n, .int .u64 tm] w (BoolOld true w) := by
  have hS := Lib.hid (saneQ w)
  obtain ⟨ht1, ht2⟩ := ht
  have hm0 := Int.emod_nonneg n (show (3 : Int) ≠ 0 by decide)
  have hm1 := Int.emod_lt_of_pos n (show (0 : Int) < 3 by decide)
  have hq0 := Int.emod_nonneg n (show (600 : Int) ≠ 0 by decide)
  have hq1 := Int.emod_lt_of_pos n (show (0 : Int) < 600 by decide)
  have hr0 := Int.emod_nonneg tm (show (1000 : Int) ≠ 0 by decide)
  have hr1 := Int.emod_lt_of_pos tm (show (0 : Int) < 1000 by decide)
  obtain ⟨K, hK⟩ : ∃ K : Nat, (K : Int) = 255 + n % 3 := ⟨(255 + n % 3).toNat, by omega⟩
  have hKb : K ≤ 257 := by omega
  have M3 := Lib.hid (fun W => mod_any n 3 (by decide) (by decide) W)
  have M6 := Lib.hid (fun W => mod_any n 600 (by decide) (by decide) W)
  have HK := Lib.hid hK
  have HK' : (255 : Int) + n % 3 ≤ K := by omega
  have HK'' : (K : Int) ≤ 255 + n % 3 := by omega
  clear hK
  go_enter Try.func9, Try.ntmps9
  go_wp2_with fail
  refine hS.out.mono ?_
  rintro e w1 ⟨rfl, o1⟩
  have O1 := Lib.hid o1
  clear o1 hS
  go_wp2_with fail
  go_loopw [5, 6] (fun lv ix wr => FullRel w (tm % 1000) K lv ix wr) (fun _ ix _ => 300 - (intOf ix).toNat)
  case atStart => exact ⟨0, rfl, Nat.zero_le _, Own.nil_ _ _ _ _, O1.out⟩
  case round =>
    obtain ⟨k, rfl, hk, HO, HOL⟩ := hrel
    by_cases hlt : k < K
    · have hlt2 : (k : Int) < 255 + n % 3 := by omega
      go_wp2_with fail
      refine (M3.out _).mono ?_; rintro e w' ⟨rfl, rfl⟩
      go_upto_region 7 with fail
      have hb : w.heap.size ≤ wr.heap.size := HOL.out.size
      have hk6 : (fullL (tm % 1000) k).length ≤ 68719476735 := by rw [fullL_len]; omega
      go_wp2_with (at_builtin; refine wpList_push (wr := wr) rfl _ _ 59 rfl _ 66 (.agg #[.int .i64 0, .int .i64 0, .int .u64 0]) 3 24 Try.underlying59 info_to rfl (by decide) (by decide) _ _ _ rfl HO.out 1 1 [.int .i64 1, .int .i64 k, .int .u64 (tm % 1000)] rfl rfl rfl rfl ?pn1 hb ?_)
      case pn1 => omega
      intro v' w5 ho5 hg5 hd5
      have HF : Hid (FullRel w (tm % 1000) K v' (.int .i64 ((k : Int) + 1)) w5) :=
        ⟨k + 1, rfl, hlt, by rw [fullL_snoc, opv_app, List.length_append]; exact ho5, Own.grown_old HOL.out HO.out (Nat.le_refl _) hg5⟩
      clear ho5 hg5 hd5
      go_wp2_with fail
      go_roundw
      case rel => exact HF.out
      case measure => simp [intOf]; omega
    · have hlt2 : ¬ (k : Int) < 255 + n % 3 := by omega
      obtain rfl : k = K := by omega
      have hb : w.heap.size ≤ wr.heap.size := HOL.out.size
      go_wp2_with fail
      refine (M3.out _).mono ?_; rintro e w' ⟨rfl, rfl⟩
      go_upto_region 8 with fail
      go_wp2_with fail
      refine (M6.out _).mono ?_; rintro e w' ⟨rfl, rfl⟩
      have hk6 : (fullL (tm % 1000) k).length ≤ 257 := by rw [fullL_len]; omega
      go_wp2_with (at_builtin; refine wpList_push (wr := wr) rfl _ _ 59 rfl _ 66 (.agg #[.int .i64 0, .int .i64 0, .int .u64 0]) 3 24 Try.underlying59 info_to rfl (by decide) (by decide) _ _ _ rfl HO.out 3 3 (opv (tailL (n % 600) (tm % 1000))) rfl rfl rfl rfl ?pq hb ?_)
      case pq => omega
      intro v' w5 ho5 hg5 hd5
      have hok : ∀ o ∈ fullL (tm % 1000) k ++ tailL (n % 600) (tm % 1000), o.ok := by
        intro o ho
        rcases List.mem_append.1 ho with h | h
        · exact fullL_ok (by omega) (by omega) o h
        · have : o = ⟨1, n % 600, tm % 1000⟩ ∨ o = ⟨4, 0, 0⟩ ∨ o = ⟨3, 0, 1048576⟩ := by simpa [tailL] using h
          rcases this with rfl | rfl | rfl <;> (unfold TOp.ok; simp only; omega)
      rw [← opv_app] at ho5
      have hlen : (fullL (tm % 1000) k ++ tailL (n % 600) (tm % 1000)).length = (fullL (tm % 1000) k).length + 3 := by simp [tailL]
      rw [← hlen] at ho5
      have hxl : (fullL (tm % 1000) k ++ tailL (n % 600) (tm % 1000)).length ≤ 300 := by omega
      have OL5 := Lib.hid (Own.grown_old HOL.out HO.out (Nat.le_refl _) hg5)
      clear hlen hg5 hd5
      generalize fullL (tm % 1000) k ++ tailL (n % 600) (tm % 1000) = x at *
      obtain ⟨Ax, cx, rfl, htx, _⟩ := ho5.shape
      have hP := Lib.hid (playQ Ax cx x w5 htx hok (by omega))
      have hQ := Lib.hid (fun W h => playR Ax cx x W (htx.up h) hok (by omega))
      have hE := (same_run _ x rfl hok).2.2
      have HE := Lib.hid hE
      clear htx hok ho5 hE
      go_wp2_with fail
      refine hP.out.mono ?_
      rintro e w6 ⟨v, cells, rfl, ho6, hr6, hd6⟩
      have hQ6 := Lib.hid (hQ.out w6 hd6)
      obtain ⟨A6, c6, rfl, ht6, _⟩ := ho6.shape
      go_wp2_with fail
      refine hQ6.out.mono ?_
      rintro e w7 ⟨v7, cells7, rfl, ho7, hr7, hd7⟩
      obtain ⟨A7, c7, rfl, ht7, _⟩ := ho7.shape
      have hl1 : (runM x).2.length ≤ maxLen := by rw [runM_len]; unfold maxLen; omega
      have hSm := sameReps A6 A7 c6 c7 (runM x).2 (runR x).2 cells cells7 w7 (ht6.up hd7).rs ht7.rs (hr6.repS.up (fun p u h => hd7.cell h)) hr7.repS hl1 (by rw [← HE.out]; exact hl1)
      rw [show decide ((runM x).2 = (runR x).2) = true by simpa using HE.out] at hSm
      have HSm := Lib.hid hSm
      have HF := Lib.hid ((OL5.out.up hd6).up hd7)
      clear hSm ho6 hr6 hd6 ht6 ho7 hr7 hd7 ht7
      go_wp2_with fail
      refine HSm.out.mono ?_
      rintro e w8 ⟨rfl, n8, rfl⟩
      go_wp2_with fail
      go_ret
      exact ⟨rfl, HF.out.drewN n8⟩
end Go.Proofs.Ytlpaemlgmmmbmaa
