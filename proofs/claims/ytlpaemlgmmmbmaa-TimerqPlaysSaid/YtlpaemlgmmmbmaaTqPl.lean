/-
  The walk of TimerqPlays.
-/
import Derived.Test.YtlpaemlgmmmbmaaTqFu
import Derived.Test.YtlpaemlgmmmbmaaWordsG
namespace Go.Proofs.Ytlpaemlgmmmbmaa
open Go.RowKit Go.Maps
set_option linter.unusedVariables false

set_option maxHeartbeats 1000000 in
set_option maxRecDepth 100000 in
theorem plays_ (A A2 : Option Addr) (c c2 : Nat) (l : List Int) (raw : List TOp) (w : World) (hr : Rs w A (ints l)) (hm : l.length ≤ maxLen) (hr2 : Rs w A2 (opv raw)) (hok2 : ∀ o ∈ raw, o.ok) (hm2 : raw.length ≤ maxLen) :
    Calls Try.prog 8 #[.slice A l.length c, .slice A2 raw.length c2] w (BoolOld true w) := by
  have hS := Lib.hid (saneQ w)
  have HR := Lib.hid hr
  have HR2 := Lib.hid hr2
  have HOK2 := Lib.hid hok2
  clear hr hr2 hok2
  unfold maxLen at hm2
  by_cases hlt : raw.length ≤ 300
  · have hlt2 : ¬ (300 : Int) < raw.length := by omega
    go_enter Try.func8, Try.ntmps8
    go_wp2_with fail
    refine hS.out.mono ?_
    rintro e w1 ⟨rfl, o1⟩
    have hM := madeQ A c l w1 (HR.out.up o1) hm
    have hX := madeM_ok 120 l
    have hXl := madeM_len 120 l
    generalize madeM 120 l = x at *
    have HM := Lib.hid hM
    have HX := Lib.hid (fun o h => (hX o h).ok)
    clear hM hX
    have O1 := Lib.hid o1
    clear o1 hS
    go_wp2_with fail
    refine HM.out.mono ?_
    rintro e w2 ⟨vx, rfl, hox, o2⟩
    obtain ⟨Ax, cx, rfl, htx, hcx, _⟩ := hox.shape
    have HTX := Lib.hid htx
    have O2 := Lib.hid (O1.out.up o2)
    clear hox o2 htx
    go_upto_region 6 with fail
    go_wp2_with fail
    refine (playQr Ax cx x w2 HTX.out.rs HX.out (by omega)).mono ?_
    rintro e wa ⟨va, ca, rfl, hoa, hra, hda⟩
    obtain ⟨Aa, sa, rfl, hta, _⟩ := hoa.shape
    go_wp2_with fail
    refine (playRr Ax cx x wa (HTX.out.rs.up hda) HX.out (by omega)).mono ?_
    rintro e wb ⟨vb, cb, rfl, hob, hrb, hdb⟩
    obtain ⟨Ab, sb, rfl, htb, _⟩ := hob.shape
    have hSm := sameReps Aa Ab sa sb (runM x).2 (runR x).2 ca cb wb (hta.up hdb).rs htb.rs (hra.repS.up (fun p u h => hdb.cell h)) hrb.repS (by rw [runM_len]; unfold maxLen; omega) (by rw [← (same_run _ x rfl HX.out).2.2, runM_len]; unfold maxLen; omega)
    rw [show decide ((runM x).2 = (runR x).2) = true by simpa using (same_run _ x rfl HX.out).2.2] at hSm
    have HSm := Lib.hid hSm
    have ON3 := Lib.hid (hda.up hdb)
    clear hSm hoa hra hda hta hob hrb hdb htb
    go_wp2_with fail
    refine HSm.out.mono ?_
    rintro e wc ⟨rfl, n', rfl⟩
    replace ON3 := Lib.hid (ON3.out.drewN n')
    clear HSm
    generalize wb.drewN n' = w3 at *
    have O3 := Lib.hid (O2.out.up ON3.out)
    go_wp2_with fail
    refine (playQr A2 c2 raw w3 (HR2.out.up O3.out) HOK2.out (by omega)).mono ?_
    rintro e wa ⟨va, ca, rfl, hoa, hra, hda⟩
    obtain ⟨Aa, sa, rfl, hta, _⟩ := hoa.shape
    go_wp2_with fail
    refine (playRr A2 c2 raw wa (HR2.out.up (O3.out.up hda)) HOK2.out (by omega)).mono ?_
    rintro e wb ⟨vb, cb, rfl, hob, hrb, hdb⟩
    obtain ⟨Ab, sb, rfl, htb, _⟩ := hob.shape
    have hSm := sameReps Aa Ab sa sb (runM raw).2 (runR raw).2 ca cb wb (hta.up hdb).rs htb.rs (hra.repS.up (fun p u h => hdb.cell h)) hrb.repS (by rw [runM_len]; unfold maxLen; omega) (by rw [← (same_run _ raw rfl HOK2.out).2.2, runM_len]; unfold maxLen; omega)
    rw [show decide ((runM raw).2 = (runR raw).2) = true by simpa using (same_run _ raw rfl HOK2.out).2.2] at hSm
    have HSm := Lib.hid hSm
    have ON4 := Lib.hid (hda.up hdb)
    clear hSm hoa hra hda hta hob hrb hdb htb
    go_wp2_with fail
    refine HSm.out.mono ?_
    rintro e wc ⟨rfl, n', rfl⟩
    replace ON4 := Lib.hid (ON4.out.drewN n')
    clear HSm
    generalize wb.drewN n' = w4 at *
    have O4 := Lib.hid (O3.out.up ON4.out)
    have HX4 := Lib.hid (HTX.out.rs.up (ON3.out.up ON4.out))
    have HR4 := Lib.hid (HR2.out.up O4.out)
    clear O3 ON3 ON4
    obtain ⟨y, hy⟩ : ∃ y, x ++ raw = y := ⟨_, rfl⟩
    have HY := Lib.hid hy
    clear hy
    go_wp2_with (at_builtin; refine wpList_pushAllG (by rfl) _ _ 59 rfl _ 66 (.agg #[.int .i64 0, .int .i64 0, .int .u64 0]) 3 24 Try.underlying59 info_to rfl (by decide) (by decide) _ _ _ (by rfl) (own_new w4 #[] 0 3 66 (by decide) rfl) _ _ _ _ (by rfl) (HX4.out.alloc _) (opv_length _) (opv_one _) ?pn1 (by simp) ?_)
    case pn1 => omega
    intro v8 w5 ho5 hg5 hd5
    have HO5 := Lib.hid (show Own w5 w4.heap.size 66 3 v8 x.length (opv x) by simpa using ho5)
    have HD5 := Lib.hid (hd5 w4 ((Old.refl w4).alloc _) (Nat.le_refl _))
    clear ho5 hg5 hd5
    go_wp2_with (at_builtin; refine wpList_pushAllG (by rfl) _ _ 59 rfl _ 66 (.agg #[.int .i64 0, .int .i64 0, .int .u64 0]) 3 24 Try.underlying59 info_to rfl (by decide) (by decide) _ _ _ (by rfl) HO5.out _ _ _ _ (by rfl) (HR4.out.up HD5.out) (opv_length _) (opv_one _) ?pn2 HD5.out.size ?_)
    case pn2 => omega
    intro v9 w6 ho6 hg6 hd6
    have HD6 := Lib.hid (hd6 w4 HD5.out (Nat.le_refl _))
    rw [← opv_app, ← List.length_append, HY.out] at ho6
    have HOKy : Hid (∀ o ∈ y, o.ok) := Lib.hid (by rw [← HY.out]; exact fun o (ho : o ∈ x ++ raw) => (List.mem_append.1 ho).elim (HX.out o) (HOK2.out o))
    have hly : y.length ≤ 420 := by rw [← HY.out, List.length_append]; omega
    obtain ⟨Ay, cy, rfl, hty, _⟩ := ho6.shape
    have HTY := Lib.hid hty
    clear hg6 hd6 ho6 hty HO5
    go_wp2_with fail
    refine (playQr Ay cy y w6 HTY.out.rs HOKy.out (by omega)).mono ?_
    rintro e wa ⟨va, ca, rfl, hoa, hra, hda⟩
    obtain ⟨Aa, sa, rfl, hta, _⟩ := hoa.shape
    have HDA := Lib.hid hda
    have HX5 := Lib.hid (HX4.out.up (HD6.out.up hda))
    have HR5 := Lib.hid (HR4.out.up (HD6.out.up hda))
    go_wp2_with (at_builtin; refine wpList_pushAllG (by rfl) _ _ 59 rfl _ 66 (.agg #[.int .i64 0, .int .i64 0, .int .u64 0]) 3 24 Try.underlying59 info_to rfl (by decide) (by decide) _ _ _ (by rfl) (own_new wa #[] 0 3 66 (by decide) rfl) _ _ _ _ (by rfl) (HX5.out.alloc _) (opv_length _) (opv_one _) ?pn3 (by simp) ?_)
    case pn3 => omega
    intro v10 w7 ho7 hg7 hd7
    have HO7 := Lib.hid (show Own w7 wa.heap.size 66 3 v10 x.length (opv x) by simpa using ho7)
    have HD7 := Lib.hid (hd7 wa ((Old.refl wa).alloc _) (Nat.le_refl _))
    clear ho7 hg7 hd7
    go_wp2_with (at_builtin; refine wpList_pushAllG (by rfl) _ _ 59 rfl _ 66 (.agg #[.int .i64 0, .int .i64 0, .int .u64 0]) 3 24 Try.underlying59 info_to rfl (by decide) (by decide) _ _ _ (by rfl) HO7.out _ _ _ _ (by rfl) (HR5.out.up HD7.out) (opv_length _) (opv_one _) ?pn4 HD7.out.size ?_)
    case pn4 => omega
    intro v11 w8 ho8 hg8 hd8
    have HD8 := Lib.hid (hd8 wa HD7.out (Nat.le_refl _))
    rw [← opv_app, ← List.length_append, HY.out] at ho8
    obtain ⟨Az, cz, rfl, htz, _⟩ := ho8.shape
    have HTZ := Lib.hid htz
    clear hg8 hd8 ho8 htz HO7 HX5 HR5
    go_wp2_with fail
    refine (playRr Az cz y w8 HTZ.out.rs HOKy.out (by omega)).mono ?_
    rintro e wb ⟨vb, cb, rfl, hob, hrb, hdb⟩
    obtain ⟨Ab, sb, rfl, htb, _⟩ := hob.shape
    have hSm := sameReps Aa Ab sa sb (runM y).2 (runR y).2 ca cb wb (hta.up (HD8.out.up hdb)).rs htb.rs (hra.repS.up (fun p u h => (HD8.out.up hdb).cell h)) hrb.repS (by rw [runM_len]; unfold maxLen; omega) (by rw [← (same_run _ y rfl HOKy.out).2.2, runM_len]; unfold maxLen; omega)
    rw [show decide ((runM y).2 = (runR y).2) = true by simpa using (same_run _ y rfl HOKy.out).2.2] at hSm
    have HSm := Lib.hid hSm
    have ON9 := Lib.hid (hda.up (HD8.out.up hdb))
    clear hSm hoa hra hda hta hob hrb hdb htb
    go_wp2_with fail
    refine HSm.out.mono ?_
    rintro e wc ⟨rfl, n', rfl⟩
    replace ON9 := Lib.hid (ON9.out.drewN n')
    clear HSm
    generalize wb.drewN n' = w9 at *
    have O9 := Lib.hid ((O4.out.up HD6.out).up ON9.out)
    go_wp2_with fail
    go_ret
    exact ⟨rfl, O9.out⟩
  · have hlt2 : (300 : Int) < raw.length := by omega
    go_enter Try.func8, Try.ntmps8
    go_wp2_with fail
    refine hS.out.mono ?_
    rintro e w1 ⟨rfl, o1⟩
    go_wp2_with fail
    go_ret
    exact ⟨rfl, o1⟩
end Go.Proofs.Ytlpaemlgmmmbmaa
