/-
  The walks of the laws FrameLimits and FrameSplits.
-/
import Derived.Test.YtlpaemlgmmmbmaaFrameS
namespace Go.Proofs.Ytlpaemlgmmmbmaa
open Go.RowKit
set_option linter.unusedVariables false

theorem zeros_bytes (n : Nat) : (madeCells #[Value.int .u8 0] n).toList = bytes (List.replicate n 0) := by
  rw [toList_madeCells_one]
  simp [bytes]

set_option maxRecDepth 100000 in
set_option maxHeartbeats 2000000 in
theorem flimits_any (n : Int) (w : World) :
    Calls Try.prog 4 #[.int .i64 n] w fun e w' => e = .returned (.bool true) ∧ Old w w' := by
  have hbd0 := Int.emod_nonneg n (show (3 : Int) ≠ 0 by decide)
  have hbd1 := Int.emod_lt_of_pos n (show (0 : Int) < 3 by decide)
  have hMod := fun W => mod_any n 3 (by decide) (by decide) W
  have HMOD := Lib.hid hMod
  obtain ⟨M, hM⟩ := Int.eq_ofNat_of_zero_le hbd0
  rw [hM] at HMOD hbd0 hbd1
  clear hM hMod
  obtain ⟨L, hL⟩ : ∃ L : Nat, L = 4095 + M := ⟨_, rfl⟩
  have l1 : L ≤ 4095 + M := by omega
  have l2 : 4095 + M ≤ L := by omega
  clear hL
  go_enter Try.func4, Try.ntmps4
  go_wp2_with fail
  refine (fsane _).mono ?_; rintro e w1 ⟨rfl, hb⟩
  go_wp2_with fail
  refine (HMOD.out _).mono ?_; rintro e w1' ⟨rfl, rfl⟩
  go_wp2_with (at_make; refine wpList_makeN rfl _ _ 23 rfl 5 (.int .u8 0) 1 1 Try.underlying23 info_u8 (by decide) .i64 .i64 _ _ L rfl rfl ?pl2 ?pc2 ?pn2 ?_)
  case pl2 => omega
  case pc2 => omega
  case pn2 => omega
  intro w2 hown hb2
  replace hb := hb.up hb2
  have hz := zeros_bytes L
  rw [hz] at hown
  obtain ⟨b, hbdef⟩ : ∃ b : List UInt8, b = List.replicate L 0 := ⟨_, rfl⟩
  have hbl : b.length = L := by rw [hbdef]; simp
  rw [← hbdef] at hown
  obtain ⟨A2, c2, hv, hr, hc1, hc2⟩ := hown.shape
  simp only [Value.slice.injEq] at hv
  obtain ⟨rfl, _, rfl⟩ := hv
  have hbm : b.length ≤ 4097 := by omega
  have hr := hr.rs
  have hE := fun A c W h => fEncode A c b W h (by omega)
  have hE' := fun A c W h => rEncode A c b W h (by omega)
  have hel := enc_len b
  have hS := fun A c W h => fSplit A c (Fr.enc b) W h
  have hS' := fun A c W h => rSplit A c (Fr.enc b) W h
  have hfl := Fr.st_len (Fr.enc b) (Fr.enc b).length
  have hcl := enc_cells b (by omega)
  rw [hel] at hS hS'
  rw [hbl] at hE hE' hS hS' hcl
  have HE := Lib.hid hE
  have HE' := Lib.hid hE'
  have HS := Lib.hid hS
  have HS' := Lib.hid hS'
  have HCL := Lib.hid hcl
  have HBL := Lib.hid hbl
  have hfin : (Fr.fin (Fr.enc b)).1.length ≤ 5000 := by
    have : (Fr.fin (Fr.enc b)).1.length ≤ (Fr.enc b).length := hfl
    omega
  clear hown hz hbdef hb2 hc1 hc2 hE hE' hS hS' hel hfl hcl hbl
  go_wp2_with fail
  refine (HE.out _ _ _ hr).mono ?_; rintro e w3 ⟨v3, rfl, hown3, hb3⟩
  obtain ⟨A3, c3, rfl, hr3, _, _⟩ := hown3.shape
  replace hr := hr.up hb3
  replace hb := hb.up hb3
  clear hown3 hb3
  go_wp2_with fail
  refine (HE'.out _ _ _ hr).mono ?_; rintro e w4 ⟨v4, rfl, hown4, hb4⟩
  obtain ⟨A4, c4, rfl, hr4, _, _⟩ := hown4.shape
  replace hr := hr.up hb4
  replace hr3 := (hr3.up hb4).rs
  replace hr4 := hr4.rs
  replace hb := hb.up hb4
  clear hown4 hb4
  generalize encB b = E at *
  generalize ecode b = C at *
  have hown0 : Own (w4.alloc (.cells #[.int .u8 0, .int .u8 0, .int .u8 ((L : Int) / 256), .int .u8 ((L : Int) % 256)] 5)) w4.heap.size 5 1 (.slice (some ⟨w4.heap.size, 0, none⟩) 4 4) 4 [.int .u8 0, .int .u8 0, .int .u8 ((L : Int) / 256), .int .u8 ((L : Int) % 256)] := own_new w4 #[.int .u8 0, .int .u8 0, .int .u8 ((L : Int) / 256), .int .u8 ((L : Int) % 256)] 4 1 _ (by decide) rfl
  go_wp2_with (at_builtin; refine wpList_pushAll rfl _ _ 23 rfl _ 5 (.int .u8 0) 1 1 Try.underlying23 info_u8 rfl (by decide) (by decide) _ _ _ (by rfl) hown0 _ _ _ _ (by rfl) (hr.alloc _) (by rw [bytes_length, HBL.out, Nat.mul_one]) (bytes_one _) ?pn1 (by simp) ?_)
  case pn1 => omega
  intro v5 w5 hown5 hg5 hd5
  have hb5 := hd5 w4 ((Old.refl w4).alloc _) (Nat.le_refl _)
  have hx : Own w5 w4.heap.size 5 1 v5 (4 + L) (bytes (Fr.enc b)) := by rw [HCL.out]; exact hown5
  obtain ⟨A5, c5, rfl, hr5, hc5, hm5⟩ := hx.shape
  replace hr3 := hr3.up hb5
  replace hr4 := hr4.up hb5
  replace hb := hb.up hb5
  replace hr5 := hr5.rs
  clear hown0 hg5 hd5 hb5 hown5 hx hr HCL HE HE'
  go_wp2_with fail
  refine (HS.out _ _ _ hr5 hc5 hm5 (by omega)).mono ?_; rintro e w6 ⟨v6, cells6, rfl, hown6, hts6, hb6⟩
  obtain ⟨A6, c6, rfl, hr6, _, _⟩ := hown6.shape
  replace hr5 := hr5.up hb6
  replace hr3 := hr3.up hb6
  replace hr4 := hr4.up hb6
  replace hb := hb.up hb6
  clear hown6 hb6
  go_wp2_with fail
  refine (HS'.out _ _ _ hr5 hc5 hm5 (by omega)).mono ?_; rintro e w7 ⟨v7, cells7, rfl, hown7, hts7, hb7⟩
  obtain ⟨A7, c7, rfl, hr7, _, _⟩ := hown7.shape
  replace hr6 := (hr6.up hb7).rs
  replace hts6 := (hts6.up hb7).rs
  replace hr3 := hr3.up hb7
  replace hr4 := hr4.up hb7
  replace hb := hb.up hb7
  replace hr7 := hr7.rs
  replace hts7 := hts7.rs
  clear hown7 hb7 HS HS' hr5
  have k1 := run_str (P := Try.prog) w7 (src := 23) (dst := 9) A3 c3 E Try.underlying23 Try.underlying5 Try.underlying9 hr3
  have k2 := run_str (P := Try.prog) w7 (src := 23) (dst := 9) A4 c4 E Try.underlying23 Try.underlying5 Try.underlying9 hr4
  generalize Fr.code (Fr.enc b) = D at *
  generalize Fr.fin (Fr.enc b) = F at *
  obtain ⟨P, U⟩ := F
  simp only at *
  go_wp2_with fail
  refine (sameB A6 A7 c6 c7 P cells6 cells7 w7 hr6 hr7 hts6 hts7 (by omega)).mono ?_; rintro e w8 ⟨rfl, m, rfl⟩
  go_wp2_with fail
  go_ret
  exact ⟨rfl, hb.drewN m⟩
end Go.Proofs.Ytlpaemlgmmmbmaa
