/-
  The walk of the statement LangStays.
-/
import Derived.Test.YtaajgdhoffhdcaaLwC
import Derived.Test.YtaajgdhoffhdcaaLwP
import Derived.Test.YtaajgdhoffhdcaaWordsG
namespace Go.Proofs.Ytaajgdhoffhdcaa
open Go.RowKit
set_option linter.unusedVariables false

def txtOf (b : List UInt8) : List Nat := b.map UInt8.toNat
theorem txtOf_txt (b : List UInt8) : txt (txtOf b) = bytes b := by unfold txt txtOf bytes; rw [List.map_map]; rfl
theorem txtOf_lt (b : List UInt8) : ∀ x ∈ txtOf b, x < 256 := by
  intro x hx
  obtain ⟨y, _, rfl⟩ := List.mem_map.mp hx
  exact y.toNat_lt
theorem txt_one (t : List Nat) : (txt t).all Value.oneCell' = true := by simp [txt, Value.oneCell']
theorem txt_append (a b : List Nat) : txt (a ++ b) = txt a ++ txt b := by simp [txt]
set_option maxHeartbeats 8000000 in
set_option maxRecDepth 100000 in
theorem stays_any (A : Option Addr) (c : Nat) (l : List Int) (At : Option Addr) (ct : Nat) (b : List UInt8) (w : World) (hr : Rs w A (ints l)) (hm : l.length ≤ maxLen) (hrt : Rs w At (bytes b)) (hmt : b.length ≤ maxLen) :
    Calls Try.prog 4 #[.slice A l.length c, .slice At b.length ct] w (ValOld (.bool true) w) := by
  have HR := Lib.hid hr
  have HRT := Lib.hid (show Rs w At (txt (txtOf b)) by rw [txtOf_txt]; exact hrt)
  have hlb : b.length = (txtOf b).length := by simp [txtOf]
  have HLT := Lib.hid (txtOf_lt b)
  rw [hlb] at hmt ⊢
  unfold maxLen at hmt
  generalize txtOf b = u at *
  clear hr hrt hlb
  have HS := Lib.hid (saneC w)
  by_cases h10 : 10 < u.length
  · have i1 : (10 : Int) < (u.length : Int) := by omega
    clear h10
    go_enter Try.func4, Try.ntmps4
    go_wp2_with fail
    refine (HS.out).mono ?_; rintro e w1 ⟨rfl, hd1⟩
    go_wp2_with fail
    go_ret
    exact ⟨rfl, hd1⟩
  have i1 : ¬ (10 : Int) < (u.length : Int) := by omega
  go_enter Try.func4, Try.ntmps4
  go_wp2_with fail
  refine (HS.out).mono ?_; rintro e w1 ⟨rfl, hd1⟩
  have HD1 := Lib.hid hd1
  have HP := Lib.hid (patternC A c l w1 (HR.out.up hd1) hm)
  clear hd1 HS
  go_wp2_with fail
  refine (HP.out).mono ?_; rintro e w2 ⟨An, cn, At2, ct2, rfl, hrn, hrt2, hct, hctm, hd2⟩
  have HRN := Lib.hid hrn
  have HRT2 := Lib.hid hrt2
  have HD2 := Lib.hid (HD1.out.up hd2)
  have HOK := Lib.hid (pnodesM_ok l)
  obtain ⟨h8, hl9⟩ := ptxtM_ok l
  have H8 := Lib.hid h8
  have HCT := Lib.hid (And.intro hct hctm)
  have HN := Lib.hid hl9
  clear hrn hrt2 hd2 HD1 HP h8 hct hctm
  generalize pnodesM l = n at *
  generalize (ptxtM l).1 = t at *
  have HF := Lib.hid (firstC An cn n At2 ct2 t w2 HRN.out HRT2.out (by have := HOK.out.2; unfold maxLen; omega) (by omega) H8.out HOK.out.1)
  have hbd := firstM_bd n t
  have HFA := Lib.hid (first_app n t u)
  have HFT := Lib.hid (first_take n t)
  generalize firstM n t = k at *
  obtain ⟨k0, k1⟩ := hbd
  have i2 : ¬ (t.length : Int) < k := by omega
  have i3 : ¬ k < -1 := by omega
  by_cases hk : k < 0
  · go_wp2_with fail
    refine (HF.out).mono ?_; rintro e w3 ⟨rfl, hd3⟩
    have HD3 := Lib.hid (HD2.out.up hd3)
    clear hd3
    go_wp2_with fail
    go_ret
    exact ⟨rfl, HD3.out⟩
  obtain ⟨k, rfl⟩ := Int.eq_ofNat_of_zero_le (show 0 ≤ k by omega)
  have HA := Lib.hid (HFA.out k rfl)
  have HT := Lib.hid (HFT.out k rfl)
  clear HFA HFT
  go_wp2_with fail
  refine (HF.out).mono ?_; rintro e w3 ⟨rfl, hd3⟩
  have HD3 := Lib.hid (HD2.out.up hd3)
  have HRN3 := Lib.hid (HRN.out.up hd3)
  have HRT3 := Lib.hid (HRT2.out.up hd3)
  clear hd3 HF HRN HRT2
  have HRU3 := Lib.hid (HRT.out.up HD3.out)
  have hown0 : Own (w3.alloc (.cells #[] 5)) w3.heap.size 5 1 (.slice (some ⟨w3.heap.size, 0, none⟩) 0 0) 0 [] := own_new w3 #[] 0 1 _ (by decide) rfl
  go_wp2_with (at_builtin; refine wpList_pushAllG (by rfl) _ _ 24 rfl _ 5 (.int .u8 0) 1 1 Try.underlying24 info_c8 rfl (by decide) (by decide) _ _ _ (by rfl) hown0 _ _ _ _ (by rfl) (HRT3.out.alloc _) (by rw [txt_length, Nat.mul_one]) (txt_one _) ?pn1 (by simp) ?_)
  case pn1 => omega
  intro v4 w4 ho4 hg4 hd4
  have hb4 := hd4 w3 ((Old.refl w3).alloc _) (Nat.le_refl _)
  clear hown0 hg4 hd4
  go_wp2_with (at_builtin; refine wpList_pushAllG (by rfl) _ _ 24 rfl _ 5 (.int .u8 0) 1 1 Try.underlying24 info_c8 rfl (by decide) (by decide) _ _ _ (by rfl) ho4 _ _ _ _ (by rfl) (HRU3.out.up hb4) (by rw [txt_length, Nat.mul_one]) (txt_one _) ?pn2 hb4.size ?_)
  case pn2 => omega
  intro v5 w5 ho5 hg5 hd5
  have hb5 := hd5 w3 hb4 (Nat.le_refl _)
  clear ho4 hg5 hd5
  rw [← txt_append] at ho5
  obtain ⟨A5, c5, rfl, ht5, _, _⟩ := ho5.shape
  have HF2 := Lib.hid (firstC An cn n A5 c5 (t ++ u) w5 (HRN3.out.up hb5) ht5.rs (by have := HOK.out.2; unfold maxLen; omega) (by rw [List.length_append]; omega) (fun x hx => (List.mem_append.mp hx).elim (H8.out x) (HLT.out x)) HOK.out.1)
  rw [HA.out, List.length_append] at HF2
  have HB5 := Lib.hid hb5
  clear ho5 ht5 hb5
  have hkt : k ≤ t.length := by omega
  have hsl := fun W => run_slice_to (P := Try.prog) (t := 24) (by kernel_rfl) (fun _ => rfl) At2 t.length ct2 k (k : Int) rfl (by have := HCT.out.1; omega) W
  go_wp2_with fail
  refine (HF2.out).mono ?_; rintro e w6 ⟨rfl, hd6⟩
  have HD6 := Lib.hid (HB5.out.up hd6)
  have htk : (t.take k).length = k := by rw [List.length_take]; omega
  have hrk : Rs w6 At2 (txt (t.take k)) := by
    have := (HRT3.out.up HD6.out).take k
    rwa [show (txt t).take k = txt (t.take k) by simp [txt, List.map_take]] at this
  have hF3 := firstC An cn n At2 ct2 (t.take k) w6 (HRN3.out.up HD6.out) hrk (by have := HOK.out.2; unfold maxLen; omega) (by omega) (fun x hx => H8.out x (List.mem_of_mem_take hx)) HOK.out.1
  rw [HT.out, htk] at hF3
  have HF3 := Lib.hid hF3
  clear hF3 hd6 hrk htk HF2 HB5
  go_wp2_with fail
  refine (HF3.out).mono ?_; rintro e w7 ⟨rfl, hd7⟩
  have HD7 := Lib.hid ((HD3.out.up HD6.out).up hd7)
  clear hd7
  go_wp2_with fail
  go_ret
  exact ⟨rfl, HD7.out⟩
end Go.Proofs.Ytaajgdhoffhdcaa
