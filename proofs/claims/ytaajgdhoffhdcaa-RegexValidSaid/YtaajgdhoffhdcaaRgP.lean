/-
  The walk of the statement RegexSmall.
-/
import Derived.Test.YtaajgdhoffhdcaaRgO
import Derived.Test.YtaajgdhoffhdcaaVlW
namespace Go.Proofs.Ytaajgdhoffhdcaa
open Go.RowKit
set_option linter.unusedVariables false

theorem kidsN_bd (k : Int) : 0 ≤ kidsN k ∧ kidsN k ≤ 2 := by unfold kidsN; split <;> (try split) <;> omega
theorem kidSum_bd (l : List Nd) : ∀ k : Nat, 0 ≤ kidSum l k ∧ kidSum l k ≤ 2 * (k : Int)
  | 0 => ⟨Int.le_refl _, by rw [kidSum]; omega⟩
  | k + 1 => by
    have := kidSum_bd l k
    have := kidsN_bd (nd l k).kind
    rw [kidSum]
    omega
theorem bs_lt_all (s : ByteArray) : ∀ x ∈ bs s, x < 256 := by
  intro x hx
  unfold bs at hx
  obtain ⟨y, _, rfl⟩ := List.mem_map.mp hx
  exact y.toNat_lt
theorem parse_rs (s : ByteArray) (w : World) : Calls Try.prog 26 #[.string s] w (ParsePost w (parseR (bs s))) :=
  parseG (6 * (bs s).length + 6) s (parseR (bs s)) w (parseR_eq _)
def SmRel (w2 : World) (v : Value) (wr : World) : Prop := ∃ k : Nat, v = .int .i64 k ∧ k ≤ 2 ∧ Hid (Old w2 wr)
def KdRel (w5 : World) (n : List Nd) (v9 v : Value) (wr : World) : Prop := ∃ k : Nat, v = .int .i64 k ∧ k ≤ n.length ∧ v9 = .int .i64 (kidSum n k) ∧ Hid (Old w5 wr)
set_option maxHeartbeats 8000000 in
set_option maxRecDepth 100000 in
theorem small_any (A : Option Addr) (c : Nat) (l : List Int) (raw : ByteArray) (w : World) (hr : Rs w A (ints l)) (hm : l.length ≤ maxLen) (hraw : raw.size ≤ maxLen) :
    Calls Try.prog 14 #[.slice A l.length c, .string raw] w (ValOld (.bool true) w) := by
  have HR := Lib.hid hr
  have HS := Lib.hid (sane8C w)
  unfold maxLen at hraw
  clear hr
  by_cases h140 : 140 < raw.size
  · have i1 : (140 : Int) < (raw.size : Int) := by omega
    clear h140
    go_enter Try.func14, Try.ntmps14
    go_wp2_with fail
    refine (HS.out).mono ?_; rintro e w1 ⟨rfl, hd1⟩
    go_wp2_with fail
    go_ret
    exact ⟨rfl, hd1⟩
  have i1 : ¬ (140 : Int) < (raw.size : Int) := by omega
  have HT := Lib.hid (fun w1 h => textC A c l w1 h hm)
  have HTL : Hid ((strOf (textM l)).size ≤ 140) := Lib.hid (by
    have := textF_len 40 l
    have h2 := bs_length (strOf (textM l))
    rw [bs_strOf (textM l) (textF_lt 40 l)] at h2
    have h3 : (textM l).length ≤ 40 := this
    omega)
  have HRL : Hid (raw.size ≤ 140) := Lib.hid (by omega)
  generalize strOf (textM l) = s1 at *
  go_enter Try.func14, Try.ntmps14
  go_wp2_with fail
  refine (HS.out).mono ?_; rintro e w1 ⟨rfl, hd1⟩
  have HD1 := Lib.hid hd1
  have HT1 := Lib.hid (HT.out w1 (HR.out.up hd1))
  clear hd1 HS HT
  go_wp2_with fail
  refine (HT1.out).mono ?_; rintro e w2 ⟨rfl, hd2⟩
  have HD2 := Lib.hid (HD1.out.up hd2)
  clear hd2 HD1 HT1
  have hb := heap_alloc_new w2 (.cells #[.string s1, .string raw] 9)
  have HD3 := Lib.hid (HD2.out.alloc (.cells #[.string s1, .string raw] 9))
  go_upto_region 6 with fail
  generalize w2.alloc (.cells #[.string s1, .string raw] 9) = W3 at *
  have HB := Lib.hid hb
  clear hb HD2
  generalize w2.heap.size = kb at *
  go_wp2_with fail
  go_loopw [22] (fun s22 wr => SmRel W3 s22 wr) (fun s22 _ => 2 - (intOf s22).toNat)
  case atStart => exact ⟨0, rfl, by omega, Lib.hid (Old.refl _)⟩
  case round =>
    obtain ⟨i, rfl, hi, HO⟩ := hrel
    by_cases hi2 : i < 2
    · obtain ⟨x, hx, hxl⟩ : ∃ x : ByteArray, wr.cell? ⟨kb, i, none⟩ = some (.string x) ∧ Hid (x.size ≤ 140) := by
        have hb := HO.out.block HB.out
        have h2 : i = 0 ∨ i = 1 := by omega
        rcases h2 with rfl | rfl
        · exact ⟨s1, by rw [cell_of_row wr kb 0 _ _ _ hb]; rfl, HTL⟩
        · exact ⟨raw, by rw [cell_of_row wr kb 1 _ _ _ hb]; rfl, HRL⟩
      have i3 : (0 : Int) ≤ (i : Int) := by omega
      have i4 : (i : Int) < 2 := by omega
      have HP := Lib.hid (parse_rs x wr)
      have hpe := parseR_eq (bs x)
      have hso := parseR_sets (bs_lt_all x)
      generalize parseR (bs x) = r at *
      obtain ⟨n, e⟩ := r
      by_cases he : e = 0
      · subst he
        obtain ⟨p1, p2, p3⟩ := parse_tr hpe
        rw [bs_length] at p3
        have HTR := Lib.hid p1
        have HSO : Hid (∀ x ∈ n, setOk x.set) := Lib.hid hso
        clear hpe hso p1
        go_wp2_with fail
        refine (HP.out).mono ?_; rintro e w5 ⟨v5, rfl, ho5, hd5⟩
        obtain ⟨An, cn, rfl, ht5, _, _⟩ := ho5.shape
        have HRN := Lib.hid ht5.rs
        have HO5 := Lib.hid (HO.out.up hd5)
        clear ho5 ht5 hd5 HP HO hx
        go_wp2_with fail
        go_loopw [9, 38] (fun s9 s38 wr => KdRel w5 n s9 s38 wr) (fun _ s38 _ => n.length - (intOf s38).toNat)
        case atStart => exact ⟨0, rfl, Nat.zero_le _, rfl, Lib.hid (Old.refl _)⟩
        case round =>
          obtain ⟨k, rfl, hk, rfl, HD⟩ := hrel
          have hkb := kidSum_bd n k
          by_cases hkl : k < n.length
          · have hks : kidSum n (k + 1) = kidSum n k + kidsN (nd n k).kind := rfl
            have hx : n[k]? = some (nd n k) := by unfold nd; rw [List.getD_eq_getElem?_getD, List.getElem?_eq_getElem hkl]; rfl
            have hg := ndsV_get n k _ hx
            obtain ⟨b, off, rfl, hbl, hcl⟩ := (HRN.out.up HD.out).at_ (by rw [ndsV_length]; omega)
            have c0 := hcl _ _ (hg 0 (by omega))
            have c1 := hcl _ _ (hg 1 (by omega))
            have c2 := hcl _ _ (hg 2 (by omega))
            have c3 := hcl _ _ (hg 3 (by omega))
            have c4 := hcl _ _ (hg 4 (by omega))
            have c5 := hcl _ _ (hg 5 (by omega))
            have c6 := hcl _ _ (hg 6 (by omega))
            rw [← Nat.add_assoc] at c0 c1 c2 c3 c4 c5 c6
            rw [Nat.add_zero] at c0
            clear hx hg hcl
            generalize hnd : nd n k = nx at *
            obtain ⟨kd, lf, rt, st⟩ := nx
            replace c0 : wr.cell? ⟨b, off + k * 7, none⟩ = some (.int .i64 kd) := c0
            replace c1 : wr.cell? ⟨b, off + k * 7 + 1, none⟩ = some (.int .i64 lf) := c1
            replace c2 : wr.cell? ⟨b, off + k * 7 + 2, none⟩ = some (.int .i64 rt) := c2
            replace c3 : wr.cell? ⟨b, off + k * 7 + 3, none⟩ = some (.int .u64 (setW st 0)) := c3
            replace c4 : wr.cell? ⟨b, off + k * 7 + 4, none⟩ = some (.int .u64 (setW st 1)) := c4
            replace c5 : wr.cell? ⟨b, off + k * 7 + 5, none⟩ = some (.int .u64 (setW st 2)) := c5
            replace c6 : wr.cell? ⟨b, off + k * 7 + 6, none⟩ = some (.int .u64 (setW st 3)) := c6
            have HKS := Lib.hid hks
            have i5 : (0 : Int) ≤ (k : Int) := by omega
            have i6 : (k : Int) < (n.length : Int) := by omega
            have HKC := Lib.hid (kidsC kd)
            have hkn := kidsN_bd kd
            clear hks hnd
            go_upto_region 16 with fail
            have hb5 := heap_alloc_new wr (.cells #[.int .i64 kd, .int .i64 lf, .int .i64 rt, .int .u64 (setW st 0), .int .u64 (setW st 1), .int .u64 (setW st 2), .int .u64 (setW st 3)] 48)
            have HDW := Lib.hid (HD.out.alloc (.cells #[.int .i64 kd, .int .i64 lf, .int .i64 rt, .int .u64 (setW st 0), .int .u64 (setW st 1), .int .u64 (setW st 2), .int .u64 (setW st 3)] 48))
            generalize wr.alloc (.cells #[.int .i64 kd, .int .i64 lf, .int .i64 rt, .int .u64 (setW st 0), .int .u64 (setW st 1), .int .u64 (setW st 2), .int .u64 (setW st 3)] 48) = W7 at *
            have d0 : W7.cell? ⟨wr.heap.size, 0, none⟩ = some (.int .i64 kd) := by rw [cell_of_row W7 _ 0 _ _ _ hb5]; rfl
            clear c0 c1 c2 c3 c4 c5 c6 hb5
            generalize kidsN kd = kk at *
            generalize kidSum n k = ks at *
            obtain ⟨u1, u2⟩ := hkb
            obtain ⟨u3, u4⟩ := hkn
            go_wp2_with fail
            refine (HKC.out _).mono ?_; rintro e W8 ⟨rfl, rfl⟩
            go_wp2_with fail
            go_roundw
            case rel => exact ⟨k + 1, by go_num, by omega, by rw [HKS.out], HDW⟩
            case measure => simp [intOf]; omega
          · obtain rfl : k = n.length := by omega
            have hsum := HTR.out.sum
            rw [hsum]
            have e1 : (((n.length : Int) - 1) != (n.length : Int) - 1) = false := by simp
            have e2 : ¬ (2 * (x.size : Int) + 1 < (n.length : Int)) := by omega
            have hvl := HTR.out.valid p2
            have hVC := validC An cn n wr (HRN.out.up HD.out) (by unfold maxLen; omega) HSO.out
            rw [hvl] at hVC
            have HVC := Lib.hid hVC
            have hx1 : (x.size : Int) ≤ 140 := by have := hxl.out; omega
            have hx0 : (0 : Int) ≤ (x.size : Int) := by omega
            have HDo := Lib.hid (HO5.out.up HD.out)
            clear hkb hsum hvl hVC HRN HD HTR HSO
            go_wp2_with fail
            refine (HVC.out).mono ?_; rintro e W9 ⟨rfl, hd9⟩
            have HD9 := Lib.hid (HDo.out.up hd9)
            clear hd9
            go_wp2_with fail
            go_roundw
            case rel => exact ⟨i + 1, by go_num, by omega, HD9⟩
            case measure => simp [intOf]; omega
      · have hn := parseF_err hpe he
        subst hn
        have hne : (e != 0) = true := by simpa using he
        clear hpe hso he
        go_wp2_with fail
        refine (HP.out).mono ?_; rintro e w5 ⟨v5, rfl, ho5, hd5⟩
        obtain ⟨An, cn, rfl, ht5, _, _⟩ := ho5.shape
        have HO5 := Lib.hid (HO.out.up hd5)
        clear ho5 ht5 hd5 HP HO hx
        go_wp2_with fail
        go_roundw
        case rel => exact ⟨i + 1, by go_num, by omega, HO5⟩
        case measure => simp [intOf]; omega
    · have i4 : ¬ (i : Int) < 2 := by omega
      go_wp2_with fail
      go_ret
      exact ⟨rfl, HD3.out.up HO.out⟩
end Go.Proofs.Ytaajgdhoffhdcaa
