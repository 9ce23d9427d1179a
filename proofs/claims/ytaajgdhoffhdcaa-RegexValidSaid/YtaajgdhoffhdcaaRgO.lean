/-
  The statements on regex: text, the sanity check.
-/
import Derived.Test.YtaajgdhoffhdcaaRgM
import Derived.Test.YtaajgdhoffhdcaaRgN
import Derived.Test.YtaajgdhoffhdcaaTxt
import Derived.Test.YtaajgdhoffhdcaaMillC
namespace Go.Proofs.Ytaajgdhoffhdcaa
open Go.RowKit
set_option linter.unusedVariables false

def tbl21 : List Nat := [97, 98, 40, 41, 124, 42, 43, 63, 46, 94, 36, 91, 93, 94, 45, 92, 100, 119, 110, 120, 40]
def textF : Nat → List Int → List Nat
  | 0, _ => []
  | f + 1, l => if l = [] then [] else tbl21.getD (nx l 21).1.toNat 0 :: textF f (nx l 21).2
def textM (l : List Int) : List Nat := textF 40 l
theorem textF_len : ∀ (f : Nat) (l : List Int), (textF f l).length ≤ f
  | 0, l => Nat.le_refl _
  | f + 1, l => by
    rw [textF]
    split
    · simp
    · have := textF_len f (nx l 21).2
      simp; omega
theorem textF_lt : ∀ (f : Nat) (l : List Int), ∀ x ∈ textF f l, x < 256
  | 0, l, x, h => by cases h
  | f + 1, l, x, h => by
    rw [textF] at h
    split at h
    · cases h
    · rcases List.mem_cons.mp h with rfl | h
      · exact getD_bd (by decide) _
      · exact textF_lt f _ x h
def sLen (v : Value) : Nat := match v with
  | .slice _ n _ => n
  | _ => 0
def TxRel (w : World) (R : List Nat) (v : Value) (wr : World) : Prop :=
  ∃ (acc : List Nat) (l : List Int) (f : Nat), acc.length + f = 40 ∧ sLen v = acc.length ∧ Hid (Dk wr w.heap.size w.heap.size l) ∧ Hid (Own wr w.heap.size 5 1 v acc.length (txt acc)) ∧ Hid (Old w wr) ∧ Hid (acc ++ textF f l = R) ∧ Hid (∀ x ∈ acc, x < 256)
set_option maxHeartbeats 8000000 in
set_option maxRecDepth 100000 in
theorem textC (A : Option Addr) (c : Nat) (l : List Int) (w : World) (hr : Rs w A (ints l)) (hm : l.length ≤ maxLen) :
    Calls Try.prog 28 #[.slice A l.length c] w (ValOld (.string (strOf (textM l))) w) := by
  obtain ⟨R, hR⟩ : ∃ R, textM l = R := ⟨_, rfl⟩
  rw [hR]
  have HR0 : Hid ([] ++ textF 40 l = R) := Lib.hid (by rw [← hR]; rfl)
  clear hR
  go_enter Try.func28, Try.ntmps28
  go_wp2_with fail
  refine (newDeck A c l w hr hm).mono ?_; rintro e w1 ⟨rfl, hd, hb⟩
  have HD0 := Lib.hid hd
  have HB0 := Lib.hid hb
  clear hr hd hb
  go_wp2_with fail
  go_loopw [4] (fun s4 wr => TxRel w R s4 wr) (fun s4 _ => 41 - sLen s4)
  case atStart => exact ⟨[], l, 40, rfl, rfl, HD0, Lib.hid (Own.nil_ _ _ _ _), HB0, HR0, Lib.hid (fun x h => by cases h)⟩
  case round =>
    clear HD0 HB0 HR0
    obtain ⟨acc, l1, f, hf, hsl, HDK, HO, HD, HE, HA8⟩ := hrel
    have HL := Lib.hid (leftDeck w.heap.size w.heap.size l1 wr HDK.out)
    by_cases hl1 : l1 = []
    · have HE2 : Hid (R = acc) := Lib.hid (by have := HE.out; rw [hl1] at this; rw [← this]; cases f <;> simp [textF])
      have hle : (!l1.isEmpty) = false := by rw [hl1]; rfl
      rw [hle] at HL
      obtain ⟨A4, c4, rfl, _, _, _⟩ := HO.out.shape
      clear hle hl1 HE
      have HE := Lib.hid HE2.out
      clear HE2
      go_wp2_with fail
      refine (HL.out).mono ?_; rintro e w5 ⟨rfl, n5, rfl⟩
      have HOD : Hid (Own (wr.drewN n5) w.heap.size 5 1 (.slice A4 acc.length c4) acc.length (txt acc)) := Lib.hid HO.out
      have HDD := Lib.hid (HD.out.drewN n5)
      generalize wr.drewN n5 = W5 at *
      clear HO HD HL HDK
      have hcv : (convert 24 9 (.slice A4 acc.length c4)).run Try.prog W5 = .ok (.string (strOf acc)) W5 := by
        obtain ⟨A', c', hv, ht4, _, _⟩ := HOD.out.shape
        injection hv with e1 e2 e3
        subst e1
        have hr5 := ht4.rs
        rw [txt_bytes acc HA8.out] at hr5
        have := run_str (P := Try.prog) W5 (src := 24) (dst := 9) (e := 5) A4 c4 (acc.map UInt8.ofNat) Try.underlying24 Try.underlying5 Try.underlying9 hr5
        rw [List.length_map] at this
        exact this
      go_wp2_with fail
      go_ret
      rw [HE.out]
      exact ⟨rfl, HDD.out⟩
    · have hle : (!l1.isEmpty) = true := by
        cases l1 with
        | nil => exact absurd rfl hl1
        | cons x y => rfl
      rw [hle] at HL
      obtain ⟨A4, c4, rfl, _, _, _⟩ := HO.out.shape
      have HLN := Lib.hid hl1
      clear hle hl1
      go_wp2_with fail
      refine (HL.out).mono ?_; rintro e w5 ⟨rfl, n5, rfl⟩
      have HOD : Hid (Own (wr.drewN n5) w.heap.size 5 1 (.slice A4 acc.length c4) acc.length (txt acc)) := Lib.hid HO.out
      have HDKD := Lib.hid (HDK.out.up ((Old.refl wr).drewN n5))
      have HDD := Lib.hid (HD.out.drewN n5)
      generalize wr.drewN n5 = W5 at *
      clear HO HD HL HDK
      by_cases h40 : acc.length < 40
      · have i40 : (acc.length : Int) < 40 := by omega
        obtain ⟨f, rfl⟩ : ∃ g, f = g + 1 := ⟨f - 1, by omega⟩
        have hN := nextDeck w.heap.size w.heap.size l1 21 W5 HDKD.out (by decide) (by decide)
        have hbd := nx_bd l1 (show (1 : Int) ≤ 21 by decide)
        have he := HE.out
        rw [show textF (f + 1) l1 = tbl21.getD (nx l1 21).1.toNat 0 :: textF f (nx l1 21).2 by rw [textF, if_neg HLN.out]] at he
        have HE2 := Lib.hid he
        have HN := Lib.hid hN
        clear he hN HE HLN
        generalize nx l1 21 = r at *
        obtain ⟨x, l2⟩ := r
        obtain ⟨b0, b1⟩ := hbd
        simp only at b0 b1 HE2
        obtain ⟨x, rfl⟩ := Int.eq_ofNat_of_zero_le b0
        have hxn : x < 21 := by omega
        have HX : Hid (∀ h : x < (⟨#[97, 98, 40, 41, 124, 42, 43, 63, 46, 94, 36, 91, 93, 94, 45, 92, 100, 119, 110, 120, 40]⟩ : ByteArray).size, ((⟨#[97, 98, 40, 41, 124, 42, 43, 63, 46, 94, 36, 91, 93, 94, 45, 92, 100, 119, 110, 120, 40]⟩ : ByteArray)[x]'h).toNat = tbl21.getD x 0) := Lib.hid (by
          have : ∀ y, y < 21 → ∀ h : y < (⟨#[97, 98, 40, 41, 124, 42, 43, 63, 46, 94, 36, 91, 93, 94, 45, 92, 100, 119, 110, 120, 40]⟩ : ByteArray).size, ((⟨#[97, 98, 40, 41, 124, 42, 43, 63, 46, 94, 36, 91, 93, 94, 45, 92, 100, 119, 110, 120, 40]⟩ : ByteArray)[y]'h).toNat = tbl21.getD y 0 := by decide
          exact this x hxn)
        rw [Int.toNat_natCast] at HE2
        go_wp2_with fail
        refine (HN.out).mono ?_; rintro e w6 ⟨rfl, hd6, hg6⟩
        have HO6 := Lib.hid (HDKD.out.own hg6 HOD.out (by decide))
        have HD6 := Lib.hid (Dk.old HDD.out hg6 (Nat.le_refl _))
        have HB6 : Hid (w.heap.size ≤ w6.heap.size) := Lib.hid HD6.out.size
        have HDK6 := Lib.hid hd6
        clear hd6 hg6 HDKD HOD HDD HN
        go_wp2_with (at_builtin; refine wpList_push (wr := w6) rfl _ _ 24 rfl _ 5 (.int .u8 0) 1 1 Try.underlying24 info_c8 rfl (by decide) (by decide) _ _ _ rfl HO6.out 1 1 [_] rfl rfl rfl rfl ?pn1 HB6.out ?_)
        case pn1 => omega
        intro v' w7 ho7 hg7 hd7
        rw [HX.out] at ho7
        have HO7 : Hid (Own w7 w.heap.size 5 1 v' (acc ++ [tbl21.getD x 0]).length (txt (acc ++ [tbl21.getD x 0]))) := Lib.hid (by rw [txt_snoc, List.length_append]; exact ho7)
        have HDK7 := Lib.hid (HDK6.out.push HO6.out (by decide) (Nat.le_refl _) hg7)
        have HD7 := Lib.hid (hd7 w HD6.out (Nat.le_refl _))
        obtain ⟨A7, c7, rfl, _, _, _⟩ := ho7.shape
        clear ho7 hg7 hd7 HO6 HD6 HB6 HDK6
        go_wp2_with fail
        go_roundw
        case rel => exact ⟨acc ++ [tbl21.getD x 0], l2, f, by rw [List.length_append, List.length_singleton]; omega, by simp [sLen], HDK7, HO7, HD7, Lib.hid (by rw [List.append_assoc]; exact HE2.out), Lib.hid (fun y hy => (List.mem_append.mp hy).elim (HA8.out y) (fun h => by simp at h; subst h; exact getD_bd (by decide) _))⟩
        case measure => simp [sLen]; omega
      · have i40 : ¬ (acc.length : Int) < 40 := by omega
        have HE2 : Hid (R = acc) := Lib.hid (by have := HE.out; rw [show f = 0 by omega] at this; rw [← this]; simp [textF])
        have hcv : (convert 24 9 (.slice A4 acc.length c4)).run Try.prog W5 = .ok (.string (strOf acc)) W5 := by
          obtain ⟨A', c', hv, ht4, _, _⟩ := HOD.out.shape
          injection hv with e1 e2 e3
          subst e1
          have hr5 := ht4.rs
          rw [txt_bytes acc HA8.out] at hr5
          have := run_str (P := Try.prog) W5 (src := 24) (dst := 9) (e := 5) A4 c4 (acc.map UInt8.ofNat) Try.underlying24 Try.underlying5 Try.underlying9 hr5
          rw [List.length_map] at this
          exact this
        clear HE HLN
        go_wp2_with fail
        go_ret
        rw [HE2.out]
        exact ⟨rfl, HDD.out⟩
theorem s81 : parseF 30 [97, 124, 98, 42] = some ([⟨2, 0, 0, 2 ^ 97⟩, ⟨2, 0, 0, 2 ^ 98⟩, ⟨5, 1, 0, 0⟩, ⟨4, 0, 2, 0⟩], 0) := by decide +kernel
theorem s82 : parseF 30 [42, 97] = some ([], 81) := by decide +kernel
theorem s83 : parseF 30 [40, 97] = some ([], 83) := by decide +kernel
theorem s84 : parseF 40 [91, 98, 45, 97, 93] = some ([], 80) := by decide +kernel
set_option maxHeartbeats 8000000 in
set_option maxRecDepth 100000 in
theorem sane8C (w : World) : Calls Try.prog 25 #[] w (ValOld (.bool true) w) := by
  have HP1 : Hid (∀ w', Calls Try.prog 26 #[.string ⟨#[97, 124, 98, 42]⟩] w' (ParsePost w' ([⟨2, 0, 0, 2 ^ 97⟩, ⟨2, 0, 0, 2 ^ 98⟩, ⟨5, 1, 0, 0⟩, ⟨4, 0, 2, 0⟩], 0))) := Lib.hid (fun w' => parseG 30 ⟨#[97, 124, 98, 42]⟩ _ w' s81)
  have HP2 : Hid (∀ w', Calls Try.prog 26 #[.string ⟨#[42, 97]⟩] w' (ParsePost w' ([], 81))) := Lib.hid (fun w' => parseG 30 ⟨#[42, 97]⟩ _ w' s82)
  have HP3 : Hid (∀ w', Calls Try.prog 26 #[.string ⟨#[40, 97]⟩] w' (ParsePost w' ([], 83))) := Lib.hid (fun w' => parseG 30 ⟨#[40, 97]⟩ _ w' s83)
  have HP4 : Hid (∀ w', Calls Try.prog 26 #[.string ⟨#[91, 98, 45, 97, 93]⟩] w' (ParsePost w' ([], 80))) := Lib.hid (fun w' => parseG 40 ⟨#[91, 98, 45, 97, 93]⟩ _ w' s84)
  go_enter Try.func25, Try.ntmps25
  go_wp2_with fail
  refine (HP1.out _).mono ?_; rintro e w1 ⟨v1, rfl, ho1, hd1⟩
  obtain ⟨A1, c1, rfl, ht1, _, _⟩ := ho1.shape
  have HR1 := Lib.hid ht1.rs
  have HD1 := Lib.hid hd1
  clear ho1 hd1 ht1 HP1
  go_wp2_with fail
  refine (HP2.out _).mono ?_; rintro e w2 ⟨v2, rfl, ho2, hd2⟩
  have HR2 := Lib.hid (HR1.out.up hd2)
  have HD2 := Lib.hid (HD1.out.up hd2)
  clear ho2 hd2 HR1 HD1 HP2
  go_wp2_with fail
  refine (HP3.out _).mono ?_; rintro e w3 ⟨v3, rfl, ho3, hd3⟩
  have HR3 := Lib.hid (HR2.out.up hd3)
  have HD3 := Lib.hid (HD2.out.up hd3)
  clear ho3 hd3 HR2 HD2 HP3
  go_wp2_with fail
  refine (HP4.out _).mono ?_; rintro e w4 ⟨v4, rfl, ho4, hd4⟩
  have HR4 := Lib.hid (HR3.out.up hd4)
  have HD4 := Lib.hid (HD3.out.up hd4)
  clear ho4 hd4 HR3 HD3 HP4
  obtain ⟨b, off, rfl, _, hcl⟩ := HR4.out.at_ (by rw [ndsV_length]; decide)
  have q1 := hcl 14 _ rfl
  have q2 := hcl 15 _ rfl
  have q3 := hcl 23 _ rfl
  clear hcl
  go_wp2_with fail
  go_ret
  exact ⟨rfl, HD4.out⟩
end Go.Proofs.Ytaajgdhoffhdcaa
