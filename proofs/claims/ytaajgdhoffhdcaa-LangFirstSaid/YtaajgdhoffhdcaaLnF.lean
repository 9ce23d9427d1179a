/-
  The walk of lang's First.
-/
import Derived.Test.YtaajgdhoffhdcaaLnE
namespace Go.Proofs.Ytaajgdhoffhdcaa
open Go.RowKit
set_option linter.unusedVariables false

theorem firstF_go (l : List Nd) (t : List Nat) (f i : Nat) (L : List Nat) (hf : t.length < f + i) (hi : i ≤ t.length) :
    firstF l t f i L = (if doneM l (spreadM l (bolT t i) false (enterM L (2 * (l.length - 1)))) = true then (i : Int)
      else if i = t.length then -1
      else if t.getD i 0 = 10 then
        (if doneM l (spreadM l (bolT t i) true (spreadM l (bolT t i) false (enterM L (2 * (l.length - 1))))) = true then (i : Int) + 1
         else firstF l t (f - 1) (i + 1) (stepM l (t.getD i 0) (spreadM l (bolT t i) true (spreadM l (bolT t i) false (enterM L (2 * (l.length - 1)))))))
      else firstF l t (f - 1) (i + 1) (stepM l (t.getD i 0) (spreadM l (bolT t i) false (enterM L (2 * (l.length - 1)))))) := by
  obtain ⟨g, rfl⟩ : ∃ g, f = g + 1 := ⟨f - 1, by omega⟩
  rw [firstF]
  rfl
def FirstRel (w : World) (B g gp gm : Nat) (l : List Nd) (A : Option Addr) (c : Nat) (t : List Nat) (R : Int) (ix : Value) (wr : World) : Prop :=
  ∃ (i f : Nat) (L : List Nat) (lv : Value), ix = .int .i64 i ∧ i ≤ t.length ∧ t.length < f + i ∧ Hid (WK w wr B g gp gm l A c (parM l l.length) lv L L) ∧ Hid (Spots (2 * l.length) L) ∧ Hid (firstF l t f i L = R)
set_option maxHeartbeats 8000000 in
set_option maxRecDepth 100000 in
theorem firstC (A : Option Addr) (c : Nat) (l : List Nd) (At : Option Addr) (ct : Nat) (t : List Nat) (w : World) (hr : Rs w A (ndsV l)) (hrt : Rs w At (txt t)) (hm : l.length ≤ maxLen) (ht : t.length ≤ 1000000) (hb : ∀ x ∈ t, x < 256) (hso : ∀ x ∈ l, setOk x.set) :
    Calls Try.prog 17 #[.slice A l.length c, .slice At t.length ct] w (ValOld (.int .i64 (firstM l t)) w) := by
  have hV := validC A c l w hr hm hso
  have HR := Lib.hid hr
  have HRT := Lib.hid hrt
  have HBT := Lib.hid hb
  clear hr hrt hb hso
  cases hv : validM l with
  | false =>
    rw [hv] at hV
    have HV := Lib.hid hV
    have HE : Hid (firstM l t = -1) := Lib.hid (by unfold firstM; rw [if_neg (by simp [hv])])
    clear hV
    go_enter Try.func17, Try.ntmps17
    go_wp2_with fail
    refine (HV.out).mono ?_; rintro e V ⟨rfl, hd⟩
    go_wp2_with fail
    go_ret
    rw [HE.out]
    exact ⟨rfl, hd⟩
  | true =>
  rw [hv] at hV
  have HV := Lib.hid hV
  obtain ⟨h1, hl⟩ := validM_len hv
  have HKN := Lib.hid (validM_kin hv)
  have HPL : Hid (∀ x, x < l.length → (parM l l.length).getD x 0 < l.length) := Lib.hid (fun x _ => parM_lt l h1 _ (Nat.le_refl _) x)
  clear hV
  have HE : Hid (firstF l t (t.length + 1) 0 [] = firstM l t) := Lib.hid (by unfold firstM; rw [if_pos hv])
  generalize firstM l t = R at *
  go_enter Try.func17, Try.ntmps17
  go_wp2_with fail
  refine (HV.out).mono ?_; rintro e V ⟨rfl, hd⟩
  have HNW := Lib.hid (newWalkerC A c l V (HR.out.up hd) hl HKN.out)
  have HD := Lib.hid hd
  clear hd HV
  go_wp2_with fail
  refine (HNW.out).mono ?_; rintro e W ⟨B, g, gp, gm, rfl, hw⟩
  have HW := Lib.hid (hw.from_ HD.out HR.out)
  clear hw HNW HD
  go_wp2_with fail
  go_loopw [6] (fun s6 wr => FirstRel w B g gp gm l A c t R s6 wr) (fun s6 _ => t.length + 1 - (intOf s6).toNat)
  case atStart => exact ⟨0, t.length + 1, [], _, rfl, Nat.zero_le _, by omega, HW, Lib.hid (Spots.nil _), HE⟩
  case round =>
    clear HE HW
    obtain ⟨i, f, L0, lv0, rfl, hi, hf, HW0, HS0, HU⟩ := hrel
    have hun := (firstF_go l t f i L0 hf hi).symm.trans HU.out
    clear HU
    go_wp2_with fail
    refine (beginC w B g gp gm l A c (parM l l.length) lv0 L0 _ HW0.out hl h1 HS0.out).mono ?_; rintro e W1 ⟨rfl, lv, hw, hk⟩
    have HW := Lib.hid hw
    have HS := Lib.hid (HS0.out.enter (s := 2 * (l.length - 1)) (by omega))
    clear hw hk HW0 HS0
    generalize enterM L0 (2 * (l.length - 1)) = L at *
    have HLS := Lib.hid (lineStartC At ct t W1 (HRT.out.up HW.out.old) (by unfold maxLen; omega) i hi)
    generalize hbl : bolT t i = bl at *
    have HU := Lib.hid hun
    clear hun
    go_wp2_with fail
    refine (HLS.out).mono ?_; rintro e W1 ⟨rfl, rfl⟩
    go_wp2_with fail
    refine (spreadC w B g gp gm l A c (parM l l.length) lv L _ HW.out hl HKN.out HS.out (parM_length _ _) HPL.out bl false).mono ?_; rintro e V ⟨rfl, lv1, hw, hk1⟩
    have HUU := HU.out
    clear HU
    rw [show spreadF l (parM l l.length) bl false (2 * l.length) 0 L = spreadM l bl false L from rfl] at hw
    have HS1 := Lib.hid (HS.out.spread hv bl false)
    generalize spreadM l bl false L = L1 at *
    have HU := Lib.hid HUU
    have HW1 := Lib.hid hw
    clear hw hk1 HUU
    have HD := Lib.hid (doneC w B g gp gm l A c (parM l l.length) lv1 L1 V HW1.out hl h1)
    generalize hdd : doneM l L1 = dd at *
    cases dd with
    | true =>
      have HU2 : Hid ((i : Int) = R) := Lib.hid (by have := HU.out; simpa using this)
      clear HU
      go_wp2_with fail
      refine (HD.out).mono ?_; rintro e V2 ⟨rfl, n2, rfl⟩
      have HWD := Lib.hid (HW1.out.drewN n2)
      clear HW1 HD
      generalize V.drewN n2 = W2 at *
      go_wp2_with fail
      go_ret
      rw [← HU2.out]
      exact ⟨rfl, HWD.out.old⟩
    | false =>
      go_wp2_with fail
      refine (HD.out).mono ?_; rintro e V2 ⟨rfl, n2, rfl⟩
      have HWD := Lib.hid (HW1.out.drewN n2)
      clear HW1 HD
      generalize V.drewN n2 = W2 at *
      by_cases hlt : i < t.length
      · have hxb := getD_bd HBT.out i
        have hun := HU.out
        rw [if_neg (by decide), if_neg (show ¬ i = t.length by omega)] at hun
        obtain ⟨b, off, rfl, hb8, hcl⟩ := (HRT.out.up HWD.out.old).at_ (by rw [txt_length]; omega)
        have c8 := hcl _ _ (txt_get t i hlt)
        have HC : Hid (∀ ww, Old w ww → ww.cell? ⟨b, off + i, none⟩ = some (.int .u8 (t.getD i 0 : Nat))) := Lib.hid (fun ww ho => (HRT.out.up ho).cellAt (txt_get t i hlt))
        clear hcl HU
        generalize hx : t.getD i 0 = x at *
        have hne : ((i : Int) == (t.length : Int)) = false := by simp; omega
        have hlt2 : (i : Int) < (t.length : Int) := by omega
        by_cases h10 : x = 10
        · subst h10
          rw [if_pos rfl] at hun
          have HU := Lib.hid hun
          clear hun
          have hdd' := hdd
          clear hdd
          go_wp2_with fail
          refine (spreadC w B g gp gm l A c (parM l l.length) lv1 L1 _ HWD.out hl HKN.out HS1.out (parM_length _ _) HPL.out bl true).mono ?_; rintro e V ⟨rfl, lv2, hw, hk1⟩
          have HUU := HU.out
          clear HU
          rw [show spreadF l (parM l l.length) bl true (2 * l.length) 0 L1 = spreadM l bl true L1 from rfl] at hw
          have HS2 := Lib.hid (HS1.out.spread hv bl true)
          generalize spreadM l bl true L1 = L2 at *
          have HU := Lib.hid HUU
          have HW3 := Lib.hid hw
          clear hw hk1 HUU
          have HD := Lib.hid (doneC w B g gp gm l A c (parM l l.length) lv2 L2 V HW3.out hl h1)
          generalize hde : doneM l L2 = de at *
          cases de with
          | true =>
            have HU2 : Hid ((i : Int) + 1 = R) := Lib.hid (by have := HU.out; simpa using this)
            clear HU HWD
            go_wp2_with fail
            refine (HD.out).mono ?_; rintro e V2 ⟨rfl, n2, rfl⟩
            have HWD := Lib.hid (HW3.out.drewN n2)
            clear HW3 HD
            generalize V.drewN n2 = W4 at *
            go_wp2_with fail
            go_ret
            rw [← HU2.out]
            exact ⟨rfl, HWD.out.old⟩
          | false =>
            have HU2 : Hid (firstF l t (f - 1) (i + 1) (stepM l 10 L2) = R) := Lib.hid (by have := HU.out; simpa using this)
            clear HU HWD
            go_wp2_with fail
            refine (HD.out).mono ?_; rintro e V2 ⟨rfl, n2, rfl⟩
            have HWD := Lib.hid (HW3.out.drewN n2)
            clear HW3 HD
            generalize V.drewN n2 = W4 at *
            have c9 := HC.out _ HWD.out.old
            obtain ⟨x, hx10⟩ : ∃ x : Nat, x = 10 := ⟨_, rfl⟩
            rw [← hx10] at HU2 c9 hxb
            clear hx10 c8
            go_wp2_with fail
            refine (stepC w B g gp gm l A c (parM l l.length) lv2 L2 _ HWD.out hl h1 HS2.out x hxb).mono ?_; rintro e V4 ⟨rfl, lv4, hw4, hk4⟩
            have HW4 := Lib.hid hw4
            have HS4 := Lib.hid (HS2.out.step x)
            clear hw4 hk4
            go_wp2_with fail
            go_roundw
            case rel => exact ⟨i + 1, f - 1, _, lv4, by go_num, by omega, by omega, HW4, HS4, Lib.hid HU2.out⟩
            case measure => simp [intOf]; omega
        · rw [if_neg h10] at hun
          have HU2 := Lib.hid hun
          have hne2 : ((x : Int) == 10) = false := by simp; omega
          clear hun
          go_wp2_with fail
          refine (stepC w B g gp gm l A c (parM l l.length) lv1 L1 _ HWD.out hl h1 HS1.out x hxb).mono ?_; rintro e V4 ⟨rfl, lv4, hw4, hk4⟩
          have HW4 := Lib.hid hw4
          have HS4 := Lib.hid (HS1.out.step x)
          clear hw4 hk4
          go_wp2_with fail
          go_roundw
          case rel => exact ⟨i + 1, f - 1, _, lv4, by go_num, by omega, by omega, HW4, HS4, Lib.hid HU2.out⟩
          case measure => simp [intOf]; omega
      · obtain rfl : i = t.length := by omega
        have HU2 : Hid ((-1 : Int) = R) := Lib.hid (by have := HU.out; simpa using this)
        clear HU hlt
        go_wp2_with fail
        go_ret
        rw [← HU2.out]
        exact ⟨rfl, HWD.out.old⟩
end Go.Proofs.Ytaajgdhoffhdcaa
