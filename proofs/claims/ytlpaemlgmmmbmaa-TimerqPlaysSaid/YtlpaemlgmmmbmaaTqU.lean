/-
  The walks of container/heap: up, down, Push, Pop, Fix, Remove, over the queue.
-/
import Derived.Test.YtlpaemlgmmmbmaaTqV
import Derived.Test.YtlpaemlgmmmbmaaTqH
import Derived.Handy
namespace Go.Proofs.Ytlpaemlgmmmbmaa
open Go.RowKit Go.Maps
set_option linter.unusedVariables false

def qI (g : Nat) : Value := .iface 94 (.pointer (some ⟨g, 0, none⟩))
theorem meth_less (a : Addr) (w : World) : (method 243 94 (.pointer (some a)) "Less").run Try.prog w = .ok (86, .pointer (some a)) w := by kernel_rfl
theorem meth_swap (a : Addr) (w : World) : (method 243 94 (.pointer (some a)) "Swap").run Try.prog w = .ok (89, .pointer (some a)) w := by kernel_rfl
theorem meth_len (a : Addr) (w : World) : (method 243 94 (.pointer (some a)) "Len").run Try.prog w = .ok (85, .pointer (some a)) w := by kernel_rfl
theorem meth_push (a : Addr) (w : World) : (method 243 94 (.pointer (some a)) "Push").run Try.prog w = .ok (88, .pointer (some a)) w := by kernel_rfl
theorem meth_pop (a : Addr) (w : World) : (method 243 94 (.pointer (some a)) "Pop").run Try.prog w = .ok (87, .pointer (some a)) w := by kernel_rfl
theorem tupR {a b : Value} (h : a = b) : Ending.returned a = .returned b := by rw [h]
set_option maxRecDepth 100000 in
set_option maxHeartbeats 2000000 in
theorem upH (B g mb : Nat) (L : List Tm) (j : Nat) (w : World) (h : PQ w B g mb L) (hl : TL L) (hj : j < L.length) :
    Calls Try.prog 67 #[qI g, .int .i64 j] w (QPost (.tuple #[]) w B g mb (upL (j + 1) L j)) := by
  unfold qI
  have hlen := hl.1
  have HP := Lib.hid h
  have HL := Lib.hid hl
  clear h hl
  go_enter Try.func67, Try.ntmps67
  go_wp2_with fail
  go_loopw [1] (fun s wr => ∃ (k f : Nat) (M : List Tm), s = .int .i64 k ∧ k < f ∧ k < L.length ∧ M.length = L.length ∧ Hid (PQ wr B g mb M) ∧ Hid (TL M) ∧ Hid (QK B w wr) ∧ Hid (upL (j + 1) L j = upL f M k)) (fun s _ => (intOf s).toNat)
  case atStart => exact ⟨j, j + 1, L, rfl, by omega, hj, rfl, HP, HL, QK.refl _ _, rfl⟩
  case round =>
    obtain ⟨k, f, M, rfl, hkf, hkl, hML, HM, HT, HQ, HE⟩ := hrel
    obtain ⟨f, rfl⟩ : ∃ f', f = f' + 1 := ⟨f - 1, by omega⟩
    by_cases hk : k = 0
    · subst hk
      go_wp2_with fail
      go_end0
      exact ⟨rfl, by rw [HE.out]; exact HM.out, HQ.out⟩
    · obtain ⟨k, rfl⟩ : ∃ k', k = k' + 1 := ⟨k - 1, by omega⟩
      obtain ⟨m, hm⟩ : ∃ m, m = k / 2 := ⟨_, rfl⟩
      have hdiv : (k : Int) / 2 = (m : Int) := by omega
      have hmk : m < k + 1 := by omega
      have i0 : (0 : Int) ≤ (k : Int) := by omega
      have hne2 : ((m : Int) == ((k + 1 : Nat) : Int)) = false := by simp; omega
      have hne : ((m : Int) == (k : Int) + 1) = false := by simp; omega
      have hne' : ¬ (m : Int) = (k : Int) + 1 := by omega
      have Hm := Lib.hid hm
      clear hm hk
      have e1 : M[k + 1]? = some (gt M (k + 1)) := getD_of (by omega)
      have e2 : M[m]? = some (gt M m) := getD_of (by omega)
      have hU : upL (f + 1) M (k + 1) = if lessB (gt M (k + 1)) (gt M m) = true then upL f (swapL M m (k + 1)) m else M := by
        rw [upL, if_neg (by omega), Nat.add_sub_cancel, ← Hm.out]
      have hLs := lessQ B g mb M (k + 1) m _ _ wr HM.out HT.out e1 e2
      have HE1 := Lib.hid e1
      have HE2 := Lib.hid e2
      cases hb : lessB (gt M (k + 1)) (gt M m) with
      | false =>
        rw [hb] at hLs hU
        have HU := Lib.hid hU
        have HLs := Lib.hid hLs
        clear hU hLs e1 e2 hb
        go_wp2_with fail
        refine HLs.out.mono ?_
        rintro e w2 ⟨rfl, ho⟩
        go_wp2_with fail
        go_end0
        refine ⟨rfl, ?_, HQ.out.trans (QK.of_old ho (Nat.le_trans (Nat.le_trans HP.out.1 (Nat.le_of_lt (by obtain ⟨_, _, v, D, kk, h3, _⟩ := HP.out; exact lt_of_block h3))) HQ.out.size))⟩
        have := HU.out
        simp only [Bool.false_eq_true, if_false] at this
        rw [HE.out, this]
        exact HM.out.old ho
      | true =>
        rw [hb] at hLs hU
        simp only [if_true] at hU
        have HU := Lib.hid hU
        have HLs := Lib.hid hLs
        clear hU hLs e1 e2 hb
        go_wp2_with fail
        refine HLs.out.mono ?_
        rintro e w2 ⟨rfl, ho⟩
        have hSw := Lib.hid (swapQ B g mb M m (k + 1) _ _ w2 (HM.out.old ho) HT.out HE2.out HE1.out)
        have HB2 := Lib.hid (QK.of_old ho (Nat.le_trans (Nat.le_trans HP.out.1 (Nat.le_of_lt (by obtain ⟨_, _, v, D, kk, h3, _⟩ := HP.out; exact lt_of_block h3))) HQ.out.size))
        go_wp2_with fail
        refine hSw.out.mono ?_
        rintro e w3 ⟨rfl, hp3, hq3⟩
        have HP3 := Lib.hid hp3
        have HQ3 := Lib.hid hq3
        clear hp3 hq3
        go_wp2_with fail
        go_roundw
        case rel => exact ⟨m, f, swapL M m (k + 1), rfl, by omega, by omega, by rw [swapL_length]; omega, HP3.out, HT.out.swap (by omega) (by omega), HQ.out.trans (HB2.out.trans HQ3.out), HE.out.trans HU.out⟩
        case measure => simp [intOf]; omega

theorem PQ.base {w w' : World} {B g mb : Nat} {L : List Tm} (h : PQ w B g mb L) (hs : w.heap.size ≤ w'.heap.size) : B ≤ w'.heap.size := by
  obtain ⟨h1, _, v, D, kk, h3, _⟩ := h
  exact Nat.le_trans (Nat.le_trans h1 (Nat.le_of_lt (lt_of_block h3))) hs
def DownPost (w : World) (B g mb : Nat) (i : Nat) (r : List Tm × Nat) (e : Ending) (w' : World) : Prop := e = .returned (.bool (decide (i < r.2))) ∧ PQ w' B g mb r.1 ∧ QK B w w'
set_option maxHeartbeats 2000000 in
set_option maxRecDepth 100000 in
theorem downH (B g mb : Nat) (L : List Tm) (i n : Nat) (w : World) (h : PQ w B g mb L) (hl : TL L) (hn : n ≤ L.length) (hi : i ≤ 256) :
    Calls Try.prog 66 #[qI g, .int .i64 i, .int .i64 n] w (DownPost w B g mb i (downL (n + 1) L i n)) := by
  unfold qI
  have hlen := hl.1
  have HP := Lib.hid h
  have HL := Lib.hid hl
  clear h hl
  go_enter Try.func66, Try.ntmps66
  go_wp2_with fail
  go_loopw [7] (fun s wr => ∃ (k f : Nat) (M : List Tm), s = .int .i64 k ∧ n + 1 ≤ k + f ∧ k ≤ 256 ∧ M.length = L.length ∧ Hid (PQ wr B g mb M) ∧ Hid (TL M) ∧ Hid (QK B w wr) ∧ Hid (downL (n + 1) L i n = downL f M k n)) (fun s _ => 1000 - (intOf s).toNat)
  case atStart => exact ⟨i, n + 1, L, rfl, by omega, hi, rfl, HP, HL, QK.refl _ _, rfl⟩
  case round =>
    obtain ⟨k, f, M, rfl, hkf, hk2, hML, HM, HT, HQ, HE⟩ := hrel
    obtain ⟨a, ha⟩ : ∃ a, a = 2 * k + 1 := ⟨_, rfl⟩
    have hj1 : 2 * (k : Int) + 1 = (a : Int) := by omega
    have k0 : (0 : Int) ≤ (a : Int) := by omega
    have a1 : a ≤ 600 := by omega
    have Ha := Lib.hid ha
    by_cases h1 : a < n
    · obtain ⟨f, rfl⟩ : ∃ f', f = f' + 1 := ⟨f - 1, by omega⟩
      have hka : k < a := by omega
      clear ha
      have hD : downL (f + 1) M k n = if lessB (gt M (kid M k n)) (gt M k) = true then downL f (swapL M k (kid M k n)) (kid M k n) n else (M, k) := by
        rw [downL, if_pos (by have := Ha.out; omega)]
      by_cases h2 : a + 1 < n
      · have e3 : M[a + 1]? = some (gt M (a + 1)) := getD_of (by omega)
        have e4 : M[a]? = some (gt M a) := getD_of (by omega)
        have hLa := lessQ B g mb M (a + 1) a _ _ wr HM.out HT.out e3 e4
        cases hc : lessB (gt M (a + 1)) (gt M a) with
        | false =>
          have hkid : kid M k n = a := by
            unfold kid
            have := Ha.out
            rw [if_neg]
            · omega
            · rw [show 2 * k + 2 = a + 1 by omega, show 2 * k + 1 = a by omega, hc]; simp
          rw [hc] at hLa
          have HLa := Lib.hid hLa
          rw [hkid] at hD
          have hU := hD
          clear hLa e3 e4 hc hkid hD
          have HU0 := Lib.hid hU
          clear hU
          go_wp2_with fail
          refine HLa.out.mono ?_
          rintro e w2 ⟨rfl, ho⟩
          have HO := Lib.hid ho
          clear ho
          have hU := HU0.out
          have e1 : M[a]? = some (gt M a) := getD_of (by omega)
          have e2 : M[k]? = some (gt M k) := getD_of (by omega)
          have hLs := lessQ B g mb M a k _ _ w2 (HM.out.old HO.out) HT.out e1 e2
          have HE1 := Lib.hid e1
          have HE2 := Lib.hid e2
          cases hb : lessB (gt M a) (gt M k) with
          | false =>
            rw [hb] at hLs hU
            have HU := Lib.hid hU
            have HLs := Lib.hid hLs
            clear hU hLs e1 e2 hb
            go_wp2_with fail
            refine HLs.out.mono ?_
            rintro e w3 ⟨rfl, ho3⟩
            have HO3 := Lib.hid (HO.out.up ho3)
            clear ho3
            go_wp2_with fail
            go_ret
            have hh := HU.out
            simp only [Bool.false_eq_true, if_false] at hh
            rw [HE.out, hh]
            exact ⟨ret_bool (by simp), HM.out.old HO3.out, HQ.out.trans (QK.of_old HO3.out (HP.out.base HQ.out.size))⟩
          | true =>
            rw [hb] at hLs hU
            simp only [if_true] at hU
            have HU := Lib.hid hU
            have HLs := Lib.hid hLs
            clear hU hLs e1 e2 hb
            go_wp2_with fail
            refine HLs.out.mono ?_
            rintro e w3 ⟨rfl, ho3⟩
            have HO3 := Lib.hid (HO.out.up ho3)
            clear ho3
            have hSw := Lib.hid (swapQ B g mb M k a _ _ w3 (HM.out.old HO3.out) HT.out HE2.out HE1.out)
            go_wp2_with fail
            refine hSw.out.mono ?_
            rintro e w4 ⟨rfl, hp4, hq4⟩
            have HP4 := Lib.hid hp4
            have HQ4 := Lib.hid hq4
            clear hp4 hq4
            go_wp2_with fail
            go_roundw
            case rel => exact ⟨a, f, swapL M k a, rfl, by omega, by omega, by rw [swapL_length]; omega, HP4.out, HT.out.swap (by omega) (by omega), HQ.out.trans ((QK.of_old HO3.out (HP.out.base HQ.out.size)).trans HQ4.out), HE.out.trans HU.out⟩
            case measure => simp [intOf]; omega
        | true =>
          have hkid : kid M k n = a + 1 := by
            unfold kid
            have := Ha.out
            rw [if_pos]
            · omega
            · rw [show 2 * k + 2 = a + 1 by omega, show 2 * k + 1 = a by omega, hc]; exact ⟨h2, rfl⟩
          rw [hc] at hLa
          have HLa := Lib.hid hLa
          rw [hkid] at hD
          have hU := hD
          clear hLa e3 e4 hc hkid hD
          have HU0 := Lib.hid hU
          clear hU
          go_wp2_with fail
          refine HLa.out.mono ?_
          rintro e w2 ⟨rfl, ho⟩
          have HO := Lib.hid ho
          clear ho
          have hU := HU0.out
          have e1 : M[(a + 1)]? = some (gt M (a + 1)) := getD_of (by omega)
          have e2 : M[k]? = some (gt M k) := getD_of (by omega)
          have hLs := lessQ B g mb M (a + 1) k _ _ w2 (HM.out.old HO.out) HT.out e1 e2
          have HE1 := Lib.hid e1
          have HE2 := Lib.hid e2
          cases hb : lessB (gt M (a + 1)) (gt M k) with
          | false =>
            rw [hb] at hLs hU
            have HU := Lib.hid hU
            have HLs := Lib.hid hLs
            clear hU hLs e1 e2 hb
            go_wp2_with fail
            refine HLs.out.mono ?_
            rintro e w3 ⟨rfl, ho3⟩
            have HO3 := Lib.hid (HO.out.up ho3)
            clear ho3
            go_wp2_with fail
            go_ret
            have hh := HU.out
            simp only [Bool.false_eq_true, if_false] at hh
            rw [HE.out, hh]
            exact ⟨ret_bool (by simp), HM.out.old HO3.out, HQ.out.trans (QK.of_old HO3.out (HP.out.base HQ.out.size))⟩
          | true =>
            rw [hb] at hLs hU
            simp only [if_true] at hU
            have HU := Lib.hid hU
            have HLs := Lib.hid hLs
            clear hU hLs e1 e2 hb
            go_wp2_with fail
            refine HLs.out.mono ?_
            rintro e w3 ⟨rfl, ho3⟩
            have HO3 := Lib.hid (HO.out.up ho3)
            clear ho3
            have hSw := Lib.hid (swapQ B g mb M k (a + 1) _ _ w3 (HM.out.old HO3.out) HT.out HE2.out HE1.out)
            go_wp2_with fail
            refine hSw.out.mono ?_
            rintro e w4 ⟨rfl, hp4, hq4⟩
            have HP4 := Lib.hid hp4
            have HQ4 := Lib.hid hq4
            clear hp4 hq4
            go_wp2_with fail
            go_roundw
            case rel => exact ⟨(a + 1), f, swapL M k (a + 1), rfl, by omega, by omega, by rw [swapL_length]; omega, HP4.out, HT.out.swap (by omega) (by omega), HQ.out.trans ((QK.of_old HO3.out (HP.out.base HQ.out.size)).trans HQ4.out), HE.out.trans HU.out⟩
            case measure => simp [intOf]; omega
      · have hkid : kid M k n = a := by
          unfold kid
          have := Ha.out
          rw [if_neg]
          · omega
          · intro hh; omega
        rw [hkid] at hD
        have hU := hD
        clear hkid hD
        have HO : Hid (Old wr wr) := Old.refl wr
        have e1 : M[a]? = some (gt M a) := getD_of (by omega)
        have e2 : M[k]? = some (gt M k) := getD_of (by omega)
        have hLs := lessQ B g mb M a k _ _ wr (HM.out.old HO.out) HT.out e1 e2
        have HE1 := Lib.hid e1
        have HE2 := Lib.hid e2
        cases hb : lessB (gt M a) (gt M k) with
        | false =>
          rw [hb] at hLs hU
          have HU := Lib.hid hU
          have HLs := Lib.hid hLs
          clear hU hLs e1 e2 hb
          go_wp2_with fail
          refine HLs.out.mono ?_
          rintro e w3 ⟨rfl, ho3⟩
          have HO3 := Lib.hid (HO.out.up ho3)
          clear ho3
          go_wp2_with fail
          go_ret
          have hh := HU.out
          simp only [Bool.false_eq_true, if_false] at hh
          rw [HE.out, hh]
          exact ⟨ret_bool (by simp), HM.out.old HO3.out, HQ.out.trans (QK.of_old HO3.out (HP.out.base HQ.out.size))⟩
        | true =>
          rw [hb] at hLs hU
          simp only [if_true] at hU
          have HU := Lib.hid hU
          have HLs := Lib.hid hLs
          clear hU hLs e1 e2 hb
          go_wp2_with fail
          refine HLs.out.mono ?_
          rintro e w3 ⟨rfl, ho3⟩
          have HO3 := Lib.hid (HO.out.up ho3)
          clear ho3
          have hSw := Lib.hid (swapQ B g mb M k a _ _ w3 (HM.out.old HO3.out) HT.out HE2.out HE1.out)
          go_wp2_with fail
          refine hSw.out.mono ?_
          rintro e w4 ⟨rfl, hp4, hq4⟩
          have HP4 := Lib.hid hp4
          have HQ4 := Lib.hid hq4
          clear hp4 hq4
          go_wp2_with fail
          go_roundw
          case rel => exact ⟨a, f, swapL M k a, rfl, by omega, by omega, by rw [swapL_length]; omega, HP4.out, HT.out.swap (by omega) (by omega), HQ.out.trans ((QK.of_old HO3.out (HP.out.base HQ.out.size)).trans HQ4.out), HE.out.trans HU.out⟩
          case measure => simp [intOf]; omega
    · have hD : downL f M k n = (M, k) := by
        cases f with
        | zero => rfl
        | succ f => rw [downL, if_neg (by omega)]
      have HD := Lib.hid hD
      clear hD ha
      go_wp2_with fail
      go_ret
      rw [HE.out, HD.out]
      exact ⟨ret_bool (by simp), HM.out, HQ.out⟩
end Go.Proofs.Ytlpaemlgmmmbmaa
