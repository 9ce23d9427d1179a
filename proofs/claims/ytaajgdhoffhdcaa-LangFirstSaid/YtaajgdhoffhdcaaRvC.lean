/-
  The reference's test of a list of nodes: its walk; it comes to the program's.
-/
import Derived.Test.YtaajgdhoffhdcaaRgY
namespace Go.Proofs.Ytaajgdhoffhdcaa
open Go.RowKit
set_option linter.unusedVariables false

set_option maxHeartbeats 4000000 in
set_option maxRecDepth 100000 in
theorem rvalidC (A : Option Addr) (c : Nat) (l : List Nd) (w : World) (hr : Rs w A (ndsV l)) (hm : l.length ≤ maxLen) (hso : ∀ x ∈ l, setOk x.set) :
    Calls Try.prog 34 #[.slice A l.length c] w (ValOld (.bool (validM l)) w) := by
  rw [← rvalid_eq]
  have HR := Lib.hid hr
  have HM := Lib.hid hm
  have HSO := Lib.hid hso
  clear hr hm hso
  by_cases h1 : 1 ≤ l.length
  · by_cases h2 : l.length ≤ 256
    · obtain ⟨n, hn⟩ : ∃ n, l.length = n + 1 := ⟨l.length - 1, by omega⟩
      have HT := Lib.hid (treeC A c l HM.out HSO.out l.length (n : Int) w HR.out (by omega) (by omega))
      have HV : Hid (rvalidM l = (treeF l l.length (n : Int) == 0)) := Lib.hid (by
        unfold rvalidM
        rw [Bool.eq_iff_iff, decide_eq_true_iff, beq_iff_eq, show (l.length : Int) - 1 = (n : Int) by omega]
        exact ⟨fun h => h.2.2, fun h => ⟨h1, h2, h⟩⟩)
      clear HR HM HSO
      generalize treeF l l.length (n : Int) = T at *
      generalize rvalidM l = R at *
      have i1 : (1 : Int) ≤ (l.length : Int) := by omega
      have i2 : (l.length : Int) ≤ 256 := by omega
      clear h1 h2
      generalize l.length = L at *
      subst hn
      by_cases hT : T = 0
      · have e : (T == 0) = true := by simpa using hT
        rw [e] at HV
        go_enter Try.func34, Try.ntmps34
        go_wp2_with fail
        refine (HT.out).mono ?_; rintro e w1 ⟨rfl, hd1⟩
        have HD := Lib.hid hd1
        clear hd1
        go_wp2_with fail
        go_ret
        rw [HV.out]
        exact ⟨rfl, HD.out⟩
      · have e : (T == 0) = false := by simpa using hT
        rw [e] at HV
        go_enter Try.func34, Try.ntmps34
        go_wp2_with fail
        refine (HT.out).mono ?_; rintro e w1 ⟨rfl, hd1⟩
        have HD := Lib.hid hd1
        clear hd1
        go_wp2_with fail
        go_ret
        rw [HV.out]
        exact ⟨rfl, HD.out⟩
    · have HV : Hid (rvalidM l = false) := Lib.hid (decide_eq_false (fun h => h2 h.2.1))
      have i1 : (1 : Int) ≤ (l.length : Int) := by omega
      have i2 : ¬ (l.length : Int) ≤ 256 := by omega
      go_enter Try.func34, Try.ntmps34
      go_wp2_with fail
      go_ret
      rw [HV.out]
      exact ⟨rfl, Old.refl _⟩
  · have HV : Hid (rvalidM l = false) := Lib.hid (decide_eq_false (fun h => h1 h.1))
    have i1 : ¬ (1 : Int) ≤ (l.length : Int) := by omega
    go_enter Try.func34, Try.ntmps34
    go_wp2_with fail
    go_ret
    rw [HV.out]
    exact ⟨rfl, Old.refl _⟩
end Go.Proofs.Ytaajgdhoffhdcaa
