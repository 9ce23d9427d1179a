/-
  The walk of the reference's Valid (automata).
-/
import Derived.Test.YthadkjgadhbidaaRtA
namespace Go.Proofs.Ythadkjgadhbidaa
open Go.RowKit
set_option linter.unusedVariables false

theorem svalid_iff (st : List Nd) : svalid st = decide (1 ≤ st.length ∧ st.length ≤ 513 ∧ ∀ i, i < st.length → okSt st.length (nd st i)) := by
  unfold svalid
  rw [decide_eq_decide]
  constructor
  · rintro ⟨h1, h2, h3⟩
    refine ⟨h1, h2, fun i hi => h3 _ ?_⟩
    unfold nd
    rw [List.getD_eq_getElem?_getD, List.getElem?_eq_getElem hi]
    exact List.getElem_mem hi
  · rintro ⟨h1, h2, h3⟩
    refine ⟨h1, h2, fun x hx => ?_⟩
    obtain ⟨i, hi, rfl⟩ := List.mem_iff_getElem.mp hx
    have := h3 i hi
    unfold nd at this
    rw [List.getD_eq_getElem?_getD, List.getElem?_eq_getElem hi] at this
    exact this
def VaRel (w : World) (st : List Nd) (v : Value) (wr : World) : Prop :=
  ∃ i : Nat, v = .int .i64 i ∧ i ≤ st.length ∧ Hid (∀ s, s < i → okSt st.length (nd st s)) ∧ Hid (Old w wr)
set_option maxHeartbeats 4000000 in
set_option maxRecDepth 100000 in
theorem rsvalidC (A : Option Addr) (c : Nat) (st : List Nd) (w : World) (hs : Rs w A (ndsV st)) (hm : st.length ≤ maxLen) :
    Calls Try.prog 13 #[.slice A st.length c] w (ValOld (.bool (svalid st)) w) := by
  have HS := Lib.hid hs
  unfold maxLen at hm
  have HSV := Lib.hid (svalid_iff st)
  clear hs
  go_enter Try.func13, Try.ntmps13
  go_wp2_with fail
  go_loopw [3] (fun s3 wr => VaRel w st s3 wr) (fun s3 _ => st.length - (intOf s3).toNat)
  case atStart => exact ⟨0, rfl, Nat.zero_le _, Lib.hid (fun s hs => by omega), Lib.hid (Old.refl _)⟩
  case round =>
    obtain ⟨i, rfl, hi, HN, HO⟩ := hrel
    by_cases hlt : i < st.length
    · have i1 : (i : Int) < (st.length : Int) := by omega
      have i0 : (0 : Int) ≤ (i : Int) := by omega
      obtain ⟨b, off, rfl, _, hcl⟩ := (HS.out.up HO.out).at_ (by rw [ndsV_length]; omega)
      have hx : st[i]? = some (nd st i) := by unfold nd; rw [List.getD_eq_getElem?_getD, List.getElem?_eq_getElem hlt]; rfl
      have c0 := hcl _ _ (ndsV_get st i _ hx 0 (by omega))
      have c1 := hcl _ _ (ndsV_get st i _ hx 1 (by omega))
      have c2 := hcl _ _ (ndsV_get st i _ hx 2 (by omega))
      rw [← Nat.add_assoc] at c0 c1 c2
      rw [Nat.add_zero] at c0
      have HNX : Hid (okSt st.length (nd st i) → ∀ s, s < i + 1 → okSt st.length (nd st s)) := Lib.hid (fun h s hs => by
        by_cases e : s = i
        · subst e; exact h
        · exact HN.out s (by omega))
      have HBAD : Hid (¬ okSt st.length (nd st i) → svalid st = false) := Lib.hid (fun h => by rw [HSV.out]; exact decide_eq_false (fun q => h (q.2.2 i hlt)))
      clear hcl hx HN
      generalize nd st i = y at *
      obtain ⟨kd, lf, rt, se⟩ := y
      replace c0 : wr.cell? ⟨b, off + i * 7, none⟩ = some (.int .i64 kd) := c0
      replace c1 : wr.cell? ⟨b, off + i * 7 + 1, none⟩ = some (.int .i64 lf) := c1
      replace c2 : wr.cell? ⟨b, off + i * 7 + 2, none⟩ = some (.int .i64 rt) := c2
      by_cases k1 : kd < 1
      · have e1 : decide (kd < 1) = true := decide_eq_true k1
        have HE := Lib.hid (HBAD.out (fun h => by have q1 := h.1; have q2 := h.2.1; have q3 := h.2.2.1; have q4 := h.2.2.2; simp only at q1 q2 q3 q4; omega))
        clear HBAD HNX
        go_wp2_with fail
        go_ret
        rw [HE.out]
        exact ⟨rfl, HO.out⟩
      have e1 : decide (kd < 1) = false := decide_eq_false k1
      by_cases k2 : 5 < kd
      · have e2 : decide (5 < kd) = true := decide_eq_true k2
        have HE := Lib.hid (HBAD.out (fun h => by have q1 := h.1; have q2 := h.2.1; have q3 := h.2.2.1; have q4 := h.2.2.2; simp only at q1 q2 q3 q4; omega))
        clear HBAD HNX
        go_wp2_with fail
        go_ret
        rw [HE.out]
        exact ⟨rfl, HO.out⟩
      have e2 : decide (5 < kd) = false := decide_eq_false k2
      have hkc : kd = 1 ∨ kd = 2 ∨ kd = 3 ∨ kd = 4 ∨ kd = 5 := by omega
      clear e1 e2 k1 k2
      rcases hkc with rfl | rfl | rfl | rfl | rfl
      · by_cases h1 : lf < 0
        · have d1 : decide (lf < 0) = true := decide_eq_true h1
          have HE := Lib.hid (HBAD.out (fun h => by have q1 := h.1; have q2 := h.2.1; have q3 := h.2.2.1; have q4 := h.2.2.2; simp only at q1 q2 q3 q4; omega))
          clear HBAD HNX
          go_wp2_with fail
          go_ret
          rw [HE.out]
          exact ⟨rfl, HO.out⟩
        · have d1 : decide (lf < 0) = false := decide_eq_false h1
          by_cases h2 : (st.length : Int) ≤ lf
          · have d2 : decide ((st.length : Int) ≤ lf) = true := decide_eq_true h2
            have HE := Lib.hid (HBAD.out (fun h => by have q1 := h.1; have q2 := h.2.1; have q3 := h.2.2.1; have q4 := h.2.2.2; simp only at q1 q2 q3 q4; omega))
            clear HBAD HNX
            go_wp2_with fail
            go_ret
            rw [HE.out]
            exact ⟨rfl, HO.out⟩
          · have d2 : decide ((st.length : Int) ≤ lf) = false := decide_eq_false h2
            have HW : Hid (VaRel w st (.int .i64 ((i + 1 : Nat) : Int)) wr) := Lib.hid ⟨i + 1, rfl, hlt, Lib.hid (HNX.out ⟨by simp only; omega, by simp only; omega, fun _ => ⟨by simp only; omega, by simp only; omega⟩, fun e => by simp at e⟩), HO⟩
            clear HBAD HNX h1 h2
            go_wp2_with fail
            go_roundw
            case rel => exact HW.out
            case measure => simp [intOf]; omega
      · by_cases h1 : lf < 0
        · have d1 : decide (lf < 0) = true := decide_eq_true h1
          have HE := Lib.hid (HBAD.out (fun h => by have q1 := h.1; have q2 := h.2.1; have q3 := h.2.2.1; have q4 := h.2.2.2; simp only at q1 q2 q3 q4; omega))
          clear HBAD HNX
          go_wp2_with fail
          go_ret
          rw [HE.out]
          exact ⟨rfl, HO.out⟩
        · have d1 : decide (lf < 0) = false := decide_eq_false h1
          by_cases h2 : (st.length : Int) ≤ lf
          · have d2 : decide ((st.length : Int) ≤ lf) = true := decide_eq_true h2
            have HE := Lib.hid (HBAD.out (fun h => by have q1 := h.1; have q2 := h.2.1; have q3 := h.2.2.1; have q4 := h.2.2.2; simp only at q1 q2 q3 q4; omega))
            clear HBAD HNX
            go_wp2_with fail
            go_ret
            rw [HE.out]
            exact ⟨rfl, HO.out⟩
          · have d2 : decide ((st.length : Int) ≤ lf) = false := decide_eq_false h2
            by_cases h3 : rt < 0
            · have d3 : decide (rt < 0) = true := decide_eq_true h3
              have HE := Lib.hid (HBAD.out (fun h => by have q4 := h.2.2.2 rfl; simp only at q4; omega))
              clear HBAD HNX
              go_wp2_with fail
              go_ret
              rw [HE.out]
              exact ⟨rfl, HO.out⟩
            · have d3 : decide (rt < 0) = false := decide_eq_false h3
              by_cases h4 : (st.length : Int) ≤ rt
              · have d4 : decide ((st.length : Int) ≤ rt) = true := decide_eq_true h4
                have HE := Lib.hid (HBAD.out (fun h => by have q4 := h.2.2.2 rfl; simp only at q4; omega))
                clear HBAD HNX
                go_wp2_with fail
                go_ret
                rw [HE.out]
                exact ⟨rfl, HO.out⟩
              · have d4 : decide ((st.length : Int) ≤ rt) = false := decide_eq_false h4
                have HW : Hid (VaRel w st (.int .i64 ((i + 1 : Nat) : Int)) wr) := Lib.hid ⟨i + 1, rfl, hlt, Lib.hid (HNX.out ⟨by simp only; omega, by simp only; omega, fun _ => ⟨by simp only; omega, by simp only; omega⟩, fun e => ⟨by simp only; omega, by simp only; omega⟩⟩), HO⟩
                clear HBAD HNX h1 h2 h3 h4
                go_wp2_with fail
                go_roundw
                case rel => exact HW.out
                case measure => simp [intOf]; omega
      · by_cases h1 : lf < 0
        · have d1 : decide (lf < 0) = true := decide_eq_true h1
          have HE := Lib.hid (HBAD.out (fun h => by have q1 := h.1; have q2 := h.2.1; have q3 := h.2.2.1; have q4 := h.2.2.2; simp only at q1 q2 q3 q4; omega))
          clear HBAD HNX
          go_wp2_with fail
          go_ret
          rw [HE.out]
          exact ⟨rfl, HO.out⟩
        · have d1 : decide (lf < 0) = false := decide_eq_false h1
          by_cases h2 : (st.length : Int) ≤ lf
          · have d2 : decide ((st.length : Int) ≤ lf) = true := decide_eq_true h2
            have HE := Lib.hid (HBAD.out (fun h => by have q1 := h.1; have q2 := h.2.1; have q3 := h.2.2.1; have q4 := h.2.2.2; simp only at q1 q2 q3 q4; omega))
            clear HBAD HNX
            go_wp2_with fail
            go_ret
            rw [HE.out]
            exact ⟨rfl, HO.out⟩
          · have d2 : decide ((st.length : Int) ≤ lf) = false := decide_eq_false h2
            have HW : Hid (VaRel w st (.int .i64 ((i + 1 : Nat) : Int)) wr) := Lib.hid ⟨i + 1, rfl, hlt, Lib.hid (HNX.out ⟨by simp only; omega, by simp only; omega, fun _ => ⟨by simp only; omega, by simp only; omega⟩, fun e => by simp at e⟩), HO⟩
            clear HBAD HNX h1 h2
            go_wp2_with fail
            go_roundw
            case rel => exact HW.out
            case measure => simp [intOf]; omega
      · by_cases h1 : lf < 0
        · have d1 : decide (lf < 0) = true := decide_eq_true h1
          have HE := Lib.hid (HBAD.out (fun h => by have q1 := h.1; have q2 := h.2.1; have q3 := h.2.2.1; have q4 := h.2.2.2; simp only at q1 q2 q3 q4; omega))
          clear HBAD HNX
          go_wp2_with fail
          go_ret
          rw [HE.out]
          exact ⟨rfl, HO.out⟩
        · have d1 : decide (lf < 0) = false := decide_eq_false h1
          by_cases h2 : (st.length : Int) ≤ lf
          · have d2 : decide ((st.length : Int) ≤ lf) = true := decide_eq_true h2
            have HE := Lib.hid (HBAD.out (fun h => by have q1 := h.1; have q2 := h.2.1; have q3 := h.2.2.1; have q4 := h.2.2.2; simp only at q1 q2 q3 q4; omega))
            clear HBAD HNX
            go_wp2_with fail
            go_ret
            rw [HE.out]
            exact ⟨rfl, HO.out⟩
          · have d2 : decide ((st.length : Int) ≤ lf) = false := decide_eq_false h2
            have HW : Hid (VaRel w st (.int .i64 ((i + 1 : Nat) : Int)) wr) := Lib.hid ⟨i + 1, rfl, hlt, Lib.hid (HNX.out ⟨by simp only; omega, by simp only; omega, fun _ => ⟨by simp only; omega, by simp only; omega⟩, fun e => by simp at e⟩), HO⟩
            clear HBAD HNX h1 h2
            go_wp2_with fail
            go_roundw
            case rel => exact HW.out
            case measure => simp [intOf]; omega
      · have HW : Hid (VaRel w st (.int .i64 ((i + 1 : Nat) : Int)) wr) := Lib.hid ⟨i + 1, rfl, hlt, Lib.hid (HNX.out ⟨by simp only; omega, by simp only; omega, fun e => absurd rfl e, fun e => by simp at e⟩), HO⟩
        clear HBAD HNX
        go_wp2_with fail
        go_roundw
        case rel => exact HW.out
        case measure => simp [intOf]; omega
    · obtain rfl : i = st.length := by omega
      have HE : Hid (svalid st = (decide (1 ≤ st.length) && decide (st.length ≤ 513))) := Lib.hid (by
        rw [HSV.out, ← Bool.decide_and, decide_eq_decide]
        exact ⟨fun h => ⟨h.1, h.2.1⟩, fun h => ⟨h.1, h.2, HN.out⟩⟩)
      clear HN HSV
      by_cases h1 : 1 ≤ st.length
      · have d1 : decide (1 ≤ st.length) = true := decide_eq_true h1
        by_cases h2 : st.length ≤ 513
        · have d2 : decide (st.length ≤ 513) = true := decide_eq_true h2
          go_wp2_with fail
          go_ret
          exact ⟨congrArg (fun b => Ending.returned (.bool b)) (show decide ((st.length : Int) ≤ 513) = svalid st by rw [HE.out, d1, d2, decide_eq_true (by omega)]; rfl), HO.out⟩
        · have d2 : decide (st.length ≤ 513) = false := decide_eq_false h2
          go_wp2_with fail
          go_ret
          exact ⟨congrArg (fun b => Ending.returned (.bool b)) (show decide ((st.length : Int) ≤ 513) = svalid st by rw [HE.out, d1, d2, decide_eq_false (by omega)]; rfl), HO.out⟩
      · have d1 : decide (1 ≤ st.length) = false := decide_eq_false h1
        go_wp2_with fail
        go_ret
        exact ⟨congrArg (fun b => Ending.returned (.bool b)) (show false = svalid st by rw [HE.out, d1]; rfl), HO.out⟩
end Go.Proofs.Ythadkjgadhbidaa
