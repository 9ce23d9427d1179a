/-
  slices.Equal on strings, variables, rungs.
-/
import Derived.Test.YtpknglclcdgfbaaJbB
import Derived.Deep.QuietTactic
import Derived.BigQuiet
import Derived.MapKept
namespace Go.Proofs.Ytpknglclcdgfbaa
open Go.RowKit Go.Shelf
set_option linter.unusedVariables false

theorem take_more {α : Type} [Inhabited α] {l l' : List α} {k : Nat} {d : α} (h : l.take k = l'.take k) (hl : k < l.length) (hl' : k < l'.length) (he : l.getD k d = l'.getD k d) : l.take (k + 1) = l'.take (k + 1) := by
  rw [List.take_succ_eq_append_getElem hl, List.take_succ_eq_append_getElem hl', h]
  rw [List.getD_eq_getElem?_getD, List.getD_eq_getElem?_getD, List.getElem?_eq_getElem hl, List.getElem?_eq_getElem hl'] at he
  simp only [Option.getD_some] at he
  rw [he]
theorem ba_ne {p q : ByteArray} (h : p ≠ q) : (p.toList == q.toList) = false := by
  rw [beq_eq_false_iff_ne]
  intro e
  rw [ByteArray.toList_eq, ByteArray.toList_eq] at e
  exact h (ByteArray.ext (Array.toList_inj.mp e))
theorem strsV_length (l : List ByteArray) : (strsV l).length = l.length := by simp [strsV]
theorem strsV_get (l : List ByteArray) (i : Nat) (h : i < l.length) : (strsV l)[i]? = some (.string (l.getD i ⟨#[]⟩)) := by
  unfold strsV
  rw [List.getElem?_map, List.getD_eq_getElem?_getD, List.getElem?_eq_getElem h]
  rfl
theorem varsV_length (l : List (ByteArray × ByteArray)) : (varsV l).length = 2 * l.length := by
  unfold varsV
  induction l with
  | nil => rfl
  | cons a l ih => simp only [List.flatMap_cons, List.length_append, List.length_cons, ih]; simp; omega
theorem varsV_get (l : List (ByteArray × ByteArray)) : ∀ i, i < l.length → (varsV l)[i * 2]? = some (.string (l.getD i (⟨#[]⟩, ⟨#[]⟩)).1) ∧ (varsV l)[i * 2 + 1]? = some (.string (l.getD i (⟨#[]⟩, ⟨#[]⟩)).2) := by
  induction l with
  | nil => intro i h; simp at h
  | cons a l ih =>
    intro i h
    cases i with
    | zero => exact ⟨rfl, rfl⟩
    | succ i =>
      have e1 : (i + 1) * 2 = i * 2 + 1 + 1 := by omega
      rw [e1]
      exact ih i (by simpa using h)
set_option maxHeartbeats 3000000 in
set_option maxRecDepth 100000 in
theorem eqStrN (A A' : Option Addr) (c c' n : Nat) (l l' : List (ByteArray)) (w : World) (hr : Rs w A (strsV l)) (hr' : Rs w A' (strsV l')) (hl : l.length = n) (hl' : l'.length = n) (hm : n ≤ 9223372036854775807) :
    Calls Try.prog 45 #[.slice A n c, .slice A' n c'] w fun e w' => e = .returned (.bool (decide (l = l'))) ∧ ∃ k, w' = w.drewN k := by
  have HL := Lib.hid hl
  have HL' := Lib.hid hl'
  clear hl hl'
  go_enter Try.func45, Try.ntmps45
  go_wp2_with fail
  go_loopw [13] (fun i wr => ∃ k m : Nat, k ≤ n ∧ i = .int .i64 k ∧ wr = w.drewN m ∧ Hid (l.take k = l'.take k)) (fun i _ => n - (intOf i).toNat)
  case atStart => exact ⟨0, 0, Nat.zero_le _, rfl, rfl, Lib.hid rfl⟩
  case round =>
    obtain ⟨k, m, hk, rfl, rfl, hT⟩ := hrel
    by_cases hlt : k < n
    · have hp := HL.out
      have hp' := HL'.out
      obtain ⟨b, off, rfl, _, hc⟩ := hr.at_ (by rw [strsV_length]; omega)
      obtain ⟨b', off', rfl, _, hc'⟩ := hr'.at_ (by rw [strsV_length]; omega)
      have c1 := hc _ _ (strsV_get l k (by omega))
      have d1 := hc' _ _ (strsV_get l' k (by omega))
      clear hc hc' hr hr' hp hp'
      by_cases h1 : l.getD k ⟨#[]⟩ = l'.getD k ⟨#[]⟩
      · have HY := Lib.hid (take_more hT.out (by rw [HL.out]; exact hlt) (by rw [HL'.out]; exact hlt) h1)
        rw [← h1] at d1
        clear hT h1
        generalize l.getD k ⟨#[]⟩ = p at *
        go_wp2_with fail
        go_quiet (fail)
        go_wp2_with fail
        go_roundw
        case rel => exact ⟨k + 1, m + nq, by omega, by go_num, by first | rfl | exact World.drewN_drewN .., HY.out⟩
        case measure => simp [intOf]; omega
      · have HN : Hid (decide (l = l') = false) := Lib.hid (by rw [decide_eq_false_iff_not]; intro e; exact h1 (by rw [e]))
        generalize l.getD k ⟨#[]⟩ = p at *
        generalize l'.getD k ⟨#[]⟩ = q at *
        have n1 : (p.toList == q.toList) = false := ba_ne h1
        clear hT h1
        go_wp2_with fail
        go_quiet (fail)
        go_wp2_with fail
        go_ret
        exact ⟨ret_bool HN.out.symm, m + nq, by first | rfl | exact World.drewN_drewN ..⟩
    · obtain rfl : k = n := by omega
      have HE : Hid (decide (l = l') = true) := Lib.hid (by rw [decide_eq_true_eq]; have h := hT.out; rw [List.take_of_length_le (by have := HL.out; omega), List.take_of_length_le (by have := HL'.out; omega)] at h; exact h)
      clear hT
      go_wp2_with fail
      go_ret
      exact ⟨ret_bool HE.out.symm, _, rfl⟩
set_option maxHeartbeats 3000000 in
set_option maxRecDepth 100000 in
theorem eqStr (A A' : Option Addr) (c c' : Nat) (l l' : List (ByteArray)) (w : World) (hr : Rs w A (strsV l)) (hr' : Rs w A' (strsV l')) (hm : l.length ≤ 9223372036854775807) (hm' : l'.length ≤ 9223372036854775807) :
    Calls Try.prog 45 #[.slice A l.length c, .slice A' l'.length c'] w fun e w' => e = .returned (.bool (decide (l = l'))) ∧ ∃ k, w' = w.drewN k := by
  by_cases he : l'.length = l.length
  · rw [he]
    exact eqStrN A A' c c' l.length l l' w hr hr' rfl he hm
  · have HN : Hid (decide (l = l') = false) := Lib.hid (by rw [decide_eq_false_iff_not]; intro e; exact he (by rw [e]))
    have e1 : ((l.length : Int) == (l'.length : Int)) = false := by rw [beq_eq_false_iff_ne]; omega
    have e2 : ((l.length : Int) != (l'.length : Int)) = true := by rw [bne_iff_ne]; omega
    clear he hr hr'
    generalize l.length = n at *
    generalize l'.length = n' at *
    go_enter Try.func45, Try.ntmps45
    go_wp2_with fail
    go_ret
    exact ⟨ret_bool HN.out.symm, 0, rfl⟩
set_option maxHeartbeats 3000000 in
set_option maxRecDepth 100000 in
theorem eqVarN (A A' : Option Addr) (c c' n : Nat) (l l' : List (ByteArray × ByteArray)) (w : World) (hr : Rs w A (varsV l)) (hr' : Rs w A' (varsV l')) (hl : l.length = n) (hl' : l'.length = n) (hm : n ≤ 9223372036854775807) :
    Calls Try.prog 44 #[.slice A n c, .slice A' n c'] w fun e w' => e = .returned (.bool (decide (l = l'))) ∧ ∃ k, w' = w.drewN k := by
  have HL := Lib.hid hl
  have HL' := Lib.hid hl'
  clear hl hl'
  go_enter Try.func44, Try.ntmps44
  go_wp2_with fail
  go_loopw [13] (fun i wr => ∃ k m : Nat, k ≤ n ∧ i = .int .i64 k ∧ wr = w.drewN m ∧ Hid (l.take k = l'.take k)) (fun i _ => n - (intOf i).toNat)
  case atStart => exact ⟨0, 0, Nat.zero_le _, rfl, rfl, Lib.hid rfl⟩
  case round =>
    obtain ⟨k, m, hk, rfl, rfl, hT⟩ := hrel
    by_cases hlt : k < n
    · have hp := HL.out
      have hp' := HL'.out
      obtain ⟨b, off, rfl, _, hc⟩ := hr.at_ (by rw [varsV_length]; omega)
      obtain ⟨b', off', rfl, _, hc'⟩ := hr'.at_ (by rw [varsV_length]; omega)
      have c1 := hc _ _ (varsV_get l k (by omega)).1
      have c2 : w.cell? ⟨b, off + k * 2 + 1, none⟩ = _ := hc _ _ (varsV_get l k (by omega)).2
      have d1 := hc' _ _ (varsV_get l' k (by omega)).1
      have d2 : w.cell? ⟨b', off' + k * 2 + 1, none⟩ = _ := hc' _ _ (varsV_get l' k (by omega)).2
      clear hc hc' hr hr' hp hp'
      have HYes : Hid ((∀ x, x ∈ [0] → l.getD k (⟨#[]⟩, ⟨#[]⟩) = l'.getD k (⟨#[]⟩, ⟨#[]⟩)) → Hid (l.take (k + 1) = l'.take (k + 1))) := Lib.hid (fun h => Lib.hid (take_more hT.out (by rw [HL.out]; exact hlt) (by rw [HL'.out]; exact hlt) (h 0 (by simp))))
      have HNo : Hid (l.getD k (⟨#[]⟩, ⟨#[]⟩) ≠ l'.getD k (⟨#[]⟩, ⟨#[]⟩) → Hid (decide (l = l') = false)) := Lib.hid (fun h => Lib.hid (by rw [decide_eq_false_iff_not]; intro e; exact h (by rw [e])))
      generalize l.getD k (⟨#[]⟩, ⟨#[]⟩) = p at *
      generalize l'.getD k (⟨#[]⟩, ⟨#[]⟩) = q at *
      obtain ⟨p1, p2⟩ := p
      obtain ⟨q1, q2⟩ := q
      simp only at c1 c2 d1 d2
      by_cases h1 : p1 = q1
      · subst h1
        by_cases h2 : p2 = q2
        · subst h2
          have HY := HYes.out (fun _ _ => rfl)
          clear HYes HNo hT
          go_wp2_with fail
          go_quiet (fail)
          go_wp2_with fail
          go_roundw
          case rel => exact ⟨k + 1, m + nq, by omega, by go_num, by first | rfl | exact World.drewN_drewN .., HY.out⟩
          case measure => simp [intOf]; omega
        · have HN := HNo.out (fun e => h2 (by injection e))
          have n2 : (p2.toList == q2.toList) = false := ba_ne h2
          clear HYes HNo hT h2
          go_wp2_with fail
          go_quiet (fail)
          go_wp2_with fail
          go_ret
          exact ⟨ret_bool HN.out.symm, m + nq, by first | rfl | exact World.drewN_drewN ..⟩
      · have HN := HNo.out (fun e => h1 (by injection e))
        have n1 : (p1.toList == q1.toList) = false := ba_ne h1
        clear HYes HNo hT h1
        go_wp2_with fail
        go_quiet (fail)
        go_wp2_with fail
        go_ret
        exact ⟨ret_bool HN.out.symm, m + nq, by first | rfl | exact World.drewN_drewN ..⟩
    · obtain rfl : k = n := by omega
      have HE : Hid (decide (l = l') = true) := Lib.hid (by rw [decide_eq_true_eq]; have h := hT.out; rw [List.take_of_length_le (by have := HL.out; omega), List.take_of_length_le (by have := HL'.out; omega)] at h; exact h)
      clear hT
      go_wp2_with fail
      go_ret
      exact ⟨ret_bool HE.out.symm, _, rfl⟩
set_option maxHeartbeats 3000000 in
set_option maxRecDepth 100000 in
theorem eqVar (A A' : Option Addr) (c c' : Nat) (l l' : List (ByteArray × ByteArray)) (w : World) (hr : Rs w A (varsV l)) (hr' : Rs w A' (varsV l')) (hm : l.length ≤ 9223372036854775807) (hm' : l'.length ≤ 9223372036854775807) :
    Calls Try.prog 44 #[.slice A l.length c, .slice A' l'.length c'] w fun e w' => e = .returned (.bool (decide (l = l'))) ∧ ∃ k, w' = w.drewN k := by
  by_cases he : l'.length = l.length
  · rw [he]
    exact eqVarN A A' c c' l.length l l' w hr hr' rfl he hm
  · have HN : Hid (decide (l = l') = false) := Lib.hid (by rw [decide_eq_false_iff_not]; intro e; exact he (by rw [e]))
    have e1 : ((l.length : Int) == (l'.length : Int)) = false := by rw [beq_eq_false_iff_ne]; omega
    have e2 : ((l.length : Int) != (l'.length : Int)) = true := by rw [bne_iff_ne]; omega
    clear he hr hr'
    generalize l.length = n at *
    generalize l'.length = n' at *
    go_enter Try.func44, Try.ntmps44
    go_wp2_with fail
    go_ret
    exact ⟨ret_bool HN.out.symm, 0, rfl⟩
set_option maxHeartbeats 3000000 in
set_option maxRecDepth 100000 in
theorem eqRungN (A A' : Option Addr) (c c' n : Nat) (l l' : List (Int × Int)) (w : World) (hr : Rs w A (rungs l)) (hr' : Rs w A' (rungs l')) (hl : l.length = n) (hl' : l'.length = n) (hm : n ≤ 9223372036854775807) :
    Calls Try.prog 46 #[.slice A n c, .slice A' n c'] w fun e w' => e = .returned (.bool (decide (l = l'))) ∧ ∃ k, w' = w.drewN k := by
  have HL := Lib.hid hl
  have HL' := Lib.hid hl'
  clear hl hl'
  go_enter Try.func46, Try.ntmps46
  go_wp2_with fail
  go_loopw [13] (fun i wr => ∃ k m : Nat, k ≤ n ∧ i = .int .i64 k ∧ wr = w.drewN m ∧ Hid (l.take k = l'.take k)) (fun i _ => n - (intOf i).toNat)
  case atStart => exact ⟨0, 0, Nat.zero_le _, rfl, rfl, Lib.hid rfl⟩
  case round =>
    obtain ⟨k, m, hk, rfl, rfl, hT⟩ := hrel
    by_cases hlt : k < n
    · have hp := HL.out
      have hp' := HL'.out
      obtain ⟨b, off, rfl, _, hc⟩ := hr.at_ (by rw [rungs_length]; omega)
      obtain ⟨b', off', rfl, _, hc'⟩ := hr'.at_ (by rw [rungs_length]; omega)
      have c1 := hc _ _ (rungs_get l k (by omega)).1
      have c2 : w.cell? ⟨b, off + k * 2 + 1, none⟩ = _ := hc _ _ (rungs_get l k (by omega)).2
      have d1 := hc' _ _ (rungs_get l' k (by omega)).1
      have d2 : w.cell? ⟨b', off' + k * 2 + 1, none⟩ = _ := hc' _ _ (rungs_get l' k (by omega)).2
      clear hc hc' hr hr' hp hp'
      have HYes : Hid ((∀ x, x ∈ [0] → l.getD k (0, 0) = l'.getD k (0, 0)) → Hid (l.take (k + 1) = l'.take (k + 1))) := Lib.hid (fun h => Lib.hid (take_more hT.out (by rw [HL.out]; exact hlt) (by rw [HL'.out]; exact hlt) (h 0 (by simp))))
      have HNo : Hid (l.getD k (0, 0) ≠ l'.getD k (0, 0) → Hid (decide (l = l') = false)) := Lib.hid (fun h => Lib.hid (by rw [decide_eq_false_iff_not]; intro e; exact h (by rw [e])))
      generalize l.getD k (0, 0) = p at *
      generalize l'.getD k (0, 0) = q at *
      obtain ⟨p1, p2⟩ := p
      obtain ⟨q1, q2⟩ := q
      simp only at c1 c2 d1 d2
      by_cases h1 : p1 = q1
      · subst h1
        by_cases h2 : p2 = q2
        · subst h2
          have HY := HYes.out (fun _ _ => rfl)
          clear HYes HNo hT
          go_wp2_with fail
          go_quiet (fail)
          go_wp2_with fail
          go_roundw
          case rel => exact ⟨k + 1, m + nq, by omega, by go_num, by first | rfl | exact World.drewN_drewN .., HY.out⟩
          case measure => simp [intOf]; omega
        · have HN := HNo.out (fun e => h2 (by injection e))
          have n2 : (p2 == q2) = false := by rw [beq_eq_false_iff_ne]; exact h2
          clear HYes HNo hT h2
          go_wp2_with fail
          go_quiet (fail)
          go_wp2_with fail
          go_ret
          exact ⟨ret_bool HN.out.symm, m + nq, by first | rfl | exact World.drewN_drewN ..⟩
      · have HN := HNo.out (fun e => h1 (by injection e))
        have n1 : (p1 == q1) = false := by rw [beq_eq_false_iff_ne]; exact h1
        clear HYes HNo hT h1
        go_wp2_with fail
        go_quiet (fail)
        go_wp2_with fail
        go_ret
        exact ⟨ret_bool HN.out.symm, m + nq, by first | rfl | exact World.drewN_drewN ..⟩
    · obtain rfl : k = n := by omega
      have HE : Hid (decide (l = l') = true) := Lib.hid (by rw [decide_eq_true_eq]; have h := hT.out; rw [List.take_of_length_le (by have := HL.out; omega), List.take_of_length_le (by have := HL'.out; omega)] at h; exact h)
      clear hT
      go_wp2_with fail
      go_ret
      exact ⟨ret_bool HE.out.symm, _, rfl⟩
set_option maxHeartbeats 3000000 in
set_option maxRecDepth 100000 in
theorem eqRung (A A' : Option Addr) (c c' : Nat) (l l' : List (Int × Int)) (w : World) (hr : Rs w A (rungs l)) (hr' : Rs w A' (rungs l')) (hm : l.length ≤ 9223372036854775807) (hm' : l'.length ≤ 9223372036854775807) :
    Calls Try.prog 46 #[.slice A l.length c, .slice A' l'.length c'] w fun e w' => e = .returned (.bool (decide (l = l'))) ∧ ∃ k, w' = w.drewN k := by
  by_cases he : l'.length = l.length
  · rw [he]
    exact eqRungN A A' c c' l.length l l' w hr hr' rfl he hm
  · have HN : Hid (decide (l = l') = false) := Lib.hid (by rw [decide_eq_false_iff_not]; intro e; exact he (by rw [e]))
    have e1 : ((l.length : Int) == (l'.length : Int)) = false := by rw [beq_eq_false_iff_ne]; omega
    have e2 : ((l.length : Int) != (l'.length : Int)) = true := by rw [bne_iff_ne]; omega
    clear he hr hr'
    generalize l.length = n at *
    generalize l'.length = n' at *
    go_enter Try.func46, Try.ntmps46
    go_wp2_with fail
    go_ret
    exact ⟨ret_bool HN.out.symm, 0, rfl⟩
end Go.Proofs.Ytpknglclcdgfbaa
