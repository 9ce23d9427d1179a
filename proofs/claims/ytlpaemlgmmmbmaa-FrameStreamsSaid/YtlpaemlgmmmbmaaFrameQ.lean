/-
  The plain law on streams: the payloads of a stream come back, in one piece or two.
-/
import Derived.Test.YtlpaemlgmmmbmaaFrameS
namespace Go.Proofs.Ytlpaemlgmmmbmaa
set_option linter.unusedVariables false
namespace Fr
theorem num_enc (p t : B) (h : p.length ≤ 4096) : num (enc p ++ t) = p.length := by
  have e0 : (enc p ++ t).getD 0 0 = 0 := rfl
  have e1 : (enc p ++ t).getD 1 0 = 0 := rfl
  have e2 : (enc p ++ t).getD 2 0 = UInt8.ofNat (p.length / 256) := rfl
  have e3 : (enc p ++ t).getD 3 0 = UInt8.ofNat p.length := rfl
  have h1 : (UInt8.ofNat (p.length / 256)).toNat = p.length / 256 := by simp; omega
  have h2 : (UInt8.ofNat p.length).toNat = p.length % 256 := by simp
  unfold num
  rw [e0, e1, e2, e3, h1, h2]
  simp; omega
theorem look_enc (p t : B) (h : p.length ≤ 4096) : look (enc p ++ t) = 2 := by
  have hl : (enc p ++ t).length = 4 + p.length + t.length := by rw [List.length_append, enc_len]
  unfold look
  rw [num_enc p t h, hl, if_neg (by omega), if_neg (by omega), if_neg (by omega)]
theorem drop4 (p t : B) : (enc p ++ t).drop 4 = p ++ t := rfl
theorem drop_enc (p t : B) : (enc p ++ t).drop (4 + p.length) = t := by
  rw [show 4 + p.length = (enc p).length by rw [enc_len], List.drop_left]
theorem st_flat (P : List B) (hP : ∀ p ∈ P, p.length ≤ 4096) (t : B) : ∀ j, j ≤ P.length → st (flat P ++ t) j = (P.take j, (flat (P.take j)).length) := by
  intro j
  induction j with
  | zero => intro _; simp [st, flat]
  | succ j ih =>
    intro hj
    have ih := ih (by omega)
    have hsplit : flat P = flat (P.take j) ++ flat (P.drop j) := by
      rw [flat, flat, flat, ← List.flatMap_append, List.take_append_drop]
    have hd : (flat P ++ t).drop (flat (P.take j)).length = flat (P.drop j) ++ t := by
      rw [hsplit, List.append_assoc, List.drop_left]
    have hcons : P.drop j = P[j]'(by omega) :: P.drop (j + 1) := List.drop_eq_getElem_cons (by omega)
    have hp := hP (P[j]'(by omega)) (List.getElem_mem _)
    have hfl : flat (P.drop j) ++ t = enc (P[j]'(by omega)) ++ (flat (P.drop (j + 1)) ++ t) := by
      rw [hcons]; simp only [flat, List.flatMap_cons, List.append_assoc]
    have htk : P.take (j + 1) = P.take j ++ [P[j]'(by omega)] := List.take_succ_eq_append_getElem (by omega)
    have hlook : look ((flat P ++ t).drop (st (flat P ++ t) j).2) = 2 := by
      rw [ih]; simp only; rw [hd, hfl]; exact look_enc _ _ hp
    rw [st_go hlook, ih]
    simp only
    rw [hd, hfl, num_enc _ _ hp, drop4, List.take_left, htk, flat_snoc]
    simp [enc_len]; omega
theorem j_le (P : List B) (j : Nat) (hj : j ≤ P.length) : 4 * j ≤ (flat (P.take j)).length := by
  induction j with
  | zero => omega
  | succ j ih =>
    have := ih (by omega)
    rw [List.take_succ_eq_append_getElem (by omega), flat_snoc, List.length_append, enc_len]; omega
/-- Frames one after the other, and a rest that is no frame. -/
theorem fin_flat (P : List B) (hP : ∀ p ∈ P, p.length ≤ 4096) (t : B) (ht : look t = 0) : fin (flat P ++ t) = (P, (flat P).length) ∧ code (flat P ++ t) = 0 := by
  have h := st_flat P hP t P.length (Nat.le_refl _)
  rw [List.take_length] at h
  have hd : (flat P ++ t).drop (st (flat P ++ t) P.length).2 = t := by rw [h]; simp only; rw [List.drop_left]
  have hne : look ((flat P ++ t).drop (st (flat P ++ t) P.length).2) ≠ 2 := by rw [hd, ht]; decide
  have hj := j_le P P.length (Nat.le_refl _)
  rw [List.take_length] at hj
  have hf := fin_of hne (by rw [List.length_append]; omega)
  refine ⟨hf.trans h, ?_⟩
  rw [code, hf, hd, ht]; rfl
/-- A piece of a stream: some frames, and the beginning of one. -/
theorem look_part (p t : B) (h : p.length ≤ 4096) (k : Nat) (hk : k < 4 + p.length) : look ((enc p ++ t).take k) = 0 := by
  have hl : ((enc p ++ t).take k).length = k := by rw [List.length_take, List.length_append, enc_len]; omega
  unfold look
  rw [hl]
  by_cases h4 : k < 4
  · rw [if_pos h4]
  · have hn : num ((enc p ++ t).take k) = p.length := by
      rw [← num_enc p t h]
      have hg : ∀ i, i < 4 → ((enc p ++ t).take k).getD i 0 = (enc p ++ t).getD i 0 := fun i hi => by
        rw [List.getD_eq_getElem?_getD, List.getD_eq_getElem?_getD, List.getElem?_take_of_lt (by omega)]
      unfold num
      rw [hg 0 (by omega), hg 1 (by omega), hg 2 (by omega), hg 3 (by omega)]
    rw [hn, if_neg h4, if_neg (by omega), if_pos (by omega)]
theorem cut_flat (P : List B) (hP : ∀ p ∈ P, p.length ≤ 4096) : ∀ k, k ≤ (flat P).length → ∃ j t, j ≤ P.length ∧ (flat P).take k = flat (P.take j) ++ t ∧ look t = 0 := by
  induction P with
  | nil => intro k hk; exact ⟨0, [], Nat.le_refl _, by simp [flat], by rfl⟩
  | cons p P ih =>
    intro k hk
    have hp := hP p (by simp)
    have hfl : flat (p :: P) = enc p ++ flat P := by simp [flat]
    rw [hfl] at hk ⊢
    by_cases h1 : k < 4 + p.length
    · exact ⟨0, (enc p ++ flat P).take k, Nat.zero_le _, by simp [flat], look_part p _ hp k h1⟩
    · rw [List.length_append, enc_len] at hk
      obtain ⟨j, t, hj, e, ht⟩ := ih (fun q hq => hP q (by simp [hq])) (k - (4 + p.length)) (by omega)
      refine ⟨j + 1, t, by simp; omega, ?_, ht⟩
      rw [List.take_append, List.take_of_length_le (by rw [enc_len]; omega), enc_len, e, List.take_succ_cons]
      simp [flat]
theorem pieces (P : List B) (hP : ∀ p ∈ P, p.length ≤ 4096) (k : Nat) (hk : k ≤ (flat P).length) :
    code ((flat P).take k) = 0 ∧ (fin ((flat P).take k)).2 ≤ k ∧ code ((flat P).drop (fin ((flat P).take k)).2) = 0 ∧
    (fin ((flat P).take k)).2 + (fin ((flat P).drop (fin ((flat P).take k)).2)).2 = (flat P).length ∧
    (fin ((flat P).take k)).1 ++ (fin ((flat P).drop (fin ((flat P).take k)).2)).1 = P ∧ fin (flat P) = (P, (flat P).length) ∧ code (flat P) = 0 := by
  obtain ⟨j, t, hj, e, ht⟩ := cut_flat P hP k hk
  obtain ⟨f1, c1⟩ := fin_flat (P.take j) (fun p hp => hP p (List.mem_of_mem_take hp)) t ht
  have hle : (flat (P.take j)).length ≤ k := by
    have h1 := congrArg List.length e
    rw [List.length_take, List.length_append] at h1
    omega
  have hsplit : flat P = flat (P.take j) ++ flat (P.drop j) := by
    rw [flat, flat, flat, ← List.flatMap_append, List.take_append_drop]
  have hd : (flat P).drop (flat (P.take j)).length = flat (P.drop j) := by rw [hsplit, List.drop_left]
  obtain ⟨f2, c2⟩ := fin_flat (P.drop j) (fun p hp => hP p (List.mem_of_mem_drop hp)) [] rfl
  obtain ⟨f3, c3⟩ := fin_flat P hP [] rfl
  rw [List.append_nil] at f2 c2 f3 c3
  rw [e, f1, c1]
  simp only
  rw [hd, f2, c2, f3, c3]
  refine ⟨by trivial, hle, by trivial, ?_, List.take_append_drop _ _, by trivial, by trivial⟩
  have := congrArg List.length hsplit
  rw [List.length_append] at this
  simp only; omega
end Fr
end Go.Proofs.Ytlpaemlgmmmbmaa
