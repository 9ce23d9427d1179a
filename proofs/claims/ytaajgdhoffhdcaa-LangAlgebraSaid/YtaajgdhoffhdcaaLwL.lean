/-
  The walk of the statement LangLines.
-/
import Derived.Test.YtaajgdhoffhdcaaLwS
namespace Go.Proofs.Ytaajgdhoffhdcaa
open Go.RowKit
set_option linter.unusedVariables false

theorem endsF_le (l : List Nd) (t : List Nat) : ∀ (f i : Nat) (L E : List Nat), t.length < f + i → i ≤ t.length → (∀ x ∈ E, x ≤ t.length) → ∀ x ∈ endsF l t f i L E, x ≤ t.length
  | 0, i, L, E, hf, hi, hE => by omega
  | f + 1, i, L, E, hf, hi, hE => by
    by_cases hL : L.length = 0
    · rw [endsF_nil _ _ _ _ _ _ hL]; exact hE
    rw [endsF_go l t (f + 1) i L E hL hf hi, Nat.add_sub_cancel]
    have hE' : ∀ x ∈ (if doneM l (spreadM l (bolT t i) (eolT t i) L) = true then E ++ [i] else E), x ≤ t.length := by
      split
      · intro x hx
        rcases List.mem_append.mp hx with hx | hx
        · exact hE x hx
        · simp at hx; omega
      · exact hE
    by_cases hit : i = t.length
    · rw [if_pos hit]; exact hE'
    · rw [if_neg hit]
      exact endsF_le l t f (i + 1) _ _ (by omega) (by omega) hE'
theorem endsM_le (l : List Nd) (t : List Nat) (a : Int) : ∀ x ∈ endsM l t a, x ≤ t.length := by
  unfold endsM
  split
  · exact endsF_le l t _ _ _ _ (by omega) (by omega) (fun x hx => by cases hx)
  · intro x hx; cases hx
theorem endsF_len (l : List Nd) (t : List Nat) : ∀ (f i : Nat) (L E : List Nat), (endsF l t f i L E).length ≤ E.length + f
  | 0, i, L, E => by rw [endsF]; omega
  | f + 1, i, L, E => by
    rw [endsF]
    split
    · omega
    · simp only
      split
      · split <;> simp
      · refine Nat.le_trans (endsF_len l t f _ _ _) ?_
        split
        · simp; omega
        · omega
theorem endsM_len (l : List Nd) (t : List Nat) (a : Int) : (endsM l t a).length ≤ t.length + 1 := by
  unfold endsM
  split
  · have := endsF_len l t (t.length + 1) a.toNat [2 * (l.length - 1)] []
    simpa using this
  · simp
def LinesRel (w : World) (n : Nat) (ix : Value) (wr : World) : Prop := ∃ k q : Nat, ix = .int .i64 k ∧ k ≤ n ∧ wr = w.drewN q
set_option maxHeartbeats 8000000 in
set_option maxRecDepth 100000 in
theorem lines_any (A : Option Addr) (c : Nat) (l : List Int) (At : Option Addr) (ct : Nat) (b : List UInt8) (w : World) (hr : Rs w A (ints l)) (hm : l.length ≤ maxLen) (hrt : Rs w At (bytes b)) (hmt : b.length ≤ maxLen) :
    Calls Try.prog 6 #[.slice A l.length c, .slice At b.length ct] w (ValOld (.bool true) w) := by
  have HR := Lib.hid hr
  have HRT := Lib.hid (show Rs w At (txt (txtOf b)) by rw [txtOf_txt]; exact hrt)
  have hlb : b.length = (txtOf b).length := by simp [txtOf]
  have HLT := Lib.hid (txtOf_lt b)
  rw [hlb] at hmt ⊢
  unfold maxLen at hmt
  generalize txtOf b = u at *
  clear hr hrt hlb
  have HS := Lib.hid (saneC w)
  by_cases h10 : 8 < u.length
  · have i1 : (8 : Int) < (u.length : Int) := by omega
    clear h10
    go_enter Try.func6, Try.ntmps6
    go_wp2_with fail
    refine (HS.out).mono ?_; rintro e w1 ⟨rfl, hd1⟩
    go_wp2_with fail
    go_ret
    exact ⟨rfl, hd1⟩
  have i1 : ¬ (8 : Int) < (u.length : Int) := by omega
  go_enter Try.func6, Try.ntmps6
  go_wp2_with fail
  refine (HS.out).mono ?_; rintro e w1 ⟨rfl, hd1⟩
  have HD1 := Lib.hid hd1
  have HP := Lib.hid (patternC A c l w1 (HR.out.up hd1) hm)
  clear hd1 HS
  go_wp2_with fail
  refine (HP.out).mono ?_; rintro e w2 ⟨An, cn, At2, ct2, rfl, hrn, hrt2, hct, hctm, hd2⟩
  have HRN := Lib.hid hrn
  have HRT2 := Lib.hid hrt2
  have HD2 := Lib.hid (HD1.out.up hd2)
  have HOK := Lib.hid (pnodesM_ok l)
  obtain ⟨h8, hl9⟩ := ptxtM_ok l
  have H8 := Lib.hid h8
  have HN := Lib.hid hl9
  clear hrn hrt2 hd2 HD1 HP h8 hct hctm
  generalize pnodesM l = n at *
  generalize (ptxtM l).1 = t at *
  have HRU2 := Lib.hid (HRT.out.up HD2.out)
  have hown0 : Own (w2.alloc (.cells #[] 5)) w2.heap.size 5 1 (.slice (some ⟨w2.heap.size, 0, none⟩) 0 0) 0 [] := own_new w2 #[] 0 1 _ (by decide) rfl
  go_wp2_with (at_builtin; refine wpList_pushAll rfl _ _ 24 rfl _ 5 (.int .u8 0) 1 1 Try.underlying24 info_c8 rfl (by decide) (by decide) _ _ _ (by rfl) hown0 _ _ _ _ (by rfl) (HRU2.out.alloc _) (by rw [txt_length, Nat.mul_one]) (txt_one _) ?pn2 (by simp) ?_)
  case pn2 => omega
  intro v4 w4 ho4 hg4 hd4
  have hb4 := hd4 w2 ((Old.refl w2).alloc _) (Nat.le_refl _)
  clear hown0 hg4 hd4
  go_wp2_with (at_builtin; refine wpList_push (wr := w4) rfl _ _ 24 rfl _ 5 (.int .u8 0) 1 1 Try.underlying24 info_c8 rfl (by decide) (by decide) _ _ _ rfl ho4 1 1 [.int .u8 10] rfl rfl rfl rfl ?pn1 hb4.size ?_)
  case pn1 => omega
  intro v5 w5 ho5 hg5 hd5
  have hb5 := hd5 w2 hb4 (Nat.le_refl _)
  clear ho4 hg5 hd5
  have ho5' : Own w5 w2.heap.size 5 1 v5 (u.length + 1) (txt (u ++ [10])) := by rw [txt_snoc]; exact ho5
  have hhl : (u ++ [10]).length = u.length + 1 := by simp
  obtain ⟨hn, hhn⟩ : ∃ hn, hn = u.length + 1 := ⟨_, rfl⟩
  have HLN := Lib.hid (ends_lines n u t)
  have HUL : Hid (∀ x ∈ u ++ [10], x < 256) := Lib.hid (by
    intro x hx
    rcases List.mem_append.mp hx with hx | hx
    · exact HLT.out x hx
    · simp at hx; omega)
  rw [← hhn] at ho5' hhl
  have hn9 : hn ≤ 9 := by omega
  clear hhn ho5
  generalize u ++ [10] = hd at *
  obtain ⟨A5, c5, rfl, ht5, _, _⟩ := ho5'.shape
  have HR5 := Lib.hid ht5.rs
  have HB5 := Lib.hid hb5
  clear ho5' ht5 hb5 hb4
  have HE1 := Lib.hid (endsC An cn n At2 ct2 t 0 w5 (HRN.out.up HB5.out) (HRT2.out.up HB5.out) (by have := HOK.out.2; unfold maxLen; omega) (by omega) H8.out HOK.out.1)
  have HLE := Lib.hid (endsM_le n t 0)
  have hel := endsM_len n t 0
  generalize endsM n t 0 = E at *
  go_wp2_with fail
  refine (HE1.out).mono ?_; rintro e w6 ⟨v6, rfl, ho6, hd6⟩
  obtain ⟨A6, c6, rfl, ht6, _, _⟩ := ho6.shape
  have HR6 := Lib.hid ht6.rs
  have HB6 := Lib.hid (HB5.out.up hd6)
  have HR5' := Lib.hid (HR5.out.up hd6)
  clear ho6 ht6 hd6 HR5 HB5 HE1
  have hown0 : Own (w6.alloc (.cells #[] 5)) w6.heap.size 5 1 (.slice (some ⟨w6.heap.size, 0, none⟩) 0 0) 0 [] := own_new w6 #[] 0 1 _ (by decide) rfl
  go_wp2_with (at_builtin; refine wpList_pushAll rfl _ _ 24 rfl _ 5 (.int .u8 0) 1 1 Try.underlying24 info_c8 rfl (by decide) (by decide) _ _ _ (by rfl) hown0 _ _ _ _ (by rfl) (HR5'.out.alloc _) (by rw [txt_length, hhl, Nat.mul_one]) (txt_one _) ?pn3 (by simp) ?_)
  case pn3 => omega
  intro v7 w7 ho7 hg7 hd7
  have hb7 := hd7 w6 ((Old.refl w6).alloc _) (Nat.le_refl _)
  clear hown0 hg7 hd7
  go_wp2_with (at_builtin; refine wpList_pushAll rfl _ _ 24 rfl _ 5 (.int .u8 0) 1 1 Try.underlying24 info_c8 rfl (by decide) (by decide) _ _ _ (by rfl) ho7 _ _ _ _ (by rfl) ((HRT2.out.up HB6.out).up hb7) (by rw [txt_length, Nat.mul_one]) (txt_one _) ?pn4 hb7.size ?_)
  case pn4 => omega
  intro v8 w8 ho8 hg8 hd8
  have hb8 := hd8 w6 hb7 (Nat.le_refl _)
  clear ho7 hg8 hd8
  rw [← txt_append] at ho8
  obtain ⟨A8, c8, rfl, ht8, _, _⟩ := ho8.shape
  have hE2 := endsC An cn n A8 c8 (hd ++ t) (hd.length : Nat) w8 ((HRN.out.up HB6.out).up hb8) ht8.rs (by have := HOK.out.2; unfold maxLen; omega) (by rw [List.length_append]; omega) (fun x hx => (List.mem_append.mp hx).elim (HUL.out x) (H8.out x)) HOK.out.1
  rw [HLN.out, List.length_append, hhl] at hE2
  have HE2 := Lib.hid hE2
  have HB8 := Lib.hid hb8
  clear hE2 ho8 ht8 hb8 hb7 HR5' HLN
  go_wp2_with fail
  refine (HE2.out).mono ?_; rintro e w9 ⟨v9, rfl, ho9, hd9⟩
  rw [List.length_map] at ho9
  obtain ⟨A9, c9, rfl, ht9, _, _⟩ := ho9.shape
  have HR9 := Lib.hid ht9.rs
  have HRE := Lib.hid (HR6.out.up (HB8.out.up hd9))
  have HB9 := Lib.hid (((HD2.out.up HB6.out).up HB8.out).up hd9)
  clear ho9 ht9 hd9 HR6 HB8 HE2 HB6
  have i5 : E.length ≤ 10 := by omega
  go_wp2_with fail
  go_loopw [45] (fun s45 wr => LinesRel w9 E.length s45 wr) (fun s45 _ => E.length - (intOf s45).toNat)
  case atStart => exact ⟨0, 0, rfl, Nat.zero_le _, rfl⟩
  case round =>
    obtain ⟨k, q, rfl, hk, rfl⟩ := hrel
    by_cases hlt : k < E.length
    · obtain ⟨b1, o1, rfl, _, hc1⟩ := HRE.out.at_ (by rw [spz_length]; omega)
      obtain ⟨b2, o2, rfl, _, hc2⟩ := HR9.out.at_ (by rw [spz_length, List.length_map]; omega)
      have q1 := hc1 _ _ (spz_get E k hlt)
      have q2 := hc2 _ _ (spz_get (E.map (· + hn)) k (by rw [List.length_map]; exact hlt))
      have e2 : (E.map (· + hn)).getD k 0 = E.getD k 0 + hn := by
        rw [List.getD_eq_getElem?_getD, List.getD_eq_getElem?_getD, List.getElem?_map, List.getElem?_eq_getElem hlt]; rfl
      rw [e2] at q2
      have hx9 : E.getD k 0 ≤ t.length := by
        rw [List.getD_eq_getElem?_getD, List.getElem?_eq_getElem hlt]
        exact HLE.out _ (List.getElem_mem hlt)
      clear hc1 hc2 e2
      generalize E.getD k 0 = x at *
      have wx : IntKind.i64.wrap ((x : Int) + (hn : Int)) = ((x + hn : Nat) : Int) := by rw [IntWalk.i64_in _ (by omega)]; omega
      have i6 : (0 : Int) ≤ (k : Int) := by omega
      have i7 : (k : Int) < (E.length : Int) := by omega
      generalize x + hn = y at *
      go_wp2_with fail
      go_quiet (fail)
      clear wx
      go_wp2_with fail
      go_roundw
      case rel => exact ⟨k + 1, q + nq, by go_num, by omega, rfl⟩
      case measure => simp [intOf]; omega
    · go_wp2_with fail
      go_ret
      exact ⟨rfl, HB9.out.drewN q⟩
end Go.Proofs.Ytaajgdhoffhdcaa
