/-
  The walk of the reference's Split.
-/
import Derived.Test.YtlpaemlgmmmbmaaFrameW
namespace Go.Proofs.Ytlpaemlgmmmbmaa
open Go.RowKit
set_option linter.unusedVariables false

set_option maxRecDepth 100000 in
set_option maxHeartbeats 2000000 in
theorem rSplit (A : Option Addr) (c : Nat) (b : List UInt8) (w : World) (hr : Rs w A (bytes b)) (hc1 : b.length ≤ c) (hc2 : c ≤ maxLen) (hm : b.length ≤ 1000000) :
    Calls Try.prog 17 #[.slice A b.length c] w (SplitPost w b) := by
  unfold maxLen at hc2
  go_enter Try.func17, Try.ntmps17
  go_wp2_with fail
  go_loopw [5, 6] (fun v u wr => ∃ (k : Nat) (cells : List Value), 4 * k ≤ (Fr.st b k).2 ∧ u = .int .i64 (Fr.st b k).2 ∧ Own wr w.heap.size 23 1 v (Fr.st b k).1.length cells ∧ TsL wr 5 cells ((Fr.st b k).1.map bytes) ∧ Old w wr) (fun _ u _ => b.length - (intOf u).toNat)
  case atStart => exact ⟨0, [], Nat.le_refl _, rfl, Own.nil_ _ _ _ _, TsL.nil_, Old.refl _⟩
  case round =>
    obtain ⟨k, cells, h4, rfl, hown, hts, hb⟩ := hrel
    have hle := Fr.st_le b k
    have hkl := Fr.st_len b k
    have hfin := fun h => Fr.fin_of (b := b) (k := k) h (by omega)
    have hgo := fun h => Fr.st_go (b := b) (k := k) h
    have hcode : ∀ h : Fr.look (b.drop (Fr.st b k).2) ≠ 2, Fr.code b = if Fr.look (b.drop (Fr.st b k).2) = 1 then 1 else 0 := fun h => by unfold Fr.code; rw [hfin h]
    have HFIN := Lib.hid hfin
    have HGO := Lib.hid hgo
    have HCODE := Lib.hid hcode
    have hlook : Fr.look (b.drop (Fr.st b k).2) = if (b.drop (Fr.st b k).2).length < 4 then 0 else if 4096 < Fr.num (b.drop (Fr.st b k).2) then 1 else if (b.drop (Fr.st b k).2).length < 4 + Fr.num (b.drop (Fr.st b k).2) then 0 else 2 := rfl
    rw [List.length_drop] at hlook
    have HLOOK := Lib.hid hlook
    clear hfin hgo hcode hlook
    generalize hs : Fr.st b k = s at *
    obtain ⟨P, U⟩ := s
    have HS := Lib.hid hs
    clear hs
    simp only at *
    have hsl0 := fun W => run_slice_from (P := Try.prog) (t := 23) (by kernel_rfl) (fun _ => rfl) A b.length c U (U : Int) (by omega) (by omega) W
    by_cases hlt : U + 4 ≤ b.length
    · have hnum := Fr.num_lt (b.drop U)
      obtain ⟨b0, off, rfl, _, _⟩ := hr.at_ (by rw [bytes_length]; omega)
      have hrU : Rs wr (some ⟨b0, off + U, none⟩) (bytes (b.drop U)) := by rw [bytes_drop]; exact (hr.up hb).drop U
      have hne : ¬ c = U := by omega
      rw [if_neg hne, Option.map_some, Addr.add_lit] at hsl0
      have hdl : (b.drop U).length = b.length - U := List.length_drop
      have g0 := hrU.cellAt (bytes_get (b.drop U) 0 (by omega))
      have g1 := hrU.cellAt (bytes_get (b.drop U) 1 (by omega))
      have g2 := hrU.cellAt (bytes_get (b.drop U) 2 (by omega))
      have g3 := hrU.cellAt (bytes_get (b.drop U) 3 (by omega))
      rw [Nat.add_zero] at g0
      have i0 : (0 : Int) < ((b.length - U : Nat) : Int) := by omega
      have i1 : (1 : Int) < ((b.length - U : Nat) : Int) := by omega
      have i2 : (2 : Int) < ((b.length - U : Nat) : Int) := by omega
      have i3 : (3 : Int) < ((b.length - U : Nat) : Int) := by omega
      have i4 : (4 : Int) ≤ ((b.length - U : Nat) : Int) := by omega
      have hor := Fr.or4_i64 ((b.drop U).getD 0 0).toNat ((b.drop U).getD 1 0).toNat ((b.drop U).getD 2 0).toNat ((b.drop U).getD 3 0).toNat (UInt8.toNat_lt _) (UInt8.toNat_lt _) (UInt8.toNat_lt _) (UInt8.toNat_lt _)
      have hnd : Fr.num (b.drop U) = ((b.drop U).getD 0 0).toNat * 16777216 + ((b.drop U).getD 1 0).toNat * 65536 + ((b.drop U).getD 2 0).toNat * 256 + ((b.drop U).getD 3 0).toNat := rfl
      rw [← hnd] at hor
      have n0 := ((b.drop U).getD 0 0).toNat_lt
      have n1 := ((b.drop U).getD 1 0).toNat_lt
      have n2 := ((b.drop U).getD 2 0).toNat_lt
      have n3 := ((b.drop U).getD 3 0).toNat_lt
      clear hdl hnd hrU
      generalize ((b.drop U).getD 0 0).toNat = x0 at *
      generalize ((b.drop U).getD 1 0).toNat = x1 at *
      generalize ((b.drop U).getD 2 0).toNat = x2 at *
      generalize ((b.drop U).getD 3 0).toNat = x3 at *
      generalize hn : Fr.num (b.drop U) = n at *
      have HN := Lib.hid hn
      clear hn
      go_wp2_with fail
      have l1 : b.length - U + U ≤ b.length := by omega
      have l2 : b.length ≤ b.length - U + U := by omega
      have l3 : c - U + U ≤ c := by omega
      have l4 : c ≤ c - U + U := by omega
      generalize b.length - U = L at *
      generalize c - U = C at *
      go_quiet (fail)
      have hq0 : Old wr (wr.drewN nq) := (Old.refl wr).drewN nq
      replace hown := hown.up hq0
      replace hts := hts.up hq0
      replace hb := hb.up hq0
      generalize wr.drewN nq = w1 at *
      clear g0 g1 g2 g3 hq0 hor i0 i1 i2 i3 n0 n1 n2 n3
      generalize Go.bits BinOp.or IntKind.i64 (Go.bits BinOp.or IntKind.i64 ((x0 : Int) * 16777216) ((x1 : Int) * 65536)) ((x2 : Int) * 256) = z1
      generalize Go.bits BinOp.or IntKind.i64 ((x0 : Int) * 16777216) ((x1 : Int) * 65536) = z2
      generalize (x0 : Int) * 16777216 = z3
      generalize (x1 : Int) * 65536 = z4
      generalize (x2 : Int) * 256 = z5
      by_cases hbig : 4096 < n
      · have hl1 : Fr.look (b.drop U) = 1 := by rw [HLOOK.out, if_neg (by omega), if_pos hbig]
        have HL1 := Lib.hid hl1
        clear hl1
        go_wp2_with fail
        go_ret3
        have h2 : Fr.look (b.drop U) ≠ 2 := by rw [HL1.out]; decide
        rw [SplitPost, HCODE.out h2, HFIN.out h2, HL1.out]
        exact ⟨_, cells, rfl, hown, hts, hb⟩
      · by_cases hfit : U + 4 + n ≤ b.length
        · have hl2 : Fr.look (b.drop U) = 2 := by rw [HLOOK.out, if_neg (by omega), if_neg hbig, if_neg (by omega)]
          have HL2 := Lib.hid hl2
          have hpl : ((b.drop (U + 4)).take n).length = n := by rw [List.length_take, List.length_drop]; omega
          have hrP : Rs w1 (if C = 4 then some ⟨b0, off + U, none⟩ else some ⟨b0, off + U + 4, none⟩) (bytes ((b.drop (U + 4)).take n)) := by
            by_cases hcu : C = 4
            · left
              have : n = 0 := by omega
              subst this; simp [bytes]
            · rw [if_neg hcu, bytes_take, bytes_drop, Nat.add_assoc]
              exact ((hr.up hb).drop (U + 4)).take n
          have HP := Lib.hid hpl
          have hsl := fun W => run_slice_mid (P := Try.prog) (t := 23) (by kernel_rfl) (fun _ => rfl) b0 (off + U) L C 4 n (4 : Int) (4 + (n : Int)) (by omega) (by omega) (by omega) W
          clear hl2 hpl
          by_cases hcu : C = 4
          · rw [if_pos hcu] at hrP hsl
            clear hcu
            as_aux_lemma =>
              have HCL := Lib.hid hrP
              clear hrP
              go_wp2_with (at_builtin; refine wpList_pushAll rfl _ _ 23 rfl _ 5 (.int .u8 0) 1 1 Try.underlying23 info_u8 rfl (by decide) (by decide) _ _ _ (by rfl) (own_new w1 #[] 0 1 _ (by decide) rfl) _ _ _ _ (by rfl) (HCL.out.alloc _) (by rw [bytes_length, HP.out]; omega) (bytes_one _) ?pn3 (by simp) ?_)
              case pn3 => omega
              intro v3 w3 hown3 hg3 hd3
              clear hg3
              have hb3 : Old w1 w3 := hd3 w1 ((Old.refl w1).alloc _) (Nat.le_refl _)
              obtain ⟨A3, c3, rfl, ht3, hn3, hm3⟩ := hown3.shape
              replace hown := hown.up hb3
              replace hts := hts.up hb3
              replace hb := hb.up hb3
              have hsz := hb.size
              clear hown3 hb3 HCL hd3
              go_wp2_with (at_builtin; refine wpList_push (wr := w3) rfl _ _ 25 rfl _ 23 (.slice none 0 0) 1 24 Try.underlying25 info_rows8 rfl (by decide) (by decide) _ _ _ rfl hown 1 1 [.slice A3 n c3] rfl rfl rfl rfl ?pn1 hsz ?_)
              case pn1 => omega
              intro v4 w4 hown4 hg4 hd4
              have ht4 := ht3.grown hown (by decide) hg4
              have hts4 := hts.grown hown (by decide) hg4
              have hb4 := hd4 w hb (Nat.le_refl _)
              clear hg4 hd4 hown hts ht3
              go_wp2_with fail
              go_roundw
              case rel =>
                have hss := HGO.out HL2.out
                rw [List.drop_drop] at hss
                have hsn := hts4.snoc (A := A3) (c := c3) (xs := bytes ((b.drop (U + 4)).take n)) (by rw [bytes_length, HP.out]; exact hn3) hm3 ht4
                rw [bytes_length, HP.out] at hsn
                refine ⟨k + 1, cells ++ [.slice A3 n c3], ?_, ?_, ?_, ?_, hb4⟩
                · rw [hss]; simp only; omega
                · rw [hss]; simp only; go_num
                · rw [hss]; simp only [List.length_append, List.length_cons, List.length_nil]; exact hown4
                · rw [hss]; simp only [List.map_append, List.map_cons, List.map_nil]; exact hsn
              case measure => simp [intOf] <;> omega
          · rw [if_neg hcu] at hrP hsl
            clear hcu
            as_aux_lemma =>
              have HCL := Lib.hid hrP
              clear hrP
              go_wp2_with (at_builtin; refine wpList_pushAll rfl _ _ 23 rfl _ 5 (.int .u8 0) 1 1 Try.underlying23 info_u8 rfl (by decide) (by decide) _ _ _ (by rfl) (own_new w1 #[] 0 1 _ (by decide) rfl) _ _ _ _ (by rfl) (HCL.out.alloc _) (by rw [bytes_length, HP.out]; omega) (bytes_one _) ?pn4 (by simp) ?_)
              case pn4 => omega
              intro v3 w3 hown3 hg3 hd3
              clear hg3
              have hb3 : Old w1 w3 := hd3 w1 ((Old.refl w1).alloc _) (Nat.le_refl _)
              obtain ⟨A3, c3, rfl, ht3, hn3, hm3⟩ := hown3.shape
              replace hown := hown.up hb3
              replace hts := hts.up hb3
              replace hb := hb.up hb3
              have hsz := hb.size
              clear hown3 hb3 HCL hd3
              go_wp2_with (at_builtin; refine wpList_push (wr := w3) rfl _ _ 25 rfl _ 23 (.slice none 0 0) 1 24 Try.underlying25 info_rows8 rfl (by decide) (by decide) _ _ _ rfl hown 1 1 [.slice A3 n c3] rfl rfl rfl rfl ?pn2 hsz ?_)
              case pn2 => omega
              intro v4 w4 hown4 hg4 hd4
              have ht4 := ht3.grown hown (by decide) hg4
              have hts4 := hts.grown hown (by decide) hg4
              have hb4 := hd4 w hb (Nat.le_refl _)
              clear hg4 hd4 hown hts ht3
              go_wp2_with fail
              go_roundw
              case rel =>
                have hss := HGO.out HL2.out
                rw [List.drop_drop] at hss
                have hsn := hts4.snoc (A := A3) (c := c3) (xs := bytes ((b.drop (U + 4)).take n)) (by rw [bytes_length, HP.out]; exact hn3) hm3 ht4
                rw [bytes_length, HP.out] at hsn
                refine ⟨k + 1, cells ++ [.slice A3 n c3], ?_, ?_, ?_, ?_, hb4⟩
                · rw [hss]; simp only; omega
                · rw [hss]; simp only; go_num
                · rw [hss]; simp only [List.length_append, List.length_cons, List.length_nil]; exact hown4
                · rw [hss]; simp only [List.map_append, List.map_cons, List.map_nil]; exact hsn
              case measure => simp [intOf] <;> omega
        · have hl0 : Fr.look (b.drop U) = 0 := by rw [HLOOK.out, if_neg (by omega), if_neg hbig, if_pos (by omega)]
          have HL0 := Lib.hid hl0
          clear hl0
          go_wp2_with fail
          go_ret3
          have h2 : Fr.look (b.drop U) ≠ 2 := by rw [HL0.out]; decide
          rw [SplitPost, HCODE.out h2, HFIN.out h2, HL0.out]
          exact ⟨_, cells, rfl, hown, hts, hb⟩
    · have hl0 : Fr.look (b.drop U) = 0 := by rw [HLOOK.out, if_pos (by omega)]
      have HL0 := Lib.hid hl0
      clear hl0
      go_wp2_with fail
      all_goals
        go_ret3
        have h2 : Fr.look (b.drop U) ≠ 2 := by rw [HL0.out]; decide
        rw [SplitPost, HCODE.out h2, HFIN.out h2, HL0.out]
        exact ⟨_, cells, rfl, hown, hts, hb⟩
end Go.Proofs.Ytlpaemlgmmmbmaa
