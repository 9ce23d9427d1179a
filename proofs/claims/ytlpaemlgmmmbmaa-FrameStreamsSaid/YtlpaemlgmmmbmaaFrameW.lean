/-
  The walks of package frame and of its reference.
-/
import Derived.Test.YtlpaemlgmmmbmaaMill
import Derived.Test.YtlpaemlgmmmbmaaFrameP
import Derived.WalkSpells
namespace Go.Proofs.Ytlpaemlgmmmbmaa
open Go.RowKit
set_option linter.unusedVariables false

theorem info_u8 : (Try.prog.info? 5).map (fun i => (i.zero, i.size, i.bytes)) = some (some (.int .u8 0), 1, 1) := by kernel_rfl
theorem info_rows8 : (Try.prog.info? 23).map (fun i => (i.zero, i.size, i.bytes)) = some (some (.slice none 0 0), 1, 24) := by kernel_rfl

/-! ### frame.size -/
theorem fsize (A : Option Addr) (c : Nat) (l : List UInt8) (w : World) (hr : Rs w A (bytes l)) (h4 : 4 ≤ l.length) (hm : l.length ≤ 68719476736) :
    Calls Try.prog 38 #[.slice A l.length c] w fun e w' => e = .returned (.int .u32 (Fr.num l)) ∧ ∃ k, w' = w.drewN k := by
  obtain ⟨b, off, rfl, _, hc⟩ := hr.at_ (by rw [bytes_length]; omega)
  have c0 := hc 0 _ (bytes_get l 0 (by omega))
  have c1 := hc 1 _ (bytes_get l 1 (by omega))
  have c2 := hc 2 _ (bytes_get l 2 (by omega))
  have c3 := hc 3 _ (bytes_get l 3 (by omega))
  rw [Nat.add_zero] at c0
  have i0 : (0 : Int) < (l.length : Int) := by omega
  have i1 : (1 : Int) < (l.length : Int) := by omega
  have i2 : (2 : Int) < (l.length : Int) := by omega
  have i3 : (3 : Int) < (l.length : Int) := by omega
  have n0 := (l.getD 0 0).toNat_lt
  have n1 := (l.getD 1 0).toNat_lt
  have n2 := (l.getD 2 0).toNat_lt
  have n3 := (l.getD 3 0).toNat_lt
  have hnum : (Fr.num l : Int) = (((l.getD 0 0).toNat * 16777216 + (l.getD 1 0).toNat * 65536 + (l.getD 2 0).toNat * 256 + (l.getD 3 0).toNat : Nat) : Int) := rfl
  rw [hnum]
  clear hc hr hnum
  generalize (l.getD 0 0).toNat = x0 at *
  generalize (l.getD 1 0).toNat = x1 at *
  generalize (l.getD 2 0).toNat = x2 at *
  generalize (l.getD 3 0).toNat = x3 at *
  have HOR := Lib.hid (Fr.or4_u32 x0 x1 x2 x3 (by omega) (by omega) (by omega) (by omega))
  go_enter Try.func38, Try.ntmps38
  go_wp2_with fail
  go_quiet (fail)
  go_wp2_with fail
  go_ret
  exact ⟨ret_int HOR.out, _, rfl⟩

/-! ### Split -/
theorem cloneB (A : Option Addr) (c : Nat) (l : List UInt8) (w : World) (hr : Rs w A (bytes l)) (hl : l.length ≤ 68719476736) :
    Calls Try.prog 39 #[.slice A l.length c] w (Made w 5 1 l.length (bytes l)) := by
  have hq := fun W a n c => Lib.run_eql_slice_nil (P := Try.prog) W 23 5 a n c 0 0 Try.underlying23
  cases A with
  | none =>
    have h0 := hr.nil_iff
    have h1 : l = [] := by simpa [bytes] using h0
    subst h1
    go_enter Try.func39, Try.ntmps39
    go_wp2_with fail
    go_ret
    exact ⟨_, rfl, Own.nil_ _ _ _ _, Old.refl _⟩
  | some ad =>
    go_enter Try.func39, Try.ntmps39
    have hown : Own (w.alloc (.cells #[] 5)) w.heap.size 5 1 (.slice (some ⟨w.heap.size, 0, none⟩) 0 0) 0 [] := own_new w #[] 0 1 _ (by decide) rfl
    go_wp2_with (at_builtin; refine wpList_pushAll rfl _ _ 23 rfl _ 5 (.int .u8 0) 1 1 Try.underlying23 info_u8 rfl (by decide) (by decide) _ _ _ (by rfl) hown _ _ _ _ (by rfl) (hr.alloc _) (by rw [bytes_length, Nat.mul_one]) (bytes_one _) ?pn3 (by simp) ?_)
    case pn3 => omega
    intro v' w' ho hg hd
    go_wp2_with fail
    go_ret
    refine ⟨_, rfl, ?_, hd w ((Old.refl w).alloc _) (Nat.le_refl _)⟩
    simpa using ho

/-- What Split returns: payloads, bytes, code. -/
def SplitPost (w : World) (b : List UInt8) (e : Ending) (w' : World) : Prop :=
  ∃ v cells, e = .returned (.tuple #[v, .int .i64 (Fr.fin b).2, .int .i64 (Fr.code b)]) ∧ Own w' w.heap.size 23 1 v (Fr.fin b).1.length cells ∧ TsL w' 5 cells ((Fr.fin b).1.map bytes) ∧ Old w w'

set_option maxRecDepth 100000 in
set_option maxHeartbeats 2000000 in
theorem fSplit (A : Option Addr) (c : Nat) (b : List UInt8) (w : World) (hr : Rs w A (bytes b)) (hc1 : b.length ≤ c) (hc2 : c ≤ maxLen) (hm : b.length ≤ 1000000) :
    Calls Try.prog 16 #[.slice A b.length c] w (SplitPost w b) := by
  unfold maxLen at hc2
  go_enter Try.func16, Try.ntmps16
  go_wp2_with fail
  go_loopw [5, 6] (fun v u wr => ∃ (k : Nat) (cells : List Value), 4 * k ≤ (Fr.st b k).2 ∧ u = .int .i64 (Fr.st b k).2 ∧ Own wr w.heap.size 23 1 v (Fr.st b k).1.length cells ∧ TsL wr 5 cells ((Fr.st b k).1.map bytes) ∧ Old w wr) (fun _ u _ => b.length - (intOf u).toNat)
  case atStart => exact ⟨0, [], Nat.le_refl _, rfl, Own.nil_ _ _ _ _, TsL.nil_, Old.refl _⟩
  case round =>
    obtain ⟨k, cells, h4, rfl, hown, hts, hb⟩ := hrel
    have hle := Fr.st_le b k
    have hkl := Fr.st_len b k
    have hfin := fun h => Fr.fin_of (b := b) (k := k) h (by omega)
    have hgo := fun h => Fr.st_go (b := b) (k := k) h
    have hcode : ∀ h : Fr.look (b.drop (Fr.st b k).2) ≠ 2, Fr.code b = if Fr.look (b.drop (Fr.st b k).2) = 1 then 1 else 0 := fun h => by unfold Fr.code; rw [hfin h]
    have HFIN := Lib.hid hfin
    have HGO := Lib.hid hgo
    have HCODE := Lib.hid hcode
    have hlook : Fr.look (b.drop (Fr.st b k).2) = if (b.drop (Fr.st b k).2).length < 4 then 0 else if 4096 < Fr.num (b.drop (Fr.st b k).2) then 1 else if (b.drop (Fr.st b k).2).length < 4 + Fr.num (b.drop (Fr.st b k).2) then 0 else 2 := rfl
    rw [List.length_drop] at hlook
    have HLOOK := Lib.hid hlook
    clear hfin hgo hcode hlook
    generalize hs : Fr.st b k = s at *
    obtain ⟨P, U⟩ := s
    have HS := Lib.hid hs
    clear hs
    simp only at *
    by_cases hlt : U + 4 ≤ b.length
    · have hnum := Fr.num_lt (b.drop U)
      obtain ⟨b0, off, rfl, _, _⟩ := hr.at_ (by rw [bytes_length]; omega)
      have hrU : Rs wr (some ⟨b0, off + U, none⟩) (bytes (b.drop U)) := by rw [bytes_drop]; exact (hr.up hb).drop U
      have hsz := fun c' => fsize (some ⟨b0, off + U, none⟩) c' (b.drop U) wr hrU (by rw [List.length_drop]; omega) (by rw [List.length_drop]; omega)
      rw [List.length_drop] at hsz
      have HSZ := Lib.hid hsz
      have hne : ¬ c = U := by omega
      clear hsz
      generalize hn : Fr.num (b.drop U) = n at *
      have HN := Lib.hid hn
      clear hn
      go_wp2_with fail
      refine (HSZ.out _).mono ?_; rintro e w' ⟨rfl, m, rfl⟩
      by_cases hbig : 4096 < n
      · have hl1 : Fr.look (b.drop U) = 1 := by rw [HLOOK.out, if_neg (by omega), if_pos hbig]
        have HL1 := Lib.hid hl1
        clear hl1
        go_wp2_with fail
        go_ret3
        have h2 : Fr.look (b.drop U) ≠ 2 := by rw [HL1.out]; decide
        rw [SplitPost, HCODE.out h2, HFIN.out h2, HL1.out]
        exact ⟨_, cells, rfl, hown, hts, hb.drewN m⟩
      · by_cases hfit : U + 4 + n ≤ b.length
        · have hl2 : Fr.look (b.drop U) = 2 := by rw [HLOOK.out, if_neg (by omega), if_neg hbig, if_neg (by omega)]
          have HL2 := Lib.hid hl2
          have hpl : ((b.drop (U + 4)).take n).length = n := by rw [List.length_take, List.length_drop]; omega
          have hrP : Rs wr (if c = U + 4 then some ⟨b0, off, none⟩ else some ⟨b0, off + (U + 4), none⟩) (bytes ((b.drop (U + 4)).take n)) := by
            by_cases hcu : c = U + 4
            · left
              have : n = 0 := by omega
              subst this; simp [bytes]
            · rw [if_neg hcu, bytes_take, bytes_drop]
              exact ((hr.up hb).drop (U + 4)).take n
          have hcl := fun c' => cloneB (if c = U + 4 then some ⟨b0, off, none⟩ else some ⟨b0, off + (U + 4), none⟩) c' ((b.drop (U + 4)).take n) (wr.drewN m) (hrP.drewN m) (by omega)
          rw [hpl] at hcl
          have HP := Lib.hid hpl
          have hsl := fun W => run_slice_mid (P := Try.prog) (t := 23) (by kernel_rfl) (fun _ => rfl) b0 off b.length c (U + 4) n ((U : Int) + 4) ((U : Int) + 4 + (n : Int)) (by omega) (by omega) (by omega) W
          clear hl2 hpl hrP hrU
          by_cases hcu : c = U + 4
          · subst hcu
            rw [if_pos rfl] at hcl hsl
            have HCL := Lib.hid hcl
            clear hcl
            go_wp2_with fail
            refine (HCL.out _).mono ?_; rintro e w3 ⟨v3, rfl, hown3, hb3⟩
            obtain ⟨A3, c3, rfl, ht3, hn3, hm3⟩ := hown3.shape
            replace hown := (hown.up ((Old.refl wr).drewN m)).up hb3
            replace hts := (hts.up ((Old.refl wr).drewN m)).up hb3
            replace hb := (hb.drewN m).up hb3
            have hsz := hb.size
            clear hown3 hb3 HCL
            go_wp2_with (at_builtin; refine wpList_push (wr := w3) rfl _ _ 25 rfl _ 23 (.slice none 0 0) 1 24 Try.underlying25 info_rows8 rfl (by decide) (by decide) _ _ _ rfl hown 1 1 [.slice A3 n c3] rfl rfl rfl rfl ?pn1 hsz ?_)
            case pn1 => omega
            intro v4 w4 hown4 hg4 hd4
            have ht4 := ht3.grown hown (by decide) hg4
            have hts4 := hts.grown hown (by decide) hg4
            have hb4 := hd4 w hb (Nat.le_refl _)
            clear hg4 hd4 hown hts ht3
            go_wp2_with fail
            go_roundw
            case rel =>
              have hss := HGO.out HL2.out
              rw [List.drop_drop] at hss
              have hsn := hts4.snoc (A := A3) (c := c3) (xs := bytes ((b.drop (U + 4)).take n)) (by rw [bytes_length, HP.out]; exact hn3) hm3 ht4
              rw [bytes_length, HP.out] at hsn
              refine ⟨k + 1, cells ++ [.slice A3 n c3], ?_, ?_, ?_, ?_, hb4⟩
              · rw [hss]; simp only; omega
              · rw [hss]; simp only; go_num
              · rw [hss]; simp only [List.length_append, List.length_cons, List.length_nil]; exact hown4
              · rw [hss]; simp only [List.map_append, List.map_cons, List.map_nil]; exact hsn
            case measure => simp [intOf] <;> omega
          · rw [if_neg hcu] at hcl hsl
            have HCL := Lib.hid hcl
            clear hcl
            go_wp2_with fail
            refine (HCL.out _).mono ?_; rintro e w3 ⟨v3, rfl, hown3, hb3⟩
            obtain ⟨A3, c3, rfl, ht3, hn3, hm3⟩ := hown3.shape
            replace hown := (hown.up ((Old.refl wr).drewN m)).up hb3
            replace hts := (hts.up ((Old.refl wr).drewN m)).up hb3
            replace hb := (hb.drewN m).up hb3
            have hsz := hb.size
            clear hown3 hb3 HCL
            go_wp2_with (at_builtin; refine wpList_push (wr := w3) rfl _ _ 25 rfl _ 23 (.slice none 0 0) 1 24 Try.underlying25 info_rows8 rfl (by decide) (by decide) _ _ _ rfl hown 1 1 [.slice A3 n c3] rfl rfl rfl rfl ?pn2 hsz ?_)
            case pn2 => omega
            intro v4 w4 hown4 hg4 hd4
            have ht4 := ht3.grown hown (by decide) hg4
            have hts4 := hts.grown hown (by decide) hg4
            have hb4 := hd4 w hb (Nat.le_refl _)
            clear hg4 hd4 hown hts ht3
            go_wp2_with fail
            go_roundw
            case rel =>
              have hss := HGO.out HL2.out
              rw [List.drop_drop] at hss
              have hsn := hts4.snoc (A := A3) (c := c3) (xs := bytes ((b.drop (U + 4)).take n)) (by rw [bytes_length, HP.out]; exact hn3) hm3 ht4
              rw [bytes_length, HP.out] at hsn
              refine ⟨k + 1, cells ++ [.slice A3 n c3], ?_, ?_, ?_, ?_, hb4⟩
              · rw [hss]; simp only; omega
              · rw [hss]; simp only; go_num
              · rw [hss]; simp only [List.length_append, List.length_cons, List.length_nil]; exact hown4
              · rw [hss]; simp only [List.map_append, List.map_cons, List.map_nil]; exact hsn
            case measure => simp [intOf] <;> omega
        · have hl0 : Fr.look (b.drop U) = 0 := by rw [HLOOK.out, if_neg (by omega), if_neg hbig, if_pos (by omega)]
          have HL0 := Lib.hid hl0
          clear hl0
          go_wp2_with fail
          go_ret3
          have h2 : Fr.look (b.drop U) ≠ 2 := by rw [HL0.out]; decide
          rw [SplitPost, HCODE.out h2, HFIN.out h2, HL0.out]
          exact ⟨_, cells, rfl, hown, hts, hb.drewN m⟩
    · have hl0 : Fr.look (b.drop U) = 0 := by rw [HLOOK.out, if_pos (by omega)]
      have HL0 := Lib.hid hl0
      clear hl0
      go_wp2_with fail
      go_ret3
      have h2 : Fr.look (b.drop U) ≠ 2 := by rw [HL0.out]; decide
      rw [SplitPost, HCODE.out h2, HFIN.out h2, HL0.out]
      exact ⟨_, cells, rfl, hown, hts, hb⟩

end Go.Proofs.Ytlpaemlgmmmbmaa
