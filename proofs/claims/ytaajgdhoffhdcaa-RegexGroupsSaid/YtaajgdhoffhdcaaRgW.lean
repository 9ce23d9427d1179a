/-
  The walk of the statement RegexGroups.
-/
import Derived.Test.YtaajgdhoffhdcaaRgQ
import Derived.Test.YtaajgdhoffhdcaaRgP
import Derived.Test.YtaajgdhoffhdcaaRgV
import Derived.Test.YtaajgdhoffhdcaaRgX
import Derived.Laws.Concat
import Derived.Deep.DeepCutAuto
namespace Go.Proofs.Ytaajgdhoffhdcaa
open Go.RowKit
set_option linter.unusedVariables false

theorem bs_cat (a b : ByteArray) : bs (a ++ b) = bs a ++ bs b := by
  unfold bs
  rw [ByteArray.data_append, Array.toList_append, List.map_append]
theorem paren_ex (s : ByteArray) (h : s.size ≤ 1000) : ∃ t1 t2 : ByteArray, (∀ W : World, (Op.stringOp .add ⟨#[40]⟩ s).run Try.prog W = .ok (.string t1) W) ∧ (∀ W : World, (Op.stringOp .add t1 ⟨#[41]⟩).run Try.prog W = .ok (.string t2) W) ∧ bs t2 = parB (bs s) := by
  have e1 : (ByteArray.mk #[40]).size = 1 := rfl
  have e2 : (ByteArray.mk #[41]).size = 1 := rfl
  refine ⟨⟨#[40]⟩ ++ s, (⟨#[40]⟩ ++ s) ++ ⟨#[41]⟩, fun W => run_string_add_sum W _ _ (by omega), fun W => run_string_add_sum W _ _ (by rw [ByteArray.size_append]; omega), ?_⟩
  rw [bs_cat, bs_cat]
  rfl
theorem conv1 (b : Nat) (hb : b < 256) (W : World) : (convert 24 9 (.slice (some ⟨W.heap.size, 0, none⟩) 1 1)).run Try.prog (W.alloc (.cells #[.int .u8 b] 5)) = .ok (.string (strOf [b])) (W.alloc (.cells #[.int .u8 b] 5)) := by
  have hbl := heap_alloc_new W (.cells #[.int .u8 (b : Int)] 5)
  have hr : Rs (W.alloc (.cells #[.int .u8 b] 5)) (some ⟨W.heap.size, 0, none⟩) (txt [b]) := Or.inr ⟨_, 0, rfl, fun j u hj => by
    rcases j with _ | j
    · rw [cell_of_row _ _ 0 _ _ _ hbl]; exact hj
    · simp [txt] at hj⟩
  rw [txt_bytes [b] (by simpa using hb)] at hr
  exact run_str (P := Try.prog) _ (src := 24) (dst := 9) (e := 5) _ 1 ([b].map UInt8.ofNat) Try.underlying24 Try.underlying5 Try.underlying9 hr
theorem conv2 (b : Nat) (hb : b < 256) (W : World) : (convert 24 9 (.slice (some ⟨W.heap.size, 0, none⟩) 2 2)).run Try.prog (W.alloc (.cells #[.int .u8 92, .int .u8 b] 5)) = .ok (.string (strOf [92, b])) (W.alloc (.cells #[.int .u8 92, .int .u8 b] 5)) := by
  have hbl := heap_alloc_new W (.cells #[.int .u8 92, .int .u8 (b : Int)] 5)
  have hr : Rs (W.alloc (.cells #[.int .u8 92, .int .u8 b] 5)) (some ⟨W.heap.size, 0, none⟩) (txt [92, b]) := Or.inr ⟨_, 0, rfl, fun j u hj => by
    rcases j with _ | _ | j
    · rw [cell_of_row _ _ 0 _ _ _ hbl]; exact hj
    · rw [cell_of_row _ _ 1 _ _ _ hbl]; exact hj
    · simp [txt] at hj⟩
  rw [txt_bytes [92, b] (by simpa using hb)] at hr
  exact run_str (P := Try.prog) _ (src := 24) (dst := 9) (e := 5) _ 2 ([92, b].map UInt8.ofNat) Try.underlying24 Try.underlying5 Try.underlying9 hr
set_option maxHeartbeats 8000000 in
set_option maxRecDepth 100000 in
theorem groups_any (A : Option Addr) (c : Nat) (l : List Int) (b : Nat) (w : World) (hr : Rs w A (ints l)) (hm : l.length ≤ maxLen) (hb : b < 256) :
    Calls Try.prog 8 #[.slice A l.length c, .int .u8 b] w (ValOld (.bool true) w) := by
  have HR := Lib.hid hr
  have HS := Lib.hid (sane8C w)
  have HB := Lib.hid hb
  clear hr hb
  have HT := Lib.hid (fun w1 h => textC A c l w1 h hm)
  have HTL : Hid ((strOf (textM l)).size ≤ 1000) := Lib.hid (by
    have := textF_len 40 l
    have h2 := bs_length (strOf (textM l))
    rw [bs_strOf (textM l) (textF_lt 40 l)] at h2
    have h3 : (textM l).length ≤ 40 := this
    omega)
  generalize strOf (textM l) = s1 at *
  go_enter Try.func8, Try.ntmps8
  go_wp2_with fail
  refine (HS.out).mono ?_; rintro e w1 ⟨rfl, hd1⟩
  have HD1 := Lib.hid hd1
  have HT1 := Lib.hid (HT.out w1 (HR.out.up hd1))
  clear hd1 HS HT HR hm
  go_wp2_with fail
  refine (HT1.out).mono ?_; rintro e w2 ⟨rfl, hd2⟩
  have HD2 := Lib.hid (HD1.out.up hd2)
  clear hd2 HD1 HT1
  have HP := Lib.hid (parse_rs s1 w2)
  have hpe := parseR_eq (bs s1)
  have hnl := parseR_len (bs s1)
  generalize parseR (bs s1) = r at *
  obtain ⟨n1, e1⟩ := r
  have HPE := Lib.hid hpe
  have HNL : Hid (n1.length ≤ 256) := Lib.hid hnl
  clear hpe hnl
  go_wp2_with fail
  refine (HP.out).mono ?_; rintro e w3 ⟨v3, rfl, ho3, hd3⟩
  obtain ⟨A1, c1, rfl, ht3, _, _⟩ := ho3.shape
  have HN1 := Lib.hid ht3.rs
  have HD3 := Lib.hid (HD2.out.up hd3)
  clear ho3 ht3 hd3 HP HD2
  obtain ⟨t1, t2, q1, q2, q3⟩ := paren_ex s1 HTL.out
  have HP := Lib.hid (parse_rs t2 w3)
  rw [q3] at HP
  have hpe := parseR_eq (parB (bs s1))
  generalize parseR (parB (bs s1)) = r at *
  obtain ⟨n2, e2⟩ := r
  have HL := Lib.hid (fun h0 : e1 = 0 => par_law (bs s1) (n := n1) (by subst h0; exact HPE.out) hpe)
  clear hpe q3 HPE
  go_wp2_with fail
  refine (HP.out).mono ?_; rintro e w4 ⟨v4, rfl, ho4, hd4⟩
  clear q1 q2
  obtain ⟨A2, c2, rfl, ht4, _, _⟩ := ho4.shape
  have HN2 := Lib.hid ht4.rs
  have HN1' := Lib.hid (HN1.out.up hd4)
  have HD4 := Lib.hid (HD3.out.up hd4)
  clear ho4 ht4 hd4 HP HD3 HN1
  go_upto_region 6 with fail
  go_cut [42] (fun s42 wx => ∃ q, s42 = .bool q ∧ (q = true → e2 = 84 ∨ e2 = 1) ∧ Hid (Old w wx))
  case first =>
    by_cases h1 : e1 = 0
    · subst h1
      by_cases h2 : e2 = 0
      · subst h2
        have hn : n2 = n1 := by
          rcases HL.out rfl with h | h | h
          · injection h
          · exact absurd h (by decide)
          · exact absurd h (by decide)
        subst hn
        have HSA := Lib.hid (nsameC A1 c1 A2 c2 n2 w4 HN1'.out HN2.out (by have := HNL.out; unfold maxLen; omega))
        clear HL
        go_wp2_with fail
        refine (HSA.out).mono ?_; rintro e w7 ⟨rfl, nq, rfl⟩
        go_wp2_with fail
        go_meet
        exact ⟨false, rfl, (fun h => by cases h), Lib.hid (HD4.out.drewN nq)⟩
      · have h2b : (e2 != 0) = true := by simpa using h2
        have HE : Hid (e2 = 84 ∨ e2 = 1) := Lib.hid (by
          rcases HL.out rfl with h | h | h
          · injection h with _ h; exact absurd h h2
          · exact Or.inl h
          · exact Or.inr h)
        clear h2 HL
        go_wp2_with fail
        go_meet
        exact ⟨true, rfl, fun _ => HE.out, HD4⟩
    · have h1b : (e1 == 0) = false := by simpa using h1
      clear h1 HL
      go_wp2_with fail
      go_meet
      exact ⟨false, rfl, (fun h => by cases h), HD4⟩
  case rest =>
    obtain ⟨q, rfl, hq, HDC⟩ := hcut
    cases q with
    | true =>
      rcases hq rfl with rfl | rfl
      all_goals
        go_wp2_with fail
        go_ret
        exact ⟨rfl, HDC.out⟩
    | false =>
      clear hq HN1' HN2 HD4 HL HNL
      have HP1 : Hid (∀ W, Calls Try.prog 26 #[.string (strOf [b])] W (ParsePost W (parseR [b]))) := Lib.hid (fun W => by
        have := parse_rs (strOf [b]) W
        rw [bs_strOf [b] (by simpa using HB.out)] at this
        exact this)
      have HP2 : Hid (∀ W, Calls Try.prog 26 #[.string (strOf [92, b])] W (ParsePost W (parseR [92, b]))) := Lib.hid (fun W => by
        have := parse_rs (strOf [92, b]) W
        rw [bs_strOf [92, b] (by simpa using HB.out)] at this
        exact this)
      have HML := Lib.hid (fun h => mark_law (b := b) HB.out h)
      have HDOT := Lib.hid (fun h : b = 46 => show parseR [b] = ([⟨2, 0, 0, notB (withB 0 10)⟩], 0) by rw [h]; exact dot_law)
      generalize parseR [b] = r3 at *
      generalize parseR [92, b] = r4 at *
      obtain ⟨n3, e3⟩ := r3
      obtain ⟨n4, e4⟩ := r4
      have hc1 := conv1 b HB.out wc
      go_wp2_with fail
      refine (HP1.out _).mono ?_; rintro e w5 ⟨v5, rfl, ho5, hd5⟩
      clear hc1
      obtain ⟨A3, c3, rfl, ht5, _, _⟩ := ho5.shape
      have HN3 := Lib.hid ht5.rs
      have HD5 := Lib.hid ((HDC.out.alloc (.cells #[.int .u8 (b : Int)] 5)).up hd5)
      clear ho5 ht5 hd5 HP1 HDC
      have hc2 := conv2 b HB.out w5
      go_wp2_with fail
      refine (HP2.out _).mono ?_; rintro e w6 ⟨v6, rfl, ho6, hd6⟩
      clear hc2
      obtain ⟨A4, c4, rfl, ht6, _, _⟩ := ho6.shape
      have HN4 := Lib.hid ht6.rs
      have HD6 := Lib.hid ((HD5.out.alloc (.cells #[.int .u8 92, .int .u8 (b : Int)] 5)).up hd6)
      have HN3' := Lib.hid (HN3.out.up (((Old.refl w5).alloc (.cells #[.int .u8 92, .int .u8 (b : Int)] 5)).up hd6))
      clear ho6 ht6 hd6 HP2 HD5 HN3
      have HN3 := Lib.hid HN3'.out
      clear HN3'
      go_upto_region 10 with fail
      go_cut [14] (fun s14 wx => s14 = .bool (markB b) ∧ w6 = wx)
      case first =>
        have hcs : b < 33 ∨ (33 ≤ b ∧ b ≤ 47) ∨ (48 ≤ b ∧ b ≤ 57) ∨ (58 ≤ b ∧ b ≤ 64) ∨ (65 ≤ b ∧ b ≤ 90) ∨ (91 ≤ b ∧ b ≤ 96) ∨ (97 ≤ b ∧ b ≤ 122) ∨ (123 ≤ b ∧ b ≤ 126) ∨ 127 ≤ b := by omega
        clear HML HDOT
        rcases hcs with h | h | h | h | h | h | h | h | h
        · have i1 : ¬ (33 : Int) ≤ (b : Int) := by omega
          have i2 : ¬ (58 : Int) ≤ (b : Int) := by omega
          have i3 : ¬ (91 : Int) ≤ (b : Int) := by omega
          have i4 : ¬ (123 : Int) ≤ (b : Int) := by omega
          have HMK : Hid (markB b = false) := Lib.hid (by simp [markB]; omega)
          generalize hx : (b : Int) = x at *
          clear hx
          go_wp2_with fail
          go_meet
          exact ⟨congrArg Value.bool HMK.out.symm, rfl⟩
        · have i1 : (33 : Int) ≤ (b : Int) := by omega
          have i2 : (b : Int) ≤ 47 := by omega
          have HMK : Hid (markB b = true) := Lib.hid (by simp [markB]; omega)
          generalize hx : (b : Int) = x at *
          clear hx
          go_wp2_with fail
          go_meet
          exact ⟨congrArg Value.bool HMK.out.symm, rfl⟩
        · have i1 : (33 : Int) ≤ (b : Int) := by omega
          have i5 : ¬ (b : Int) ≤ 47 := by omega
          have i2 : ¬ (58 : Int) ≤ (b : Int) := by omega
          have i3 : ¬ (91 : Int) ≤ (b : Int) := by omega
          have i4 : ¬ (123 : Int) ≤ (b : Int) := by omega
          have HMK : Hid (markB b = false) := Lib.hid (by simp [markB]; omega)
          generalize hx : (b : Int) = x at *
          clear hx
          go_wp2_with fail
          go_meet
          exact ⟨congrArg Value.bool HMK.out.symm, rfl⟩
        · have i1 : (33 : Int) ≤ (b : Int) := by omega
          have i5 : ¬ (b : Int) ≤ 47 := by omega
          have i2 : (58 : Int) ≤ (b : Int) := by omega
          have i6 : (b : Int) ≤ 64 := by omega
          have HMK : Hid (markB b = true) := Lib.hid (by simp [markB]; omega)
          generalize hx : (b : Int) = x at *
          clear hx
          go_wp2_with fail
          go_meet
          exact ⟨congrArg Value.bool HMK.out.symm, rfl⟩
        · have i1 : (33 : Int) ≤ (b : Int) := by omega
          have i5 : ¬ (b : Int) ≤ 47 := by omega
          have i2 : (58 : Int) ≤ (b : Int) := by omega
          have i6 : ¬ (b : Int) ≤ 64 := by omega
          have i3 : ¬ (91 : Int) ≤ (b : Int) := by omega
          have i4 : ¬ (123 : Int) ≤ (b : Int) := by omega
          have HMK : Hid (markB b = false) := Lib.hid (by simp [markB]; omega)
          generalize hx : (b : Int) = x at *
          clear hx
          go_wp2_with fail
          go_meet
          exact ⟨congrArg Value.bool HMK.out.symm, rfl⟩
        · have i1 : (33 : Int) ≤ (b : Int) := by omega
          have i5 : ¬ (b : Int) ≤ 47 := by omega
          have i2 : (58 : Int) ≤ (b : Int) := by omega
          have i6 : ¬ (b : Int) ≤ 64 := by omega
          have i3 : (91 : Int) ≤ (b : Int) := by omega
          have i7 : (b : Int) ≤ 96 := by omega
          have HMK : Hid (markB b = true) := Lib.hid (by simp [markB]; omega)
          generalize hx : (b : Int) = x at *
          clear hx
          go_wp2_with fail
          go_meet
          exact ⟨congrArg Value.bool HMK.out.symm, rfl⟩
        · have i1 : (33 : Int) ≤ (b : Int) := by omega
          have i5 : ¬ (b : Int) ≤ 47 := by omega
          have i2 : (58 : Int) ≤ (b : Int) := by omega
          have i6 : ¬ (b : Int) ≤ 64 := by omega
          have i3 : (91 : Int) ≤ (b : Int) := by omega
          have i7 : ¬ (b : Int) ≤ 96 := by omega
          have i4 : ¬ (123 : Int) ≤ (b : Int) := by omega
          have HMK : Hid (markB b = false) := Lib.hid (by simp [markB]; omega)
          generalize hx : (b : Int) = x at *
          clear hx
          go_wp2_with fail
          go_meet
          exact ⟨congrArg Value.bool HMK.out.symm, rfl⟩
        · have i1 : (33 : Int) ≤ (b : Int) := by omega
          have i5 : ¬ (b : Int) ≤ 47 := by omega
          have i2 : (58 : Int) ≤ (b : Int) := by omega
          have i6 : ¬ (b : Int) ≤ 64 := by omega
          have i3 : (91 : Int) ≤ (b : Int) := by omega
          have i7 : ¬ (b : Int) ≤ 96 := by omega
          have i4 : (123 : Int) ≤ (b : Int) := by omega
          have i8 : (b : Int) ≤ 126 := by omega
          have HMK : Hid (markB b = true) := Lib.hid (by simp [markB]; omega)
          generalize hx : (b : Int) = x at *
          clear hx
          go_wp2_with fail
          go_meet
          exact ⟨congrArg Value.bool HMK.out.symm, rfl⟩
        · have i1 : (33 : Int) ≤ (b : Int) := by omega
          have i5 : ¬ (b : Int) ≤ 47 := by omega
          have i2 : (58 : Int) ≤ (b : Int) := by omega
          have i6 : ¬ (b : Int) ≤ 64 := by omega
          have i3 : (91 : Int) ≤ (b : Int) := by omega
          have i7 : ¬ (b : Int) ≤ 96 := by omega
          have i4 : (123 : Int) ≤ (b : Int) := by omega
          have i8 : ¬ (b : Int) ≤ 126 := by omega
          have HMK : Hid (markB b = false) := Lib.hid (by simp [markB]; omega)
          generalize hx : (b : Int) = x at *
          clear hx
          go_wp2_with fail
          go_meet
          exact ⟨congrArg Value.bool HMK.out.symm, rfl⟩
      case rest =>
        obtain ⟨rfl, rfl⟩ := hcut
        cases hmk : markB b with
        | false =>
          clear hmk HML HDOT
          go_wp2_with fail
          go_ret
          exact ⟨rfl, HD6.out⟩
        | true =>
          obtain ⟨m1, m2⟩ := HML.out hmk
          injection m1 with m1 m3
          subst m1 m3
          have HM2 := Lib.hid m2
          clear hmk HML m2
          by_cases h0 : e3 = 0
          · subst h0
            by_cases h1 : n3.length = 1
            · rw [h1]
              by_cases h2 : (nd n3 0).kind = 2
              · by_cases h3 : n3 = [⟨2, 0, 0, 2 ^ b⟩]
                · obtain ⟨xb, xoff, rfl, xbl, xcl⟩ := HN3.out.at_ (by rw [ndsV_length]; omega)
                  have xc0 := xcl _ _ (ndsV_get n3 0 (nd n3 0) (by cases n3 with | nil => simp at h1 | cons u t => rfl) 0 (by omega))
                  replace xc0 : w6.cell? ⟨xb, xoff, none⟩ = some (.int .i64 (nd n3 0).kind) := by simpa [ndCells] using xc0
                  clear xcl xbl
                  rw [h2] at xc0
                  subst h3
                  have HSA : Hid (Calls Try.prog 27 #[.slice (some ⟨xb, xoff, none⟩) 1 c3, .slice A4 1 c4] w6 (BDraw true w6)) := Lib.hid (nsameC _ c3 A4 c4 [⟨2, 0, 0, 2 ^ b⟩] w6 HN3.out HN4.out (by simp [maxLen]))
                  clear h2 h1 HM2 HDOT
                  go_wp2_with fail
                  refine (HSA.out).mono ?_; rintro e w7 ⟨rfl, nq, rfl⟩
                  go_wp2_with fail
                  go_ret
                  exact ⟨rfl, HD6.out.drewN nq⟩
                · obtain rfl : b = 46 := by
                    rcases HM2.out with h | h | h | h | h
                    · exact h
                    · exact absurd rfl h
                    · exact absurd h1 h
                    · exact absurd h2 h
                    · exact absurd h h3
                  obtain ⟨xb, xoff, rfl, xbl, xcl⟩ := HN3.out.at_ (by rw [ndsV_length]; omega)
                  have xc0 := xcl _ _ (ndsV_get n3 0 (nd n3 0) (by cases n3 with | nil => simp at h1 | cons u t => rfl) 0 (by omega))
                  replace xc0 : w6.cell? ⟨xb, xoff, none⟩ = some (.int .i64 (nd n3 0).kind) := by simpa [ndCells] using xc0
                  clear xcl xbl
                  rw [h2] at xc0
                  have hdd := HDOT.out rfl
                  injection hdd with hdd _
                  subst hdd
                  have HSA : Hid (Calls Try.prog 27 #[.slice (some ⟨xb, xoff, none⟩) 1 c3, .slice A4 1 c4] w6 (BDraw false w6)) := Lib.hid (nsameD _ c3 A4 c4 (notB (withB 0 10)) (2 ^ 46) (by decide +kernel) w6 HN3.out HN4.out)
                  clear h2 h1 h3 HM2 HDOT
                  go_wp2_with fail
                  refine (HSA.out).mono ?_; rintro e w7 ⟨rfl, nq, rfl⟩
                  go_wp2_with fail
                  go_ret
                  exact ⟨rfl, HD6.out.drewN nq⟩
              · obtain ⟨xb, xoff, rfl, xbl, xcl⟩ := HN3.out.at_ (by rw [ndsV_length]; omega)
                have xc0 := xcl _ _ (ndsV_get n3 0 (nd n3 0) (by cases n3 with | nil => simp at h1 | cons u t => rfl) 0 (by omega))
                replace xc0 : w6.cell? ⟨xb, xoff, none⟩ = some (.int .i64 (nd n3 0).kind) := by simpa [ndCells] using xc0
                clear xcl xbl
                have hk : ((nd n3 0).kind != 2) = true := by simpa using h2
                generalize (nd n3 0).kind = kd at *
                clear h2 h1 HM2 HDOT
                go_wp2_with fail
                go_ret
                exact ⟨rfl, HD6.out⟩
            · have hl : ((n3.length : Int) != 1) = true := by simp; omega
              clear h1 HM2 HDOT
              go_wp2_with fail
              go_ret
              exact ⟨rfl, HD6.out⟩
          · have hne : (e3 != 0) = true := by simpa using h0
            clear h0 HM2 HDOT
            go_wp2_with fail
            go_ret
            exact ⟨rfl, HD6.out⟩
end Go.Proofs.Ytaajgdhoffhdcaa
