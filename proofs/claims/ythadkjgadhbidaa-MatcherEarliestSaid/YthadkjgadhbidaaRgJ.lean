/-
  The program's reader of patterns: part.
-/
import Derived.Test.YthadkjgadhbidaaRgI
namespace Go.Proofs.Ythadkjgadhbidaa
open Go.RowKit
set_option linter.unusedVariables false

theorem plc_join1 (N l : List Nd) (k : Int) : plc N (joinN k l []) = plc N l + 1 := by unfold plc; rw [join_len]; simp; omega
theorem partLoop_bad {B : List Nat} {f : Nat} {l : List Nd} {q : Ps} {R : List Nd × Ps} (h : partLoop B f l q = some R) (he : moreP B q = false) : R = (l, q) := by
  cases f with
  | zero => simp [partLoop] at h
  | succ f =>
    rw [partLoop, if_neg (by rw [he]; decide)] at h
    exact (Option.some.inj h).symm
def PtRel (w0 : World) (B g : Nat) (s : ByteArray) (a d : Nat) (N : List Nd) (R : List Nd × Ps) (v : Value) (wr : World) : Prop :=
  ∃ (f : Nat) (l : List Nd) (aa : Nat) (lv : Value), v = .int .i64 (plc N l) ∧ 0 < l.length ∧ l.length + 2 ≤ 2 * (aa - a) + 1 ∧ a ≤ aa ∧ aa ≤ s.size ∧ Hid (RP w0 wr B g s aa d lv (N ++ l.map (shiftNd (N.length : Int)))) ∧ Hid (partLoop (bs s) f l ⟨aa, d, 0⟩ = some R)
set_option maxHeartbeats 8000000 in
set_option maxRecDepth 100000 in
theorem partG (f : Nat) (hA : AtomG f) : PartG (f + 1) := by
  intro w0 B g s a d lv0 N w R h hs ha hd hN hR
  rw [partP] at hR
  cases hq : atomP (bs s) f ⟨a, d, 0⟩ with
  | none => rw [hq] at hR; cases hR
  | some lq =>
  rw [hq] at hR
  obtain ⟨l0, ⟨a0, d0, e0⟩⟩ := lq
  simp only at hR
  have hG : Good (bs s).length ⟨a, d, 0⟩ l0 ⟨a0, d0, e0⟩ 2 := (parse_good (bs s) f).2.2.2.2.2.2 ⟨a, d, 0⟩ (l0, ⟨a0, d0, e0⟩) ⟨rfl, by rw [bs_length]; show a ≤ _; omega, hd⟩ (by rw [bs_length]; exact ha) hq
  rw [bs_length] at hG
  have HG := Lib.hid hG
  have HC := Lib.hid (hA w0 B g s a d lv0 N w (l0, ⟨a0, d0, e0⟩) h hs ha hd hN hq)
  have HRR := Lib.hid hR
  have HL : Hid (∀ (aa : Nat) (l : List Nd), l.length + 2 ≤ 2 * (aa - a) + 1 → aa ≤ s.size → N.length + l.length ≤ 100000) := Lib.hid (fun aa l h1 h2 => by unfold Room at hN; omega)
  clear h hR hG hq
  go_enter Try.func90, Try.ntmps90
  by_cases he : e0 = 0
  · subst he
    obtain ⟨g1, g2, g3, g4, g5⟩ := HG.out.ok rfl
    replace g1 : d0 = d := g1
    replace g2 : a ≤ a0 := g2
    replace g3 : a0 ≤ s.size := g3
    replace g5 : l0.length + 2 ≤ 2 * (a0 - a) + 1 := g5
    subst g1
    have HC2 := Lib.hid (HC.out.mono fun e w' h => h.ok rfl)
    clear HC
    go_wp2_with fail
    refine (HC2.out).mono ?_; rintro e W1 ⟨rfl, lv1, hr⟩
    have HP1 := Lib.hid hr
    clear hr HC2
    go_wp2_with fail
    go_loopw [4] (fun s4 wr => PtRel w0 B g s a d0 N R s4 wr) (fun s4 _ => (200000 - intOf s4).toNat)
    case atStart => exact ⟨f, l0, a0, lv1, rfl, g4, by omega, g2, g3, HP1, HRR⟩
    case round =>
      clear HP1 HRR HG g2 g3 g4 g5
      obtain ⟨f, l, aa, lv, rfl, hl0, hl2, hage, haa, HP, HM⟩ := hrel
      generalize d0 = d at *
      have hen := endedC w0 B g s aa d lv _ wr HP.out (by omega)
      have HPB : Hid (plc N l ≤ 120000 ∧ 0 ≤ plc N l) := Lib.hid (by have := HL.out aa l hl2 haa; unfold plc; omega)
      by_cases hend : aa = s.size
      · have HE : Hid (R = (l, ⟨aa, d, 0⟩)) := Lib.hid (partLoop_bad HM.out (by unfold moreP; rw [bs_length]; simp; omega))
        rw [decide_eq_true hend] at hen
        have HEN := Lib.hid hen
        clear hen hend HM
        go_wp2_with fail
        refine (HEN.out).mono ?_; rintro e W5 ⟨rfl, n5, rfl⟩
        have HPD := Lib.hid (HP.out.drewN n5)
        generalize wr.drewN n5 = W6 at *
        clear HP
        have HP := Lib.hid HPD.out
        have HPF := Lib.hid HP.out
        go_wp2_with fail
        go_ret2
        rw [HE.out]
        exact ⟨fun _ => ⟨rfl, lv, HPF.out⟩, fun e => absurd rfl e⟩
      · have hlt : aa < s.size := by omega
        have HBB := Lib.hid (bs_get s aa hlt)
        have i3 : (0 : Int) ≤ (aa : Int) := by omega
        have i4 : (aa : Int) < (s.size : Int) := by omega
        have i5 : (s.size : Int) ≤ 10000 := by omega
        rw [decide_eq_false hend] at hen
        have HEN := Lib.hid hen
        clear hen hend
        go_wp2_with fail
        refine (HEN.out).mono ?_; rintro e W5 ⟨rfl, n5, rfl⟩
        have HPD := Lib.hid (HP.out.drewN n5)
        generalize wr.drewN n5 = W5' at *
        clear HP HEN
        have HP := Lib.hid HPD.out
        clear HPD
        obtain ⟨c0, c1, c2, c3, f1, f2, f3⟩ := HP.out.cells
        clear c2 c3 f1 f2 f3
        go_wp2_with fail
        go_quiet (fail)
        have HPD := Lib.hid (HP.out.drewN nq)
        generalize W5'.drewN nq = W6 at *
        clear HP c0 c1
        have HP := Lib.hid HPD.out
        clear HPD
        have hcase : s[aa].toNat = 42 ∨ s[aa].toNat = 43 ∨ s[aa].toNat = 63 ∨ (s[aa].toNat ≠ 42 ∧ s[aa].toNat ≠ 43 ∧ s[aa].toNat ≠ 63) := by omega
        rcases hcase with hb | hb | hb | ⟨n1, n2, n3⟩
        · obtain ⟨f', HM'⟩ : ∃ f', Hid (partLoop (bs s) f' (joinN 5 l []) ⟨aa + 1, d, 0⟩ = some R) := by
            have h := HM.out
            cases f with
            | zero => simp [partLoop] at h
            | succ f =>
              rw [partLoop, if_pos ((moreP_iff _ _).2 ⟨rfl, by rw [bs_length]; exact hlt⟩)] at h
              rw [show bAt (bs s) ⟨aa, d, 0⟩ = 42 from HBB.out.trans hb] at h
              exact ⟨f, h⟩
          have HSJ := Lib.hid (shift_join1 5 l N.length (by decide))
          have hpj := plc_join1 N l 5
          have hjl : (joinN 5 l []).length = l.length + 1 := by rw [join_len]; simp
          have g1 : s[aa].toNat = 42 := hb
          clear HM
          rw [g1]
          clear hb
          obtain ⟨c0, c1, c2, c3, f1, f2, f3⟩ := HP.out.cells
          clear c0 c2 c3 f2 f3
          have HP1 : Hid (RP w0 (W6.setCell ⟨g, 1, none⟩ (.int .i64 ((aa : Int) + 1))) B g s (aa + 1) d lv (N ++ l.map (shiftNd (N.length : Int)))) := Lib.hid (by
            have := HP.out.at_ (aa + 1)
            rw [show ((aa + 1 : Nat) : Int) = (aa : Int) + 1 by omega] at this
            exact this)
          go_upto_region 15 with fail
          clear c1 f1 HP
          generalize W6.setCell ⟨g, 1, none⟩ (.int .i64 ((aa : Int) + 1)) = W7 at *
          have HA := Lib.hid (addZ w0 B g s (aa + 1) d lv _ W7 HP1.out (by rw [List.length_append, List.length_map]; exact HL.out aa l hl2 haa) 5 (plc N l) 0)
          go_wp2_with fail
          refine (HA.out).mono ?_; rintro e W8 ⟨rfl, lv8, hr⟩
          have HR8 : Hid (RP w0 W8 B g s (aa + 1) d lv8 (N ++ (joinN 5 l []).map (shiftNd (N.length : Int)))) := Lib.hid (by
            rw [HSJ.out, ← List.append_assoc]
            exact hr)
          have HVV : Hid (Value.int .i64 ((N.length : Int) + (l.length : Int)) = .int .i64 (plc N (joinN 5 l []))) := Lib.hid (by
            rw [hpj]
            unfold plc
            congr 1
            omega)
          clear hr HA HP1 HSJ
          go_wp2_with fail
          go_roundw
          case rel => exact ⟨f', joinN 5 l [], aa + 1, lv8, HVV.out, by omega, by omega, by omega, by omega, HR8, HM'⟩
          case measure =>
            have h1 := HPB.out
            simp [intOf]
            unfold plc at h1 ⊢
            omega
        · obtain ⟨f', HM'⟩ : ∃ f', Hid (partLoop (bs s) f' (joinN 6 l []) ⟨aa + 1, d, 0⟩ = some R) := by
            have h := HM.out
            cases f with
            | zero => simp [partLoop] at h
            | succ f =>
              rw [partLoop, if_pos ((moreP_iff _ _).2 ⟨rfl, by rw [bs_length]; exact hlt⟩)] at h
              rw [show bAt (bs s) ⟨aa, d, 0⟩ = 43 from HBB.out.trans hb] at h
              exact ⟨f, h⟩
          have HSJ := Lib.hid (shift_join1 6 l N.length (by decide))
          have hpj := plc_join1 N l 6
          have hjl : (joinN 6 l []).length = l.length + 1 := by rw [join_len]; simp
          have g1 : s[aa].toNat = 43 := hb
          clear HM
          rw [g1]
          clear hb
          obtain ⟨c0, c1, c2, c3, f1, f2, f3⟩ := HP.out.cells
          clear c0 c2 c3 f2 f3
          have HP1 : Hid (RP w0 (W6.setCell ⟨g, 1, none⟩ (.int .i64 ((aa : Int) + 1))) B g s (aa + 1) d lv (N ++ l.map (shiftNd (N.length : Int)))) := Lib.hid (by
            have := HP.out.at_ (aa + 1)
            rw [show ((aa + 1 : Nat) : Int) = (aa : Int) + 1 by omega] at this
            exact this)
          go_upto_region 15 with fail
          clear c1 f1 HP
          generalize W6.setCell ⟨g, 1, none⟩ (.int .i64 ((aa : Int) + 1)) = W7 at *
          have HA := Lib.hid (addZ w0 B g s (aa + 1) d lv _ W7 HP1.out (by rw [List.length_append, List.length_map]; exact HL.out aa l hl2 haa) 6 (plc N l) 0)
          go_wp2_with fail
          refine (HA.out).mono ?_; rintro e W8 ⟨rfl, lv8, hr⟩
          have HR8 : Hid (RP w0 W8 B g s (aa + 1) d lv8 (N ++ (joinN 6 l []).map (shiftNd (N.length : Int)))) := Lib.hid (by
            rw [HSJ.out, ← List.append_assoc]
            exact hr)
          have HVV : Hid (Value.int .i64 ((N.length : Int) + (l.length : Int)) = .int .i64 (plc N (joinN 6 l []))) := Lib.hid (by
            rw [hpj]
            unfold plc
            congr 1
            omega)
          clear hr HA HP1 HSJ
          go_wp2_with fail
          go_roundw
          case rel => exact ⟨f', joinN 6 l [], aa + 1, lv8, HVV.out, by omega, by omega, by omega, by omega, HR8, HM'⟩
          case measure =>
            have h1 := HPB.out
            simp [intOf]
            unfold plc at h1 ⊢
            omega
        · obtain ⟨f', HM'⟩ : ∃ f', Hid (partLoop (bs s) f' (joinN 7 l []) ⟨aa + 1, d, 0⟩ = some R) := by
            have h := HM.out
            cases f with
            | zero => simp [partLoop] at h
            | succ f =>
              rw [partLoop, if_pos ((moreP_iff _ _).2 ⟨rfl, by rw [bs_length]; exact hlt⟩)] at h
              rw [show bAt (bs s) ⟨aa, d, 0⟩ = 63 from HBB.out.trans hb] at h
              exact ⟨f, h⟩
          have HSJ := Lib.hid (shift_join1 7 l N.length (by decide))
          have hpj := plc_join1 N l 7
          have hjl : (joinN 7 l []).length = l.length + 1 := by rw [join_len]; simp
          have g1 : s[aa].toNat = 63 := hb
          clear HM
          rw [g1]
          clear hb
          obtain ⟨c0, c1, c2, c3, f1, f2, f3⟩ := HP.out.cells
          clear c0 c2 c3 f2 f3
          have HP1 : Hid (RP w0 (W6.setCell ⟨g, 1, none⟩ (.int .i64 ((aa : Int) + 1))) B g s (aa + 1) d lv (N ++ l.map (shiftNd (N.length : Int)))) := Lib.hid (by
            have := HP.out.at_ (aa + 1)
            rw [show ((aa + 1 : Nat) : Int) = (aa : Int) + 1 by omega] at this
            exact this)
          go_upto_region 15 with fail
          clear c1 f1 HP
          generalize W6.setCell ⟨g, 1, none⟩ (.int .i64 ((aa : Int) + 1)) = W7 at *
          have HA := Lib.hid (addZ w0 B g s (aa + 1) d lv _ W7 HP1.out (by rw [List.length_append, List.length_map]; exact HL.out aa l hl2 haa) 7 (plc N l) 0)
          go_wp2_with fail
          refine (HA.out).mono ?_; rintro e W8 ⟨rfl, lv8, hr⟩
          have HR8 : Hid (RP w0 W8 B g s (aa + 1) d lv8 (N ++ (joinN 7 l []).map (shiftNd (N.length : Int)))) := Lib.hid (by
            rw [HSJ.out, ← List.append_assoc]
            exact hr)
          have HVV : Hid (Value.int .i64 ((N.length : Int) + (l.length : Int)) = .int .i64 (plc N (joinN 7 l []))) := Lib.hid (by
            rw [hpj]
            unfold plc
            congr 1
            omega)
          clear hr HA HP1 HSJ
          go_wp2_with fail
          go_roundw
          case rel => exact ⟨f', joinN 7 l [], aa + 1, lv8, HVV.out, by omega, by omega, by omega, by omega, HR8, HM'⟩
          case measure =>
            have h1 := HPB.out
            simp [intOf]
            unfold plc at h1 ⊢
            omega
        · have HE : Hid (R = (l, ⟨aa, d, 0⟩)) := Lib.hid (by
            have h := HM.out
            cases f with
            | zero => simp [partLoop] at h
            | succ f =>
              have e : bAt (bs s) ⟨aa, d, 0⟩ = s[aa].toNat := HBB.out
              rw [partLoop, if_pos ((moreP_iff _ _).2 ⟨rfl, by rw [bs_length]; exact hlt⟩), e, if_neg n1, if_neg n2, if_neg n3] at h
              exact (Option.some.inj h).symm)
          have q1 : (((s[aa].toNat : Nat) : Int) == 42) = false := by simp; omega
          have q2 : (((s[aa].toNat : Nat) : Int) == 43) = false := by simp; omega
          have q3 : (((s[aa].toNat : Nat) : Int) == 63) = false := by simp; omega
          clear n1 n2 n3 HM HBB
          have HPF := Lib.hid HP.out
          go_wp2_with fail
          go_ret2
          rw [HE.out]
          exact ⟨fun _ => ⟨rfl, lv, HPF.out⟩, fun e => absurd rfl e⟩
  · have HC2 := Lib.hid (HC.out.mono fun e w' h => h.no he)
    have hne : (e0 != 0) = true := by simpa using he
    have HE : Hid (R = (l0, ⟨a0, d0, e0⟩)) := Lib.hid (partLoop_bad HRR.out (by unfold moreP; simp [he]))
    clear HC HRR
    go_wp2_with fail
    refine (HC2.out).mono ?_; rintro e W3 ⟨v, rfl, ho⟩
    have HO3 := Lib.hid ho
    clear ho HC2
    go_wp2_with fail
    go_ret2
    rw [HE.out]
    exact ⟨fun e => absurd e he, fun _ => ⟨0, rfl, HO3.out⟩⟩
end Go.Proofs.Ythadkjgadhbidaa
