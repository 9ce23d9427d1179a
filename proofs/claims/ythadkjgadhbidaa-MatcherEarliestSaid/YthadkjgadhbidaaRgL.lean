/-
  The program's reader of patterns: pattern.
-/
import Derived.Test.YthadkjgadhbidaaRgK
namespace Go.Proofs.Ythadkjgadhbidaa
open Go.RowKit
set_option linter.unusedVariables false

def PaOk (F : Nat) (w0 : World) (B g : Nat) (s : ByteArray) (a d : Nat) (N : List Nd) (R : List Nd × Ps) (v v5 : Value) (wr : World) : Prop :=
  ∃ (f : Nat) (l : List Nd) (aa : Nat) (lv : Value), f ≤ F ∧ v = .int .i64 (plc N l) ∧ v5 = .int .i64 0 ∧ 0 < l.length ∧ l.length ≤ 2 * (aa - a) + 1 ∧ a ≤ aa ∧ aa ≤ s.size ∧ Hid (RP w0 wr B g s aa d lv (N ++ l.map (shiftNd (N.length : Int)))) ∧ Hid (altLoop (bs s) f l ⟨aa, d, 0⟩ = some R)
def PaNo (w0 : World) (R : List Nd × Ps) (v v5 : Value) (wr : World) : Prop :=
  ∃ (x c : Int), v = .int .i64 x ∧ v5 = .int .i64 c ∧ c ≠ 0 ∧ R.2.e = c ∧ Hid (Old w0 wr)
def PaRel (F : Nat) (w0 : World) (B g : Nat) (s : ByteArray) (a d : Nat) (N : List Nd) (R : List Nd × Ps) (v v5 : Value) (wr : World) : Prop := PaOk F w0 B g s a d N R v v5 wr ∨ PaNo w0 R v v5 wr
theorem altLoop_bad {B : List Nat} {f : Nat} {l : List Nd} {q : Ps} {R : List Nd × Ps} (h : altLoop B f l q = some R) (he : ¬ (moreP B q = true ∧ bAt B q = 124)) : R = (l, q) := by
  cases f with
  | zero => simp [altLoop] at h
  | succ f =>
    rw [altLoop, if_neg he] at h
    exact (Option.some.inj h).symm
set_option maxHeartbeats 8000000 in
set_option maxRecDepth 100000 in
theorem patG (F : Nat) (hA : ∀ k, k ≤ F → AltG k) : PatG (F + 1) := by
  intro w0 B g s a d lv0 N w R h hs ha hd hN hR
  rw [altP] at hR
  cases hq : catP (bs s) F ⟨a, d, 0⟩ with
  | none => rw [hq] at hR; cases hR
  | some lq =>
  rw [hq] at hR
  obtain ⟨l0, ⟨a0, d0, e0⟩⟩ := lq
  simp only at hR
  have hG : Good (bs s).length ⟨a, d, 0⟩ l0 ⟨a0, d0, e0⟩ 0 := (parse_good (bs s) F).2.2.1 ⟨a, d, 0⟩ (l0, ⟨a0, d0, e0⟩) ⟨rfl, by rw [bs_length]; exact ha, hd⟩ hq
  rw [bs_length] at hG
  have HG := Lib.hid hG
  have HC := Lib.hid (hA F (Nat.le_refl _) w0 B g s a d lv0 N w (l0, ⟨a0, d0, e0⟩) h hs ha hd hN hq)
  have HRR := Lib.hid hR
  have HPT := Lib.hid (fun k hk w0 B g s a d lv N w R h1 h2 h3 h4 h5 h6 => hA k hk w0 B g s a d lv N w R h1 h2 h3 h4 h5 h6)
  have HL0 : Hid (N.length ≤ 100000) := Lib.hid hN.len
  clear h hR hG hq hA
  go_enter Try.func78, Try.ntmps78
  have HSTART : Hid (∀ e w', GPost w0 B g s d N (l0, ⟨a0, d0, e0⟩) e w' → ∃ v v5, e = .returned (.tuple #[v, v5]) ∧ PaRel F w0 B g s a d N R v v5 w') := Lib.hid (by
    intro e w' hp
    by_cases he : e0 = 0
    · subst he
      obtain ⟨g1, g2, g3, g4, g5⟩ := HG.out.ok rfl
      replace g1 : d0 = d := g1
      subst g1
      obtain ⟨rfl, lv1, hr⟩ := hp.ok rfl
      exact ⟨_, _, rfl, Or.inl ⟨F, l0, a0, lv1, Nat.le_refl _, rfl, rfl, g4, g5, g2, g3, hr, HRR.out⟩⟩
    · obtain ⟨v, rfl, ho⟩ := hp.no he
      have hE : R = (l0, ⟨a0, d0, e0⟩) := altLoop_bad HRR.out (fun h => he ((moreP_iff _ _).1 h.1).1)
      exact ⟨_, _, rfl, Or.inr ⟨v, e0, rfl, rfl, he, by rw [hE], ho⟩⟩)
  have HC2 := Lib.hid (HC.out.mono fun e w' h => HSTART.out e w' h)
  clear HC HSTART HRR HG
  go_wp2_with fail
  refine (HC2.out).mono ?_; rintro e W1 ⟨v4, v5, rfl, hrel0⟩
  have HREL := Lib.hid hrel0
  clear hrel0 HC2
  go_wp2_with fail
  go_loopw [4, 5] (fun s4 s5 wr => PaRel F w0 B g s a d N R s4 s5 wr) (fun s4 s5 _ => 2 * (200000 - intOf s4).toNat + (if intOf s5 = 0 then 1 else 0))
  case atStart => exact HREL.out
  case round =>
    clear HREL
    rcases hrel with ⟨f, l, aa, lv, hf, rfl, rfl, hl0, hl2, hl3, haa, HP, HM⟩ | ⟨x, c, rfl, rfl, hc, hre, HO⟩
    · have hen := fun n => endedC w0 B g s aa d lv _ (wr.drewN n) (HP.out.drewN n) (by omega)
      by_cases hend : aa = s.size
      · have HE : Hid (R = (l, ⟨aa, d, 0⟩)) := Lib.hid (altLoop_bad HM.out (fun h => by have h2 := ((moreP_iff _ _).1 h.1).2; rw [bs_length] at h2; simp only at h2; omega))
        rw [decide_eq_true hend] at hen
        have HEN := Lib.hid hen
        clear hen hend HM
        go_wp2_with fail
        go_quiet ((go_at_call 79; exact Calls.quiet_of (HEN.out _)))
        have HPD := Lib.hid (HP.out.drewN nq)
        generalize wr.drewN nq = W6 at *
        clear HP HEN
        have HP := Lib.hid HPD.out
        clear HPD
        have HPF := Lib.hid HP.out
        clear HP
        go_wp2_with fail
        go_ret2
        rw [HE.out]
        exact ⟨fun _ => ⟨rfl, lv, HPF.out⟩, fun e => absurd rfl e⟩
      · have hlt : aa < s.size := by omega
        have HBB := Lib.hid (bs_get s aa hlt)
        have i3 : (0 : Int) ≤ (aa : Int) := by omega
        have i4 : (aa : Int) < (s.size : Int) := by omega
        have i5 : (s.size : Int) ≤ 10000 := by omega
        rw [decide_eq_false hend] at hen
        have HEN := Lib.hid hen
        clear hen hend
        obtain ⟨c0, c1, c2, c3, f1, f2, f3⟩ := HP.out.cells
        clear c2 c3 f1 f2 f3
        by_cases h124 : s[aa].toNat = 124
        · obtain ⟨f', hf', x, q, hq, hR⟩ : ∃ f', f' ≤ F ∧ ∃ x q, catP (bs s) f' ⟨aa + 1, d, 0⟩ = some (x, q) ∧ (if q.e = 0 then altLoop (bs s) f' (joinN 4 l x) q else some ([], q)) = some R := by
            have h := HM.out
            cases f with
            | zero => simp [altLoop] at h
            | succ f =>
              rw [altLoop, if_pos ⟨(moreP_iff _ _).2 ⟨rfl, by rw [bs_length]; exact hlt⟩, HBB.out.trans h124⟩, show upP ⟨aa, d, 0⟩ = (⟨aa + 1, d, 0⟩ : Ps) from rfl] at h
              cases hq : catP (bs s) f ⟨aa + 1, d, 0⟩ with
              | none => rw [hq] at h; cases h
              | some xq =>
                rw [hq] at h
                exact ⟨f, by omega, xq.1, xq.2, hq, h⟩
          have q1 : (((s[aa].toNat : Nat) : Int) == 124) = true := by simp; omega
          obtain ⟨a1, d1, e1⟩ := q
          have hG : Good (bs s).length ⟨aa + 1, d, 0⟩ x ⟨a1, d1, e1⟩ 0 := (parse_good (bs s) f').2.2.1 ⟨aa + 1, d, 0⟩ (x, ⟨a1, d1, e1⟩) ⟨rfl, by rw [bs_length]; show aa + 1 ≤ _; omega, hd⟩ hq
          rw [bs_length] at hG
          have HG := Lib.hid hG
          have hroom : Room s (aa + 1) (N ++ l.map (shiftNd (N.length : Int))) := by
            unfold Room at hN ⊢
            rw [List.length_append, List.length_map]
            omega
          have HC := Lib.hid (fun W h => HPT.out f' hf' w0 B g s (aa + 1) d lv (N ++ l.map (shiftNd (N.length : Int))) W (x, ⟨a1, d1, e1⟩) h hs (by omega) hd hroom hq)
          have HRR := Lib.hid hR
          clear h124 HM HBB hq hG hroom hR
          go_wp2_with fail
          go_quiet ((go_at_call 79; exact Calls.quiet_of (HEN.out _)))
          have HPD := Lib.hid (HP.out.drewN nq)
          generalize wr.drewN nq = W6 at *
          clear HP HEN
          have HP := Lib.hid HPD.out
          clear HPD
          clear q1 c0 c1
          obtain ⟨c0, c1, c2, c3, f1, f2, f3⟩ := HP.out.cells
          clear c0 c2 c3 f2 f3
          have HP1 : Hid (RP w0 (W6.setCell ⟨g, 1, none⟩ (.int .i64 ((aa : Int) + 1))) B g s (aa + 1) d lv (N ++ l.map (shiftNd (N.length : Int)))) := Lib.hid (by
            have := HP.out.at_ (aa + 1)
            rw [show ((aa + 1 : Nat) : Int) = (aa : Int) + 1 by omega] at this
            exact this)
          go_upto_region 4 with fail
          clear c1 f1 HP
          generalize W6.setCell ⟨g, 1, none⟩ (.int .i64 ((aa : Int) + 1)) = W5 at *
          by_cases he : e1 = 0
          · subst he
            obtain ⟨g1, g2, g3, g4, g5⟩ := HG.out.ok rfl
            replace g1 : d1 = d := g1
            replace g2 : aa + 1 ≤ a1 := g2
            replace g3 : a1 ≤ s.size := g3
            replace g5 : x.length + 0 ≤ 2 * (a1 - (aa + 1)) + 1 := g5
            subst g1
            have HC2 := Lib.hid ((HC.out W5 HP1.out).mono fun e w' h => h.ok rfl)
            have HRN : Hid (altLoop (bs s) f' (joinN 4 l x) ⟨a1, d1, 0⟩ = some R) := Lib.hid (by have := HRR.out; rwa [if_pos rfl] at this)
            clear HC HRR HP1 HG
            go_wp2_with fail
            refine (HC2.out).mono ?_; rintro e W7 ⟨rfl, lv7, hr⟩
            have HP7 := Lib.hid hr
            clear hr HC2
            have HSJ := Lib.hid (shift_join2 4 l x N.length (by decide) g4)
            have hlen : (N ++ l.map (shiftNd (N.length : Int))).length = N.length + l.length := by rw [List.length_append, List.length_map]
            have hpx : plc (N ++ l.map (shiftNd (N.length : Int))) x = (N.length : Int) + l.length + x.length - 1 := by unfold plc; rw [hlen]; push_cast; rfl
            rw [hlen] at HP7
            have hjl : (joinN 4 l x).length = l.length + x.length + 1 := join_len _ _ _
            have hpj : plc N (joinN 4 l x) = (N.length : Int) + l.length + x.length := by unfold plc; rw [hjl]; omega
            have HA := Lib.hid (addZ w0 B g s a1 d1 lv7 _ W7 HP7.out (by
              rw [List.length_append, List.length_append, List.length_map, List.length_map]
              unfold Room at hN
              omega) 4 (plc N l) ((N.length : Int) + l.length + x.length - 1))
            rw [hpx]
            have hpl : plc N l = (N.length : Int) + l.length - 1 := rfl
            clear hpx
            go_wp2_with fail
            refine (HA.out).mono ?_; rintro e W8 ⟨rfl, lv8, hr⟩
            have HR8 : Hid (RP w0 W8 B g s a1 d1 lv8 (N ++ (joinN 4 l x).map (shiftNd (N.length : Int)))) := Lib.hid (by
              rw [HSJ.out, ← List.append_assoc, ← List.append_assoc]
              exact hr)
            clear hr HA HP7 HSJ
            go_wp2_with fail
            go_roundw
            case rel => exact Or.inl ⟨f', joinN 4 l x, a1, lv8, hf', (by rw [hpj]; congr 1; omega), rfl, by omega, by omega, by omega, g3, HR8, HRN⟩
            case measure =>
              simp [intOf]
              unfold Room at hN
              omega
          · have HC2 := Lib.hid ((HC.out W5 HP1.out).mono fun e w' h => h.no he)
            have hne : (e1 == 0) = false := by simpa using he
            have HE : Hid (R.2.e = e1) := Lib.hid (by
              have := HRR.out
              rw [if_neg he] at this
              rw [← Option.some.inj this])
            clear HC HRR HP1
            go_wp2_with fail
            refine (HC2.out).mono ?_; rintro e W7 ⟨v, rfl, ho⟩
            have HO3 := Lib.hid ho
            clear ho HC2
            go_wp2_with fail
            go_roundw
            case rel => exact Or.inr ⟨_, e1, rfl, rfl, he, HE.out, HO3⟩
            case measure =>
              simp [intOf, he]
        · have HE : Hid (R = (l, ⟨aa, d, 0⟩)) := Lib.hid (altLoop_bad HM.out (fun h => h124 (HBB.out.symm.trans h.2)))
          have q1 : (((s[aa].toNat : Nat) : Int) == 124) = false := by simp; omega
          clear h124 HM HBB
          go_wp2_with fail
          go_quiet ((go_at_call 79; exact Calls.quiet_of (HEN.out _)))
          have HPD := Lib.hid (HP.out.drewN nq)
          generalize wr.drewN nq = W6 at *
          clear HP HEN
          have HP := Lib.hid HPD.out
          clear HPD
          clear q1 c0 c1
          have HPF := Lib.hid HP.out
          clear HP
          go_wp2_with fail
          go_ret2
          rw [HE.out]
          exact ⟨fun _ => ⟨rfl, lv, HPF.out⟩, fun e => absurd rfl e⟩
    · have hne : (c == 0) = false := by simpa using hc
      have HRE := Lib.hid hre
      have HC9 := Lib.hid hc
      clear hre hc
      go_wp2_with fail
      go_quiet (fail)
      go_wp2_with fail
      go_ret2
      exact ⟨fun e => absurd (HRE.out.symm.trans e) HC9.out, fun _ => ⟨x, by rw [HRE.out]; rfl, HO.out.drewN nq⟩⟩
end Go.Proofs.Ythadkjgadhbidaa
