/-
  The program's reader of patterns: alternative.
-/
import Derived.Test.YthadkjgadhbidaaRgJ
namespace Go.Proofs.Ythadkjgadhbidaa
open Go.RowKit
set_option linter.unusedVariables false

def lft (N l : List Nd) : Int := if l.length = 0 then -1 else plc N l
theorem lft_nil (N : List Nd) : lft N [] = -1 := rfl
theorem lft_pos {N l : List Nd} (h : 0 < l.length) : lft N l = plc N l ∧ 0 ≤ plc N l := by
  unfold lft plc
  rw [if_neg (by omega)]
  exact ⟨rfl, by omega⟩
def AtRel (F : Nat) (w0 : World) (B g : Nat) (s : ByteArray) (a d : Nat) (N : List Nd) (R : List Nd × Ps) (v : Value) (wr : World) : Prop :=
  ∃ (f : Nat) (l : List Nd) (aa : Nat) (lv : Value), f ≤ F ∧ v = .int .i64 (lft N l) ∧ (l = [] ∧ aa = a ∨ 0 < l.length ∧ l.length + 2 ≤ 2 * (aa - a) + 1 ∧ a ≤ aa) ∧ aa ≤ s.size ∧ Hid (RP w0 wr B g s aa d lv (N ++ l.map (shiftNd (N.length : Int)))) ∧ Hid (catLoop (bs s) f l ⟨aa, d, 0⟩ = some R)
set_option maxHeartbeats 8000000 in
set_option maxRecDepth 100000 in
theorem altG (F : Nat) (hA : ∀ k, k ≤ F → PartG k) : AltG (F + 1) := by
  intro w0 B g s a d lv0 N w R h hs ha hd hN hR
  rw [catP] at hR
  have HP0 := Lib.hid h
  have HRR := Lib.hid hR
  have HPT := Lib.hid (fun k hk w0 B g s a d lv N w R h1 h2 h3 h4 h5 h6 => hA k hk w0 B g s a d lv N w R h1 h2 h3 h4 h5 h6)
  have HL0 : Hid (N.length ≤ 100000) := Lib.hid hN.len
  clear h hR hA
  go_enter Try.func87, Try.ntmps87
  go_wp2_with fail
  go_loopw [4] (fun s4 wr => AtRel F w0 B g s a d N R s4 wr) (fun s4 _ => (200000 - intOf s4).toNat)
  case atStart => exact ⟨F, [], a, lv0, Nat.le_refl _, rfl, Or.inl ⟨rfl, rfl⟩, ha, Lib.hid (by have := HP0.out; simpa using this), HRR⟩
  case round =>
    clear HP0 HRR
    obtain ⟨f, l, aa, lv, hf, rfl, hl, haa, HP, HM⟩ := hrel
    have hen := fun n => endedC w0 B g s aa d lv _ (wr.drewN n) (HP.out.drewN n) (by omega)
    by_cases hend : aa = s.size
    · have HE : Hid (R = (if l.length = 0 then leafN 1 0 else l, ⟨aa, d, 0⟩)) := Lib.hid (by
        have h := HM.out
        cases f with
        | zero => simp [catLoop] at h
        | succ f =>
          rw [catLoop, if_neg (fun h => by have h2 := ((moreP_iff _ _).1 h.1).2; rw [bs_length] at h2; simp only at h2; omega)] at h
          exact (Option.some.inj h).symm)
      rw [decide_eq_true hend] at hen
      have HEN := Lib.hid hen
      clear hen hend HM
      go_wp2_with fail
      go_quiet ((go_at_call 79; exact Calls.quiet_of (HEN.out _)))
      have HPD := Lib.hid (HP.out.drewN nq)
      generalize wr.drewN nq = W6 at *
      clear HP HEN
      have HP := Lib.hid HPD.out
      clear HPD
      rcases hl with ⟨rfl, rfl⟩ | ⟨hl0, hl2, hl3⟩
      · have HE2 : Hid (R = (leafN 1 0, ⟨aa, d, 0⟩)) := Lib.hid HE.out
        have HP' : Hid (RP w0 W6 B g s aa d lv N) := Lib.hid (by have := HP.out; simpa using this)
        have HA := Lib.hid (fun W (h : RP w0 W B g s aa d lv N) => addZ w0 B g s aa d lv N W h HL0.out 1 0 0)
        have HLN : Hid (lft N [] = -1) := Lib.hid rfl
        clear HE HP
        go_wp2_with fail
        refine (HA.out _ HP'.out).mono ?_; rintro e W9 ⟨rfl, lv9, hr⟩
        have HR9 := Lib.hid hr
        clear hr HA HP'
        go_wp2_with fail
        go_ret2
        exact leaf_post HE2.out (by decide) HR9.out
      · have HE2 : Hid (R = (l, ⟨aa, d, 0⟩)) := Lib.hid (by rw [HE.out, if_neg (by omega)])
        obtain ⟨e1, e2⟩ := lft_pos (N := N) hl0
        rw [e1]
        clear HE e1
        have HPF := Lib.hid HP.out
        clear HP
        go_wp2_with fail
        go_ret2
        rw [HE2.out]
        exact ⟨fun _ => ⟨rfl, lv, HPF.out⟩, fun e => absurd rfl e⟩
    · have hlt : aa < s.size := by omega
      have HBB := Lib.hid (bs_get s aa hlt)
      have i3 : (0 : Int) ≤ (aa : Int) := by omega
      have i4 : (aa : Int) < (s.size : Int) := by omega
      have i5 : (s.size : Int) ≤ 10000 := by omega
      have hmo : moreP (bs s) ⟨aa, d, 0⟩ = true := (moreP_iff _ _).2 ⟨rfl, by rw [bs_length]; exact hlt⟩
      have HMO := Lib.hid hmo
      rw [decide_eq_false hend] at hen
      have HEN := Lib.hid hen
      clear hen hend hmo
      obtain ⟨c0, c1, c2, c3, f1, f2, f3⟩ := HP.out.cells
      clear c2 c3 f1 f2 f3
      by_cases h124 : s[aa].toNat = 124
      · have HE : Hid (R = (if l.length = 0 then leafN 1 0 else l, ⟨aa, d, 0⟩)) := Lib.hid (by
          have h := HM.out
          cases f with
          | zero => simp [catLoop] at h
          | succ f =>
            rw [catLoop, if_neg (fun h => h.2.1 (HBB.out.trans h124))] at h
            exact (Option.some.inj h).symm)
        have q1 : (((s[aa].toNat : Nat) : Int) != 124) = false := by simp; omega
        clear h124 HM HBB HMO
        go_wp2_with fail
        go_quiet ((go_at_call 79; exact Calls.quiet_of (HEN.out _)))
        have HPD := Lib.hid (HP.out.drewN nq)
        generalize wr.drewN nq = W6 at *
        clear HP HEN
        have HP := Lib.hid HPD.out
        clear HPD
        clear q1 c0 c1
        rcases hl with ⟨rfl, rfl⟩ | ⟨hl0, hl2, hl3⟩
        · have HE2 : Hid (R = (leafN 1 0, ⟨aa, d, 0⟩)) := Lib.hid HE.out
          have HP' : Hid (RP w0 W6 B g s aa d lv N) := Lib.hid (by have := HP.out; simpa using this)
          have HA := Lib.hid (fun W (h : RP w0 W B g s aa d lv N) => addZ w0 B g s aa d lv N W h HL0.out 1 0 0)
          have HLN : Hid (lft N [] = -1) := Lib.hid rfl
          clear HE HP
          go_wp2_with fail
          refine (HA.out _ HP'.out).mono ?_; rintro e W9 ⟨rfl, lv9, hr⟩
          have HR9 := Lib.hid hr
          clear hr HA HP'
          go_wp2_with fail
          go_ret2
          exact leaf_post HE2.out (by decide) HR9.out
        · have HE2 : Hid (R = (l, ⟨aa, d, 0⟩)) := Lib.hid (by rw [HE.out, if_neg (by omega)])
          obtain ⟨e1, e2⟩ := lft_pos (N := N) hl0
          rw [e1]
          clear HE e1
          have HPF := Lib.hid HP.out
          clear HP
          go_wp2_with fail
          go_ret2
          rw [HE2.out]
          exact ⟨fun _ => ⟨rfl, lv, HPF.out⟩, fun e => absurd rfl e⟩
      by_cases h41 : s[aa].toNat = 41
      · have HE : Hid (R = (if l.length = 0 then leafN 1 0 else l, ⟨aa, d, 0⟩)) := Lib.hid (by
          have h := HM.out
          cases f with
          | zero => simp [catLoop] at h
          | succ f =>
            rw [catLoop, if_neg (fun h => h.2.2 (HBB.out.trans h41))] at h
            exact (Option.some.inj h).symm)
        have q1 : (((s[aa].toNat : Nat) : Int) != 124) = true := by simp; omega
        have q2 : (((s[aa].toNat : Nat) : Int) != 41) = false := by simp; omega
        clear h124 h41 HM HBB HMO
        go_wp2_with fail
        go_quiet ((go_at_call 79; exact Calls.quiet_of (HEN.out _)))
        have HPD := Lib.hid (HP.out.drewN nq)
        generalize wr.drewN nq = W6 at *
        clear HP HEN
        have HP := Lib.hid HPD.out
        clear HPD
        clear q1 q2 c0 c1
        rcases hl with ⟨rfl, rfl⟩ | ⟨hl0, hl2, hl3⟩
        · have HE2 : Hid (R = (leafN 1 0, ⟨aa, d, 0⟩)) := Lib.hid HE.out
          have HP' : Hid (RP w0 W6 B g s aa d lv N) := Lib.hid (by have := HP.out; simpa using this)
          have HA := Lib.hid (fun W (h : RP w0 W B g s aa d lv N) => addZ w0 B g s aa d lv N W h HL0.out 1 0 0)
          have HLN : Hid (lft N [] = -1) := Lib.hid rfl
          clear HE HP
          go_wp2_with fail
          refine (HA.out _ HP'.out).mono ?_; rintro e W9 ⟨rfl, lv9, hr⟩
          have HR9 := Lib.hid hr
          clear hr HA HP'
          go_wp2_with fail
          go_ret2
          exact leaf_post HE2.out (by decide) HR9.out
        · have HE2 : Hid (R = (l, ⟨aa, d, 0⟩)) := Lib.hid (by rw [HE.out, if_neg (by omega)])
          obtain ⟨e1, e2⟩ := lft_pos (N := N) hl0
          rw [e1]
          clear HE e1
          have HPF := Lib.hid HP.out
          clear HP
          go_wp2_with fail
          go_ret2
          rw [HE2.out]
          exact ⟨fun _ => ⟨rfl, lv, HPF.out⟩, fun e => absurd rfl e⟩
      · obtain ⟨f', hf', x, q, hq, hR⟩ : ∃ f', f' ≤ F ∧ ∃ x q, partP (bs s) f' ⟨aa, d, 0⟩ = some (x, q) ∧ (if q.e = 0 then catLoop (bs s) f' (if l.length = 0 then x else joinN 3 l x) q else some ([], q)) = some R := by
          have h := HM.out
          cases f with
          | zero => simp [catLoop] at h
          | succ f =>
            rw [catLoop, if_pos ⟨HMO.out, fun e => h124 (HBB.out.symm.trans e), fun e => h41 (HBB.out.symm.trans e)⟩] at h
            cases hq : partP (bs s) f ⟨aa, d, 0⟩ with
            | none => rw [hq] at h; cases h
            | some xq =>
              rw [hq] at h
              exact ⟨f, by omega, xq.1, xq.2, hq, h⟩
        have q1 : (((s[aa].toNat : Nat) : Int) != 124) = true := by simp; omega
        have q2 : (((s[aa].toNat : Nat) : Int) != 41) = true := by simp; omega
        obtain ⟨a1, d1, e1⟩ := q
        have hG : Good (bs s).length ⟨aa, d, 0⟩ x ⟨a1, d1, e1⟩ 2 := (parse_good (bs s) f').2.2.2.2.1 ⟨aa, d, 0⟩ (x, ⟨a1, d1, e1⟩) ⟨rfl, by rw [bs_length]; show aa ≤ _; omega, hd⟩ (by rw [bs_length]; exact hlt) hq
        rw [bs_length] at hG
        have HG := Lib.hid hG
        have hroom : Room s aa (N ++ l.map (shiftNd (N.length : Int))) := by
          unfold Room at hN ⊢
          rw [List.length_append, List.length_map]
          rcases hl with ⟨rfl, rfl⟩ | ⟨hl0, hl2, hl3⟩
          · simp; omega
          · omega
        have HC := Lib.hid (fun W h => HPT.out f' hf' w0 B g s aa d lv (N ++ l.map (shiftNd (N.length : Int))) W (x, ⟨a1, d1, e1⟩) h hs hlt hd hroom hq)
        have HRR := Lib.hid hR
        clear h124 h41 HM HBB HMO hq hG hroom hR
        go_wp2_with fail
        go_quiet ((go_at_call 79; exact Calls.quiet_of (HEN.out _)))
        have HPD := Lib.hid (HP.out.drewN nq)
        generalize wr.drewN nq = W6 at *
        clear HP HEN
        have HP := Lib.hid HPD.out
        clear HPD
        clear q1 q2 c0 c1
        by_cases he : e1 = 0
        · subst he
          obtain ⟨g1, g2, g3, g4, g5⟩ := HG.out.ok rfl
          replace g1 : d1 = d := g1
          replace g2 : aa ≤ a1 := g2
          replace g3 : a1 ≤ s.size := g3
          replace g5 : x.length + 2 ≤ 2 * (a1 - aa) + 1 := g5
          subst g1
          have HC2 := Lib.hid ((HC.out W6 HP.out).mono fun e w' h => h.ok rfl)
          have HRN : Hid (catLoop (bs s) f' (if l.length = 0 then x else joinN 3 l x) ⟨a1, d1, 0⟩ = some R) := Lib.hid (by have := HRR.out; rwa [if_pos rfl] at this)
          clear HC HRR HP HG
          go_wp2_with fail
          refine (HC2.out).mono ?_; rintro e W7 ⟨rfl, lv7, hr⟩
          have HP7 := Lib.hid hr
          clear hr HC2
          rcases hl with ⟨rfl, rfl⟩ | ⟨hl0, hl2, hl3⟩
          · have HLN : lft N [] = -1 := rfl
            rw [HLN]
            have HP8 : Hid (RP w0 W7 B g s a1 d1 lv7 (N ++ x.map (shiftNd (N.length : Int)))) := Lib.hid (by have := HP7.out; simpa using this)
            have HVV : Hid (plc (N ++ ([] : List Nd).map (shiftNd (N.length : Int))) x = lft N x) := Lib.hid (by rw [(lft_pos g4).1]; simp)
            have HRN2 : Hid (catLoop (bs s) f' x ⟨a1, d1, 0⟩ = some R) := Lib.hid HRN.out
            rw [HVV.out]
            have hb := lft_pos (N := N) g4
            clear HP7 HRN HLN
            go_wp2_with fail
            go_roundw
            case rel => exact ⟨f', x, a1, lv7, hf', by rw [hb.1], Or.inr ⟨g4, g5, g2⟩, g3, HP8, HRN2⟩
            case measure =>
              simp [intOf]
              have h7 := lft_nil N
              have h8 := hb.1
              have h9 := hb.2
              omega
          · obtain ⟨u1, u2⟩ := lft_pos (N := N) hl0
            rw [u1]
            have HSJ := Lib.hid (shift_join2 3 l x N.length (by decide) g4)
            have hlen : (N ++ l.map (shiftNd (N.length : Int))).length = N.length + l.length := by rw [List.length_append, List.length_map]
            have hpx : plc (N ++ l.map (shiftNd (N.length : Int))) x = (N.length : Int) + l.length + x.length - 1 := by unfold plc; rw [hlen]; push_cast; rfl
            rw [hlen] at HP7
            have hjl : (joinN 3 l x).length = l.length + x.length + 1 := join_len _ _ _
            have hpj : plc N (joinN 3 l x) = (N.length : Int) + l.length + x.length := by unfold plc; rw [hjl]; omega
            have hll := lft_pos (N := N) (l := joinN 3 l x) (by omega)
            have HA := Lib.hid (addZ w0 B g s a1 d1 lv7 _ W7 HP7.out (by
              rw [List.length_append, List.length_append, List.length_map, List.length_map]
              unfold Room at hN
              omega) 3 (plc N l) ((N.length : Int) + l.length + x.length - 1))
            rw [hpx]
            have hpl : plc N l = (N.length : Int) + l.length - 1 := rfl
            have HRN2 : Hid (catLoop (bs s) f' (joinN 3 l x) ⟨a1, d1, 0⟩ = some R) := Lib.hid (by have := HRN.out; rwa [if_neg (by omega)] at this)
            clear hpx HRN
            go_wp2_with fail
            refine (HA.out).mono ?_; rintro e W8 ⟨rfl, lv8, hr⟩
            have HR8 : Hid (RP w0 W8 B g s a1 d1 lv8 (N ++ (joinN 3 l x).map (shiftNd (N.length : Int)))) := Lib.hid (by
              rw [HSJ.out, ← List.append_assoc, ← List.append_assoc]
              exact hr)
            have HVV : Hid ((((N ++ l.map (shiftNd (N.length : Int))) ++ x.map (shiftNd ((N.length + l.length : Nat) : Int))).length : Int) = lft N (joinN 3 l x)) := Lib.hid (by
              rw [hll.1, hpj, List.length_append, List.length_append, List.length_map, List.length_map]
              push_cast
              rfl)
            clear hr HA HP7 HSJ
            go_wp2_with fail
            go_roundw
            case rel => exact ⟨f', joinN 3 l x, a1, lv8, hf', (by rw [hll.1, hpj]; congr 1; omega), Or.inr ⟨by omega, by omega, by omega⟩, g3, HR8, HRN2⟩
            case measure =>
              simp [intOf]
              unfold Room at hN
              omega
        · have HC2 := Lib.hid ((HC.out W6 HP.out).mono fun e w' h => h.no he)
          have hne : (e1 != 0) = true := by simpa using he
          have HE : Hid (R = ([], ⟨a1, d1, e1⟩)) := Lib.hid (by
            have := HRR.out
            rw [if_neg he] at this
            exact (Option.some.inj this).symm)
          clear HC HRR HP
          go_wp2_with fail
          refine (HC2.out).mono ?_; rintro e W7 ⟨v, rfl, ho⟩
          have HO3 := Lib.hid ho
          clear ho HC2
          go_wp2_with fail
          go_ret2
          rw [HE.out]
          exact ⟨fun e => absurd e he, fun _ => ⟨0, rfl, HO3.out⟩⟩
end Go.Proofs.Ythadkjgadhbidaa
