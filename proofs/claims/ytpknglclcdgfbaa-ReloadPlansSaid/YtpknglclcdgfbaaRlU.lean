/-
  The walk of the reference's SameJob, once all but the lists are equal.
-/
import Derived.Test.YtpknglclcdgfbaaRlP
import Derived.Deep.DeepCutAuto
import Derived.Deep.CutBlock
namespace Go.Proofs.Ytpknglclcdgfbaa
open Go.RowKit Go.Shelf
set_option linter.unusedVariables false

set_option maxHeartbeats 8000000 in
set_option maxRecDepth 100000 in
theorem rsameJ6_eq (nm run rdy : ByteArray) (hasR : Bool) (restart base cap stable burst win : Int) (eA eA2 nA nA2 lA lA2 : Option Addr) (env env2 : List (ByteArray × ByteArray)) (needs needs2 : List ByteArray) (lad lad2 : List (Int × Int)) (ec ec2 nc nc2 lc lc2 : Nat) (line line2 col col2 : Int) (w : World) (ha : JM w ⟨nm, run, eA, env, ec, nA, needs, nc, hasR, rdy, restart, base, cap, stable, burst, win, lA, lad, lc, line, col⟩) (hb : JM w ⟨nm, run, eA2, env2, ec2, nA2, needs2, nc2, hasR, rdy, restart, base, cap, stable, burst, win, lA2, lad2, lc2, line2, col2⟩) (hl1 : env.length = env2.length) (hl2 : needs.length = needs2.length) (hl3 : lad.length = lad2.length) :
    Calls Try.prog 68 #[jdA ⟨nm, run, eA, env, ec, nA, needs, nc, hasR, rdy, restart, base, cap, stable, burst, win, lA, lad, lc, line, col⟩, jdA ⟨nm, run, eA2, env2, ec2, nA2, needs2, nc2, hasR, rdy, restart, base, cap, stable, burst, win, lA2, lad2, lc2, line2, col2⟩] w fun e w' => e = .returned (.bool (sameJ ⟨nm, run, eA, env, ec, nA, needs, nc, hasR, rdy, restart, base, cap, stable, burst, win, lA, lad, lc, line, col⟩ ⟨nm, run, eA2, env2, ec2, nA2, needs2, nc2, hasR, rdy, restart, base, cap, stable, burst, win, lA2, lad2, lc2, line2, col2⟩)) ∧ Old w w' := by
  have HA := Lib.hid ha
  have HB := Lib.hid hb
  have HLenv := Lib.hid hl1
  have HLneeds := Lib.hid hl2
  have HLlad := Lib.hid hl3
  unfold jdA
  simp only
  rw [← hl1, ← hl2, ← hl3]
  clear ha hb hl1 hl2 hl3
  obtain ⟨r1, r2, ho⟩ := two_ (Old.refl ((w.alloc (.cells #[.string nm, .string run, .slice eA env.length ec, .slice nA needs.length nc, .bool hasR, .string rdy, .int .i64 restart, .int .u64 base, .int .u64 cap, .int .u64 stable, .int .i64 burst, .int .u64 win, .slice lA lad.length lc, .int .i64 line, .int .i64 col] 33)).alloc (.cells #[.string nm, .string run, .slice eA2 env.length ec2, .slice nA2 needs.length nc2, .bool hasR, .string rdy, .int .i64 restart, .int .u64 base, .int .u64 cap, .int .u64 stable, .int .i64 burst, .int .u64 win, .slice lA2 lad.length lc2, .int .i64 line2, .int .i64 col2] 33)))
  go_enter Try.func68, Try.ntmps68
  go_upto_region 1 with fail
  generalize ((w.alloc (.cells #[.string nm, .string run, .slice eA env.length ec, .slice nA needs.length nc, .bool hasR, .string rdy, .int .i64 restart, .int .u64 base, .int .u64 cap, .int .u64 stable, .int .i64 burst, .int .u64 win, .slice lA lad.length lc, .int .i64 line, .int .i64 col] 33)).alloc (.cells #[.string nm, .string run, .slice eA2 env.length ec2, .slice nA2 needs.length nc2, .bool hasR, .string rdy, .int .i64 restart, .int .u64 base, .int .u64 cap, .int .u64 stable, .int .i64 burst, .int .u64 win, .slice lA2 lad.length lc2, .int .i64 line2, .int .i64 col2] 33)) = wa at *
  obtain ⟨⟨c0, c1, c2, c3, c4, c5, c6, c7, c8, c9, c10, c11, c12, c13, c14⟩, _⟩ := row15 r1
  obtain ⟨⟨d0, d1, d2, d3, d4, d5, d6, d7, d8, d9, d10, d11, d12, d13, d14⟩, _⟩ := row15 r2
  have HA' := Lib.hid (HA.out.up ho)
  have HB' := Lib.hid (HB.out.up ho)
  have HO := Lib.hid ho
  have lb1 := HA.out.eb
  have lb2 := HA.out.nb
  have lb3 := HA.out.lb
  simp only at lb1 lb2 lb3
  clear HA HB r1 r2 ho
  have HA := HA'
  have HB := HB'
  clear HA' HB'
  go_wp2_with fail
  go_loopw [5] (fun i wr => ∃ k m : Nat, k ≤ env.length ∧ i = .int .i64 k ∧ wr = wa.drewN m ∧ Hid (env.take k = env2.take k)) (fun i _ => env.length - (intOf i).toNat)
  case atStart => exact ⟨0, 0, Nat.zero_le _, rfl, by first | rfl | exact (World.drewN_drewN ..).symm, Lib.hid rfl⟩
  case round =>
    obtain ⟨k, m, hk, rfl, rfl, HX⟩ := hrel
    by_cases hlt : k < env.length
    · have hlt2 : k < env2.length := by rw [← HLenv.out]; exact hlt
      obtain ⟨b, off, rfl, _, hc⟩ := HA.out.env.at_ (by rw [varsV_length]; simp only; omega)
      obtain ⟨b2, off2, rfl, _, hd⟩ := HB.out.env.at_ (by rw [varsV_length]; simp only; omega)
      have x1 := hc _ _ (varsV_get env k hlt).1
      have x2 : wa.cell? ⟨b, off + k * 2 + 1, none⟩ = _ := hc _ _ (varsV_get env k hlt).2
      have y1 := hd _ _ (varsV_get env2 k hlt2).1
      have y2 : wa.cell? ⟨b2, off2 + k * 2 + 1, none⟩ = _ := hd _ _ (varsV_get env2 k hlt2).2
      clear hc hd HA HB
      have HYes : Hid (env.getD k (⟨#[]⟩, ⟨#[]⟩) = env2.getD k (⟨#[]⟩, ⟨#[]⟩) → Hid (env.take (k + 1) = env2.take (k + 1))) := Lib.hid (fun h => Lib.hid (take_more HX.out hlt hlt2 h))
      have HNo : Hid (env.getD k (⟨#[]⟩, ⟨#[]⟩) ≠ env2.getD k (⟨#[]⟩, ⟨#[]⟩) → ¬ env = env2) := Lib.hid (fun h e => h (by rw [e]))
      generalize env.getD k (⟨#[]⟩, ⟨#[]⟩) = p at *
      generalize env2.getD k (⟨#[]⟩, ⟨#[]⟩) = q at *
      obtain ⟨p1, p2⟩ := p
      obtain ⟨q1, q2⟩ := q
      simp only at x1 x2 y1 y2
      by_cases h1 : p1 = q1
      · subst h1
        by_cases h2 : p2 = q2
        · subst h2
          have HY := HYes.out rfl
          clear HYes HNo
          clear HX
          go_wp2_with fail
          go_quiet (fail)
          go_wp2_with fail
          go_roundw
          case rel => exact ⟨k + 1, m + nq, by omega, by go_num, by first | rfl | exact World.drewN_drewN .., HY.out⟩
          case measure => simp [intOf]; omega
        · have hne := HNo.out (fun e => h2 (by injection e))
          have HN := Lib.hid (sameJ_no (show ¬ Jd.eqv ⟨nm, run, some ⟨b, off, none⟩, env, ec, nA, needs, nc, hasR, rdy, restart, base, cap, stable, burst, win, lA, lad, lc, line, col⟩ ⟨nm, run, some ⟨b2, off2, none⟩, env2, ec2, nA2, needs2, nc2, hasR, rdy, restart, base, cap, stable, burst, win, lA2, lad2, lc2, line2, col2⟩ from fun e => hne (by exact e.2.2.2.2.2.2.2.2.2.2.1)))
          clear HYes HNo hne
          have n2 : (p2.toList == q2.toList) = false := ba_ne h2
          clear h2
          clear HX
          go_wp2_with fail
          go_quiet (fail)
          go_wp2_with fail
          go_ret
          exact ⟨ret_bool HN.out.symm, (HO.out.drewN _).drewN _⟩
      · have hne := HNo.out (fun e => h1 (by injection e))
        have HN := Lib.hid (sameJ_no (show ¬ Jd.eqv ⟨nm, run, some ⟨b, off, none⟩, env, ec, nA, needs, nc, hasR, rdy, restart, base, cap, stable, burst, win, lA, lad, lc, line, col⟩ ⟨nm, run, some ⟨b2, off2, none⟩, env2, ec2, nA2, needs2, nc2, hasR, rdy, restart, base, cap, stable, burst, win, lA2, lad2, lc2, line2, col2⟩ from fun e => hne (by exact e.2.2.2.2.2.2.2.2.2.2.1)))
        clear HYes HNo hne
        have n1 : (p1.toList == q1.toList) = false := ba_ne h1
        clear h1
        clear HX
        go_wp2_with fail
        go_quiet (fail)
        go_wp2_with fail
        go_ret
        exact ⟨ret_bool HN.out.symm, (HO.out.drewN _).drewN _⟩
    · obtain rfl : k = env.length := by omega
      have he : env = env2 := by
        have h := HX.out
        rw [List.take_of_length_le (Nat.le_refl _), List.take_of_length_le (by rw [← HLenv.out]; exact Nat.le_refl _)] at h
        exact h
      clear HX HLenv hlt hk
      subst he
      obtain ⟨mb1, rfl⟩ : ∃ z, z = m := ⟨_, rfl⟩
      go_wp2_with fail
      go_loopw [6] (fun i wr => ∃ k m : Nat, k ≤ needs.length ∧ i = .int .i64 k ∧ wr = wa.drewN m ∧ Hid (needs.take k = needs2.take k)) (fun i _ => needs.length - (intOf i).toNat)
      case atStart => exact ⟨0, mb1, Nat.zero_le _, rfl, by first | rfl | exact (World.drewN_drewN ..).symm, Lib.hid rfl⟩
      case round =>
        obtain ⟨k, m, hk, rfl, rfl, HX⟩ := hrel
        by_cases hlt : k < needs.length
        · have hlt2 : k < needs2.length := by rw [← HLneeds.out]; exact hlt
          obtain ⟨b, off, rfl, _, hc⟩ := HA.out.needs.at_ (by rw [strsV_length]; simp only; omega)
          obtain ⟨b2, off2, rfl, _, hd⟩ := HB.out.needs.at_ (by rw [strsV_length]; simp only; omega)
          have x1 := hc _ _ (strsV_get needs k hlt)
          have y1 := hd _ _ (strsV_get needs2 k hlt2)
          clear hc hd HA HB
          by_cases h1 : needs.getD k ⟨#[]⟩ = needs2.getD k ⟨#[]⟩
          · have HY := Lib.hid (take_more HX.out hlt hlt2 h1)
            rw [← h1] at y1
            clear h1
            generalize needs.getD k ⟨#[]⟩ = p at *
            clear HX
            go_wp2_with fail
            go_quiet (fail)
            go_wp2_with fail
            go_roundw
            case rel => exact ⟨k + 1, m + nq, by omega, by go_num, by first | rfl | exact World.drewN_drewN .., HY.out⟩
            case measure => simp [intOf]; omega
          · have hne : ¬ needs = needs2 := fun e => h1 (by rw [e])
            have HN := Lib.hid (sameJ_no (show ¬ Jd.eqv ⟨nm, run, eA, env, ec, some ⟨b, off, none⟩, needs, nc, hasR, rdy, restart, base, cap, stable, burst, win, lA, lad, lc, line, col⟩ ⟨nm, run, eA2, env, ec2, some ⟨b2, off2, none⟩, needs2, nc2, hasR, rdy, restart, base, cap, stable, burst, win, lA2, lad2, lc2, line2, col2⟩ from fun e => hne (by exact e.2.2.2.2.2.2.2.2.2.2.2.1)))
            clear hne
            generalize needs.getD k ⟨#[]⟩ = p at *
            generalize needs2.getD k ⟨#[]⟩ = q at *
            have n1 : (p.toList == q.toList) = false := ba_ne h1
            clear h1
            clear HX
            go_wp2_with fail
            go_quiet (fail)
            go_wp2_with fail
            go_ret
            exact ⟨ret_bool HN.out.symm, (HO.out.drewN _).drewN _⟩
        · obtain rfl : k = needs.length := by omega
          have he : needs = needs2 := by
            have h := HX.out
            rw [List.take_of_length_le (Nat.le_refl _), List.take_of_length_le (by rw [← HLneeds.out]; exact Nat.le_refl _)] at h
            exact h
          clear HX HLneeds hlt hk
          subst he
          obtain ⟨mb2, rfl⟩ : ∃ z, z = m := ⟨_, rfl⟩
          go_wp2_with fail
          go_loopw [7] (fun i wr => ∃ k m : Nat, k ≤ lad.length ∧ i = .int .i64 k ∧ wr = wa.drewN m ∧ Hid (lad.take k = lad2.take k)) (fun i _ => lad.length - (intOf i).toNat)
          case atStart => exact ⟨0, mb2, Nat.zero_le _, rfl, by first | rfl | exact (World.drewN_drewN ..).symm, Lib.hid rfl⟩
          case round =>
            obtain ⟨k, m, hk, rfl, rfl, HX⟩ := hrel
            by_cases hlt : k < lad.length
            · have hlt2 : k < lad2.length := by rw [← HLlad.out]; exact hlt
              obtain ⟨b, off, rfl, _, hc⟩ := HA.out.lad.at_ (by rw [rungs_length]; simp only; omega)
              obtain ⟨b2, off2, rfl, _, hd⟩ := HB.out.lad.at_ (by rw [rungs_length]; simp only; omega)
              have x1 := hc _ _ (rungs_get lad k hlt).1
              have x2 : wa.cell? ⟨b, off + k * 2 + 1, none⟩ = _ := hc _ _ (rungs_get lad k hlt).2
              have y1 := hd _ _ (rungs_get lad2 k hlt2).1
              have y2 : wa.cell? ⟨b2, off2 + k * 2 + 1, none⟩ = _ := hd _ _ (rungs_get lad2 k hlt2).2
              clear hc hd HA HB
              have HYes : Hid (lad.getD k (0, 0) = lad2.getD k (0, 0) → Hid (lad.take (k + 1) = lad2.take (k + 1))) := Lib.hid (fun h => Lib.hid (take_more HX.out hlt hlt2 h))
              have HNo : Hid (lad.getD k (0, 0) ≠ lad2.getD k (0, 0) → ¬ lad = lad2) := Lib.hid (fun h e => h (by rw [e]))
              generalize lad.getD k (0, 0) = p at *
              generalize lad2.getD k (0, 0) = q at *
              obtain ⟨p1, p2⟩ := p
              obtain ⟨q1, q2⟩ := q
              simp only at x1 x2 y1 y2
              by_cases h1 : p1 = q1
              · subst h1
                by_cases h2 : p2 = q2
                · subst h2
                  have HY := HYes.out rfl
                  clear HYes HNo
                  clear HX
                  go_wp2_with fail
                  go_quiet (fail)
                  go_wp2_with fail
                  go_roundw
                  case rel => exact ⟨k + 1, m + nq, by omega, by go_num, by first | rfl | exact World.drewN_drewN .., HY.out⟩
                  case measure => simp [intOf]; omega
                · have hne := HNo.out (fun e => h2 (by injection e))
                  have HN := Lib.hid (sameJ_no (show ¬ Jd.eqv ⟨nm, run, eA, env, ec, nA, needs, nc, hasR, rdy, restart, base, cap, stable, burst, win, some ⟨b, off, none⟩, lad, lc, line, col⟩ ⟨nm, run, eA2, env, ec2, nA2, needs, nc2, hasR, rdy, restart, base, cap, stable, burst, win, some ⟨b2, off2, none⟩, lad2, lc2, line2, col2⟩ from fun e => hne (by exact e.2.2.2.2.2.2.2.2.2.2.2.2)))
                  clear HYes HNo hne
                  have n2 : (p2 == q2) = false := by rw [beq_eq_false_iff_ne]; exact h2
                  clear h2
                  clear HX
                  go_wp2_with fail
                  go_quiet (fail)
                  go_wp2_with fail
                  go_ret
                  exact ⟨ret_bool HN.out.symm, (HO.out.drewN _).drewN _⟩
              · have hne := HNo.out (fun e => h1 (by injection e))
                have HN := Lib.hid (sameJ_no (show ¬ Jd.eqv ⟨nm, run, eA, env, ec, nA, needs, nc, hasR, rdy, restart, base, cap, stable, burst, win, some ⟨b, off, none⟩, lad, lc, line, col⟩ ⟨nm, run, eA2, env, ec2, nA2, needs, nc2, hasR, rdy, restart, base, cap, stable, burst, win, some ⟨b2, off2, none⟩, lad2, lc2, line2, col2⟩ from fun e => hne (by exact e.2.2.2.2.2.2.2.2.2.2.2.2)))
                clear HYes HNo hne
                have n1 : (p1 == q1) = false := by rw [beq_eq_false_iff_ne]; exact h1
                clear h1
                clear HX
                go_wp2_with fail
                go_quiet (fail)
                go_wp2_with fail
                go_ret
                exact ⟨ret_bool HN.out.symm, (HO.out.drewN _).drewN _⟩
            · obtain rfl : k = lad.length := by omega
              have he : lad = lad2 := by
                have h := HX.out
                rw [List.take_of_length_le (Nat.le_refl _), List.take_of_length_le (by rw [← HLlad.out]; exact Nat.le_refl _)] at h
                exact h
              clear HX HLlad hlt hk
              subst he
              obtain ⟨mb3, rfl⟩ : ∃ z, z = m := ⟨_, rfl⟩
              have HY := Lib.hid (sameJ_yes (show Jd.eqv ⟨nm, run, eA, env, ec, nA, needs, nc, hasR, rdy, restart, base, cap, stable, burst, win, lA, lad, lc, line, col⟩ ⟨nm, run, eA2, env, ec2, nA2, needs, nc2, hasR, rdy, restart, base, cap, stable, burst, win, lA2, lad, lc2, line2, col2⟩ from ⟨rfl, rfl, rfl, rfl, rfl, rfl, rfl, rfl, rfl, rfl, rfl, rfl, rfl⟩))
              go_wp2_with fail
              go_ret
              exact ⟨ret_bool HY.out.symm, HO.out.drewN _⟩
end Go.Proofs.Ytpknglclcdgfbaa
