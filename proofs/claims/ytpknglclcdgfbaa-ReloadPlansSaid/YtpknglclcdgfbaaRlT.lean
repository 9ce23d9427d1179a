/-
  The walk of the reference's SameJob.
-/
import Derived.Test.YtpknglclcdgfbaaRlU
namespace Go.Proofs.Ytpknglclcdgfbaa
open Go.RowKit Go.Shelf
set_option linter.unusedVariables false

set_option maxHeartbeats 8000000 in
set_option maxRecDepth 100000 in
theorem rsameJ6 (a b : Jd) (w : World) (ha : JM w a) (hb : JM w b) :
    Calls Try.prog 68 #[jdA a, jdA b] w fun e w' => e = .returned (.bool (sameJ a b)) ∧ Old w w' := by
  have HA := Lib.hid ha
  have HB := Lib.hid hb
  clear ha hb
  obtain ⟨nm, run, eA, env, ec, nA, needs, nc, hasR, rdy, restart, base, cap, stable, burst, win, lA, lad, lc, line, col⟩ := a
  obtain ⟨nm2, run2, eA2, env2, ec2, nA2, needs2, nc2, hasR2, rdy2, restart2, base2, cap2, stable2, burst2, win2, lA2, lad2, lc2, line2, col2⟩ := b
  unfold jdA
  try simp only
  by_cases h : ¬ nm = nm2
  · have HN := Lib.hid (sameJ_no (a := _) (b := _) (show ¬ Jd.eqv ⟨nm, run, eA, env, ec, nA, needs, nc, hasR, rdy, restart, base, cap, stable, burst, win, lA, lad, lc, line, col⟩ ⟨nm2, run2, eA2, env2, ec2, nA2, needs2, nc2, hasR2, rdy2, restart2, base2, cap2, stable2, burst2, win2, lA2, lad2, lc2, line2, col2⟩ from fun e => h (by exact e.1)))
    have n1 : (nm.toList == nm2.toList) = false := ba_ne h
    clear h HA HB
    go_enter Try.func68, Try.ntmps68
    go_wp2_with fail
    go_ret
    exact ⟨ret_bool HN.out.symm, by repeat with_reducible first | exact Old.refl _ | assumption | refine Old.drewN ?_ _ | refine Old.alloc ?_ _ | refine Old.drew ?_⟩
  replace h := Decidable.of_not_not h
  subst h
  by_cases h : ¬ run = run2
  · have HN := Lib.hid (sameJ_no (a := _) (b := _) (show ¬ Jd.eqv ⟨nm, run, eA, env, ec, nA, needs, nc, hasR, rdy, restart, base, cap, stable, burst, win, lA, lad, lc, line, col⟩ ⟨nm, run2, eA2, env2, ec2, nA2, needs2, nc2, hasR2, rdy2, restart2, base2, cap2, stable2, burst2, win2, lA2, lad2, lc2, line2, col2⟩ from fun e => h (by exact e.2.1)))
    have n1 : (run.toList == run2.toList) = false := ba_ne h
    clear h HA HB
    go_enter Try.func68, Try.ntmps68
    go_wp2_with fail
    go_ret
    exact ⟨ret_bool HN.out.symm, by repeat with_reducible first | exact Old.refl _ | assumption | refine Old.drewN ?_ _ | refine Old.alloc ?_ _ | refine Old.drew ?_⟩
  replace h := Decidable.of_not_not h
  subst h
  by_cases h : ¬ hasR = hasR2
  · have HN := Lib.hid (sameJ_no (a := _) (b := _) (show ¬ Jd.eqv ⟨nm, run, eA, env, ec, nA, needs, nc, hasR, rdy, restart, base, cap, stable, burst, win, lA, lad, lc, line, col⟩ ⟨nm, run, eA2, env2, ec2, nA2, needs2, nc2, hasR2, rdy2, restart2, base2, cap2, stable2, burst2, win2, lA2, lad2, lc2, line2, col2⟩ from fun e => h (by exact e.2.2.1)))
    clear HA HB
    cases hasR <;> cases hasR2
    · exact absurd rfl h
    · clear h
      go_enter Try.func68, Try.ntmps68
      go_wp2_with fail
      go_ret
      exact ⟨ret_bool HN.out.symm, by repeat with_reducible first | exact Old.refl _ | assumption | refine Old.drewN ?_ _ | refine Old.alloc ?_ _ | refine Old.drew ?_⟩
    · clear h
      go_enter Try.func68, Try.ntmps68
      go_wp2_with fail
      go_ret
      exact ⟨ret_bool HN.out.symm, by repeat with_reducible first | exact Old.refl _ | assumption | refine Old.drewN ?_ _ | refine Old.alloc ?_ _ | refine Old.drew ?_⟩
    · exact absurd rfl h
  replace h := Decidable.of_not_not h
  subst h
  by_cases h : ¬ rdy = rdy2
  · have HN := Lib.hid (sameJ_no (a := _) (b := _) (show ¬ Jd.eqv ⟨nm, run, eA, env, ec, nA, needs, nc, hasR, rdy, restart, base, cap, stable, burst, win, lA, lad, lc, line, col⟩ ⟨nm, run, eA2, env2, ec2, nA2, needs2, nc2, hasR, rdy2, restart2, base2, cap2, stable2, burst2, win2, lA2, lad2, lc2, line2, col2⟩ from fun e => h (by exact e.2.2.2.1)))
    have n1 : (rdy.toList == rdy2.toList) = false := ba_ne h
    clear h HA HB
    go_enter Try.func68, Try.ntmps68
    go_wp2_with fail
    go_ret
    exact ⟨ret_bool HN.out.symm, by repeat with_reducible first | exact Old.refl _ | assumption | refine Old.drewN ?_ _ | refine Old.alloc ?_ _ | refine Old.drew ?_⟩
  replace h := Decidable.of_not_not h
  subst h
  by_cases h : ¬ restart = restart2
  · have HN := Lib.hid (sameJ_no (a := _) (b := _) (show ¬ Jd.eqv ⟨nm, run, eA, env, ec, nA, needs, nc, hasR, rdy, restart, base, cap, stable, burst, win, lA, lad, lc, line, col⟩ ⟨nm, run, eA2, env2, ec2, nA2, needs2, nc2, hasR, rdy, restart2, base2, cap2, stable2, burst2, win2, lA2, lad2, lc2, line2, col2⟩ from fun e => h (by exact e.2.2.2.2.1)))
    have n1 : (restart == restart2) = false := by rw [beq_eq_false_iff_ne]; exact h
    have n2 : (restart != restart2) = true := by rw [bne_iff_ne]; exact h
    clear h HA HB
    go_enter Try.func68, Try.ntmps68
    go_wp2_with fail
    go_ret
    exact ⟨ret_bool HN.out.symm, by repeat with_reducible first | exact Old.refl _ | assumption | refine Old.drewN ?_ _ | refine Old.alloc ?_ _ | refine Old.drew ?_⟩
  replace h := Decidable.of_not_not h
  subst h
  by_cases h : ¬ base = base2
  · have HN := Lib.hid (sameJ_no (a := _) (b := _) (show ¬ Jd.eqv ⟨nm, run, eA, env, ec, nA, needs, nc, hasR, rdy, restart, base, cap, stable, burst, win, lA, lad, lc, line, col⟩ ⟨nm, run, eA2, env2, ec2, nA2, needs2, nc2, hasR, rdy, restart, base2, cap2, stable2, burst2, win2, lA2, lad2, lc2, line2, col2⟩ from fun e => h (by exact e.2.2.2.2.2.1)))
    have n1 : (base == base2) = false := by rw [beq_eq_false_iff_ne]; exact h
    have n2 : (base != base2) = true := by rw [bne_iff_ne]; exact h
    clear h HA HB
    go_enter Try.func68, Try.ntmps68
    go_wp2_with fail
    go_ret
    exact ⟨ret_bool HN.out.symm, by repeat with_reducible first | exact Old.refl _ | assumption | refine Old.drewN ?_ _ | refine Old.alloc ?_ _ | refine Old.drew ?_⟩
  replace h := Decidable.of_not_not h
  subst h
  by_cases h : ¬ cap = cap2
  · have HN := Lib.hid (sameJ_no (a := _) (b := _) (show ¬ Jd.eqv ⟨nm, run, eA, env, ec, nA, needs, nc, hasR, rdy, restart, base, cap, stable, burst, win, lA, lad, lc, line, col⟩ ⟨nm, run, eA2, env2, ec2, nA2, needs2, nc2, hasR, rdy, restart, base, cap2, stable2, burst2, win2, lA2, lad2, lc2, line2, col2⟩ from fun e => h (by exact e.2.2.2.2.2.2.1)))
    have n1 : (cap == cap2) = false := by rw [beq_eq_false_iff_ne]; exact h
    have n2 : (cap != cap2) = true := by rw [bne_iff_ne]; exact h
    clear h HA HB
    go_enter Try.func68, Try.ntmps68
    go_wp2_with fail
    go_ret
    exact ⟨ret_bool HN.out.symm, by repeat with_reducible first | exact Old.refl _ | assumption | refine Old.drewN ?_ _ | refine Old.alloc ?_ _ | refine Old.drew ?_⟩
  replace h := Decidable.of_not_not h
  subst h
  by_cases h : ¬ stable = stable2
  · have HN := Lib.hid (sameJ_no (a := _) (b := _) (show ¬ Jd.eqv ⟨nm, run, eA, env, ec, nA, needs, nc, hasR, rdy, restart, base, cap, stable, burst, win, lA, lad, lc, line, col⟩ ⟨nm, run, eA2, env2, ec2, nA2, needs2, nc2, hasR, rdy, restart, base, cap, stable2, burst2, win2, lA2, lad2, lc2, line2, col2⟩ from fun e => h (by exact e.2.2.2.2.2.2.2.1)))
    have n1 : (stable == stable2) = false := by rw [beq_eq_false_iff_ne]; exact h
    have n2 : (stable != stable2) = true := by rw [bne_iff_ne]; exact h
    clear h HA HB
    go_enter Try.func68, Try.ntmps68
    go_wp2_with fail
    go_ret
    exact ⟨ret_bool HN.out.symm, by repeat with_reducible first | exact Old.refl _ | assumption | refine Old.drewN ?_ _ | refine Old.alloc ?_ _ | refine Old.drew ?_⟩
  replace h := Decidable.of_not_not h
  subst h
  by_cases h : ¬ burst = burst2
  · have HN := Lib.hid (sameJ_no (a := _) (b := _) (show ¬ Jd.eqv ⟨nm, run, eA, env, ec, nA, needs, nc, hasR, rdy, restart, base, cap, stable, burst, win, lA, lad, lc, line, col⟩ ⟨nm, run, eA2, env2, ec2, nA2, needs2, nc2, hasR, rdy, restart, base, cap, stable, burst2, win2, lA2, lad2, lc2, line2, col2⟩ from fun e => h (by exact e.2.2.2.2.2.2.2.2.1)))
    have n1 : (burst == burst2) = false := by rw [beq_eq_false_iff_ne]; exact h
    have n2 : (burst != burst2) = true := by rw [bne_iff_ne]; exact h
    clear h HA HB
    go_enter Try.func68, Try.ntmps68
    go_wp2_with fail
    go_ret
    exact ⟨ret_bool HN.out.symm, by repeat with_reducible first | exact Old.refl _ | assumption | refine Old.drewN ?_ _ | refine Old.alloc ?_ _ | refine Old.drew ?_⟩
  replace h := Decidable.of_not_not h
  subst h
  by_cases h : ¬ win = win2
  · have HN := Lib.hid (sameJ_no (a := _) (b := _) (show ¬ Jd.eqv ⟨nm, run, eA, env, ec, nA, needs, nc, hasR, rdy, restart, base, cap, stable, burst, win, lA, lad, lc, line, col⟩ ⟨nm, run, eA2, env2, ec2, nA2, needs2, nc2, hasR, rdy, restart, base, cap, stable, burst, win2, lA2, lad2, lc2, line2, col2⟩ from fun e => h (by exact e.2.2.2.2.2.2.2.2.2.1)))
    have n1 : (win == win2) = false := by rw [beq_eq_false_iff_ne]; exact h
    have n2 : (win != win2) = true := by rw [bne_iff_ne]; exact h
    clear h HA HB
    go_enter Try.func68, Try.ntmps68
    go_wp2_with fail
    go_ret
    exact ⟨ret_bool HN.out.symm, by repeat with_reducible first | exact Old.refl _ | assumption | refine Old.drewN ?_ _ | refine Old.alloc ?_ _ | refine Old.drew ?_⟩
  replace h := Decidable.of_not_not h
  subst h
  by_cases h : ¬ env.length = env2.length
  · have HN := Lib.hid (sameJ_no (show ¬ Jd.eqv ⟨nm, run, eA, env, ec, nA, needs, nc, hasR, rdy, restart, base, cap, stable, burst, win, lA, lad, lc, line, col⟩ ⟨nm, run, eA2, env2, ec2, nA2, needs2, nc2, hasR, rdy, restart, base, cap, stable, burst, win, lA2, lad2, lc2, line2, col2⟩ from fun e => h (congrArg List.length (e.2.2.2.2.2.2.2.2.2.2.1))))
    have n1 : ((env.length : Int) == (env2.length : Int)) = false := by rw [beq_eq_false_iff_ne]; omega
    have n2 : ((env.length : Int) != (env2.length : Int)) = true := by rw [bne_iff_ne]; omega
    clear h HA HB
    go_enter Try.func68, Try.ntmps68
    go_wp2_with fail
    go_ret
    exact ⟨ret_bool HN.out.symm, by repeat with_reducible first | exact Old.refl _ | assumption | refine Old.drewN ?_ _ | refine Old.alloc ?_ _ | refine Old.drew ?_⟩
  replace h := Decidable.of_not_not h
  have HLenv := Lib.hid h
  by_cases h : ¬ needs.length = needs2.length
  · have HN := Lib.hid (sameJ_no (show ¬ Jd.eqv ⟨nm, run, eA, env, ec, nA, needs, nc, hasR, rdy, restart, base, cap, stable, burst, win, lA, lad, lc, line, col⟩ ⟨nm, run, eA2, env2, ec2, nA2, needs2, nc2, hasR, rdy, restart, base, cap, stable, burst, win, lA2, lad2, lc2, line2, col2⟩ from fun e => h (congrArg List.length (e.2.2.2.2.2.2.2.2.2.2.2.1))))
    have n1 : ((needs.length : Int) == (needs2.length : Int)) = false := by rw [beq_eq_false_iff_ne]; omega
    have n2 : ((needs.length : Int) != (needs2.length : Int)) = true := by rw [bne_iff_ne]; omega
    clear h HA HB
    go_enter Try.func68, Try.ntmps68
    go_wp2_with fail
    go_ret
    exact ⟨ret_bool HN.out.symm, by repeat with_reducible first | exact Old.refl _ | assumption | refine Old.drewN ?_ _ | refine Old.alloc ?_ _ | refine Old.drew ?_⟩
  replace h := Decidable.of_not_not h
  have HLneeds := Lib.hid h
  by_cases h : ¬ lad.length = lad2.length
  · have HN := Lib.hid (sameJ_no (show ¬ Jd.eqv ⟨nm, run, eA, env, ec, nA, needs, nc, hasR, rdy, restart, base, cap, stable, burst, win, lA, lad, lc, line, col⟩ ⟨nm, run, eA2, env2, ec2, nA2, needs2, nc2, hasR, rdy, restart, base, cap, stable, burst, win, lA2, lad2, lc2, line2, col2⟩ from fun e => h (congrArg List.length (e.2.2.2.2.2.2.2.2.2.2.2.2))))
    have n1 : ((lad.length : Int) == (lad2.length : Int)) = false := by rw [beq_eq_false_iff_ne]; omega
    have n2 : ((lad.length : Int) != (lad2.length : Int)) = true := by rw [bne_iff_ne]; omega
    clear h HA HB
    go_enter Try.func68, Try.ntmps68
    go_wp2_with fail
    go_ret
    exact ⟨ret_bool HN.out.symm, by repeat with_reducible first | exact Old.refl _ | assumption | refine Old.drewN ?_ _ | refine Old.alloc ?_ _ | refine Old.drew ?_⟩
  replace h := Decidable.of_not_not h
  have HLlad := Lib.hid h
  exact rsameJ6_eq nm run rdy hasR restart base cap stable burst win eA eA2 nA nA2 lA lA2 env env2 needs needs2 lad lad2 ec ec2 nc nc2 lc lc2 line line2 col col2 w HA.out HB.out HLenv.out HLneeds.out HLlad.out
set_option maxHeartbeats 8000000 in
set_option maxRecDepth 100000 in
theorem rsameJ13 (a b : Jd) (w : World) (ha : JM w a) (hb : JM w b) :
    Calls Try.prog 47 #[jdA a, jdA b] w fun e w' => e = .returned (.bool (sameJ a b)) ∧ Old w w' := by
  have HC := Lib.hid (fun W (h : Old w W) => rsameJ6 a b W (ha.up h) (hb.up h))
  clear ha hb
  unfold jdA at HC ⊢
  go_enter Try.func47, Try.ntmps47
  go_wp2_with fail
  refine (HC.out _ (by repeat with_reducible first | exact Old.refl _ | assumption | refine Old.drewN ?_ _ | refine Old.alloc ?_ _ | refine Old.drew ?_)).mono ?_; rintro e w2 ⟨rfl, hd⟩
  go_wp2_with fail
  go_ret
  exact ⟨rfl, (((Old.refl w).alloc _).alloc _).up hd⟩
set_option maxHeartbeats 8000000 in
set_option maxRecDepth 100000 in
theorem rsameJ (a b : Jd) (w : World) (ha : JM w a) (hb : JM w b) :
    Calls Try.prog 17 #[jdA a, jdA b] w fun e w' => e = .returned (.bool (sameJ a b)) ∧ Old w w' := by
  have HC := Lib.hid (fun W (h : Old w W) => rsameJ13 a b W (ha.up h) (hb.up h))
  clear ha hb
  unfold jdA at HC ⊢
  go_enter Try.func17, Try.ntmps17
  go_wp2_with fail
  refine (HC.out _ (by repeat with_reducible first | exact Old.refl _ | assumption | refine Old.drewN ?_ _ | refine Old.alloc ?_ _ | refine Old.drew ?_)).mono ?_; rintro e w2 ⟨rfl, hd⟩
  go_wp2_with fail
  go_ret
  exact ⟨rfl, by first | exact hd | exact (((Old.refl w).alloc _).alloc _).up hd⟩
end Go.Proofs.Ytpknglclcdgfbaa
