/-
  The walk of reload.Same.
-/
import Derived.Test.YtpknglclcdgfbaaRlP
namespace Go.Proofs.Ytpknglclcdgfbaa
open Go.RowKit Go.Shelf
set_option linter.unusedVariables false

set_option maxHeartbeats 8000000 in
set_option maxRecDepth 100000 in
theorem lsameJ (a b : Jd) (w : World) (ha : JM w a) (hb : JM w b) :
    Calls Try.prog 16 #[jdA a, jdA b] w fun e w' => e = .returned (.bool (sameJ a b)) ∧ Old w w' := by
  have HA := Lib.hid ha
  have HB := Lib.hid hb
  clear ha hb
  obtain ⟨nm, run, eA, env, ec, nA, needs, nc, hasR, rdy, restart, base, cap, stable, burst, win, lA, lad, lc, line, col⟩ := a
  obtain ⟨nm2, run2, eA2, env2, ec2, nA2, needs2, nc2, hasR2, rdy2, restart2, base2, cap2, stable2, burst2, win2, lA2, lad2, lc2, line2, col2⟩ := b
  unfold jdA
  try simp only
  by_cases h : ¬ nm = nm2
  · have HN := Lib.hid (sameJ_no (a := _) (b := _) (show ¬ Jd.eqv ⟨nm, run, eA, env, ec, nA, needs, nc, hasR, rdy, restart, base, cap, stable, burst, win, lA, lad, lc, line, col⟩ ⟨nm2, run2, eA2, env2, ec2, nA2, needs2, nc2, hasR2, rdy2, restart2, base2, cap2, stable2, burst2, win2, lA2, lad2, lc2, line2, col2⟩ from fun e => h (by exact e.1)))
    have n1 : (nm.toList == nm2.toList) = false := ba_ne h
    clear h HA HB
    go_enter Try.func16, Try.ntmps16
    go_wp2_with fail
    go_ret
    exact ⟨ret_bool HN.out.symm, by repeat with_reducible first | exact Old.refl _ | assumption | refine Old.drewN ?_ _ | refine Old.alloc ?_ _ | refine Old.drew ?_⟩
  replace h := Decidable.of_not_not h
  subst h
  by_cases h : ¬ run = run2
  · have HN := Lib.hid (sameJ_no (a := _) (b := _) (show ¬ Jd.eqv ⟨nm, run, eA, env, ec, nA, needs, nc, hasR, rdy, restart, base, cap, stable, burst, win, lA, lad, lc, line, col⟩ ⟨nm, run2, eA2, env2, ec2, nA2, needs2, nc2, hasR2, rdy2, restart2, base2, cap2, stable2, burst2, win2, lA2, lad2, lc2, line2, col2⟩ from fun e => h (by exact e.2.1)))
    have n1 : (run.toList == run2.toList) = false := ba_ne h
    clear h HA HB
    go_enter Try.func16, Try.ntmps16
    go_wp2_with fail
    go_ret
    exact ⟨ret_bool HN.out.symm, by repeat with_reducible first | exact Old.refl _ | assumption | refine Old.drewN ?_ _ | refine Old.alloc ?_ _ | refine Old.drew ?_⟩
  replace h := Decidable.of_not_not h
  subst h
  by_cases h : ¬ hasR = hasR2
  · have HN := Lib.hid (sameJ_no (a := _) (b := _) (show ¬ Jd.eqv ⟨nm, run, eA, env, ec, nA, needs, nc, hasR, rdy, restart, base, cap, stable, burst, win, lA, lad, lc, line, col⟩ ⟨nm, run, eA2, env2, ec2, nA2, needs2, nc2, hasR2, rdy2, restart2, base2, cap2, stable2, burst2, win2, lA2, lad2, lc2, line2, col2⟩ from fun e => h (by exact e.2.2.1)))
    clear HA HB
    cases hasR <;> cases hasR2
    · exact absurd rfl h
    · clear h
      go_enter Try.func16, Try.ntmps16
      go_wp2_with fail
      go_ret
      exact ⟨ret_bool HN.out.symm, by repeat with_reducible first | exact Old.refl _ | assumption | refine Old.drewN ?_ _ | refine Old.alloc ?_ _ | refine Old.drew ?_⟩
    · clear h
      go_enter Try.func16, Try.ntmps16
      go_wp2_with fail
      go_ret
      exact ⟨ret_bool HN.out.symm, by repeat with_reducible first | exact Old.refl _ | assumption | refine Old.drewN ?_ _ | refine Old.alloc ?_ _ | refine Old.drew ?_⟩
    · exact absurd rfl h
  replace h := Decidable.of_not_not h
  subst h
  by_cases h : ¬ rdy = rdy2
  · have HN := Lib.hid (sameJ_no (a := _) (b := _) (show ¬ Jd.eqv ⟨nm, run, eA, env, ec, nA, needs, nc, hasR, rdy, restart, base, cap, stable, burst, win, lA, lad, lc, line, col⟩ ⟨nm, run, eA2, env2, ec2, nA2, needs2, nc2, hasR, rdy2, restart2, base2, cap2, stable2, burst2, win2, lA2, lad2, lc2, line2, col2⟩ from fun e => h (by exact e.2.2.2.1)))
    have n1 : (rdy.toList == rdy2.toList) = false := ba_ne h
    clear h HA HB
    go_enter Try.func16, Try.ntmps16
    go_wp2_with fail
    go_ret
    exact ⟨ret_bool HN.out.symm, by repeat with_reducible first | exact Old.refl _ | assumption | refine Old.drewN ?_ _ | refine Old.alloc ?_ _ | refine Old.drew ?_⟩
  replace h := Decidable.of_not_not h
  subst h
  by_cases h : ¬ restart = restart2
  · have HN := Lib.hid (sameJ_no (a := _) (b := _) (show ¬ Jd.eqv ⟨nm, run, eA, env, ec, nA, needs, nc, hasR, rdy, restart, base, cap, stable, burst, win, lA, lad, lc, line, col⟩ ⟨nm, run, eA2, env2, ec2, nA2, needs2, nc2, hasR, rdy, restart2, base2, cap2, stable2, burst2, win2, lA2, lad2, lc2, line2, col2⟩ from fun e => h (by exact e.2.2.2.2.1)))
    have n1 : (restart == restart2) = false := by rw [beq_eq_false_iff_ne]; exact h
    have n2 : (restart != restart2) = true := by rw [bne_iff_ne]; exact h
    clear h HA HB
    go_enter Try.func16, Try.ntmps16
    go_wp2_with fail
    go_ret
    exact ⟨ret_bool HN.out.symm, by repeat with_reducible first | exact Old.refl _ | assumption | refine Old.drewN ?_ _ | refine Old.alloc ?_ _ | refine Old.drew ?_⟩
  replace h := Decidable.of_not_not h
  subst h
  by_cases h : ¬ base = base2
  · have HN := Lib.hid (sameJ_no (a := _) (b := _) (show ¬ Jd.eqv ⟨nm, run, eA, env, ec, nA, needs, nc, hasR, rdy, restart, base, cap, stable, burst, win, lA, lad, lc, line, col⟩ ⟨nm, run, eA2, env2, ec2, nA2, needs2, nc2, hasR, rdy, restart, base2, cap2, stable2, burst2, win2, lA2, lad2, lc2, line2, col2⟩ from fun e => h (by exact e.2.2.2.2.2.1)))
    have n1 : (base == base2) = false := by rw [beq_eq_false_iff_ne]; exact h
    have n2 : (base != base2) = true := by rw [bne_iff_ne]; exact h
    clear h HA HB
    go_enter Try.func16, Try.ntmps16
    go_wp2_with fail
    go_ret
    exact ⟨ret_bool HN.out.symm, by repeat with_reducible first | exact Old.refl _ | assumption | refine Old.drewN ?_ _ | refine Old.alloc ?_ _ | refine Old.drew ?_⟩
  replace h := Decidable.of_not_not h
  subst h
  by_cases h : ¬ cap = cap2
  · have HN := Lib.hid (sameJ_no (a := _) (b := _) (show ¬ Jd.eqv ⟨nm, run, eA, env, ec, nA, needs, nc, hasR, rdy, restart, base, cap, stable, burst, win, lA, lad, lc, line, col⟩ ⟨nm, run, eA2, env2, ec2, nA2, needs2, nc2, hasR, rdy, restart, base, cap2, stable2, burst2, win2, lA2, lad2, lc2, line2, col2⟩ from fun e => h (by exact e.2.2.2.2.2.2.1)))
    have n1 : (cap == cap2) = false := by rw [beq_eq_false_iff_ne]; exact h
    have n2 : (cap != cap2) = true := by rw [bne_iff_ne]; exact h
    clear h HA HB
    go_enter Try.func16, Try.ntmps16
    go_wp2_with fail
    go_ret
    exact ⟨ret_bool HN.out.symm, by repeat with_reducible first | exact Old.refl _ | assumption | refine Old.drewN ?_ _ | refine Old.alloc ?_ _ | refine Old.drew ?_⟩
  replace h := Decidable.of_not_not h
  subst h
  by_cases h : ¬ stable = stable2
  · have HN := Lib.hid (sameJ_no (a := _) (b := _) (show ¬ Jd.eqv ⟨nm, run, eA, env, ec, nA, needs, nc, hasR, rdy, restart, base, cap, stable, burst, win, lA, lad, lc, line, col⟩ ⟨nm, run, eA2, env2, ec2, nA2, needs2, nc2, hasR, rdy, restart, base, cap, stable2, burst2, win2, lA2, lad2, lc2, line2, col2⟩ from fun e => h (by exact e.2.2.2.2.2.2.2.1)))
    have n1 : (stable == stable2) = false := by rw [beq_eq_false_iff_ne]; exact h
    have n2 : (stable != stable2) = true := by rw [bne_iff_ne]; exact h
    clear h HA HB
    go_enter Try.func16, Try.ntmps16
    go_wp2_with fail
    go_ret
    exact ⟨ret_bool HN.out.symm, by repeat with_reducible first | exact Old.refl _ | assumption | refine Old.drewN ?_ _ | refine Old.alloc ?_ _ | refine Old.drew ?_⟩
  replace h := Decidable.of_not_not h
  subst h
  by_cases h : ¬ burst = burst2
  · have HN := Lib.hid (sameJ_no (a := _) (b := _) (show ¬ Jd.eqv ⟨nm, run, eA, env, ec, nA, needs, nc, hasR, rdy, restart, base, cap, stable, burst, win, lA, lad, lc, line, col⟩ ⟨nm, run, eA2, env2, ec2, nA2, needs2, nc2, hasR, rdy, restart, base, cap, stable, burst2, win2, lA2, lad2, lc2, line2, col2⟩ from fun e => h (by exact e.2.2.2.2.2.2.2.2.1)))
    have n1 : (burst == burst2) = false := by rw [beq_eq_false_iff_ne]; exact h
    have n2 : (burst != burst2) = true := by rw [bne_iff_ne]; exact h
    clear h HA HB
    go_enter Try.func16, Try.ntmps16
    go_wp2_with fail
    go_ret
    exact ⟨ret_bool HN.out.symm, by repeat with_reducible first | exact Old.refl _ | assumption | refine Old.drewN ?_ _ | refine Old.alloc ?_ _ | refine Old.drew ?_⟩
  replace h := Decidable.of_not_not h
  subst h
  by_cases h : ¬ win = win2
  · have HN := Lib.hid (sameJ_no (a := _) (b := _) (show ¬ Jd.eqv ⟨nm, run, eA, env, ec, nA, needs, nc, hasR, rdy, restart, base, cap, stable, burst, win, lA, lad, lc, line, col⟩ ⟨nm, run, eA2, env2, ec2, nA2, needs2, nc2, hasR, rdy, restart, base, cap, stable, burst, win2, lA2, lad2, lc2, line2, col2⟩ from fun e => h (by exact e.2.2.2.2.2.2.2.2.2.1)))
    have n1 : (win == win2) = false := by rw [beq_eq_false_iff_ne]; exact h
    have n2 : (win != win2) = true := by rw [bne_iff_ne]; exact h
    clear h HA HB
    go_enter Try.func16, Try.ntmps16
    go_wp2_with fail
    go_ret
    exact ⟨ret_bool HN.out.symm, by repeat with_reducible first | exact Old.refl _ | assumption | refine Old.drewN ?_ _ | refine Old.alloc ?_ _ | refine Old.drew ?_⟩
  replace h := Decidable.of_not_not h
  subst h
  have HE := Lib.hid (fun W (h : Old w W) => eqVar eA eA2 ec ec2 env env2 W (HA.out.env.up h) (HB.out.env.up h) HA.out.eb HB.out.eb)
  have HF := Lib.hid (fun W (h : Old w W) => eqStr nA nA2 nc nc2 needs needs2 W (HA.out.needs.up h) (HB.out.needs.up h) HA.out.nb HB.out.nb)
  have HG := Lib.hid (fun W (h : Old w W) => eqRung lA lA2 lc lc2 lad lad2 W (HA.out.lad.up h) (HB.out.lad.up h) HA.out.lb HB.out.lb)
  clear HA HB
  by_cases h : ¬ env = env2
  · have HN := Lib.hid (sameJ_no (show ¬ Jd.eqv ⟨nm, run, eA, env, ec, nA, needs, nc, hasR, rdy, restart, base, cap, stable, burst, win, lA, lad, lc, line, col⟩ ⟨nm, run, eA2, env2, ec2, nA2, needs2, nc2, hasR, rdy, restart, base, cap, stable, burst, win, lA2, lad2, lc2, line2, col2⟩ from fun e => h (by exact e.2.2.2.2.2.2.2.2.2.2.1)))
    have HE' := Lib.hid (fun W k => (HE.out W k).mono fun e w' q => (⟨by rw [q.1, decide_eq_false h], q.2⟩ : e = .returned (.bool false) ∧ ∃ k, w' = W.drewN k))
    clear HE h
    go_enter Try.func16, Try.ntmps16
    go_wp2_with fail
    refine (HE'.out _ (by repeat with_reducible first | exact Old.refl _ | assumption | refine Old.drewN ?_ _ | refine Old.alloc ?_ _ | refine Old.drew ?_)).mono ?_; rintro e v0 ⟨rfl, m0, rfl⟩
    go_wp2_with fail
    go_ret
    exact ⟨ret_bool HN.out.symm, by repeat with_reducible first | exact Old.refl _ | assumption | refine Old.drewN ?_ _ | refine Old.alloc ?_ _ | refine Old.drew ?_⟩
  replace h := Decidable.of_not_not h
  subst h
  have HE' := Lib.hid (fun W k => (HE.out W k).mono fun e w' q => (⟨by rw [q.1, decide_eq_true rfl], q.2⟩ : e = .returned (.bool true) ∧ ∃ k, w' = W.drewN k))
  clear HE
  have HE := HE'
  clear HE'
  by_cases h : ¬ needs = needs2
  · have HN := Lib.hid (sameJ_no (show ¬ Jd.eqv ⟨nm, run, eA, env, ec, nA, needs, nc, hasR, rdy, restart, base, cap, stable, burst, win, lA, lad, lc, line, col⟩ ⟨nm, run, eA2, env, ec2, nA2, needs2, nc2, hasR, rdy, restart, base, cap, stable, burst, win, lA2, lad2, lc2, line2, col2⟩ from fun e => h (by exact e.2.2.2.2.2.2.2.2.2.2.2.1)))
    have HF' := Lib.hid (fun W k => (HF.out W k).mono fun e w' q => (⟨by rw [q.1, decide_eq_false h], q.2⟩ : e = .returned (.bool false) ∧ ∃ k, w' = W.drewN k))
    clear HF h
    go_enter Try.func16, Try.ntmps16
    go_wp2_with fail
    refine (HE.out _ (by repeat with_reducible first | exact Old.refl _ | assumption | refine Old.drewN ?_ _ | refine Old.alloc ?_ _ | refine Old.drew ?_)).mono ?_; rintro e v0 ⟨rfl, m0, rfl⟩
    go_wp2_with fail
    refine (HF'.out _ (by repeat with_reducible first | exact Old.refl _ | assumption | refine Old.drewN ?_ _ | refine Old.alloc ?_ _ | refine Old.drew ?_)).mono ?_; rintro e v1 ⟨rfl, m1, rfl⟩
    go_wp2_with fail
    go_ret
    exact ⟨ret_bool HN.out.symm, by repeat with_reducible first | exact Old.refl _ | assumption | refine Old.drewN ?_ _ | refine Old.alloc ?_ _ | refine Old.drew ?_⟩
  replace h := Decidable.of_not_not h
  subst h
  have HF' := Lib.hid (fun W k => (HF.out W k).mono fun e w' q => (⟨by rw [q.1, decide_eq_true rfl], q.2⟩ : e = .returned (.bool true) ∧ ∃ k, w' = W.drewN k))
  clear HF
  have HF := HF'
  clear HF'
  by_cases h : ¬ lad = lad2
  · have HN := Lib.hid (sameJ_no (show ¬ Jd.eqv ⟨nm, run, eA, env, ec, nA, needs, nc, hasR, rdy, restart, base, cap, stable, burst, win, lA, lad, lc, line, col⟩ ⟨nm, run, eA2, env, ec2, nA2, needs, nc2, hasR, rdy, restart, base, cap, stable, burst, win, lA2, lad2, lc2, line2, col2⟩ from fun e => h (by exact e.2.2.2.2.2.2.2.2.2.2.2.2)))
    have HG' := Lib.hid (fun W k => (HG.out W k).mono fun e w' q => (⟨by rw [q.1, decide_eq_false h], q.2⟩ : e = .returned (.bool false) ∧ ∃ k, w' = W.drewN k))
    clear HG h
    go_enter Try.func16, Try.ntmps16
    go_wp2_with fail
    refine (HE.out _ (by repeat with_reducible first | exact Old.refl _ | assumption | refine Old.drewN ?_ _ | refine Old.alloc ?_ _ | refine Old.drew ?_)).mono ?_; rintro e v0 ⟨rfl, m0, rfl⟩
    go_wp2_with fail
    refine (HF.out _ (by repeat with_reducible first | exact Old.refl _ | assumption | refine Old.drewN ?_ _ | refine Old.alloc ?_ _ | refine Old.drew ?_)).mono ?_; rintro e v1 ⟨rfl, m1, rfl⟩
    go_wp2_with fail
    refine (HG'.out _ (by repeat with_reducible first | exact Old.refl _ | assumption | refine Old.drewN ?_ _ | refine Old.alloc ?_ _ | refine Old.drew ?_)).mono ?_; rintro e v2 ⟨rfl, m2, rfl⟩
    go_wp2_with fail
    go_ret
    exact ⟨ret_bool HN.out.symm, by repeat with_reducible first | exact Old.refl _ | assumption | refine Old.drewN ?_ _ | refine Old.alloc ?_ _ | refine Old.drew ?_⟩
  replace h := Decidable.of_not_not h
  subst h
  have HG' := Lib.hid (fun W k => (HG.out W k).mono fun e w' q => (⟨by rw [q.1, decide_eq_true rfl], q.2⟩ : e = .returned (.bool true) ∧ ∃ k, w' = W.drewN k))
  clear HG
  have HG := HG'
  clear HG'
  have HY := Lib.hid (sameJ_yes (show Jd.eqv ⟨nm, run, eA, env, ec, nA, needs, nc, hasR, rdy, restart, base, cap, stable, burst, win, lA, lad, lc, line, col⟩ ⟨nm, run, eA2, env, ec2, nA2, needs, nc2, hasR, rdy, restart, base, cap, stable, burst, win, lA2, lad, lc2, line2, col2⟩ from ⟨rfl, rfl, rfl, rfl, rfl, rfl, rfl, rfl, rfl, rfl, rfl, rfl, rfl⟩))
  go_enter Try.func16, Try.ntmps16
  go_wp2_with fail
  refine (HE.out _ (by repeat with_reducible first | exact Old.refl _ | assumption | refine Old.drewN ?_ _ | refine Old.alloc ?_ _ | refine Old.drew ?_)).mono ?_; rintro e v0 ⟨rfl, m0, rfl⟩
  go_wp2_with fail
  refine (HF.out _ (by repeat with_reducible first | exact Old.refl _ | assumption | refine Old.drewN ?_ _ | refine Old.alloc ?_ _ | refine Old.drew ?_)).mono ?_; rintro e v1 ⟨rfl, m1, rfl⟩
  go_wp2_with fail
  refine (HG.out _ (by repeat with_reducible first | exact Old.refl _ | assumption | refine Old.drewN ?_ _ | refine Old.alloc ?_ _ | refine Old.drew ?_)).mono ?_; rintro e v2 ⟨rfl, m2, rfl⟩
  go_wp2_with fail
  go_ret
  exact ⟨ret_bool HY.out.symm, by repeat with_reducible first | exact Old.refl _ | assumption | refine Old.drewN ?_ _ | refine Old.alloc ?_ _ | refine Old.drew ?_⟩
end Go.Proofs.Ytpknglclcdgfbaa
