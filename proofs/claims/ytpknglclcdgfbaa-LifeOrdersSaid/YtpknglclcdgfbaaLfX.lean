/-
  The walks of package life: failOver, unborn.
-/
import Derived.Test.YtpknglclcdgfbaaLfW
import Derived.Deep.DeepCutAuto
namespace Go.Proofs.Ytpknglclcdgfbaa
open Go.RowKit Go.Shelf
set_option linter.unusedVariables false









set_option maxHeartbeats 3000000 in
set_option maxRecDepth 100000 in
theorem lfailC (j : Jd) (x : Lf.T) (A : Option Addr) (c : Nat) (now jit : Int) (w : World) (hj : JdOk w j) (hn : Tk.U now) (hi : Tk.U jit) (hr : Ts w 30 A (u64s x.times)) (hl : x.times.length ≤ 68719476000) (hx : Lf.Ok x) :
    Calls Try.prog 55 #[jdA j, lfA x A c, .int .u64 now, .int .u64 jit] w (LfPb w (Lf.over j.j x now jit).1 (Lf.over j.j x now jit).2) := by
  have HPO : Hid (∀ (q : Lf.T × Bool) A' c' w', Lf.over j.j x now jit = q → Ts w' 30 A' (u64s q.1.times) → Old w w' → LfPb w (Lf.over j.j x now jit).1 (Lf.over j.j x now jit).2 (.returned (.tuple #[lfA q.1 A' c', .bool q.2])) w') := Lib.hid (fun q A' c' w' h1 h2 h3 => by subst h1; exact ⟨A', c', rfl, h2, h3⟩)
  have HB := Lib.hid (fun W (h : Old w W) => bAllow A c x.times j.burst now j.win W (hr.up h).rs (by omega) hx.2.2 hn hj.win)
  have hD := fun W => tDelay j.base j.cap x.runs jit hj.base hj.cap hi W
  have hUD := Tk.U_delay x.runs hj.base hj.cap hi
  have hA := fun W => tAdd now (Tk.delay j.base j.cap x.runs jit) hn hUD W
  clear hj hr hx hUD
  have HOV : Hid (Lf.over j.j x now jit = if (Bu.allow x.times j.burst now j.win).2 = true then (⟨5, x.inc, wrap64 (x.runs + 1), x.since, (Bu.allow x.times j.burst now j.win).1, Tk.add now (Tk.delay j.base j.cap x.runs jit), x.armed, x.rung, x.halt, x.again⟩, true) else (⟨8, x.inc, x.runs, x.since, (Bu.allow x.times j.burst now j.win).1, 0, false, 0, false, false⟩, false)) := Lib.hid rfl
  obtain ⟨nm, run, eA, env, ec, nA, needs, nc, hasR, rdyp, restart, base, cap, stable, burst, win, lA, lad, lc, line, col⟩ := j
  obtain ⟨ph, inc, runs, since, times, due, armed, rung, halt, again⟩ := x
  unfold Jd.j at HPO HOV ⊢
  simp only at HB hD hA HPO HOV ⊢
  generalize Lf.over _ _ now jit = ov at *
  generalize Bu.allow times burst now win = r at *
  obtain ⟨r1, ok⟩ := r
  generalize Tk.delay base cap runs jit = dl at *
  generalize Tk.add now dl = due2 at *
  have HD := Lib.hid hD
  have HA := Lib.hid hA
  clear hD hA
  cases ok with
  | true =>
    have HME : Hid (ov = (⟨5, inc, wrap64 (runs + 1), since, r1, due2, armed, rung, halt, again⟩, true)) := Lib.hid (HOV.out.trans (if_pos rfl))
    clear HOV
    unfold lfA jdA
    try simp only
    go_enter Try.func55, Try.ntmps55
    go_wp2_with fail
    refine (HB.out _ ((((Old.refl w).alloc _).alloc _).alloc _)).mono ?_; rintro e w2 ⟨v, rfl, hown, hd⟩
    obtain ⟨b1, b2, b3, hO⟩ := three_ hd
    obtain ⟨⟨e0, e1, e2, e3, e4, e5, e6, e7, e8, e9, e10, e11, e12, e13, e14⟩, _⟩ := row15 b1
    obtain ⟨⟨c0, c1, c2, c3, c4, c5, c6, c7, c8, c9⟩, f0, f1, f2, f3, f4, f5, f6, f7, f8, f9⟩ := row10 b2
    obtain ⟨⟨d0, d1, d2, d3, d4, d5, d6, d7, d8, d9⟩, g0, g1, g2, g3, g4, g5, g6, g7, g8, g9⟩ := row10 b3
    obtain ⟨A2, c2', rfl, ht, _, _⟩ := hown.shape
    have HT := Lib.hid (ht.tn2 b2 (by decide) b3 (by decide))
    clear hown ht b1 b2 b3 hd HB
    go_wp2_with fail
    refine (HD.out _).mono ?_; rintro e w3 ⟨rfl, rfl⟩
    go_wp2_with fail
    refine (HA.out _).mono ?_; rintro e w3 ⟨rfl, rfl⟩
    go_wp2_with fail
    refine bodyPost_ret (by first | (simp [results, Try.results55, go_sem, lfA, d0, d1, d2, d3, d4, d5, d6, d7, d8, d9]; done) | (simp [results, Try.results55, go_sem, lfA, d0, d1, d2, d3, d4, d5, d6, d7, d8, d9]; first | rfl | exact ⟨rfl, rfl⟩)) rfl (HPO.out (⟨5, inc, wrap64 (runs + 1), since, r1, due2, armed, rung, halt, again⟩, true) A2 c2' _ HME.out ?_ ?_)
    · refine Tn.ts (K := [w.heap.size + 1, w.heap.size + 1 + 1]) ?_
      repeat with_reducible refine Tn.set ?_ (by simp) _
      exact HT.out
    · repeat with_reducible first | exact Old.refl _ | assumption | refine Old.setCell ?_ (by first | omega | (simp <;> omega)) _ | refine Old.drewN ?_ _ | refine Old.alloc ?_ _ | refine Old.drew ?_
  | false =>
    have HME : Hid (ov = (⟨8, inc, runs, since, r1, 0, false, 0, false, false⟩, false)) := Lib.hid (HOV.out.trans (if_neg (by simp)))
    have HC := Lib.hid (fun W A c => lrestC ⟨ph, inc, runs, since, r1, due, armed, rung, halt, again⟩ A c 8 W)
    rw [show Lf.rest ⟨ph, inc, runs, since, r1, due, armed, rung, halt, again⟩ 8 = ⟨8, inc, runs, since, r1, 0, false, 0, false, false⟩ from rfl] at HC
    clear HOV
    unfold lfA at HC
    unfold lfA jdA
    try simp only at HC ⊢
    go_enter Try.func55, Try.ntmps55
    go_wp2_with fail
    refine (HB.out _ ((((Old.refl w).alloc _).alloc _).alloc _)).mono ?_; rintro e w2 ⟨v, rfl, hown, hd⟩
    obtain ⟨b1, b2, b3, hO⟩ := three_ hd
    obtain ⟨⟨c0, c1, c2, c3, c4, c5, c6, c7, c8, c9⟩, f0, f1, f2, f3, f4, f5, f6, f7, f8, f9⟩ := row10 b2
    obtain ⟨A2, c2', rfl, ht, _, _⟩ := hown.shape
    have B2 := Lib.hid b2
    have B3 := Lib.hid b3
    have HTS := Lib.hid ht
    clear hown ht b1 b2 b3 hd HB
    go_wp2_with fail
    refine (HC.out _ _ _).mono ?_; rintro e w3 ⟨rfl, hd3⟩
    have b2' := heap_setCell_same w2 (w.heap.size + 1) 4 _ _ (.slice A2 r1.length c2') B2.out
    have B33 := Lib.hid (hd3.block ((heap_setCell_other w2 ⟨w.heap.size + 1, 4, none⟩ (w.heap.size + 1 + 1) (.slice A2 r1.length c2') (by simp)).trans B3.out))
    have HTS3 := Lib.hid (((HTS.out.tn2 B2.out (by decide) B3.out (by decide)).set (k := w.heap.size + 1) (i := 4) (by simp) (.slice A2 r1.length c2')).ts.up hd3)
    have B23 := Lib.hid (hd3.block b2')
    have hO3 := (hO.setCell (p := ⟨w.heap.size + 1, 4, none⟩) (by simp only; omega) (.slice A2 r1.length c2')).up hd3
    clear hd3 hO HC HTS B2 B3 b2'
    have HT := Lib.hid (HTS3.out.tn2 B23.out (by decide) B33.out (by decide))
    obtain ⟨⟨d0, d1, d2, d3, d4, d5, d6, d7, d8, d9⟩, g0, g1, g2, g3, g4, g5, g6, g7, g8, g9⟩ := row10 B33.out
    clear HTS3 B23 B33
    go_wp2_with fail
    refine bodyPost_ret (by first | (simp [results, Try.results55, go_sem, lfA, d0, d1, d2, d3, d4, d5, d6, d7, d8, d9]; done) | (simp [results, Try.results55, go_sem, lfA, d0, d1, d2, d3, d4, d5, d6, d7, d8, d9]; first | rfl | exact ⟨rfl, rfl⟩)) rfl (HPO.out (⟨8, inc, runs, since, r1, 0, false, 0, false, false⟩, false) A2 c2' _ HME.out ?_ ?_)
    · refine Tn.ts (K := [w.heap.size + 1, w.heap.size + 1 + 1]) ?_
      repeat with_reducible refine Tn.set ?_ (by simp) _
      exact HT.out
    · repeat with_reducible first | exact Old.refl _ | assumption | refine Old.setCell ?_ (by first | omega | (simp <;> omega)) _ | refine Old.drewN ?_ _ | refine Old.alloc ?_ _ | refine Old.drew ?_
set_option maxHeartbeats 3000000 in
set_option maxRecDepth 100000 in
theorem lunbornC (j : Jd) (x : Lf.T) (A : Option Addr) (c : Nat) (now jit : Int) (w : World) (hj : JdOk w j) (hn : Tk.U now) (hi : Tk.U jit) (hr : Ts w 30 A (u64s x.times)) (hl : x.times.length ≤ 68719476000) (hx : Lf.Ok x) :
    Calls Try.prog 51 #[jdA j, lfA x A c, .int .u64 now, .int .u64 jit] w (LfPb w (Lf.unb j.j x now jit).1 (Lf.unb j.j x now jit).2) := by
  have HPO : Hid (∀ (q : Lf.T × Bool) A' c' w', Lf.unb j.j x now jit = q → Ts w' 30 A' (u64s q.1.times) → Old w w' → LfPb w (Lf.unb j.j x now jit).1 (Lf.unb j.j x now jit).2 (.returned (.tuple #[lfA q.1 A' c', .bool q.2])) w') := Lib.hid (fun q A' c' w' h1 h2 h3 => by subst h1; exact ⟨A', c', rfl, h2, h3⟩)
  have HF := Lib.hid (fun W (h : Old w W) => lfailC j x A c now jit W (hj.up h) hn hi (hr.up h) hl hx)
  have HTS := Lib.hid hr
  clear hj hr hx
  have HU : Hid (Lf.unb j.j x now jit = if x.halt = true then (Lf.ended x, false) else if j.restart = 1 then (Lf.rest x 8, false) else Lf.over j.j x now jit) := Lib.hid rfl
  obtain ⟨nm, run, eA, env, ec, nA, needs, nc, hasR, rdyp, restart, base, cap, stable, burst, win, lA, lad, lc, line, col⟩ := j
  obtain ⟨ph, inc, runs, since, times, due, armed, rung, halt, again⟩ := x
  unfold LfPb at HF
  simp only at HU HTS
  generalize Lf.unb _ _ now jit = ub at *
  cases halt with
  | true =>
    have hlen : (Lf.ended ⟨ph, inc, runs, since, times, due, armed, rung, true, again⟩).times = times := Lf.len_ended _
    have HC := Lib.hid (fun W => lstoppedC ⟨ph, inc, runs, since, times, due, armed, rung, true, again⟩ A c W)
    have HME : Hid (ub = (Lf.ended ⟨ph, inc, runs, since, times, due, armed, rung, true, again⟩, false)) := Lib.hid (HU.out.trans (if_pos rfl))
    clear HF HU
    generalize Lf.ended _ = q at *
    obtain ⟨ph', inc', runs', since', times', due', armed', rung', halt', again'⟩ := q
    simp only at hlen
    subst hlen
    unfold lfA at HC
    unfold lfA jdA
    simp only at HC ⊢
    go_enter Try.func51, Try.ntmps51
    go_wp2_with fail
    refine (HC.out _).mono ?_; rintro e w3 ⟨rfl, hd⟩
    have HT3 := Lib.hid (HTS.out.up ((((Old.refl w).alloc _).alloc _).alloc _ |>.up hd))
    obtain ⟨b1, b2, b3, hO⟩ := three_ hd
    obtain ⟨⟨d0, d1, d2, d3, d4, d5, d6, d7, d8, d9⟩, g0, g1, g2, g3, g4, g5, g6, g7, g8, g9⟩ := row10 b3
    have HT := Lib.hid (HT3.out.tn2 b2 (by decide) b3 (by decide))
    clear b1 b2 b3 hd HC HT3
    go_wp2_with fail
    refine bodyPost_ret (by first | (simp [results, Try.results51, go_sem, lfA, d0, d1, d2, d3, d4, d5, d6, d7, d8, d9]; done) | (simp [results, Try.results51, go_sem, lfA, d0, d1, d2, d3, d4, d5, d6, d7, d8, d9]; first | rfl | exact ⟨rfl, rfl⟩)) rfl (HPO.out (⟨ph', inc', runs', since', times', due', armed', rung', halt', again'⟩, false) A c _ HME.out ?_ ?_)
    · refine Tn.ts (K := [w.heap.size + 1, w.heap.size + 1 + 1]) ?_
      repeat with_reducible refine Tn.set ?_ (by simp) _
      exact HT.out
    · repeat with_reducible first | exact Old.refl _ | assumption | refine Old.setCell ?_ (by first | omega | (simp <;> omega)) _ | refine Old.drewN ?_ _ | refine Old.alloc ?_ _ | refine Old.drew ?_
  | false =>
    by_cases h1 : restart = 1
    · subst h1
      have HC := Lib.hid (fun W => lrestC ⟨ph, inc, runs, since, times, due, armed, rung, false, again⟩ A c 8 W)
      have HME : Hid (ub = (⟨8, inc, runs, since, times, 0, false, 0, false, false⟩, false)) := Lib.hid (HU.out.trans ((if_neg (by decide)).trans (if_pos rfl)))
      rw [show Lf.rest ⟨ph, inc, runs, since, times, due, armed, rung, false, again⟩ 8 = ⟨8, inc, runs, since, times, 0, false, 0, false, false⟩ from rfl] at HC
      clear HF HU
      unfold lfA at HC
      unfold lfA jdA
      simp only at HC ⊢
      go_enter Try.func51, Try.ntmps51
      go_wp2_with fail
      refine (HC.out _).mono ?_; rintro e w3 ⟨rfl, hd⟩
      have HT3 := Lib.hid (HTS.out.up ((((Old.refl w).alloc _).alloc _).alloc _ |>.up hd))
      obtain ⟨b1, b2, b3, hO⟩ := three_ hd
      obtain ⟨⟨d0, d1, d2, d3, d4, d5, d6, d7, d8, d9⟩, g0, g1, g2, g3, g4, g5, g6, g7, g8, g9⟩ := row10 b3
      have HT := Lib.hid (HT3.out.tn2 b2 (by decide) b3 (by decide))
      clear b1 b2 b3 hd HC HT3
      go_wp2_with fail
      refine bodyPost_ret (by first | (simp [results, Try.results51, go_sem, lfA, d0, d1, d2, d3, d4, d5, d6, d7, d8, d9]; done) | (simp [results, Try.results51, go_sem, lfA, d0, d1, d2, d3, d4, d5, d6, d7, d8, d9]; first | rfl | exact ⟨rfl, rfl⟩)) rfl (HPO.out (⟨8, inc, runs, since, times, 0, false, 0, false, false⟩, false) A c _ HME.out ?_ ?_)
      · refine Tn.ts (K := [w.heap.size + 1, w.heap.size + 1 + 1]) ?_
        repeat with_reducible refine Tn.set ?_ (by simp) _
        exact HT.out
      · repeat with_reducible first | exact Old.refl _ | assumption | refine Old.setCell ?_ (by first | omega | (simp <;> omega)) _ | refine Old.drewN ?_ _ | refine Old.alloc ?_ _ | refine Old.drew ?_
    · have n1 : (restart == 1) = false := by simpa using h1
      have HME : Hid (ub = Lf.over (Jd.j ⟨nm, run, eA, env, ec, nA, needs, nc, hasR, rdyp, restart, base, cap, stable, burst, win, lA, lad, lc, line, col⟩) ⟨ph, inc, runs, since, times, due, armed, rung, false, again⟩ now jit) := Lib.hid (HU.out.trans ((if_neg (by decide)).trans (if_neg h1)))
      have HC := HF
      clear HF HU h1
      generalize Lf.over _ _ now jit = q at *
      obtain ⟨⟨ph', inc', runs', since', times', due', armed', rung', halt', again'⟩, b'⟩ := q
      unfold lfA jdA at HC
      unfold lfA jdA
      simp only at HC ⊢
      go_enter Try.func51, Try.ntmps51
      go_wp2_with fail
      refine (HC.out _ ((((Old.refl w).alloc _).alloc _).alloc _)).mono ?_; rintro e w3 ⟨A3, c3', rfl, ht3, hd⟩
      have HT3 := Lib.hid ht3
      clear ht3
      obtain ⟨b1, b2, b3, hO⟩ := three_ hd
      obtain ⟨⟨d0, d1, d2, d3, d4, d5, d6, d7, d8, d9⟩, g0, g1, g2, g3, g4, g5, g6, g7, g8, g9⟩ := row10 b3
      have HT := Lib.hid (HT3.out.tn2 b2 (by decide) b3 (by decide))
      clear b1 b2 b3 hd HC HT3
      go_wp2_with fail
      refine bodyPost_ret (by first | (simp [results, Try.results51, go_sem, lfA, d0, d1, d2, d3, d4, d5, d6, d7, d8, d9]; done) | (simp [results, Try.results51, go_sem, lfA, d0, d1, d2, d3, d4, d5, d6, d7, d8, d9]; first | rfl | exact ⟨rfl, rfl⟩)) rfl (HPO.out (⟨ph', inc', runs', since', times', due', armed', rung', halt', again'⟩, b') A3 c3' _ HME.out ?_ ?_)
      · refine Tn.ts (K := [w.heap.size + 1, w.heap.size + 1 + 1]) ?_
        repeat with_reducible refine Tn.set ?_ (by simp) _
        exact HT.out
      · repeat with_reducible first | exact Old.refl _ | assumption | refine Old.setCell ?_ (by first | omega | (simp <;> omega)) _ | refine Old.drewN ?_ _ | refine Old.alloc ?_ _ | refine Old.drew ?_
end Go.Proofs.Ytpknglclcdgfbaa
