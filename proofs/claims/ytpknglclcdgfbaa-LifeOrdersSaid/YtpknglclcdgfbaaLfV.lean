/-
  The walk of the reference of life: Spawned.
-/
import Derived.Test.YtpknglclcdgfbaaLfR
import Derived.Deep.DeepCutAuto
namespace Go.Proofs.Ytpknglclcdgfbaa
open Go.RowKit Go.Shelf
set_option linter.unusedVariables false









theorem spawned_over {j : Lf.J} {x : Lf.T} {ready : Bool} {now jit : Int} (h2 : x.ph = 2) (hh : x.halt = false) (hr : j.restart ≠ 1) : Lf.spawned j x false ready now jit = ((Lf.over j x now jit).1, 0, (Lf.over j x now jit).2) := by
  unfold Lf.spawned
  rw [if_neg (by simp [h2]), if_pos rfl, if_neg (by simp [hh]), if_neg hr]
set_option maxHeartbeats 3000000 in
set_option maxRecDepth 100000 in
theorem rspawnedC (j : Jd) (x : Lf.T) (A' : Option Addr) (c' : Nat) (ok ready : Bool) (now jit : Int) (w : World) (hj : JdOk w j) (hn : Tk.U now) (hi : Tk.U jit) (hx : Lf.Ok x) (hru : x.runs ≤ 9223372036854775807) (hr : Ts w 30 A' (u64s x.times)) (hl : x.times.length ≤ 68719476000) :
    Calls Try.prog 76 #[jdA j, lfA x A' c', .bool ok, .bool ready, .int .u64 now, .int .u64 jit] w (LfPib w (Lf.spawned j.j x ok ready now jit).1 (Lf.spawned j.j x ok ready now jit).2.1 (Lf.spawned j.j x ok ready now jit).2.2) := by
  have HPO : Hid (∀ (q : Lf.T × Int × Bool) A' c' w', Lf.spawned j.j x ok ready now jit = q → Ts w' 30 A' (u64s q.1.times) → Old w w' → LfPib w (Lf.spawned j.j x ok ready now jit).1 (Lf.spawned j.j x ok ready now jit).2.1 (Lf.spawned j.j x ok ready now jit).2.2 (.returned (.tuple #[lfA q.1 A' c', .int .i64 q.2.1, .bool q.2.2])) w') := Lib.hid (fun q A' c' w' h1 h2 h3 => by subst h1; exact ⟨A', c', rfl, h2, h3⟩)
  have HRU := Lib.hid hru
  clear hru
  obtain ⟨nm, run, eA, env, ec, nA, needs, nc, hasR, rdyp, restart, base, cap, stable, burst, win, lA, lad, lc, line, col⟩ := j
  obtain ⟨ph, inc, runs, since, times, due, armed, rung, halt, again⟩ := x
  have HJ := Lib.hid hj
  have HLS : Hid (LS3 w (((w.alloc (.cells #[.string nm, .string run, .slice eA env.length ec, .slice nA needs.length nc, .bool hasR, .string rdyp, .int .i64 restart, .int .u64 base, .int .u64 cap, .int .u64 stable, .int .i64 burst, .int .u64 win, .slice lA lad.length lc, .int .i64 line, .int .i64 col] 33)).alloc (.cells #[.int .i64 ph, .int .i64 inc, .int .i64 runs, .int .u64 since, .slice A' times.length c', .int .u64 due, .bool armed, .int .i64 rung, .bool halt, .bool again] 48)).alloc (.cells #[.int .i64 0, .int .i64 0, .int .i64 0, .int .u64 0, .slice none 0 0, .int .u64 0, .bool false, .int .i64 0, .bool false, .bool false] 48)) ⟨nm, run, eA, env, ec, nA, needs, nc, hasR, rdyp, restart, base, cap, stable, burst, win, lA, lad, lc, line, col⟩ ⟨ph, inc, runs, since, times, due, armed, rung, halt, again⟩ A' c') := Lib.hid (by obtain ⟨b1, b2, b3, hO⟩ := three_ (Old.refl (((w.alloc (.cells #[.string nm, .string run, .slice eA env.length ec, .slice nA needs.length nc, .bool hasR, .string rdyp, .int .i64 restart, .int .u64 base, .int .u64 cap, .int .u64 stable, .int .i64 burst, .int .u64 win, .slice lA lad.length lc, .int .i64 line, .int .i64 col] 33)).alloc (.cells #[.int .i64 ph, .int .i64 inc, .int .i64 runs, .int .u64 since, .slice A' times.length c', .int .u64 due, .bool armed, .int .i64 rung, .bool halt, .bool again] 48)).alloc (.cells #[.int .i64 0, .int .i64 0, .int .i64 0, .int .u64 0, .slice none 0 0, .int .u64 0, .bool false, .int .i64 0, .bool false, .bool false] 48))); exact ⟨b1, b2, b3, hO, hr.up hO⟩)
  clear hr hj
  unfold lfA jdA
  try simp only
  go_enter Try.func76, Try.ntmps76
  go_upto_region 1 with fail
  generalize ((w.alloc (.cells #[.string nm, .string run, .slice eA env.length ec, .slice nA needs.length nc, .bool hasR, .string rdyp, .int .i64 restart, .int .u64 base, .int .u64 cap, .int .u64 stable, .int .i64 burst, .int .u64 win, .slice lA lad.length lc, .int .i64 line, .int .i64 col] 33)).alloc (.cells #[.int .i64 ph, .int .i64 inc, .int .i64 runs, .int .u64 since, .slice A' times.length c', .int .u64 due, .bool armed, .int .i64 rung, .bool halt, .bool again] 48)).alloc (.cells #[.int .i64 0, .int .i64 0, .int .i64 0, .int .u64 0, .slice none 0 0, .int .u64 0, .bool false, .int .i64 0, .bool false, .bool false] 48) = wc at *
  have b1 : wc.heap[w.heap.size]? = some (.cells #[.string nm, .string run, .slice eA env.length ec, .slice nA needs.length nc, .bool hasR, .string rdyp, .int .i64 restart, .int .u64 base, .int .u64 cap, .int .u64 stable, .int .i64 burst, .int .u64 win, .slice lA lad.length lc, .int .i64 line, .int .i64 col] 33 (0, 0)) := HLS.out.bj
  have b2 : wc.heap[w.heap.size + 1]? = some (.cells #[.int .i64 ph, .int .i64 inc, .int .i64 runs, .int .u64 since, .slice A' times.length c', .int .u64 due, .bool armed, .int .i64 rung, .bool halt, .bool again] 48 (0, 0)) := HLS.out.bl
  have b3 : wc.heap[w.heap.size + 1 + 1]? = some (.cells #[.int .i64 0, .int .i64 0, .int .i64 0, .int .u64 0, .slice none 0 0, .int .u64 0, .bool false, .int .i64 0, .bool false, .bool false] 48 (0, 0)) := HLS.out.br
  have hts : Ts wc 30 A' (u64s times) := HLS.out.ts
  have hO : Old w wc := HLS.out.old
  obtain ⟨⟨e0, e1, e2, e3, e4, e5, e6, e7, e8, e9, e10, e11, e12, e13, e14⟩, _⟩ := row15 b1
  obtain ⟨⟨c0, c1, c2, c3, c4, c5, c6, c7, c8, c9⟩, f0, f1, f2, f3, f4, f5, f6, f7, f8, f9⟩ := row10 b2
  have b1k := b1
  have B2 := Lib.hid b2
  have B3 := Lib.hid b3
  have HTS := Lib.hid hts
  clear b1 b2 b3 hts HLS
  by_cases h2 : ph = 2
  · subst h2
    cases ok with
    | false =>
      cases halt with
      | true =>
        have hlen : (Lf.ended ⟨2, inc, runs, since, times, due, armed, rung, true, again⟩).times = times := Lf.len_ended _
        have HC := Lib.hid (fun W => rendedC ⟨2, inc, runs, since, times, due, armed, rung, true, again⟩ A' c' W)
        have HME : Hid (Lf.spawned (Jd.j ⟨nm, run, eA, env, ec, nA, needs, nc, hasR, rdyp, restart, base, cap, stable, burst, win, lA, lad, lc, line, col⟩) ⟨2, inc, runs, since, times, due, armed, rung, true, again⟩ false ready now jit = (Lf.ended ⟨2, inc, runs, since, times, due, armed, rung, true, again⟩, 0, false)) := Lib.hid rfl
        generalize Lf.ended _ = q at *
        obtain ⟨ph', inc', runs', since', times', due', armed', rung', halt', again'⟩ := q
        simp only at hlen
        subst hlen
        unfold lfA at HC
        simp only at HC
        go_wp2_with fail
        refine (HC.out _).mono ?_; rintro e w3 ⟨rfl, hd3⟩
        have HTS3 := Lib.hid (HTS.out.up hd3)
        have B23 := Lib.hid (hd3.block B2.out)
        have B33 := Lib.hid (hd3.block B3.out)
        have hO3 := hO.up hd3
        clear hd3 hO HC HTS B2 B3
        have HT := Lib.hid (HTS3.out.tn2 B23.out (by decide) B33.out (by decide))
        obtain ⟨⟨d0, d1, d2, d3, d4, d5, d6, d7, d8, d9⟩, g0, g1, g2, g3, g4, g5, g6, g7, g8, g9⟩ := row10 B33.out
        clear HTS3 B23 B33
        go_wp2_with fail
        refine bodyPost_ret (by first | (simp [results, Try.results76, go_sem, lfA, d0, d1, d2, d3, d4, d5, d6, d7, d8, d9]; done) | (simp [results, Try.results76, go_sem, lfA, d0, d1, d2, d3, d4, d5, d6, d7, d8, d9]; first | rfl | exact ⟨rfl, rfl⟩)) rfl (HPO.out (⟨ph', inc', runs', since', times', due', armed', rung', halt', again'⟩, 0, false) A' c' _ HME.out ?_ ?_)
        · refine Tn.ts (K := [w.heap.size + 1, w.heap.size + 1 + 1]) ?_
          repeat with_reducible refine Tn.set ?_ (by simp) _
          exact HT.out
        · repeat with_reducible first | exact Old.refl _ | assumption | refine Old.setCell ?_ (by first | omega | (simp <;> omega)) _ | refine Old.drewN ?_ _ | refine Old.alloc ?_ _ | refine Old.drew ?_
      | false =>
        by_cases h1 : restart = 1
        · subst h1
          have HC := Lib.hid (fun W => rrestC ⟨2, inc, runs, since, times, due, armed, rung, false, again⟩ A' c' 8 W)
          rw [show Lf.rest ⟨2, inc, runs, since, times, due, armed, rung, false, again⟩ 8 = ⟨8, inc, runs, since, times, 0, false, 0, false, false⟩ from rfl] at HC
          unfold lfA at HC
          simp only at HC
          go_wp2_with fail
          refine (HC.out _).mono ?_; rintro e w3 ⟨rfl, hd3⟩
          have HTS3 := Lib.hid (HTS.out.up hd3)
          have B23 := Lib.hid (hd3.block B2.out)
          have B33 := Lib.hid (hd3.block B3.out)
          have hO3 := hO.up hd3
          clear hd3 hO HC HTS B2 B3
          have HT := Lib.hid (HTS3.out.tn2 B23.out (by decide) B33.out (by decide))
          obtain ⟨⟨d0, d1, d2, d3, d4, d5, d6, d7, d8, d9⟩, g0, g1, g2, g3, g4, g5, g6, g7, g8, g9⟩ := row10 B33.out
          clear HTS3 B23 B33
          go_wp2_with fail
          refine bodyPost_ret (by first | (simp [results, Try.results76, go_sem, lfA, d0, d1, d2, d3, d4, d5, d6, d7, d8, d9]; done) | (simp [results, Try.results76, go_sem, lfA, d0, d1, d2, d3, d4, d5, d6, d7, d8, d9]; first | rfl | exact ⟨rfl, rfl⟩)) rfl (HPO.out (⟨8, inc, runs, since, times, 0, false, 0, false, false⟩, 0, false) A' c' _ rfl ?_ ?_)
          · refine Tn.ts (K := [w.heap.size + 1, w.heap.size + 1 + 1]) ?_
            repeat with_reducible refine Tn.set ?_ (by simp) _
            exact HT.out
          · repeat with_reducible first | exact Old.refl _ | assumption | refine Old.setCell ?_ (by first | omega | (simp <;> omega)) _ | refine Old.drewN ?_ _ | refine Old.alloc ?_ _ | refine Old.drew ?_
        have n1 : (restart == 1) = false := by simpa using h1
        have HC := Lib.hid (fun W (h : Old wc W) => roverC ⟨nm, run, eA, env, ec, nA, needs, nc, hasR, rdyp, restart, base, cap, stable, burst, win, lA, lad, lc, line, col⟩ ⟨2, inc, runs, since, times, due, armed, rung, false, again⟩ A' c' now jit W (HJ.out.up (hO.up h)) hn hi (HTS.out.up h) hl hx HRU.out)
        have HME : Hid (Lf.spawned (Jd.j ⟨nm, run, eA, env, ec, nA, needs, nc, hasR, rdyp, restart, base, cap, stable, burst, win, lA, lad, lc, line, col⟩) ⟨2, inc, runs, since, times, due, armed, rung, false, again⟩ false ready now jit = ((Lf.over (Jd.j ⟨nm, run, eA, env, ec, nA, needs, nc, hasR, rdyp, restart, base, cap, stable, burst, win, lA, lad, lc, line, col⟩) ⟨2, inc, runs, since, times, due, armed, rung, false, again⟩ now jit).1, 0, (Lf.over (Jd.j ⟨nm, run, eA, env, ec, nA, needs, nc, hasR, rdyp, restart, base, cap, stable, burst, win, lA, lad, lc, line, col⟩) ⟨2, inc, runs, since, times, due, armed, rung, false, again⟩ now jit).2)) := Lib.hid (spawned_over rfl rfl h1)
        generalize Lf.over _ _ now jit = q at *
        obtain ⟨⟨ph', inc', runs', since', times', due', armed', rung', halt', again'⟩, b'⟩ := q
        unfold LfPb lfA jdA at HC
        simp only at HC
        go_wp2_with fail
        refine (HC.out _ (Old.refl _)).mono ?_; rintro e w3 ⟨A3, c3', rfl, ht3, hd3⟩
        have B2o := B2.out
        have B3o := B3.out
        have hOo := hO
        have B23 := Lib.hid (hd3.block B2o)
        have B33 := Lib.hid (hd3.block B3o)
        have hO3 := hOo.up hd3
        have HT := Lib.hid ((ht3).tn2 B23.out (by decide) B33.out (by decide))
        clear hd3 hO HC HTS B2 B3 hOo B2o B3o
        obtain ⟨⟨d0, d1, d2, d3, d4, d5, d6, d7, d8, d9⟩, g0, g1, g2, g3, g4, g5, g6, g7, g8, g9⟩ := row10 (((Old.refl w3).alloc (.cells #[.int .i64 ph', .int .i64 inc', .int .i64 runs', .int .u64 since', .slice A3 times'.length c3', .int .u64 due', .bool armed', .int .i64 rung', .bool halt', .bool again'] 48)).block B33.out)
        clear B23 B33
        go_wp2_with fail
        refine bodyPost_ret (by first | (simp [results, Try.results76, go_sem, lfA, d0, d1, d2, d3, d4, d5, d6, d7, d8, d9]; done) | (simp [results, Try.results76, go_sem, lfA, d0, d1, d2, d3, d4, d5, d6, d7, d8, d9]; first | rfl | exact ⟨rfl, rfl⟩)) rfl (HPO.out (⟨ph', inc', runs', since', times', due', armed', rung', halt', again'⟩, 0, b') A3 c3' _ HME.out ?_ ?_)
        · refine Tn.ts (K := [w.heap.size + 1, w.heap.size + 1 + 1]) ?_
          repeat with_reducible refine Tn.set ?_ (by simp) _
          refine Tn.alloc ?_ _
          exact HT.out
        · repeat with_reducible first | exact Old.refl _ | assumption | refine Old.setCell ?_ (by first | omega | (simp <;> omega)) _ | refine Old.drewN ?_ _ | refine Old.alloc ?_ _ | refine Old.drew ?_
    | true =>
      cases halt with
      | true =>
        have HC := Lib.hid (fun W (h : Old w W) => rclimbC ⟨nm, run, eA, env, ec, nA, needs, nc, hasR, rdyp, restart, base, cap, stable, burst, win, lA, lad, lc, line, col⟩ ⟨6, inc, runs, now, times, due, armed, 0, true, again⟩ A' c' now W (HJ.out.up h) hn)
        have hqt : (Lf.climb (Jd.j ⟨nm, run, eA, env, ec, nA, needs, nc, hasR, rdyp, restart, base, cap, stable, burst, win, lA, lad, lc, line, col⟩) ⟨6, inc, runs, now, times, due, armed, 0, true, again⟩ now).1.times = times := rfl
        have HME : Hid (Lf.spawned (Jd.j ⟨nm, run, eA, env, ec, nA, needs, nc, hasR, rdyp, restart, base, cap, stable, burst, win, lA, lad, lc, line, col⟩) ⟨2, inc, runs, since, times, due, armed, rung, true, again⟩ true ready now jit = ((Lf.climb (Jd.j ⟨nm, run, eA, env, ec, nA, needs, nc, hasR, rdyp, restart, base, cap, stable, burst, win, lA, lad, lc, line, col⟩) ⟨6, inc, runs, now, times, due, armed, 0, true, again⟩ now).1, (Lf.climb (Jd.j ⟨nm, run, eA, env, ec, nA, needs, nc, hasR, rdyp, restart, base, cap, stable, burst, win, lA, lad, lc, line, col⟩) ⟨6, inc, runs, now, times, due, armed, 0, true, again⟩ now).2, false)) := Lib.hid rfl
        generalize Lf.climb (Jd.j ⟨nm, run, eA, env, ec, nA, needs, nc, hasR, rdyp, restart, base, cap, stable, burst, win, lA, lad, lc, line, col⟩) ⟨6, inc, runs, now, times, due, armed, 0, true, again⟩ now = q at *
        obtain ⟨⟨ph', inc', runs', since', times', due', armed', rung', halt', again'⟩, s'⟩ := q
        simp only at hqt
        subst hqt
        unfold lfA jdA at HC
        simp only at HC
        have B2o := (heap_setCell_same _ (w.heap.size + 1) 7 _ _ (.int .i64 0) (heap_setCell_same _ (w.heap.size + 1) 0 _ _ (.int .i64 6) (heap_setCell_same _ (w.heap.size + 1) 3 _ _ (.int .u64 now) B2.out)))
        have B3o := ((heap_setCell_other _ ⟨w.heap.size + 1, 7, none⟩ (w.heap.size + 1 + 1) (.int .i64 0) (by simp)).trans ((heap_setCell_other _ ⟨w.heap.size + 1, 0, none⟩ (w.heap.size + 1 + 1) (.int .i64 6) (by simp)).trans ((heap_setCell_other _ ⟨w.heap.size + 1, 3, none⟩ (w.heap.size + 1 + 1) (.int .u64 now) (by simp)).trans B3.out)))
        have hOo := (((hO.setCell (p := ⟨w.heap.size + 1, 3, none⟩) (by simp only; omega) (.int .u64 now)).setCell (p := ⟨w.heap.size + 1, 0, none⟩) (by simp only; omega) (.int .i64 6)).setCell (p := ⟨w.heap.size + 1, 7, none⟩) (by simp only; omega) (.int .i64 0))
        have hts3 := ((((HTS.out.tn2 B2.out (by decide) B3.out (by decide)).set (k := w.heap.size + 1) (i := 3) (by simp) (.int .u64 now)).set (k := w.heap.size + 1) (i := 0) (by simp) (.int .i64 6)).set (k := w.heap.size + 1) (i := 7) (by simp) (.int .i64 0)).ts
        go_wp2_with fail
        refine (HC.out _ hOo).mono ?_; rintro e w3 ⟨rfl, hd3⟩
        have B23 := Lib.hid (hd3.block B2o)
        have B33 := Lib.hid (hd3.block B3o)
        have hO3 := hOo.up hd3
        have HT := Lib.hid ((hts3.up hd3).tn2 B23.out (by decide) B33.out (by decide))
        clear hd3 hts3 hO HC HTS B2 B3 hOo B2o B3o
        obtain ⟨⟨d0, d1, d2, d3, d4, d5, d6, d7, d8, d9⟩, g0, g1, g2, g3, g4, g5, g6, g7, g8, g9⟩ := row10 (((Old.refl w3).alloc (.cells #[.int .i64 ph', .int .i64 inc', .int .i64 runs', .int .u64 since', .slice A' times'.length c', .int .u64 due', .bool armed', .int .i64 rung', .bool halt', .bool again'] 48)).block B33.out)
        clear B23 B33
        go_wp2_with fail
        refine bodyPost_ret (by first | (simp [results, Try.results76, go_sem, lfA, d0, d1, d2, d3, d4, d5, d6, d7, d8, d9]; done) | (simp [results, Try.results76, go_sem, lfA, d0, d1, d2, d3, d4, d5, d6, d7, d8, d9]; first | rfl | exact ⟨rfl, rfl⟩)) rfl (HPO.out (⟨ph', inc', runs', since', times', due', armed', rung', halt', again'⟩, s', false) A' c' _ HME.out ?_ ?_)
        · refine Tn.ts (K := [w.heap.size + 1, w.heap.size + 1 + 1]) ?_
          repeat with_reducible refine Tn.set ?_ (by simp) _
          refine Tn.alloc ?_ _
          exact HT.out
        · repeat with_reducible first | exact Old.refl _ | assumption | refine Old.setCell ?_ (by first | omega | (simp <;> omega)) _ | refine Old.drewN ?_ _ | refine Old.alloc ?_ _ | refine Old.drew ?_
      | false =>
        cases ready with
        | true =>
          have r1 := heap_setCell_same wc (w.heap.size + 1) 3 _ _ (.int .u64 now) B2.out
          have r2 := heap_setCell_same _ (w.heap.size + 1) 0 _ _ (.int .i64 3) r1
          have r3 := heap_setCell_same _ (w.heap.size + 1) 0 _ _ (.int .i64 4) r2
          have z0 : (((wc.setCell ⟨w.heap.size + 1, 3, none⟩ (.int .u64 now)).setCell ⟨w.heap.size + 1, 0, none⟩ (.int .i64 3)).setCell ⟨w.heap.size + 1, 0, none⟩ (.int .i64 4)).cell? ⟨w.heap.size + 1, 0, none⟩ = some (.int .i64 4) := by rw [cell_of_row _ (w.heap.size + 1) 0 _ _ _ r3]; rfl
          clear r1 r2 r3
          have HT := Lib.hid (HTS.out.tn2 B2.out (by decide) B3.out (by decide))
          obtain ⟨⟨d0, d1, d2, d3, d4, d5, d6, d7, d8, d9⟩, g0, g1, g2, g3, g4, g5, g6, g7, g8, g9⟩ := row10 B3.out
          clear HTS B2 B3
          go_wp2_with fail
          refine bodyPost_ret (by first | (simp [results, Try.results76, go_sem, lfA, d0, d1, d2, d3, d4, d5, d6, d7, d8, d9]; done) | (simp [results, Try.results76, go_sem, lfA, d0, d1, d2, d3, d4, d5, d6, d7, d8, d9]; first | rfl | exact ⟨rfl, rfl⟩)) rfl (HPO.out (⟨4, inc, runs, now, times, due, armed, rung, false, again⟩, 0, false) A' c' _ rfl ?_ ?_)
          · refine Tn.ts (K := [w.heap.size + 1, w.heap.size + 1 + 1]) ?_
            repeat with_reducible refine Tn.set ?_ (by simp) _
            exact HT.out
          · repeat with_reducible first | exact Old.refl _ | assumption | refine Old.setCell ?_ (by first | omega | (simp <;> omega)) _ | refine Old.drewN ?_ _ | refine Old.alloc ?_ _ | refine Old.drew ?_
        | false =>
          have HT := Lib.hid (HTS.out.tn2 B2.out (by decide) B3.out (by decide))
          obtain ⟨⟨d0, d1, d2, d3, d4, d5, d6, d7, d8, d9⟩, g0, g1, g2, g3, g4, g5, g6, g7, g8, g9⟩ := row10 B3.out
          clear HTS B2 B3
          go_wp2_with fail
          refine bodyPost_ret (by first | (simp [results, Try.results76, go_sem, lfA, d0, d1, d2, d3, d4, d5, d6, d7, d8, d9]; done) | (simp [results, Try.results76, go_sem, lfA, d0, d1, d2, d3, d4, d5, d6, d7, d8, d9]; first | rfl | exact ⟨rfl, rfl⟩)) rfl (HPO.out (⟨3, inc, runs, now, times, due, armed, rung, false, again⟩, 0, false) A' c' _ rfl ?_ ?_)
          · refine Tn.ts (K := [w.heap.size + 1, w.heap.size + 1 + 1]) ?_
            repeat with_reducible refine Tn.set ?_ (by simp) _
            exact HT.out
          · repeat with_reducible first | exact Old.refl _ | assumption | refine Old.setCell ?_ (by first | omega | (simp <;> omega)) _ | refine Old.drewN ?_ _ | refine Old.alloc ?_ _ | refine Old.drew ?_
  have n2 : (ph == 2) = false := by simpa using h2
  have HT := Lib.hid (HTS.out.tn2 B2.out (by decide) B3.out (by decide))
  obtain ⟨⟨d0, d1, d2, d3, d4, d5, d6, d7, d8, d9⟩, g0, g1, g2, g3, g4, g5, g6, g7, g8, g9⟩ := row10 B3.out
  clear HTS B2 B3
  go_wp2_with fail
  refine bodyPost_ret (by first | (simp [results, Try.results76, go_sem, lfA, d0, d1, d2, d3, d4, d5, d6, d7, d8, d9]; done) | (simp [results, Try.results76, go_sem, lfA, d0, d1, d2, d3, d4, d5, d6, d7, d8, d9]; first | rfl | exact ⟨rfl, rfl⟩)) rfl (HPO.out (⟨ph, inc, runs, since, times, due, armed, rung, halt, again⟩, 0, false) A' c' _ (by show Lf.spawned (Jd.j ⟨nm, run, eA, env, ec, nA, needs, nc, hasR, rdyp, restart, base, cap, stable, burst, win, lA, lad, lc, line, col⟩) ⟨ph, inc, runs, since, times, due, armed, rung, halt, again⟩ ok ready now jit = _; unfold Lf.spawned; rw [if_pos (by simp only; omega)]) ?_ ?_)
  · refine Tn.ts (K := [w.heap.size + 1, w.heap.size + 1 + 1]) ?_
    repeat with_reducible refine Tn.set ?_ (by simp) _
    exact HT.out
  · repeat with_reducible first | exact Old.refl _ | assumption | refine Old.setCell ?_ (by first | omega | (simp <;> omega)) _ | refine Old.drewN ?_ _ | refine Old.alloc ?_ _ | refine Old.drew ?_
end Go.Proofs.Ytpknglclcdgfbaa
