/-
  The walk of the reference of life: Exit.
-/
import Derived.Test.YtpknglclcdgfbaaLfR
import Derived.Deep.DeepCutAuto
namespace Go.Proofs.Ytpknglclcdgfbaa
open Go.RowKit Go.Shelf
set_option linter.unusedVariables false









set_option maxHeartbeats 3000000 in
set_option maxRecDepth 100000 in
theorem rexitC (j : Jd) (x : Lf.T) (A' : Option Addr) (c' : Nat) (code now jit : Int) (w : World) (hj : JdOk w j) (hn : Tk.U now) (hi : Tk.U jit) (hx : Lf.Ok x) (hru : x.runs ≤ 9223372036854775807) (hr : Ts w 30 A' (u64s x.times)) (hl : x.times.length ≤ 68719476000) :
    Calls Try.prog 78 #[jdA j, lfA x A' c', .int .i64 code, .int .u64 now, .int .u64 jit] w (LfPb w (Lf.exit j.j x code now jit).1 (Lf.exit j.j x code now jit).2) := by
  have HPO : Hid (∀ (q : Lf.T × Bool) A' c' w', Lf.exit j.j x code now jit = q → Ts w' 30 A' (u64s q.1.times) → Old w w' → LfPb w (Lf.exit j.j x code now jit).1 (Lf.exit j.j x code now jit).2 (.returned (.tuple #[lfA q.1 A' c', .bool q.2])) w') := Lib.hid (fun q A' c' w' h1 h2 h3 => by subst h1; exact ⟨A', c', rfl, h2, h3⟩)
  have HRU := Lib.hid hru
  clear hru
  obtain ⟨nm, run, eA, env, ec, nA, needs, nc, hasR, rdyp, restart, base, cap, stable, burst, win, lA, lad, lc, line, col⟩ := j
  obtain ⟨ph, inc, runs, since, times, due, armed, rung, halt, again⟩ := x
  have HJ := Lib.hid hj
  have HLS : Hid (LS3 w (((w.alloc (.cells #[.string nm, .string run, .slice eA env.length ec, .slice nA needs.length nc, .bool hasR, .string rdyp, .int .i64 restart, .int .u64 base, .int .u64 cap, .int .u64 stable, .int .i64 burst, .int .u64 win, .slice lA lad.length lc, .int .i64 line, .int .i64 col] 33)).alloc (.cells #[.int .i64 ph, .int .i64 inc, .int .i64 runs, .int .u64 since, .slice A' times.length c', .int .u64 due, .bool armed, .int .i64 rung, .bool halt, .bool again] 48)).alloc (.cells #[.int .i64 0, .int .i64 0, .int .i64 0, .int .u64 0, .slice none 0 0, .int .u64 0, .bool false, .int .i64 0, .bool false, .bool false] 48)) ⟨nm, run, eA, env, ec, nA, needs, nc, hasR, rdyp, restart, base, cap, stable, burst, win, lA, lad, lc, line, col⟩ ⟨ph, inc, runs, since, times, due, armed, rung, halt, again⟩ A' c') := Lib.hid (by obtain ⟨b1, b2, b3, hO⟩ := three_ (Old.refl (((w.alloc (.cells #[.string nm, .string run, .slice eA env.length ec, .slice nA needs.length nc, .bool hasR, .string rdyp, .int .i64 restart, .int .u64 base, .int .u64 cap, .int .u64 stable, .int .i64 burst, .int .u64 win, .slice lA lad.length lc, .int .i64 line, .int .i64 col] 33)).alloc (.cells #[.int .i64 ph, .int .i64 inc, .int .i64 runs, .int .u64 since, .slice A' times.length c', .int .u64 due, .bool armed, .int .i64 rung, .bool halt, .bool again] 48)).alloc (.cells #[.int .i64 0, .int .i64 0, .int .i64 0, .int .u64 0, .slice none 0 0, .int .u64 0, .bool false, .int .i64 0, .bool false, .bool false] 48))); exact ⟨b1, b2, b3, hO, hr.up hO⟩)
  clear hr hj
  unfold lfA jdA
  try simp only
  go_enter Try.func78, Try.ntmps78
  go_upto_region 1 with fail
  generalize ((w.alloc (.cells #[.string nm, .string run, .slice eA env.length ec, .slice nA needs.length nc, .bool hasR, .string rdyp, .int .i64 restart, .int .u64 base, .int .u64 cap, .int .u64 stable, .int .i64 burst, .int .u64 win, .slice lA lad.length lc, .int .i64 line, .int .i64 col] 33)).alloc (.cells #[.int .i64 ph, .int .i64 inc, .int .i64 runs, .int .u64 since, .slice A' times.length c', .int .u64 due, .bool armed, .int .i64 rung, .bool halt, .bool again] 48)).alloc (.cells #[.int .i64 0, .int .i64 0, .int .i64 0, .int .u64 0, .slice none 0 0, .int .u64 0, .bool false, .int .i64 0, .bool false, .bool false] 48) = wc at *
  have b1 : wc.heap[w.heap.size]? = some (.cells #[.string nm, .string run, .slice eA env.length ec, .slice nA needs.length nc, .bool hasR, .string rdyp, .int .i64 restart, .int .u64 base, .int .u64 cap, .int .u64 stable, .int .i64 burst, .int .u64 win, .slice lA lad.length lc, .int .i64 line, .int .i64 col] 33 (0, 0)) := HLS.out.bj
  have b2 : wc.heap[w.heap.size + 1]? = some (.cells #[.int .i64 ph, .int .i64 inc, .int .i64 runs, .int .u64 since, .slice A' times.length c', .int .u64 due, .bool armed, .int .i64 rung, .bool halt, .bool again] 48 (0, 0)) := HLS.out.bl
  have b3 : wc.heap[w.heap.size + 1 + 1]? = some (.cells #[.int .i64 0, .int .i64 0, .int .i64 0, .int .u64 0, .slice none 0 0, .int .u64 0, .bool false, .int .i64 0, .bool false, .bool false] 48 (0, 0)) := HLS.out.br
  have hts : Ts wc 30 A' (u64s times) := HLS.out.ts
  have hO : Old w wc := HLS.out.old
  obtain ⟨⟨e0, e1, e2, e3, e4, e5, e6, e7, e8, e9, e10, e11, e12, e13, e14⟩, _⟩ := row15 b1
  obtain ⟨⟨c0, c1, c2, c3, c4, c5, c6, c7, c8, c9⟩, f0, f1, f2, f3, f4, f5, f6, f7, f8, f9⟩ := row10 b2
  have b1k := b1
  have B2 := Lib.hid b2
  have B3 := Lib.hid b3
  have HTS := Lib.hid hts
  clear b1 b2 b3 hts HLS
  by_cases h3 : ph = 3
  · subst h3
    have HEX0 := Lib.hid (Lf.exit_run (j := (Jd.j ⟨nm, run, eA, env, ec, nA, needs, nc, hasR, rdyp, restart, base, cap, stable, burst, win, lA, lad, lc, line, col⟩)) (x := ⟨3, inc, runs, since, times, due, armed, rung, halt, again⟩) (code := code) (now := now) (jit := jit) (by simp))
    have HSB := Lib.hid (fun (W : World) (n : Nat) => quiet_same (rSub now since hn hx.1 (W.drewN n)))
    have HEX1 : Hid (Lf.exit (Jd.j ⟨nm, run, eA, env, ec, nA, needs, nc, hasR, rdyp, restart, base, cap, stable, burst, win, lA, lad, lc, line, col⟩) ⟨3, inc, runs, since, times, due, armed, rung, halt, again⟩ code now jit = if restart = 3 ∨ restart = 2 ∧ code ≠ 0 then Lf.over (Jd.j ⟨nm, run, eA, env, ec, nA, needs, nc, hasR, rdyp, restart, base, cap, stable, burst, win, lA, lad, lc, line, col⟩) ⟨3, inc, (if stable ≤ Tk.sub now since then 0 else runs), since, times, due, armed, rung, halt, again⟩ now jit else if code = 0 then (Lf.rest ⟨3, inc, (if stable ≤ Tk.sub now since then 0 else runs), since, times, due, armed, rung, halt, again⟩ 7, false) else (Lf.rest ⟨3, inc, (if stable ≤ Tk.sub now since then 0 else runs), since, times, due, armed, rung, halt, again⟩ 8, false)) := Lib.hid HEX0.out
    clear HEX0
    have LS0 : Hid (∀ n, LS3 w (wc.drewN n) ⟨nm, run, eA, env, ec, nA, needs, nc, hasR, rdyp, restart, base, cap, stable, burst, win, lA, lad, lc, line, col⟩ ⟨3, inc, runs, since, times, due, armed, rung, halt, again⟩ A' c') := Lib.hid (fun n => ⟨b1k, B2.out, B3.out, hO.drewN n, HTS.out⟩)
    clear b1k
    generalize Tk.sub now since = sb at *
    go_upto_region 6 with fail
    go_cut [27] (fun s27 wx => s27 = .bool (decide (stable ≤ sb)) ∧ LS3 w wx ⟨nm, run, eA, env, ec, nA, needs, nc, hasR, rdyp, restart, base, cap, stable, burst, win, lA, lad, lc, line, col⟩ ⟨3, inc, runs, since, times, due, armed, rung, halt, again⟩ A' c')
    case first =>
      go_quiet ((go_at_call 84; exact HSB.out _ _))
      go_wp2_with fail
      go_meet
      case rel => exact ⟨rfl, LS0.out _⟩
    case rest =>
      obtain ⟨rfl, hls⟩ := hcut
      have HLS := Lib.hid hls
      clear hls LS0 HSB hO HTS B2 B3 c0 c1 c2 c3 c4 c5 c6 c7 c8 c9 f0 f1 f2 f3 f4 f5 f6 f7 f8 f9 e0 e1 e2 e3 e4 e5 e6 e7 e8 e9 e10 e11 e12 e13 e14
      have b1 : wc.heap[w.heap.size]? = some (.cells #[.string nm, .string run, .slice eA env.length ec, .slice nA needs.length nc, .bool hasR, .string rdyp, .int .i64 restart, .int .u64 base, .int .u64 cap, .int .u64 stable, .int .i64 burst, .int .u64 win, .slice lA lad.length lc, .int .i64 line, .int .i64 col] 33 (0, 0)) := HLS.out.bj
      have b2 : wc.heap[w.heap.size + 1]? = some (.cells #[.int .i64 3, .int .i64 inc, .int .i64 runs, .int .u64 since, .slice A' times.length c', .int .u64 due, .bool armed, .int .i64 rung, .bool halt, .bool again] 48 (0, 0)) := HLS.out.bl
      have b3 : wc.heap[w.heap.size + 1 + 1]? = some (.cells #[.int .i64 0, .int .i64 0, .int .i64 0, .int .u64 0, .slice none 0 0, .int .u64 0, .bool false, .int .i64 0, .bool false, .bool false] 48 (0, 0)) := HLS.out.br
      have hts : Ts wc 30 A' (u64s times) := HLS.out.ts
      have hO : Old w wc := HLS.out.old
      obtain ⟨⟨e0, e1, e2, e3, e4, e5, e6, e7, e8, e9, e10, e11, e12, e13, e14⟩, _⟩ := row15 b1
      obtain ⟨⟨c0, c1, c2, c3, c4, c5, c6, c7, c8, c9⟩, f0, f1, f2, f3, f4, f5, f6, f7, f8, f9⟩ := row10 b2
      have b1k := b1
      have B2 := Lib.hid b2
      have B3 := Lib.hid b3
      have HTS := Lib.hid hts
      clear b1 b2 b3 hts HLS
      go_upto_if 27 with fail
      go_cut [] (fun wx => LS3 w wx ⟨nm, run, eA, env, ec, nA, needs, nc, hasR, rdyp, restart, base, cap, stable, burst, win, lA, lad, lc, line, col⟩ ⟨3, inc, (if stable ≤ sb then 0 else runs), since, times, due, armed, rung, halt, again⟩ A' c')
      case first =>
        by_cases hsb : stable ≤ sb
        · have LS1 : Hid (LS3 w (wc.setCell ⟨w.heap.size + 1, 2, none⟩ (.int .i64 0)) ⟨nm, run, eA, env, ec, nA, needs, nc, hasR, rdyp, restart, base, cap, stable, burst, win, lA, lad, lc, line, col⟩ ⟨3, inc, (if stable ≤ sb then 0 else runs), since, times, due, armed, rung, halt, again⟩ A' c') := Lib.hid (by
            rw [if_pos hsb]
            exact ⟨(heap_setCell_other wc ⟨w.heap.size + 1, 2, none⟩ w.heap.size _ (by simp)).trans b1k, heap_setCell_same wc (w.heap.size + 1) 2 _ _ (.int .i64 0) B2.out, (heap_setCell_other wc ⟨w.heap.size + 1, 2, none⟩ (w.heap.size + 1 + 1) _ (by simp)).trans B3.out, hO.setCell (by simp only; omega) _, ((HTS.out.tn2 B2.out (by decide) B3.out (by decide)).set (k := w.heap.size + 1) (i := 2) (by simp) _).ts⟩)
          clear HTS B2 B3
          go_wp2_with fail
          go_meet
          case rel => exact LS1.out
        · have LS1 : Hid (LS3 w wc ⟨nm, run, eA, env, ec, nA, needs, nc, hasR, rdyp, restart, base, cap, stable, burst, win, lA, lad, lc, line, col⟩ ⟨3, inc, (if stable ≤ sb then 0 else runs), since, times, due, armed, rung, halt, again⟩ A' c') := Lib.hid (by
            rw [if_neg hsb]
            exact ⟨b1k, B2.out, B3.out, hO, HTS.out⟩)
          clear HTS B2 B3
          go_wp2_with fail
          go_meet
          case rel => exact LS1.out
      case rest =>
        have HEX := HEX1
        have HLS := Lib.hid hcut
        clear HEX1 hcut hO HTS B2 B3 c0 c1 c2 c3 c4 c5 c6 c7 c8 c9 f0 f1 f2 f3 f4 f5 f6 f7 f8 f9 e0 e1 e2 e3 e4 e5 e6 e7 e8 e9 e10 e11 e12 e13 e14 b1k
        have hRU : Hid ((if stable ≤ sb then 0 else runs) ≤ 9223372036854775807) := Lib.hid (by have := HRU.out; simp only at this; split <;> omega); generalize (if stable ≤ sb then 0 else runs) = R at *
        have b1 : wc.heap[w.heap.size]? = some (.cells #[.string nm, .string run, .slice eA env.length ec, .slice nA needs.length nc, .bool hasR, .string rdyp, .int .i64 restart, .int .u64 base, .int .u64 cap, .int .u64 stable, .int .i64 burst, .int .u64 win, .slice lA lad.length lc, .int .i64 line, .int .i64 col] 33 (0, 0)) := HLS.out.bj
        have b2 : wc.heap[w.heap.size + 1]? = some (.cells #[.int .i64 3, .int .i64 inc, .int .i64 R, .int .u64 since, .slice A' times.length c', .int .u64 due, .bool armed, .int .i64 rung, .bool halt, .bool again] 48 (0, 0)) := HLS.out.bl
        have b3 : wc.heap[w.heap.size + 1 + 1]? = some (.cells #[.int .i64 0, .int .i64 0, .int .i64 0, .int .u64 0, .slice none 0 0, .int .u64 0, .bool false, .int .i64 0, .bool false, .bool false] 48 (0, 0)) := HLS.out.br
        have hts : Ts wc 30 A' (u64s times) := HLS.out.ts
        have hO : Old w wc := HLS.out.old
        obtain ⟨⟨e0, e1, e2, e3, e4, e5, e6, e7, e8, e9, e10, e11, e12, e13, e14⟩, _⟩ := row15 b1
        obtain ⟨⟨c0, c1, c2, c3, c4, c5, c6, c7, c8, c9⟩, f0, f1, f2, f3, f4, f5, f6, f7, f8, f9⟩ := row10 b2
        have b1k := b1
        have B2 := Lib.hid b2
        have B3 := Lib.hid b3
        have HTS := Lib.hid hts
        clear b1 b2 b3 hts HLS
        generalize Lf.exit _ _ code now jit = ex at *
        by_cases r3 : restart = 3
        · subst r3
          have HC := Lib.hid (fun W (h : Old wc W) => roverC ⟨nm, run, eA, env, ec, nA, needs, nc, hasR, rdyp, 3, base, cap, stable, burst, win, lA, lad, lc, line, col⟩ ⟨3, inc, R, since, times, due, armed, rung, halt, again⟩ A' c' now jit W (HJ.out.up (hO.up h)) hn hi (HTS.out.up h) hl hx hRU.out)
          have HME : Hid (ex = Lf.over (Jd.j ⟨nm, run, eA, env, ec, nA, needs, nc, hasR, rdyp, 3, base, cap, stable, burst, win, lA, lad, lc, line, col⟩) ⟨3, inc, R, since, times, due, armed, rung, halt, again⟩ now jit) := Lib.hid (HEX.out.trans (if_pos (Or.inl rfl)))
          clear HEX
          generalize Lf.over _ _ now jit = q at *
          obtain ⟨⟨ph', inc', runs', since', times', due', armed', rung', halt', again'⟩, b'⟩ := q
          unfold LfPb lfA jdA at HC
          simp only at HC
          go_wp2_with fail
          refine (HC.out _ (Old.refl _)).mono ?_; rintro e w3 ⟨A3, c3', rfl, ht3, hd3⟩
          have B23 := Lib.hid (hd3.block B2.out)
          have B33 := Lib.hid (hd3.block B3.out)
          have hO3 := hO.up hd3
          have HT := Lib.hid (ht3.tn2 B23.out (by decide) B33.out (by decide))
          clear hd3 hO HC HTS B2 B3 ht3
          obtain ⟨⟨d0, d1, d2, d3, d4, d5, d6, d7, d8, d9⟩, g0, g1, g2, g3, g4, g5, g6, g7, g8, g9⟩ := row10 B33.out
          clear B23 B33
          go_wp2_with fail
          refine bodyPost_ret (by first | (simp [results, Try.results78, go_sem, lfA, d0, d1, d2, d3, d4, d5, d6, d7, d8, d9]; done) | (simp [results, Try.results78, go_sem, lfA, d0, d1, d2, d3, d4, d5, d6, d7, d8, d9]; first | rfl | exact ⟨rfl, rfl⟩)) rfl (HPO.out (⟨ph', inc', runs', since', times', due', armed', rung', halt', again'⟩, b') A3 c3' _ HME.out ?_ ?_)
          · refine Tn.ts (K := [w.heap.size + 1, w.heap.size + 1 + 1]) ?_
            repeat with_reducible refine Tn.set ?_ (by simp) _
            exact HT.out
          · repeat with_reducible first | exact Old.refl _ | assumption | refine Old.setCell ?_ (by first | omega | (simp <;> omega)) _ | refine Old.drewN ?_ _ | refine Old.alloc ?_ _ | refine Old.drew ?_
        have n3 : (restart == 3) = false := by simpa using r3
        by_cases r2 : restart = 2
        · subst r2
          by_cases k0 : code = 0
          · subst k0
            have HME : Hid (ex = (⟨7, inc, R, since, times, 0, false, 0, false, false⟩, false)) := Lib.hid (HEX.out.trans ((if_neg (by simp)).trans (if_pos rfl)))
            clear HEX
            have HC := Lib.hid (fun W => rrestC ⟨3, inc, R, since, times, due, armed, rung, halt, again⟩ A' c' 7 W)
            rw [show Lf.rest ⟨3, inc, R, since, times, due, armed, rung, halt, again⟩ 7 = ⟨7, inc, R, since, times, 0, false, 0, false, false⟩ from rfl] at HC
            unfold lfA at HC
            simp only at HC
            go_wp2_with fail
            refine (HC.out _).mono ?_; rintro e w3 ⟨rfl, hd3⟩
            have HTS3 := Lib.hid (HTS.out.up hd3)
            have B23 := Lib.hid (hd3.block B2.out)
            have B33 := Lib.hid (hd3.block B3.out)
            have hO3 := hO.up hd3
            clear hd3 hO HC HTS B2 B3
            have HT := Lib.hid (HTS3.out.tn2 B23.out (by decide) B33.out (by decide))
            obtain ⟨⟨d0, d1, d2, d3, d4, d5, d6, d7, d8, d9⟩, g0, g1, g2, g3, g4, g5, g6, g7, g8, g9⟩ := row10 B33.out
            clear HTS3 B23 B33
            go_wp2_with fail
            refine bodyPost_ret (by first | (simp [results, Try.results78, go_sem, lfA, d0, d1, d2, d3, d4, d5, d6, d7, d8, d9]; done) | (simp [results, Try.results78, go_sem, lfA, d0, d1, d2, d3, d4, d5, d6, d7, d8, d9]; first | rfl | exact ⟨rfl, rfl⟩)) rfl (HPO.out (⟨7, inc, R, since, times, 0, false, 0, false, false⟩, false) A' c' _ HME.out ?_ ?_)
            · refine Tn.ts (K := [w.heap.size + 1, w.heap.size + 1 + 1]) ?_
              repeat with_reducible refine Tn.set ?_ (by simp) _
              exact HT.out
            · repeat with_reducible first | exact Old.refl _ | assumption | refine Old.setCell ?_ (by first | omega | (simp <;> omega)) _ | refine Old.drewN ?_ _ | refine Old.alloc ?_ _ | refine Old.drew ?_
          have m0 : (code != 0) = true := by simpa using k0
          have HC := Lib.hid (fun W (h : Old wc W) => roverC ⟨nm, run, eA, env, ec, nA, needs, nc, hasR, rdyp, 2, base, cap, stable, burst, win, lA, lad, lc, line, col⟩ ⟨3, inc, R, since, times, due, armed, rung, halt, again⟩ A' c' now jit W (HJ.out.up (hO.up h)) hn hi (HTS.out.up h) hl hx hRU.out)
          have HME : Hid (ex = Lf.over (Jd.j ⟨nm, run, eA, env, ec, nA, needs, nc, hasR, rdyp, 2, base, cap, stable, burst, win, lA, lad, lc, line, col⟩) ⟨3, inc, R, since, times, due, armed, rung, halt, again⟩ now jit) := Lib.hid (HEX.out.trans (if_pos (Or.inr ⟨rfl, k0⟩)))
          clear HEX
          generalize Lf.over _ _ now jit = q at *
          obtain ⟨⟨ph', inc', runs', since', times', due', armed', rung', halt', again'⟩, b'⟩ := q
          unfold LfPb lfA jdA at HC
          simp only at HC
          go_wp2_with fail
          refine (HC.out _ (Old.refl _)).mono ?_; rintro e w3 ⟨A3, c3', rfl, ht3, hd3⟩
          have B23 := Lib.hid (hd3.block B2.out)
          have B33 := Lib.hid (hd3.block B3.out)
          have hO3 := hO.up hd3
          have HT := Lib.hid (ht3.tn2 B23.out (by decide) B33.out (by decide))
          clear hd3 hO HC HTS B2 B3 ht3
          obtain ⟨⟨d0, d1, d2, d3, d4, d5, d6, d7, d8, d9⟩, g0, g1, g2, g3, g4, g5, g6, g7, g8, g9⟩ := row10 B33.out
          clear B23 B33
          go_wp2_with fail
          refine bodyPost_ret (by first | (simp [results, Try.results78, go_sem, lfA, d0, d1, d2, d3, d4, d5, d6, d7, d8, d9]; done) | (simp [results, Try.results78, go_sem, lfA, d0, d1, d2, d3, d4, d5, d6, d7, d8, d9]; first | rfl | exact ⟨rfl, rfl⟩)) rfl (HPO.out (⟨ph', inc', runs', since', times', due', armed', rung', halt', again'⟩, b') A3 c3' _ HME.out ?_ ?_)
          · refine Tn.ts (K := [w.heap.size + 1, w.heap.size + 1 + 1]) ?_
            repeat with_reducible refine Tn.set ?_ (by simp) _
            exact HT.out
          · repeat with_reducible first | exact Old.refl _ | assumption | refine Old.setCell ?_ (by first | omega | (simp <;> omega)) _ | refine Old.drewN ?_ _ | refine Old.alloc ?_ _ | refine Old.drew ?_
        have n2 : (restart == 2) = false := by simpa using r2
        by_cases k0 : code = 0
        · subst k0
          have HME : Hid (ex = (⟨7, inc, R, since, times, 0, false, 0, false, false⟩, false)) := Lib.hid (HEX.out.trans ((if_neg (by omega)).trans (if_pos rfl)))
          clear HEX
          have HC := Lib.hid (fun W => rrestC ⟨3, inc, R, since, times, due, armed, rung, halt, again⟩ A' c' 7 W)
          rw [show Lf.rest ⟨3, inc, R, since, times, due, armed, rung, halt, again⟩ 7 = ⟨7, inc, R, since, times, 0, false, 0, false, false⟩ from rfl] at HC
          unfold lfA at HC
          simp only at HC
          go_wp2_with fail
          refine (HC.out _).mono ?_; rintro e w3 ⟨rfl, hd3⟩
          have HTS3 := Lib.hid (HTS.out.up hd3)
          have B23 := Lib.hid (hd3.block B2.out)
          have B33 := Lib.hid (hd3.block B3.out)
          have hO3 := hO.up hd3
          clear hd3 hO HC HTS B2 B3
          have HT := Lib.hid (HTS3.out.tn2 B23.out (by decide) B33.out (by decide))
          obtain ⟨⟨d0, d1, d2, d3, d4, d5, d6, d7, d8, d9⟩, g0, g1, g2, g3, g4, g5, g6, g7, g8, g9⟩ := row10 B33.out
          clear HTS3 B23 B33
          go_wp2_with fail
          refine bodyPost_ret (by first | (simp [results, Try.results78, go_sem, lfA, d0, d1, d2, d3, d4, d5, d6, d7, d8, d9]; done) | (simp [results, Try.results78, go_sem, lfA, d0, d1, d2, d3, d4, d5, d6, d7, d8, d9]; first | rfl | exact ⟨rfl, rfl⟩)) rfl (HPO.out (⟨7, inc, R, since, times, 0, false, 0, false, false⟩, false) A' c' _ HME.out ?_ ?_)
          · refine Tn.ts (K := [w.heap.size + 1, w.heap.size + 1 + 1]) ?_
            repeat with_reducible refine Tn.set ?_ (by simp) _
            exact HT.out
          · repeat with_reducible first | exact Old.refl _ | assumption | refine Old.setCell ?_ (by first | omega | (simp <;> omega)) _ | refine Old.drewN ?_ _ | refine Old.alloc ?_ _ | refine Old.drew ?_
        have m0 : (code == 0) = false := by simpa using k0
        have HME : Hid (ex = (⟨8, inc, R, since, times, 0, false, 0, false, false⟩, false)) := Lib.hid (HEX.out.trans ((if_neg (by omega)).trans (if_neg k0)))
        clear HEX
        have HC := Lib.hid (fun W => rrestC ⟨3, inc, R, since, times, due, armed, rung, halt, again⟩ A' c' 8 W)
        rw [show Lf.rest ⟨3, inc, R, since, times, due, armed, rung, halt, again⟩ 8 = ⟨8, inc, R, since, times, 0, false, 0, false, false⟩ from rfl] at HC
        unfold lfA at HC
        simp only at HC
        go_wp2_with fail
        refine (HC.out _).mono ?_; rintro e w3 ⟨rfl, hd3⟩
        have HTS3 := Lib.hid (HTS.out.up hd3)
        have B23 := Lib.hid (hd3.block B2.out)
        have B33 := Lib.hid (hd3.block B3.out)
        have hO3 := hO.up hd3
        clear hd3 hO HC HTS B2 B3
        have HT := Lib.hid (HTS3.out.tn2 B23.out (by decide) B33.out (by decide))
        obtain ⟨⟨d0, d1, d2, d3, d4, d5, d6, d7, d8, d9⟩, g0, g1, g2, g3, g4, g5, g6, g7, g8, g9⟩ := row10 B33.out
        clear HTS3 B23 B33
        go_wp2_with fail
        refine bodyPost_ret (by first | (simp [results, Try.results78, go_sem, lfA, d0, d1, d2, d3, d4, d5, d6, d7, d8, d9]; done) | (simp [results, Try.results78, go_sem, lfA, d0, d1, d2, d3, d4, d5, d6, d7, d8, d9]; first | rfl | exact ⟨rfl, rfl⟩)) rfl (HPO.out (⟨8, inc, R, since, times, 0, false, 0, false, false⟩, false) A' c' _ HME.out ?_ ?_)
        · refine Tn.ts (K := [w.heap.size + 1, w.heap.size + 1 + 1]) ?_
          repeat with_reducible refine Tn.set ?_ (by simp) _
          exact HT.out
        · repeat with_reducible first | exact Old.refl _ | assumption | refine Old.setCell ?_ (by first | omega | (simp <;> omega)) _ | refine Old.drewN ?_ _ | refine Old.alloc ?_ _ | refine Old.drew ?_
  have n3 : (ph == 3) = false := by simpa using h3
  by_cases h4 : ph = 4
  · subst h4
    have HEX0 := Lib.hid (Lf.exit_run (j := (Jd.j ⟨nm, run, eA, env, ec, nA, needs, nc, hasR, rdyp, restart, base, cap, stable, burst, win, lA, lad, lc, line, col⟩)) (x := ⟨4, inc, runs, since, times, due, armed, rung, halt, again⟩) (code := code) (now := now) (jit := jit) (by simp))
    have HSB := Lib.hid (fun (W : World) (n : Nat) => quiet_same (rSub now since hn hx.1 (W.drewN n)))
    have HEX1 : Hid (Lf.exit (Jd.j ⟨nm, run, eA, env, ec, nA, needs, nc, hasR, rdyp, restart, base, cap, stable, burst, win, lA, lad, lc, line, col⟩) ⟨4, inc, runs, since, times, due, armed, rung, halt, again⟩ code now jit = if restart = 3 ∨ restart = 2 ∧ code ≠ 0 then Lf.over (Jd.j ⟨nm, run, eA, env, ec, nA, needs, nc, hasR, rdyp, restart, base, cap, stable, burst, win, lA, lad, lc, line, col⟩) ⟨4, inc, (if stable ≤ Tk.sub now since then 0 else runs), since, times, due, armed, rung, halt, again⟩ now jit else if code = 0 then (Lf.rest ⟨4, inc, (if stable ≤ Tk.sub now since then 0 else runs), since, times, due, armed, rung, halt, again⟩ 7, false) else (Lf.rest ⟨4, inc, (if stable ≤ Tk.sub now since then 0 else runs), since, times, due, armed, rung, halt, again⟩ 8, false)) := Lib.hid HEX0.out
    clear HEX0
    have LS0 : Hid (∀ n, LS3 w (wc.drewN n) ⟨nm, run, eA, env, ec, nA, needs, nc, hasR, rdyp, restart, base, cap, stable, burst, win, lA, lad, lc, line, col⟩ ⟨4, inc, runs, since, times, due, armed, rung, halt, again⟩ A' c') := Lib.hid (fun n => ⟨b1k, B2.out, B3.out, hO.drewN n, HTS.out⟩)
    clear b1k
    generalize Tk.sub now since = sb at *
    go_upto_region 6 with fail
    go_cut [27] (fun s27 wx => s27 = .bool (decide (stable ≤ sb)) ∧ LS3 w wx ⟨nm, run, eA, env, ec, nA, needs, nc, hasR, rdyp, restart, base, cap, stable, burst, win, lA, lad, lc, line, col⟩ ⟨4, inc, runs, since, times, due, armed, rung, halt, again⟩ A' c')
    case first =>
      go_quiet ((go_at_call 84; exact HSB.out _ _))
      go_wp2_with fail
      go_meet
      case rel => exact ⟨rfl, LS0.out _⟩
    case rest =>
      obtain ⟨rfl, hls⟩ := hcut
      have HLS := Lib.hid hls
      clear hls LS0 HSB hO HTS B2 B3 c0 c1 c2 c3 c4 c5 c6 c7 c8 c9 f0 f1 f2 f3 f4 f5 f6 f7 f8 f9 e0 e1 e2 e3 e4 e5 e6 e7 e8 e9 e10 e11 e12 e13 e14
      have b1 : wc.heap[w.heap.size]? = some (.cells #[.string nm, .string run, .slice eA env.length ec, .slice nA needs.length nc, .bool hasR, .string rdyp, .int .i64 restart, .int .u64 base, .int .u64 cap, .int .u64 stable, .int .i64 burst, .int .u64 win, .slice lA lad.length lc, .int .i64 line, .int .i64 col] 33 (0, 0)) := HLS.out.bj
      have b2 : wc.heap[w.heap.size + 1]? = some (.cells #[.int .i64 4, .int .i64 inc, .int .i64 runs, .int .u64 since, .slice A' times.length c', .int .u64 due, .bool armed, .int .i64 rung, .bool halt, .bool again] 48 (0, 0)) := HLS.out.bl
      have b3 : wc.heap[w.heap.size + 1 + 1]? = some (.cells #[.int .i64 0, .int .i64 0, .int .i64 0, .int .u64 0, .slice none 0 0, .int .u64 0, .bool false, .int .i64 0, .bool false, .bool false] 48 (0, 0)) := HLS.out.br
      have hts : Ts wc 30 A' (u64s times) := HLS.out.ts
      have hO : Old w wc := HLS.out.old
      obtain ⟨⟨e0, e1, e2, e3, e4, e5, e6, e7, e8, e9, e10, e11, e12, e13, e14⟩, _⟩ := row15 b1
      obtain ⟨⟨c0, c1, c2, c3, c4, c5, c6, c7, c8, c9⟩, f0, f1, f2, f3, f4, f5, f6, f7, f8, f9⟩ := row10 b2
      have b1k := b1
      have B2 := Lib.hid b2
      have B3 := Lib.hid b3
      have HTS := Lib.hid hts
      clear b1 b2 b3 hts HLS
      go_upto_if 27 with fail
      go_cut [] (fun wx => LS3 w wx ⟨nm, run, eA, env, ec, nA, needs, nc, hasR, rdyp, restart, base, cap, stable, burst, win, lA, lad, lc, line, col⟩ ⟨4, inc, (if stable ≤ sb then 0 else runs), since, times, due, armed, rung, halt, again⟩ A' c')
      case first =>
        by_cases hsb : stable ≤ sb
        · have LS1 : Hid (LS3 w (wc.setCell ⟨w.heap.size + 1, 2, none⟩ (.int .i64 0)) ⟨nm, run, eA, env, ec, nA, needs, nc, hasR, rdyp, restart, base, cap, stable, burst, win, lA, lad, lc, line, col⟩ ⟨4, inc, (if stable ≤ sb then 0 else runs), since, times, due, armed, rung, halt, again⟩ A' c') := Lib.hid (by
            rw [if_pos hsb]
            exact ⟨(heap_setCell_other wc ⟨w.heap.size + 1, 2, none⟩ w.heap.size _ (by simp)).trans b1k, heap_setCell_same wc (w.heap.size + 1) 2 _ _ (.int .i64 0) B2.out, (heap_setCell_other wc ⟨w.heap.size + 1, 2, none⟩ (w.heap.size + 1 + 1) _ (by simp)).trans B3.out, hO.setCell (by simp only; omega) _, ((HTS.out.tn2 B2.out (by decide) B3.out (by decide)).set (k := w.heap.size + 1) (i := 2) (by simp) _).ts⟩)
          clear HTS B2 B3
          go_wp2_with fail
          go_meet
          case rel => exact LS1.out
        · have LS1 : Hid (LS3 w wc ⟨nm, run, eA, env, ec, nA, needs, nc, hasR, rdyp, restart, base, cap, stable, burst, win, lA, lad, lc, line, col⟩ ⟨4, inc, (if stable ≤ sb then 0 else runs), since, times, due, armed, rung, halt, again⟩ A' c') := Lib.hid (by
            rw [if_neg hsb]
            exact ⟨b1k, B2.out, B3.out, hO, HTS.out⟩)
          clear HTS B2 B3
          go_wp2_with fail
          go_meet
          case rel => exact LS1.out
      case rest =>
        have HEX := HEX1
        have HLS := Lib.hid hcut
        clear HEX1 hcut hO HTS B2 B3 c0 c1 c2 c3 c4 c5 c6 c7 c8 c9 f0 f1 f2 f3 f4 f5 f6 f7 f8 f9 e0 e1 e2 e3 e4 e5 e6 e7 e8 e9 e10 e11 e12 e13 e14 b1k
        have hRU : Hid ((if stable ≤ sb then 0 else runs) ≤ 9223372036854775807) := Lib.hid (by have := HRU.out; simp only at this; split <;> omega); generalize (if stable ≤ sb then 0 else runs) = R at *
        have b1 : wc.heap[w.heap.size]? = some (.cells #[.string nm, .string run, .slice eA env.length ec, .slice nA needs.length nc, .bool hasR, .string rdyp, .int .i64 restart, .int .u64 base, .int .u64 cap, .int .u64 stable, .int .i64 burst, .int .u64 win, .slice lA lad.length lc, .int .i64 line, .int .i64 col] 33 (0, 0)) := HLS.out.bj
        have b2 : wc.heap[w.heap.size + 1]? = some (.cells #[.int .i64 4, .int .i64 inc, .int .i64 R, .int .u64 since, .slice A' times.length c', .int .u64 due, .bool armed, .int .i64 rung, .bool halt, .bool again] 48 (0, 0)) := HLS.out.bl
        have b3 : wc.heap[w.heap.size + 1 + 1]? = some (.cells #[.int .i64 0, .int .i64 0, .int .i64 0, .int .u64 0, .slice none 0 0, .int .u64 0, .bool false, .int .i64 0, .bool false, .bool false] 48 (0, 0)) := HLS.out.br
        have hts : Ts wc 30 A' (u64s times) := HLS.out.ts
        have hO : Old w wc := HLS.out.old
        obtain ⟨⟨e0, e1, e2, e3, e4, e5, e6, e7, e8, e9, e10, e11, e12, e13, e14⟩, _⟩ := row15 b1
        obtain ⟨⟨c0, c1, c2, c3, c4, c5, c6, c7, c8, c9⟩, f0, f1, f2, f3, f4, f5, f6, f7, f8, f9⟩ := row10 b2
        have b1k := b1
        have B2 := Lib.hid b2
        have B3 := Lib.hid b3
        have HTS := Lib.hid hts
        clear b1 b2 b3 hts HLS
        generalize Lf.exit _ _ code now jit = ex at *
        by_cases r3 : restart = 3
        · subst r3
          have HC := Lib.hid (fun W (h : Old wc W) => roverC ⟨nm, run, eA, env, ec, nA, needs, nc, hasR, rdyp, 3, base, cap, stable, burst, win, lA, lad, lc, line, col⟩ ⟨4, inc, R, since, times, due, armed, rung, halt, again⟩ A' c' now jit W (HJ.out.up (hO.up h)) hn hi (HTS.out.up h) hl hx hRU.out)
          have HME : Hid (ex = Lf.over (Jd.j ⟨nm, run, eA, env, ec, nA, needs, nc, hasR, rdyp, 3, base, cap, stable, burst, win, lA, lad, lc, line, col⟩) ⟨4, inc, R, since, times, due, armed, rung, halt, again⟩ now jit) := Lib.hid (HEX.out.trans (if_pos (Or.inl rfl)))
          clear HEX
          generalize Lf.over _ _ now jit = q at *
          obtain ⟨⟨ph', inc', runs', since', times', due', armed', rung', halt', again'⟩, b'⟩ := q
          unfold LfPb lfA jdA at HC
          simp only at HC
          go_wp2_with fail
          refine (HC.out _ (Old.refl _)).mono ?_; rintro e w3 ⟨A3, c3', rfl, ht3, hd3⟩
          have B23 := Lib.hid (hd3.block B2.out)
          have B33 := Lib.hid (hd3.block B3.out)
          have hO3 := hO.up hd3
          have HT := Lib.hid (ht3.tn2 B23.out (by decide) B33.out (by decide))
          clear hd3 hO HC HTS B2 B3 ht3
          obtain ⟨⟨d0, d1, d2, d3, d4, d5, d6, d7, d8, d9⟩, g0, g1, g2, g3, g4, g5, g6, g7, g8, g9⟩ := row10 B33.out
          clear B23 B33
          go_wp2_with fail
          refine bodyPost_ret (by first | (simp [results, Try.results78, go_sem, lfA, d0, d1, d2, d3, d4, d5, d6, d7, d8, d9]; done) | (simp [results, Try.results78, go_sem, lfA, d0, d1, d2, d3, d4, d5, d6, d7, d8, d9]; first | rfl | exact ⟨rfl, rfl⟩)) rfl (HPO.out (⟨ph', inc', runs', since', times', due', armed', rung', halt', again'⟩, b') A3 c3' _ HME.out ?_ ?_)
          · refine Tn.ts (K := [w.heap.size + 1, w.heap.size + 1 + 1]) ?_
            repeat with_reducible refine Tn.set ?_ (by simp) _
            exact HT.out
          · repeat with_reducible first | exact Old.refl _ | assumption | refine Old.setCell ?_ (by first | omega | (simp <;> omega)) _ | refine Old.drewN ?_ _ | refine Old.alloc ?_ _ | refine Old.drew ?_
        have n3 : (restart == 3) = false := by simpa using r3
        by_cases r2 : restart = 2
        · subst r2
          by_cases k0 : code = 0
          · subst k0
            have HME : Hid (ex = (⟨7, inc, R, since, times, 0, false, 0, false, false⟩, false)) := Lib.hid (HEX.out.trans ((if_neg (by simp)).trans (if_pos rfl)))
            clear HEX
            have HC := Lib.hid (fun W => rrestC ⟨4, inc, R, since, times, due, armed, rung, halt, again⟩ A' c' 7 W)
            rw [show Lf.rest ⟨4, inc, R, since, times, due, armed, rung, halt, again⟩ 7 = ⟨7, inc, R, since, times, 0, false, 0, false, false⟩ from rfl] at HC
            unfold lfA at HC
            simp only at HC
            go_wp2_with fail
            refine (HC.out _).mono ?_; rintro e w3 ⟨rfl, hd3⟩
            have HTS3 := Lib.hid (HTS.out.up hd3)
            have B23 := Lib.hid (hd3.block B2.out)
            have B33 := Lib.hid (hd3.block B3.out)
            have hO3 := hO.up hd3
            clear hd3 hO HC HTS B2 B3
            have HT := Lib.hid (HTS3.out.tn2 B23.out (by decide) B33.out (by decide))
            obtain ⟨⟨d0, d1, d2, d3, d4, d5, d6, d7, d8, d9⟩, g0, g1, g2, g3, g4, g5, g6, g7, g8, g9⟩ := row10 B33.out
            clear HTS3 B23 B33
            go_wp2_with fail
            refine bodyPost_ret (by first | (simp [results, Try.results78, go_sem, lfA, d0, d1, d2, d3, d4, d5, d6, d7, d8, d9]; done) | (simp [results, Try.results78, go_sem, lfA, d0, d1, d2, d3, d4, d5, d6, d7, d8, d9]; first | rfl | exact ⟨rfl, rfl⟩)) rfl (HPO.out (⟨7, inc, R, since, times, 0, false, 0, false, false⟩, false) A' c' _ HME.out ?_ ?_)
            · refine Tn.ts (K := [w.heap.size + 1, w.heap.size + 1 + 1]) ?_
              repeat with_reducible refine Tn.set ?_ (by simp) _
              exact HT.out
            · repeat with_reducible first | exact Old.refl _ | assumption | refine Old.setCell ?_ (by first | omega | (simp <;> omega)) _ | refine Old.drewN ?_ _ | refine Old.alloc ?_ _ | refine Old.drew ?_
          have m0 : (code != 0) = true := by simpa using k0
          have HC := Lib.hid (fun W (h : Old wc W) => roverC ⟨nm, run, eA, env, ec, nA, needs, nc, hasR, rdyp, 2, base, cap, stable, burst, win, lA, lad, lc, line, col⟩ ⟨4, inc, R, since, times, due, armed, rung, halt, again⟩ A' c' now jit W (HJ.out.up (hO.up h)) hn hi (HTS.out.up h) hl hx hRU.out)
          have HME : Hid (ex = Lf.over (Jd.j ⟨nm, run, eA, env, ec, nA, needs, nc, hasR, rdyp, 2, base, cap, stable, burst, win, lA, lad, lc, line, col⟩) ⟨4, inc, R, since, times, due, armed, rung, halt, again⟩ now jit) := Lib.hid (HEX.out.trans (if_pos (Or.inr ⟨rfl, k0⟩)))
          clear HEX
          generalize Lf.over _ _ now jit = q at *
          obtain ⟨⟨ph', inc', runs', since', times', due', armed', rung', halt', again'⟩, b'⟩ := q
          unfold LfPb lfA jdA at HC
          simp only at HC
          go_wp2_with fail
          refine (HC.out _ (Old.refl _)).mono ?_; rintro e w3 ⟨A3, c3', rfl, ht3, hd3⟩
          have B23 := Lib.hid (hd3.block B2.out)
          have B33 := Lib.hid (hd3.block B3.out)
          have hO3 := hO.up hd3
          have HT := Lib.hid (ht3.tn2 B23.out (by decide) B33.out (by decide))
          clear hd3 hO HC HTS B2 B3 ht3
          obtain ⟨⟨d0, d1, d2, d3, d4, d5, d6, d7, d8, d9⟩, g0, g1, g2, g3, g4, g5, g6, g7, g8, g9⟩ := row10 B33.out
          clear B23 B33
          go_wp2_with fail
          refine bodyPost_ret (by first | (simp [results, Try.results78, go_sem, lfA, d0, d1, d2, d3, d4, d5, d6, d7, d8, d9]; done) | (simp [results, Try.results78, go_sem, lfA, d0, d1, d2, d3, d4, d5, d6, d7, d8, d9]; first | rfl | exact ⟨rfl, rfl⟩)) rfl (HPO.out (⟨ph', inc', runs', since', times', due', armed', rung', halt', again'⟩, b') A3 c3' _ HME.out ?_ ?_)
          · refine Tn.ts (K := [w.heap.size + 1, w.heap.size + 1 + 1]) ?_
            repeat with_reducible refine Tn.set ?_ (by simp) _
            exact HT.out
          · repeat with_reducible first | exact Old.refl _ | assumption | refine Old.setCell ?_ (by first | omega | (simp <;> omega)) _ | refine Old.drewN ?_ _ | refine Old.alloc ?_ _ | refine Old.drew ?_
        have n2 : (restart == 2) = false := by simpa using r2
        by_cases k0 : code = 0
        · subst k0
          have HME : Hid (ex = (⟨7, inc, R, since, times, 0, false, 0, false, false⟩, false)) := Lib.hid (HEX.out.trans ((if_neg (by omega)).trans (if_pos rfl)))
          clear HEX
          have HC := Lib.hid (fun W => rrestC ⟨4, inc, R, since, times, due, armed, rung, halt, again⟩ A' c' 7 W)
          rw [show Lf.rest ⟨4, inc, R, since, times, due, armed, rung, halt, again⟩ 7 = ⟨7, inc, R, since, times, 0, false, 0, false, false⟩ from rfl] at HC
          unfold lfA at HC
          simp only at HC
          go_wp2_with fail
          refine (HC.out _).mono ?_; rintro e w3 ⟨rfl, hd3⟩
          have HTS3 := Lib.hid (HTS.out.up hd3)
          have B23 := Lib.hid (hd3.block B2.out)
          have B33 := Lib.hid (hd3.block B3.out)
          have hO3 := hO.up hd3
          clear hd3 hO HC HTS B2 B3
          have HT := Lib.hid (HTS3.out.tn2 B23.out (by decide) B33.out (by decide))
          obtain ⟨⟨d0, d1, d2, d3, d4, d5, d6, d7, d8, d9⟩, g0, g1, g2, g3, g4, g5, g6, g7, g8, g9⟩ := row10 B33.out
          clear HTS3 B23 B33
          go_wp2_with fail
          refine bodyPost_ret (by first | (simp [results, Try.results78, go_sem, lfA, d0, d1, d2, d3, d4, d5, d6, d7, d8, d9]; done) | (simp [results, Try.results78, go_sem, lfA, d0, d1, d2, d3, d4, d5, d6, d7, d8, d9]; first | rfl | exact ⟨rfl, rfl⟩)) rfl (HPO.out (⟨7, inc, R, since, times, 0, false, 0, false, false⟩, false) A' c' _ HME.out ?_ ?_)
          · refine Tn.ts (K := [w.heap.size + 1, w.heap.size + 1 + 1]) ?_
            repeat with_reducible refine Tn.set ?_ (by simp) _
            exact HT.out
          · repeat with_reducible first | exact Old.refl _ | assumption | refine Old.setCell ?_ (by first | omega | (simp <;> omega)) _ | refine Old.drewN ?_ _ | refine Old.alloc ?_ _ | refine Old.drew ?_
        have m0 : (code == 0) = false := by simpa using k0
        have HME : Hid (ex = (⟨8, inc, R, since, times, 0, false, 0, false, false⟩, false)) := Lib.hid (HEX.out.trans ((if_neg (by omega)).trans (if_neg k0)))
        clear HEX
        have HC := Lib.hid (fun W => rrestC ⟨4, inc, R, since, times, due, armed, rung, halt, again⟩ A' c' 8 W)
        rw [show Lf.rest ⟨4, inc, R, since, times, due, armed, rung, halt, again⟩ 8 = ⟨8, inc, R, since, times, 0, false, 0, false, false⟩ from rfl] at HC
        unfold lfA at HC
        simp only at HC
        go_wp2_with fail
        refine (HC.out _).mono ?_; rintro e w3 ⟨rfl, hd3⟩
        have HTS3 := Lib.hid (HTS.out.up hd3)
        have B23 := Lib.hid (hd3.block B2.out)
        have B33 := Lib.hid (hd3.block B3.out)
        have hO3 := hO.up hd3
        clear hd3 hO HC HTS B2 B3
        have HT := Lib.hid (HTS3.out.tn2 B23.out (by decide) B33.out (by decide))
        obtain ⟨⟨d0, d1, d2, d3, d4, d5, d6, d7, d8, d9⟩, g0, g1, g2, g3, g4, g5, g6, g7, g8, g9⟩ := row10 B33.out
        clear HTS3 B23 B33
        go_wp2_with fail
        refine bodyPost_ret (by first | (simp [results, Try.results78, go_sem, lfA, d0, d1, d2, d3, d4, d5, d6, d7, d8, d9]; done) | (simp [results, Try.results78, go_sem, lfA, d0, d1, d2, d3, d4, d5, d6, d7, d8, d9]; first | rfl | exact ⟨rfl, rfl⟩)) rfl (HPO.out (⟨8, inc, R, since, times, 0, false, 0, false, false⟩, false) A' c' _ HME.out ?_ ?_)
        · refine Tn.ts (K := [w.heap.size + 1, w.heap.size + 1 + 1]) ?_
          repeat with_reducible refine Tn.set ?_ (by simp) _
          exact HT.out
        · repeat with_reducible first | exact Old.refl _ | assumption | refine Old.setCell ?_ (by first | omega | (simp <;> omega)) _ | refine Old.drewN ?_ _ | refine Old.alloc ?_ _ | refine Old.drew ?_
  have n4 : (ph == 4) = false := by simpa using h4
  by_cases h6 : ph = 6
  · subst h6
    have hlen : (Lf.ended ⟨6, inc, runs, since, times, due, armed, rung, halt, again⟩).times = times := Lf.len_ended _
    have HC := Lib.hid (fun W => rendedC ⟨6, inc, runs, since, times, due, armed, rung, halt, again⟩ A' c' W)
    have HME : Hid (Lf.exit (Jd.j ⟨nm, run, eA, env, ec, nA, needs, nc, hasR, rdyp, restart, base, cap, stable, burst, win, lA, lad, lc, line, col⟩) ⟨6, inc, runs, since, times, due, armed, rung, halt, again⟩ code now jit = (Lf.ended ⟨6, inc, runs, since, times, due, armed, rung, halt, again⟩, false)) := Lib.hid rfl
    generalize Lf.ended _ = q at *
    obtain ⟨ph', inc', runs', since', times', due', armed', rung', halt', again'⟩ := q
    simp only at hlen
    subst hlen
    unfold lfA at HC
    simp only at HC
    go_wp2_with fail
    refine (HC.out _).mono ?_; rintro e w3 ⟨rfl, hd3⟩
    have HTS3 := Lib.hid (HTS.out.up hd3)
    have B23 := Lib.hid (hd3.block B2.out)
    have B33 := Lib.hid (hd3.block B3.out)
    have hO3 := hO.up hd3
    clear hd3 hO HC HTS B2 B3
    have HT := Lib.hid (HTS3.out.tn2 B23.out (by decide) B33.out (by decide))
    obtain ⟨⟨d0, d1, d2, d3, d4, d5, d6, d7, d8, d9⟩, g0, g1, g2, g3, g4, g5, g6, g7, g8, g9⟩ := row10 B33.out
    clear HTS3 B23 B33
    go_wp2_with fail
    refine bodyPost_ret (by first | (simp [results, Try.results78, go_sem, lfA, d0, d1, d2, d3, d4, d5, d6, d7, d8, d9]; done) | (simp [results, Try.results78, go_sem, lfA, d0, d1, d2, d3, d4, d5, d6, d7, d8, d9]; first | rfl | exact ⟨rfl, rfl⟩)) rfl (HPO.out (⟨ph', inc', runs', since', times', due', armed', rung', halt', again'⟩, false) A' c' _ HME.out ?_ ?_)
    · refine Tn.ts (K := [w.heap.size + 1, w.heap.size + 1 + 1]) ?_
      repeat with_reducible refine Tn.set ?_ (by simp) _
      exact HT.out
    · repeat with_reducible first | exact Old.refl _ | assumption | refine Old.setCell ?_ (by first | omega | (simp <;> omega)) _ | refine Old.drewN ?_ _ | refine Old.alloc ?_ _ | refine Old.drew ?_
  have n6 : (ph == 6) = false := by simpa using h6
  have HT := Lib.hid (HTS.out.tn2 B2.out (by decide) B3.out (by decide))
  obtain ⟨⟨d0, d1, d2, d3, d4, d5, d6, d7, d8, d9⟩, g0, g1, g2, g3, g4, g5, g6, g7, g8, g9⟩ := row10 B3.out
  clear HTS B2 B3
  go_wp2_with fail
  refine bodyPost_ret (by first | (simp [results, Try.results78, go_sem, lfA, d0, d1, d2, d3, d4, d5, d6, d7, d8, d9]; done) | (simp [results, Try.results78, go_sem, lfA, d0, d1, d2, d3, d4, d5, d6, d7, d8, d9]; first | rfl | exact ⟨rfl, rfl⟩)) rfl (HPO.out (⟨ph, inc, runs, since, times, due, armed, rung, halt, again⟩, false) A' c' _ (by show Lf.exit (Jd.j ⟨nm, run, eA, env, ec, nA, needs, nc, hasR, rdyp, restart, base, cap, stable, burst, win, lA, lad, lc, line, col⟩) ⟨ph, inc, runs, since, times, due, armed, rung, halt, again⟩ code now jit = _; unfold Lf.exit; rw [if_neg (by simp only; omega), if_neg (by simp only; omega)]) ?_ ?_)
  · refine Tn.ts (K := [w.heap.size + 1, w.heap.size + 1 + 1]) ?_
    repeat with_reducible refine Tn.set ?_ (by simp) _
    exact HT.out
  · repeat with_reducible first | exact Old.refl _ | assumption | refine Old.setCell ?_ (by first | omega | (simp <;> omega)) _ | refine Old.drewN ?_ _ | refine Old.alloc ?_ _ | refine Old.drew ?_
end Go.Proofs.Ytpknglclcdgfbaa
