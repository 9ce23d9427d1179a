/-
  The walks of package life: New, Live, Spawn, Spawned, Exit.
-/
import Derived.Test.YtpknglclcdgfbaaLfX
import Derived.Deep.DeepCutAuto
namespace Go.Proofs.Ytpknglclcdgfbaa
open Go.RowKit Go.Shelf
set_option linter.unusedVariables false









set_option maxHeartbeats 3000000 in
set_option maxRecDepth 100000 in
theorem lnewC (w : World) : Calls Try.prog 21 #[] w (LfP w Lf.new) := by
  have HPO : Hid (∀ (q : Lf.T) A' c' w', Lf.new = q → Ts w' 30 A' (u64s q.times) → Old w w' → LfP w Lf.new (.returned (lfA q A' c')) w') := Lib.hid (fun q A' c' w' h1 h2 h3 => by subst h1; exact ⟨A', c', rfl, h2, h3⟩)
  go_enter Try.func21, Try.ntmps21
  go_wp2_with fail
  refine bodyPost_ret (by first | (simp [results, Try.results21, go_sem, lfA]; done) | (simp [results, Try.results21, go_sem, lfA]; rfl)) rfl (HPO.out ⟨1, 0, 0, 0, [], 0, false, 0, false, false⟩ none 0 _ rfl (Or.inl rfl) ?_)
  repeat with_reducible first | exact Old.refl _ | assumption | refine Old.setCell ?_ (by first | omega | (simp <;> omega)) _ | refine Old.drewN ?_ _ | refine Old.alloc ?_ _ | refine Old.drew ?_
set_option maxHeartbeats 3000000 in
set_option maxRecDepth 100000 in
theorem lliveC (x : Lf.T) (A : Option Addr) (c : Nat) (w : World) : Calls Try.prog 31 #[lfA x A c] w fun e w' => e = .returned (.bool (Lf.live x)) ∧ Old w w' := by
  obtain ⟨ph, inc, runs, since, times, due, armed, rung, halt, again⟩ := x
  unfold lfA
  simp only
  by_cases h2 : ph = 2
  · subst h2
    have HX : Hid (Lf.live ⟨2, inc, runs, since, times, due, armed, rung, halt, again⟩ = true) := Lib.hid rfl
    go_enter Try.func31, Try.ntmps31
    go_wp2_with fail
    go_ret
    refine ⟨by rw [HX.out]; rfl, ?_⟩
    repeat with_reducible first | exact Old.refl _ | assumption | refine Old.setCell ?_ (by first | omega | (simp <;> omega)) _ | refine Old.drewN ?_ _ | refine Old.alloc ?_ _ | refine Old.drew ?_
  have n2 : (ph == 2) = false := by simpa using h2
  by_cases h3 : ph = 3
  · subst h3
    have HX : Hid (Lf.live ⟨3, inc, runs, since, times, due, armed, rung, halt, again⟩ = true) := Lib.hid rfl
    go_enter Try.func31, Try.ntmps31
    go_wp2_with fail
    go_ret
    refine ⟨by rw [HX.out]; rfl, ?_⟩
    repeat with_reducible first | exact Old.refl _ | assumption | refine Old.setCell ?_ (by first | omega | (simp <;> omega)) _ | refine Old.drewN ?_ _ | refine Old.alloc ?_ _ | refine Old.drew ?_
  have n3 : (ph == 3) = false := by simpa using h3
  by_cases h4 : ph = 4
  · subst h4
    have HX : Hid (Lf.live ⟨4, inc, runs, since, times, due, armed, rung, halt, again⟩ = true) := Lib.hid rfl
    go_enter Try.func31, Try.ntmps31
    go_wp2_with fail
    go_ret
    refine ⟨by rw [HX.out]; rfl, ?_⟩
    repeat with_reducible first | exact Old.refl _ | assumption | refine Old.setCell ?_ (by first | omega | (simp <;> omega)) _ | refine Old.drewN ?_ _ | refine Old.alloc ?_ _ | refine Old.drew ?_
  have n4 : (ph == 4) = false := by simpa using h4
  by_cases h6 : ph = 6
  · subst h6
    have HX : Hid (Lf.live ⟨6, inc, runs, since, times, due, armed, rung, halt, again⟩ = true) := Lib.hid rfl
    go_enter Try.func31, Try.ntmps31
    go_wp2_with fail
    go_ret
    refine ⟨by rw [HX.out]; rfl, ?_⟩
    repeat with_reducible first | exact Old.refl _ | assumption | refine Old.setCell ?_ (by first | omega | (simp <;> omega)) _ | refine Old.drewN ?_ _ | refine Old.alloc ?_ _ | refine Old.drew ?_
  have n6 : (ph == 6) = false := by simpa using h6
  have HX : Hid (Lf.live ⟨ph, inc, runs, since, times, due, armed, rung, halt, again⟩ = false) := Lib.hid (by unfold Lf.live; rw [decide_eq_false]; simp only; omega)
  go_enter Try.func31, Try.ntmps31
  go_wp2_with fail
  go_ret
  refine ⟨by rw [HX.out]; rfl, ?_⟩
  repeat with_reducible first | exact Old.refl _ | assumption | refine Old.setCell ?_ (by first | omega | (simp <;> omega)) _ | refine Old.drewN ?_ _ | refine Old.alloc ?_ _ | refine Old.drew ?_
set_option maxHeartbeats 3000000 in
set_option maxRecDepth 100000 in
theorem lspawnC (x : Lf.T) (A : Option Addr) (c : Nat) (w : World) (hr : Ts w 30 A (u64s x.times)) (hl : x.times.length ≤ 68719476000) :
    Calls Try.prog 22 #[lfA x A c] w (LfPb w (Lf.spawn x).1 (Lf.spawn x).2) := by
  have HPO : Hid (∀ (q : Lf.T × Bool) A' c' w', Lf.spawn x = q → Ts w' 30 A' (u64s q.1.times) → Old w w' → LfPb w (Lf.spawn x).1 (Lf.spawn x).2 (.returned (.tuple #[lfA q.1 A' c', .bool q.2])) w') := Lib.hid (fun q A' c' w' h1 h2 h3 => by subst h1; exact ⟨A', c', rfl, h2, h3⟩)
  have HOWN := Lib.hid (fun W (h : Old w W) => lownC x A c W (hr.up h) hl)
  clear hr
  unfold LfP lfA at HOWN
  unfold lfA
  go_enter Try.func22, Try.ntmps22
  go_upto_region 1 with fail
  go_cut [] (fun wx => ∃ (A' : Option Addr) (c' : Nat), LS2 w wx x A' c')
  case first =>
    go_wp2_with fail
    refine (HOWN.out _ (((Old.refl w).alloc _).alloc _)).mono ?_; rintro e w2 ⟨A2, c2, rfl, ht, hd⟩
    obtain ⟨b2, b3, hO⟩ := two_ hd
    obtain ⟨⟨c0, c1, c2', c3, c4, c5, c6, c7, c8, c9⟩, f0, f1, f2, f3, f4, f5, f6, f7, f8, f9⟩ := row10 b2
    have HX : Hid (LS2 w (put10 w2 w.heap.size (.int .i64 x.ph) (.int .i64 x.inc) (.int .i64 x.runs) (.int .u64 x.since) (.slice A2 x.times.length c2) (.int .u64 x.due) (.bool x.armed) (.int .i64 x.rung) (.bool x.halt) (.bool x.again)) x A2 c2) :=
      Lib.hid ⟨put10_row b2, (put10_other (by omega)).trans b3, put10_old hO (by omega), (put10_tn (ht.tn2 b2 (by decide) b3 (by decide)) (by simp)).ts⟩
    clear ht hd b2 b3 HOWN
    go_wp2_with fail
    go_meet
    case rel => exact ⟨A2, c2, HX.out⟩
  case rest =>
    obtain ⟨A', c', hls⟩ := hcut
    have HLS := Lib.hid hls
    clear hls
    obtain ⟨ph, inc, runs, since, times, due, armed, rung, halt, again⟩ := x
    have b2 : wc.heap[w.heap.size]? = some (.cells #[.int .i64 ph, .int .i64 inc, .int .i64 runs, .int .u64 since, .slice A' times.length c', .int .u64 due, .bool armed, .int .i64 rung, .bool halt, .bool again] 48 (0, 0)) := HLS.out.bl
    have b3 : wc.heap[w.heap.size + 1]? = some (.cells #[.int .i64 0, .int .i64 0, .int .i64 0, .int .u64 0, .slice none 0 0, .int .u64 0, .bool false, .int .i64 0, .bool false, .bool false] 48 (0, 0)) := HLS.out.br
    have hts : Ts wc 30 A' (u64s times) := HLS.out.ts
    have hO : Old w wc := HLS.out.old
    obtain ⟨⟨c0, c1, c2, c3, c4, c5, c6, c7, c8, c9⟩, f0, f1, f2, f3, f4, f5, f6, f7, f8, f9⟩ := row10 b2
    have B2 := Lib.hid b2
    have B3 := Lib.hid b3
    have HTS := Lib.hid hts
    clear b2 b3 hts HLS
    by_cases h1 : ph = 1
    · subst h1
      have HT := Lib.hid (HTS.out.tn2 B2.out (by decide) B3.out (by decide))
      obtain ⟨⟨d0, d1, d2, d3, d4, d5, d6, d7, d8, d9⟩, g0, g1, g2, g3, g4, g5, g6, g7, g8, g9⟩ := row10 B3.out
      clear HTS B2 B3
      go_wp2_with fail
      refine bodyPost_ret (by first | (simp [results, Try.results22, go_sem, lfA, d0, d1, d2, d3, d4, d5, d6, d7, d8, d9]; done) | (simp [results, Try.results22, go_sem, lfA, d0, d1, d2, d3, d4, d5, d6, d7, d8, d9]; first | rfl | exact ⟨rfl, rfl⟩)) rfl (HPO.out (⟨2, wrap64 (inc + 1), runs, since, times, due, armed, rung, halt, again⟩, true) A' c' _ rfl ?_ ?_)
      · refine Tn.ts (K := [w.heap.size, w.heap.size + 1]) ?_
        repeat with_reducible refine Tn.set ?_ (by simp) _
        exact HT.out
      · repeat with_reducible first | exact Old.refl _ | assumption | refine Old.setCell ?_ (by first | omega | (simp <;> omega)) _ | refine Old.drewN ?_ _ | refine Old.alloc ?_ _ | refine Old.drew ?_
    have n1 : (ph == 1) = false := by simpa using h1
    have HT := Lib.hid (HTS.out.tn2 B2.out (by decide) B3.out (by decide))
    obtain ⟨⟨d0, d1, d2, d3, d4, d5, d6, d7, d8, d9⟩, g0, g1, g2, g3, g4, g5, g6, g7, g8, g9⟩ := row10 B3.out
    clear HTS B2 B3
    go_wp2_with fail
    refine bodyPost_ret (by first | (simp [results, Try.results22, go_sem, lfA, d0, d1, d2, d3, d4, d5, d6, d7, d8, d9]; done) | (simp [results, Try.results22, go_sem, lfA, d0, d1, d2, d3, d4, d5, d6, d7, d8, d9]; first | rfl | exact ⟨rfl, rfl⟩)) rfl (HPO.out (⟨ph, inc, runs, since, times, due, armed, rung, halt, again⟩, false) A' c' _ (by unfold Lf.spawn; rw [if_neg h1]) ?_ ?_)
    · refine Tn.ts (K := [w.heap.size, w.heap.size + 1]) ?_
      repeat with_reducible refine Tn.set ?_ (by simp) _
      exact HT.out
    · repeat with_reducible first | exact Old.refl _ | assumption | refine Old.setCell ?_ (by first | omega | (simp <;> omega)) _ | refine Old.drewN ?_ _ | refine Old.alloc ?_ _ | refine Old.drew ?_
set_option maxHeartbeats 3000000 in
set_option maxRecDepth 100000 in
theorem lspawnedC (j : Jd) (x : Lf.T) (A : Option Addr) (c : Nat) (ok ready : Bool) (now jit : Int) (w : World) (hj : JdOk w j) (hn : Tk.U now) (hi : Tk.U jit) (hx : Lf.Ok x) (hr : Ts w 30 A (u64s x.times)) (hl : x.times.length ≤ 68719476000) :
    Calls Try.prog 23 #[jdA j, lfA x A c, .bool ok, .bool ready, .int .u64 now, .int .u64 jit] w (LfPib w (Lf.spawned j.j x ok ready now jit).1 (Lf.spawned j.j x ok ready now jit).2.1 (Lf.spawned j.j x ok ready now jit).2.2) := by
  have HPO : Hid (∀ (q : Lf.T × Int × Bool) A' c' w', Lf.spawned j.j x ok ready now jit = q → Ts w' 30 A' (u64s q.1.times) → Old w w' → LfPib w (Lf.spawned j.j x ok ready now jit).1 (Lf.spawned j.j x ok ready now jit).2.1 (Lf.spawned j.j x ok ready now jit).2.2 (.returned (.tuple #[lfA q.1 A' c', .int .i64 q.2.1, .bool q.2.2])) w') := Lib.hid (fun q A' c' w' h1 h2 h3 => by subst h1; exact ⟨A', c', rfl, h2, h3⟩)
  have HOWN := Lib.hid (fun W (h : Old w W) => lownC x A c W (hr.up h) hl)
  clear hr
  have HJ := Lib.hid hj
  clear hj
  unfold LfP lfA at HOWN
  unfold lfA jdA
  go_enter Try.func23, Try.ntmps23
  go_upto_region 1 with fail
  go_cut [] (fun wx => ∃ (A' : Option Addr) (c' : Nat), LS3 w wx j x A' c')
  case first =>
    go_wp2_with fail
    refine (HOWN.out _ ((((Old.refl w).alloc _).alloc _).alloc _)).mono ?_; rintro e w2 ⟨A2, c2, rfl, ht, hd⟩
    obtain ⟨b1, b2, b3, hO⟩ := three_ hd
    obtain ⟨⟨c0, c1, c2', c3, c4, c5, c6, c7, c8, c9⟩, f0, f1, f2, f3, f4, f5, f6, f7, f8, f9⟩ := row10 b2
    have HX : Hid (LS3 w (put10 w2 (w.heap.size + 1) (.int .i64 x.ph) (.int .i64 x.inc) (.int .i64 x.runs) (.int .u64 x.since) (.slice A2 x.times.length c2) (.int .u64 x.due) (.bool x.armed) (.int .i64 x.rung) (.bool x.halt) (.bool x.again)) j x A2 c2) :=
      Lib.hid ⟨(put10_other (by omega)).trans b1, put10_row b2, (put10_other (by omega)).trans b3, put10_old hO (by omega), (put10_tn (ht.tn2 b2 (by decide) b3 (by decide)) (by simp)).ts⟩
    clear ht hd b1 b2 b3 HOWN
    go_wp2_with fail
    go_meet
    case rel => exact ⟨A2, c2, HX.out⟩
  case rest =>
    obtain ⟨A', c', hls⟩ := hcut
    have HLS := Lib.hid hls
    clear hls
    obtain ⟨nm, run, eA, env, ec, nA, needs, nc, hasR, rdyp, restart, base, cap, stable, burst, win, lA, lad, lc, line, col⟩ := j
    obtain ⟨ph, inc, runs, since, times, due, armed, rung, halt, again⟩ := x
    have b1 : wc.heap[w.heap.size]? = some (.cells #[.string nm, .string run, .slice eA env.length ec, .slice nA needs.length nc, .bool hasR, .string rdyp, .int .i64 restart, .int .u64 base, .int .u64 cap, .int .u64 stable, .int .i64 burst, .int .u64 win, .slice lA lad.length lc, .int .i64 line, .int .i64 col] 33 (0, 0)) := HLS.out.bj
    have b2 : wc.heap[w.heap.size + 1]? = some (.cells #[.int .i64 ph, .int .i64 inc, .int .i64 runs, .int .u64 since, .slice A' times.length c', .int .u64 due, .bool armed, .int .i64 rung, .bool halt, .bool again] 48 (0, 0)) := HLS.out.bl
    have b3 : wc.heap[w.heap.size + 1 + 1]? = some (.cells #[.int .i64 0, .int .i64 0, .int .i64 0, .int .u64 0, .slice none 0 0, .int .u64 0, .bool false, .int .i64 0, .bool false, .bool false] 48 (0, 0)) := HLS.out.br
    have hts : Ts wc 30 A' (u64s times) := HLS.out.ts
    have hO : Old w wc := HLS.out.old
    obtain ⟨⟨e0, e1, e2, e3, e4, e5, e6, e7, e8, e9, e10, e11, e12, e13, e14⟩, _⟩ := row15 b1
    obtain ⟨⟨c0, c1, c2, c3, c4, c5, c6, c7, c8, c9⟩, f0, f1, f2, f3, f4, f5, f6, f7, f8, f9⟩ := row10 b2
    have b1k := b1
    have B2 := Lib.hid b2
    have B3 := Lib.hid b3
    have HTS := Lib.hid hts
    clear b1 b2 b3 hts HLS
    by_cases h2 : ph = 2
    · subst h2
      cases ok with
      | false =>
        have HC := Lib.hid (fun W (h : Old wc W) => lunbornC ⟨nm, run, eA, env, ec, nA, needs, nc, hasR, rdyp, restart, base, cap, stable, burst, win, lA, lad, lc, line, col⟩ ⟨2, inc, runs, since, times, due, armed, rung, halt, again⟩ A' c' now jit W (HJ.out.up (hO.up h)) hn hi (HTS.out.up h) hl hx)
        have HME : Hid (Lf.spawned (Jd.j ⟨nm, run, eA, env, ec, nA, needs, nc, hasR, rdyp, restart, base, cap, stable, burst, win, lA, lad, lc, line, col⟩) ⟨2, inc, runs, since, times, due, armed, rung, halt, again⟩ false ready now jit = ((Lf.unb (Jd.j ⟨nm, run, eA, env, ec, nA, needs, nc, hasR, rdyp, restart, base, cap, stable, burst, win, lA, lad, lc, line, col⟩) ⟨2, inc, runs, since, times, due, armed, rung, halt, again⟩ now jit).1, 0, (Lf.unb (Jd.j ⟨nm, run, eA, env, ec, nA, needs, nc, hasR, rdyp, restart, base, cap, stable, burst, win, lA, lad, lc, line, col⟩) ⟨2, inc, runs, since, times, due, armed, rung, halt, again⟩ now jit).2)) := Lib.hid (Lf.spawned_no rfl)
        generalize Lf.unb _ _ now jit = q at *
        obtain ⟨⟨ph', inc', runs', since', times', due', armed', rung', halt', again'⟩, b'⟩ := q
        unfold LfPb lfA jdA at HC
        simp only at HC
        go_wp2_with fail
        refine (HC.out _ (Old.refl _)).mono ?_; rintro e w3 ⟨A3, c3', rfl, ht3, hd3⟩
        have B2o := B2.out
        have B3o := B3.out
        have hOo := hO
        have B23 := Lib.hid (hd3.block B2o)
        have B33 := Lib.hid (hd3.block B3o)
        have hO3 := hOo.up hd3
        have HT := Lib.hid ((ht3).tn2 B23.out (by decide) B33.out (by decide))
        clear hd3 hO HC HTS B2 B3 hOo B2o B3o
        obtain ⟨⟨d0, d1, d2, d3, d4, d5, d6, d7, d8, d9⟩, g0, g1, g2, g3, g4, g5, g6, g7, g8, g9⟩ := row10 (((Old.refl w3).alloc (.cells #[.int .i64 ph', .int .i64 inc', .int .i64 runs', .int .u64 since', .slice A3 times'.length c3', .int .u64 due', .bool armed', .int .i64 rung', .bool halt', .bool again'] 48)).block B33.out)
        clear B23 B33
        go_wp2_with fail
        refine bodyPost_ret (by first | (simp [results, Try.results23, go_sem, lfA, d0, d1, d2, d3, d4, d5, d6, d7, d8, d9]; done) | (simp [results, Try.results23, go_sem, lfA, d0, d1, d2, d3, d4, d5, d6, d7, d8, d9]; first | rfl | exact ⟨rfl, rfl⟩)) rfl (HPO.out (⟨ph', inc', runs', since', times', due', armed', rung', halt', again'⟩, 0, b') A3 c3' _ HME.out ?_ ?_)
        · refine Tn.ts (K := [w.heap.size + 1, w.heap.size + 1 + 1]) ?_
          repeat with_reducible refine Tn.set ?_ (by simp) _
          refine Tn.alloc ?_ _
          exact HT.out
        · repeat with_reducible first | exact Old.refl _ | assumption | refine Old.setCell ?_ (by first | omega | (simp <;> omega)) _ | refine Old.drewN ?_ _ | refine Old.alloc ?_ _ | refine Old.drew ?_
      | true =>
        cases halt with
        | true =>
          have HC := Lib.hid (fun W (h : Old w W) => lhaltC ⟨nm, run, eA, env, ec, nA, needs, nc, hasR, rdyp, restart, base, cap, stable, burst, win, lA, lad, lc, line, col⟩ ⟨2, inc, runs, now, times, due, armed, rung, true, again⟩ A' c' now W (HJ.out.up h) hn)
          have hqt : (Lf.halt_ (Jd.j ⟨nm, run, eA, env, ec, nA, needs, nc, hasR, rdyp, restart, base, cap, stable, burst, win, lA, lad, lc, line, col⟩) ⟨2, inc, runs, now, times, due, armed, rung, true, again⟩ now).1.times = times := rfl
          have HME : Hid (Lf.spawned (Jd.j ⟨nm, run, eA, env, ec, nA, needs, nc, hasR, rdyp, restart, base, cap, stable, burst, win, lA, lad, lc, line, col⟩) ⟨2, inc, runs, since, times, due, armed, rung, true, again⟩ true ready now jit = ((Lf.halt_ (Jd.j ⟨nm, run, eA, env, ec, nA, needs, nc, hasR, rdyp, restart, base, cap, stable, burst, win, lA, lad, lc, line, col⟩) ⟨2, inc, runs, now, times, due, armed, rung, true, again⟩ now).1, (Lf.halt_ (Jd.j ⟨nm, run, eA, env, ec, nA, needs, nc, hasR, rdyp, restart, base, cap, stable, burst, win, lA, lad, lc, line, col⟩) ⟨2, inc, runs, now, times, due, armed, rung, true, again⟩ now).2, false)) := Lib.hid rfl
          generalize Lf.halt_ _ _ now = q at *
          obtain ⟨⟨ph', inc', runs', since', times', due', armed', rung', halt', again'⟩, s'⟩ := q
          simp only at hqt
          subst hqt
          unfold lfA jdA at HC
          simp only at HC
          have B2o := heap_setCell_same wc (w.heap.size + 1) 3 _ _ (.int .u64 now) B2.out
          have B3o := (heap_setCell_other wc ⟨w.heap.size + 1, 3, none⟩ (w.heap.size + 1 + 1) (.int .u64 now) (by simp)).trans B3.out
          have hOo := hO.setCell (p := ⟨w.heap.size + 1, 3, none⟩) (by simp only; omega) (.int .u64 now)
          have hts3 := ((HTS.out.tn2 B2.out (by decide) B3.out (by decide)).set (k := w.heap.size + 1) (i := 3) (by simp) (.int .u64 now)).ts
          go_wp2_with fail
          refine (HC.out _ hOo).mono ?_; rintro e w3 ⟨rfl, hd3⟩
          have B23 := Lib.hid (hd3.block B2o)
          have B33 := Lib.hid (hd3.block B3o)
          have hO3 := hOo.up hd3
          have HT := Lib.hid ((hts3.up hd3).tn2 B23.out (by decide) B33.out (by decide))
          clear hd3 hts3 hO HC HTS B2 B3 hOo B2o B3o
          obtain ⟨⟨d0, d1, d2, d3, d4, d5, d6, d7, d8, d9⟩, g0, g1, g2, g3, g4, g5, g6, g7, g8, g9⟩ := row10 (((Old.refl w3).alloc (.cells #[.int .i64 ph', .int .i64 inc', .int .i64 runs', .int .u64 since', .slice A' times'.length c', .int .u64 due', .bool armed', .int .i64 rung', .bool halt', .bool again'] 48)).block B33.out)
          clear B23 B33
          go_wp2_with fail
          refine bodyPost_ret (by first | (simp [results, Try.results23, go_sem, lfA, d0, d1, d2, d3, d4, d5, d6, d7, d8, d9]; done) | (simp [results, Try.results23, go_sem, lfA, d0, d1, d2, d3, d4, d5, d6, d7, d8, d9]; first | rfl | exact ⟨rfl, rfl⟩)) rfl (HPO.out (⟨ph', inc', runs', since', times', due', armed', rung', halt', again'⟩, s', false) A' c' _ HME.out ?_ ?_)
          · refine Tn.ts (K := [w.heap.size + 1, w.heap.size + 1 + 1]) ?_
            repeat with_reducible refine Tn.set ?_ (by simp) _
            refine Tn.alloc ?_ _
            exact HT.out
          · repeat with_reducible first | exact Old.refl _ | assumption | refine Old.setCell ?_ (by first | omega | (simp <;> omega)) _ | refine Old.drewN ?_ _ | refine Old.alloc ?_ _ | refine Old.drew ?_
        | false =>
          cases ready with
          | true =>
            have r1 := heap_setCell_same wc (w.heap.size + 1) 3 _ _ (.int .u64 now) B2.out
            have r2 := heap_setCell_same _ (w.heap.size + 1) 0 _ _ (.int .i64 3) r1
            have r3 := heap_setCell_same _ (w.heap.size + 1) 0 _ _ (.int .i64 4) r2
            have z0 : (((wc.setCell ⟨w.heap.size + 1, 3, none⟩ (.int .u64 now)).setCell ⟨w.heap.size + 1, 0, none⟩ (.int .i64 3)).setCell ⟨w.heap.size + 1, 0, none⟩ (.int .i64 4)).cell? ⟨w.heap.size + 1, 0, none⟩ = some (.int .i64 4) := by rw [cell_of_row _ (w.heap.size + 1) 0 _ _ _ r3]; rfl
            clear r1 r2 r3
            have HT := Lib.hid (HTS.out.tn2 B2.out (by decide) B3.out (by decide))
            obtain ⟨⟨d0, d1, d2, d3, d4, d5, d6, d7, d8, d9⟩, g0, g1, g2, g3, g4, g5, g6, g7, g8, g9⟩ := row10 B3.out
            clear HTS B2 B3
            go_wp2_with fail
            refine bodyPost_ret (by first | (simp [results, Try.results23, go_sem, lfA, d0, d1, d2, d3, d4, d5, d6, d7, d8, d9]; done) | (simp [results, Try.results23, go_sem, lfA, d0, d1, d2, d3, d4, d5, d6, d7, d8, d9]; first | rfl | exact ⟨rfl, rfl⟩)) rfl (HPO.out (⟨4, inc, runs, now, times, due, armed, rung, false, again⟩, 0, false) A' c' _ rfl ?_ ?_)
            · refine Tn.ts (K := [w.heap.size + 1, w.heap.size + 1 + 1]) ?_
              repeat with_reducible refine Tn.set ?_ (by simp) _
              exact HT.out
            · repeat with_reducible first | exact Old.refl _ | assumption | refine Old.setCell ?_ (by first | omega | (simp <;> omega)) _ | refine Old.drewN ?_ _ | refine Old.alloc ?_ _ | refine Old.drew ?_
          | false =>
            have HT := Lib.hid (HTS.out.tn2 B2.out (by decide) B3.out (by decide))
            obtain ⟨⟨d0, d1, d2, d3, d4, d5, d6, d7, d8, d9⟩, g0, g1, g2, g3, g4, g5, g6, g7, g8, g9⟩ := row10 B3.out
            clear HTS B2 B3
            go_wp2_with fail
            refine bodyPost_ret (by first | (simp [results, Try.results23, go_sem, lfA, d0, d1, d2, d3, d4, d5, d6, d7, d8, d9]; done) | (simp [results, Try.results23, go_sem, lfA, d0, d1, d2, d3, d4, d5, d6, d7, d8, d9]; first | rfl | exact ⟨rfl, rfl⟩)) rfl (HPO.out (⟨3, inc, runs, now, times, due, armed, rung, false, again⟩, 0, false) A' c' _ rfl ?_ ?_)
            · refine Tn.ts (K := [w.heap.size + 1, w.heap.size + 1 + 1]) ?_
              repeat with_reducible refine Tn.set ?_ (by simp) _
              exact HT.out
            · repeat with_reducible first | exact Old.refl _ | assumption | refine Old.setCell ?_ (by first | omega | (simp <;> omega)) _ | refine Old.drewN ?_ _ | refine Old.alloc ?_ _ | refine Old.drew ?_
    have n2 : (ph == 2) = false := by simpa using h2
    have HT := Lib.hid (HTS.out.tn2 B2.out (by decide) B3.out (by decide))
    obtain ⟨⟨d0, d1, d2, d3, d4, d5, d6, d7, d8, d9⟩, g0, g1, g2, g3, g4, g5, g6, g7, g8, g9⟩ := row10 B3.out
    clear HTS B2 B3
    go_wp2_with fail
    refine bodyPost_ret (by first | (simp [results, Try.results23, go_sem, lfA, d0, d1, d2, d3, d4, d5, d6, d7, d8, d9]; done) | (simp [results, Try.results23, go_sem, lfA, d0, d1, d2, d3, d4, d5, d6, d7, d8, d9]; first | rfl | exact ⟨rfl, rfl⟩)) rfl (HPO.out (⟨ph, inc, runs, since, times, due, armed, rung, halt, again⟩, 0, false) A' c' _ (by show Lf.spawned (Jd.j ⟨nm, run, eA, env, ec, nA, needs, nc, hasR, rdyp, restart, base, cap, stable, burst, win, lA, lad, lc, line, col⟩) ⟨ph, inc, runs, since, times, due, armed, rung, halt, again⟩ ok ready now jit = _; unfold Lf.spawned; rw [if_pos (by simp only; omega)]) ?_ ?_)
    · refine Tn.ts (K := [w.heap.size + 1, w.heap.size + 1 + 1]) ?_
      repeat with_reducible refine Tn.set ?_ (by simp) _
      exact HT.out
    · repeat with_reducible first | exact Old.refl _ | assumption | refine Old.setCell ?_ (by first | omega | (simp <;> omega)) _ | refine Old.drewN ?_ _ | refine Old.alloc ?_ _ | refine Old.drew ?_
end Go.Proofs.Ytpknglclcdgfbaa
