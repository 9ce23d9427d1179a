/-
  The walks of package life: a life that comes back has its times in new memory.
-/
import Derived.Test.YtpknglclcdgfbaaLfE
import Derived.Deep.DeepCutAuto
namespace Go.Proofs.Ytpknglclcdgfbaa
open Go.RowKit Go.Shelf
set_option linter.unusedVariables false










def LfPbF (w : World) (x : Lf.T) (b : Bool) (e : Ending) (w' : World) : Prop := ∃ A c, e = .returned (.tuple #[lfA x A c, .bool b]) ∧ Ts w' 30 A (u64s x.times) ∧ Old w w' ∧ ∀ g off, A = some ⟨g, off, none⟩ → 0 < x.times.length → w.heap.size ≤ g
theorem own_fresh {w : World} {base b0 : Nat} {e : TypeId} {size : Nat} {A : Option Addr} {c n : Nat} {xs : List Value} (h : Own w base e size (.slice A n c) n xs) (hb : b0 ≤ base) : ∀ g off, A = some ⟨g, off, none⟩ → 0 < n → b0 ≤ g := by
  intro g off e h0
  obtain ⟨g', c', e', hg, _, _⟩ := h.form h0
  subst e
  simp at e'
  omega
set_option maxHeartbeats 3000000 in
set_option maxRecDepth 100000 in
theorem lfailFC (j : Jd) (x : Lf.T) (A : Option Addr) (c : Nat) (now jit : Int) (w : World) (hj : JdOk w j) (hn : Tk.U now) (hi : Tk.U jit) (hr : Ts w 30 A (u64s x.times)) (hl : x.times.length ≤ 68719476000) (hx : Lf.Ok x) :
    Calls Try.prog 55 #[jdA j, lfA x A c, .int .u64 now, .int .u64 jit] w (LfPbF w (Lf.over j.j x now jit).1 (Lf.over j.j x now jit).2) := by
  have HPO : Hid (∀ (q : Lf.T × Bool) A' c' w', Lf.over j.j x now jit = q ∧ (∀ g off, A' = some ⟨g, off, none⟩ → 0 < q.1.times.length → w.heap.size ≤ g) → Ts w' 30 A' (u64s q.1.times) → Old w w' → LfPbF w (Lf.over j.j x now jit).1 (Lf.over j.j x now jit).2 (.returned (.tuple #[lfA q.1 A' c', .bool q.2])) w') := Lib.hid (fun q A' c' w' h1 h2 h3 => by obtain ⟨h1, h4⟩ := h1; subst h1; exact ⟨A', c', rfl, h2, h3, h4⟩)
  have HB := Lib.hid (fun W (h : Old w W) => bAllow A c x.times j.burst now j.win W (hr.up h).rs (by omega) hx.2.2 hn hj.win)
  have hD := fun W => tDelay j.base j.cap x.runs jit hj.base hj.cap hi W
  have hUD := Tk.U_delay x.runs hj.base hj.cap hi
  have hA := fun W => tAdd now (Tk.delay j.base j.cap x.runs jit) hn hUD W
  clear hj hr hx hUD
  have HOV : Hid (Lf.over j.j x now jit = if (Bu.allow x.times j.burst now j.win).2 = true then (⟨5, x.inc, wrap64 (x.runs + 1), x.since, (Bu.allow x.times j.burst now j.win).1, Tk.add now (Tk.delay j.base j.cap x.runs jit), x.armed, x.rung, x.halt, x.again⟩, true) else (⟨8, x.inc, x.runs, x.since, (Bu.allow x.times j.burst now j.win).1, 0, false, 0, false, false⟩, false)) := Lib.hid rfl
  obtain ⟨nm, run, eA, env, ec, nA, needs, nc, hasR, rdyp, restart, base, cap, stable, burst, win, lA, lad, lc, line, col⟩ := j
  obtain ⟨ph, inc, runs, since, times, due, armed, rung, halt, again⟩ := x
  unfold Jd.j at HPO HOV ⊢
  simp only at HB hD hA HPO HOV ⊢
  generalize Lf.over _ _ now jit = ov at *
  generalize Bu.allow times burst now win = r at *
  obtain ⟨r1, ok⟩ := r
  generalize Tk.delay base cap runs jit = dl at *
  generalize Tk.add now dl = due2 at *
  have HD := Lib.hid hD
  have HA := Lib.hid hA
  clear hD hA
  cases ok with
  | true =>
    have HME : Hid (ov = (⟨5, inc, wrap64 (runs + 1), since, r1, due2, armed, rung, halt, again⟩, true)) := Lib.hid (HOV.out.trans (if_pos rfl))
    clear HOV
    unfold lfA jdA
    try simp only
    go_enter Try.func55, Try.ntmps55
    go_wp2_with fail
    refine (HB.out _ ((((Old.refl w).alloc _).alloc _).alloc _)).mono ?_; rintro e w2 ⟨v, rfl, hown, hd⟩
    obtain ⟨b1, b2, b3, hO⟩ := three_ hd
    obtain ⟨⟨e0, e1, e2, e3, e4, e5, e6, e7, e8, e9, e10, e11, e12, e13, e14⟩, _⟩ := row15 b1
    obtain ⟨⟨c0, c1, c2, c3, c4, c5, c6, c7, c8, c9⟩, f0, f1, f2, f3, f4, f5, f6, f7, f8, f9⟩ := row10 b2
    obtain ⟨⟨d0, d1, d2, d3, d4, d5, d6, d7, d8, d9⟩, g0, g1, g2, g3, g4, g5, g6, g7, g8, g9⟩ := row10 b3
    obtain ⟨A2, c2', rfl, ht, _, _⟩ := hown.shape
    have HFR := Lib.hid (own_fresh hown (show w.heap.size ≤ _ by simp; omega))
    have HT := Lib.hid (ht.tn2 b2 (by decide) b3 (by decide))
    clear hown ht b1 b2 b3 hd HB
    go_wp2_with fail
    refine (HD.out _).mono ?_; rintro e w3 ⟨rfl, rfl⟩
    go_wp2_with fail
    refine (HA.out _).mono ?_; rintro e w3 ⟨rfl, rfl⟩
    go_wp2_with fail
    refine bodyPost_ret (by first | (simp [results, Try.results55, go_sem, lfA, d0, d1, d2, d3, d4, d5, d6, d7, d8, d9]; done) | (simp [results, Try.results55, go_sem, lfA, d0, d1, d2, d3, d4, d5, d6, d7, d8, d9]; first | rfl | exact ⟨rfl, rfl⟩)) rfl (HPO.out (⟨5, inc, wrap64 (runs + 1), since, r1, due2, armed, rung, halt, again⟩, true) A2 c2' _ ⟨HME.out, HFR.out⟩ ?_ ?_)
    · refine Tn.ts (K := [w.heap.size + 1, w.heap.size + 1 + 1]) ?_
      repeat with_reducible refine Tn.set ?_ (by simp) _
      exact HT.out
    · repeat with_reducible first | exact Old.refl _ | assumption | refine Old.setCell ?_ (by first | omega | (simp <;> omega)) _ | refine Old.drewN ?_ _ | refine Old.alloc ?_ _ | refine Old.drew ?_
  | false =>
    have HME : Hid (ov = (⟨8, inc, runs, since, r1, 0, false, 0, false, false⟩, false)) := Lib.hid (HOV.out.trans (if_neg (by simp)))
    have HC := Lib.hid (fun W A c => lrestC ⟨ph, inc, runs, since, r1, due, armed, rung, halt, again⟩ A c 8 W)
    rw [show Lf.rest ⟨ph, inc, runs, since, r1, due, armed, rung, halt, again⟩ 8 = ⟨8, inc, runs, since, r1, 0, false, 0, false, false⟩ from rfl] at HC
    clear HOV
    unfold lfA at HC
    unfold lfA jdA
    try simp only at HC ⊢
    go_enter Try.func55, Try.ntmps55
    go_wp2_with fail
    refine (HB.out _ ((((Old.refl w).alloc _).alloc _).alloc _)).mono ?_; rintro e w2 ⟨v, rfl, hown, hd⟩
    obtain ⟨b1, b2, b3, hO⟩ := three_ hd
    obtain ⟨⟨c0, c1, c2, c3, c4, c5, c6, c7, c8, c9⟩, f0, f1, f2, f3, f4, f5, f6, f7, f8, f9⟩ := row10 b2
    obtain ⟨A2, c2', rfl, ht, _, _⟩ := hown.shape
    have HFR := Lib.hid (own_fresh hown (show w.heap.size ≤ _ by simp; omega))
    have B2 := Lib.hid b2
    have B3 := Lib.hid b3
    have HTS := Lib.hid ht
    clear hown ht b1 b2 b3 hd HB
    go_wp2_with fail
    refine (HC.out _ _ _).mono ?_; rintro e w3 ⟨rfl, hd3⟩
    have b2' := heap_setCell_same w2 (w.heap.size + 1) 4 _ _ (.slice A2 r1.length c2') B2.out
    have B33 := Lib.hid (hd3.block ((heap_setCell_other w2 ⟨w.heap.size + 1, 4, none⟩ (w.heap.size + 1 + 1) (.slice A2 r1.length c2') (by simp)).trans B3.out))
    have HTS3 := Lib.hid (((HTS.out.tn2 B2.out (by decide) B3.out (by decide)).set (k := w.heap.size + 1) (i := 4) (by simp) (.slice A2 r1.length c2')).ts.up hd3)
    have B23 := Lib.hid (hd3.block b2')
    have hO3 := (hO.setCell (p := ⟨w.heap.size + 1, 4, none⟩) (by simp only; omega) (.slice A2 r1.length c2')).up hd3
    clear hd3 hO HC HTS B2 B3 b2'
    have HT := Lib.hid (HTS3.out.tn2 B23.out (by decide) B33.out (by decide))
    obtain ⟨⟨d0, d1, d2, d3, d4, d5, d6, d7, d8, d9⟩, g0, g1, g2, g3, g4, g5, g6, g7, g8, g9⟩ := row10 B33.out
    clear HTS3 B23 B33
    go_wp2_with fail
    refine bodyPost_ret (by first | (simp [results, Try.results55, go_sem, lfA, d0, d1, d2, d3, d4, d5, d6, d7, d8, d9]; done) | (simp [results, Try.results55, go_sem, lfA, d0, d1, d2, d3, d4, d5, d6, d7, d8, d9]; first | rfl | exact ⟨rfl, rfl⟩)) rfl (HPO.out (⟨8, inc, runs, since, r1, 0, false, 0, false, false⟩, false) A2 c2' _ ⟨HME.out, HFR.out⟩ ?_ ?_)
    · refine Tn.ts (K := [w.heap.size + 1, w.heap.size + 1 + 1]) ?_
      repeat with_reducible refine Tn.set ?_ (by simp) _
      exact HT.out
    · repeat with_reducible first | exact Old.refl _ | assumption | refine Old.setCell ?_ (by first | omega | (simp <;> omega)) _ | refine Old.drewN ?_ _ | refine Old.alloc ?_ _ | refine Old.drew ?_
set_option maxHeartbeats 3000000 in
set_option maxRecDepth 100000 in
theorem lexit4C (j : Jd) (x : Lf.T) (A : Option Addr) (c : Nat) (code now jit : Int) (w : World) (hj : JdOk w j) (hn : Tk.U now) (hi : Tk.U jit) (hx : Lf.Ok x) (hr : Ts w 30 A (u64s x.times)) (hl : x.times.length ≤ 68719476000) (h4 : x.ph = 4) (hr3 : j.restart = 3) :
    Calls Try.prog 25 #[jdA j, lfA x A c, .int .i64 code, .int .u64 now, .int .u64 jit] w (LfPbF w (Lf.exit j.j x code now jit).1 (Lf.exit j.j x code now jit).2) := by
  have HPO : Hid (∀ (q : Lf.T × Bool) A' c' w', Lf.exit j.j x code now jit = q ∧ (∀ g off, A' = some ⟨g, off, none⟩ → 0 < q.1.times.length → w.heap.size ≤ g) → Ts w' 30 A' (u64s q.1.times) → Old w w' → LfPbF w (Lf.exit j.j x code now jit).1 (Lf.exit j.j x code now jit).2 (.returned (.tuple #[lfA q.1 A' c', .bool q.2])) w') := Lib.hid (fun q A' c' w' h1 h2 h3 => by obtain ⟨h1, h4⟩ := h1; subst h1; exact ⟨A', c', rfl, h2, h3, h4⟩)
  have H4 := Lib.hid h4
  have HR3 := Lib.hid hr3
  clear h4 hr3
  have HOWN := Lib.hid (fun W (h : Old w W) => lownC x A c W (hr.up h) hl)
  clear hr
  have HJ := Lib.hid hj
  clear hj
  unfold LfP lfA at HOWN
  unfold lfA jdA
  go_enter Try.func25, Try.ntmps25
  go_upto_region 1 with fail
  go_cut [] (fun wx => ∃ (A' : Option Addr) (c' : Nat), LS3 w wx j x A' c')
  case first =>
    go_wp2_with fail
    refine (HOWN.out _ ((((Old.refl w).alloc _).alloc _).alloc _)).mono ?_; rintro e w2 ⟨A2, c2, rfl, ht, hd⟩
    obtain ⟨b1, b2, b3, hO⟩ := three_ hd
    obtain ⟨⟨c0, c1, c2', c3, c4, c5, c6, c7, c8, c9⟩, f0, f1, f2, f3, f4, f5, f6, f7, f8, f9⟩ := row10 b2
    have HX : Hid (LS3 w (put10 w2 (w.heap.size + 1) (.int .i64 x.ph) (.int .i64 x.inc) (.int .i64 x.runs) (.int .u64 x.since) (.slice A2 x.times.length c2) (.int .u64 x.due) (.bool x.armed) (.int .i64 x.rung) (.bool x.halt) (.bool x.again)) j x A2 c2) :=
      Lib.hid ⟨(put10_other (by omega)).trans b1, put10_row b2, (put10_other (by omega)).trans b3, put10_old hO (by omega), (put10_tn (ht.tn2 b2 (by decide) b3 (by decide)) (by simp)).ts⟩
    clear ht hd b1 b2 b3 HOWN
    go_wp2_with fail
    go_meet
    case rel => exact ⟨A2, c2, HX.out⟩
  case rest =>
    obtain ⟨A', c', hls⟩ := hcut
    have HLS := Lib.hid hls
    clear hls
    obtain ⟨nm, run, eA, env, ec, nA, needs, nc, hasR, rdyp, restart, base, cap, stable, burst, win, lA, lad, lc, line, col⟩ := j
    obtain ⟨ph, inc, runs, since, times, due, armed, rung, halt, again⟩ := x
    have b1 : wc.heap[w.heap.size]? = some (.cells #[.string nm, .string run, .slice eA env.length ec, .slice nA needs.length nc, .bool hasR, .string rdyp, .int .i64 restart, .int .u64 base, .int .u64 cap, .int .u64 stable, .int .i64 burst, .int .u64 win, .slice lA lad.length lc, .int .i64 line, .int .i64 col] 33 (0, 0)) := HLS.out.bj
    have b2 : wc.heap[w.heap.size + 1]? = some (.cells #[.int .i64 ph, .int .i64 inc, .int .i64 runs, .int .u64 since, .slice A' times.length c', .int .u64 due, .bool armed, .int .i64 rung, .bool halt, .bool again] 48 (0, 0)) := HLS.out.bl
    have b3 : wc.heap[w.heap.size + 1 + 1]? = some (.cells #[.int .i64 0, .int .i64 0, .int .i64 0, .int .u64 0, .slice none 0 0, .int .u64 0, .bool false, .int .i64 0, .bool false, .bool false] 48 (0, 0)) := HLS.out.br
    have hts : Ts wc 30 A' (u64s times) := HLS.out.ts
    have hO : Old w wc := HLS.out.old
    obtain ⟨⟨e0, e1, e2, e3, e4, e5, e6, e7, e8, e9, e10, e11, e12, e13, e14⟩, _⟩ := row15 b1
    obtain ⟨⟨c0, c1, c2, c3, c4, c5, c6, c7, c8, c9⟩, f0, f1, f2, f3, f4, f5, f6, f7, f8, f9⟩ := row10 b2
    have b1k := b1
    have B2 := Lib.hid b2
    have B3 := Lib.hid b3
    have HTS := Lib.hid hts
    clear b1 b2 b3 hts HLS
    · have h4 := H4.out
      simp only at h4
      subst h4
      clear H4
      have HEX0 := Lib.hid (Lf.exit_run (j := (Jd.j ⟨nm, run, eA, env, ec, nA, needs, nc, hasR, rdyp, restart, base, cap, stable, burst, win, lA, lad, lc, line, col⟩)) (x := ⟨4, inc, runs, since, times, due, armed, rung, halt, again⟩) (code := code) (now := now) (jit := jit) (by simp))
      have HSB := Lib.hid (fun (W : World) (n : Nat) => quiet_same (tSub now since hn hx.1 (W.drewN n)))
      have HEX1 : Hid (Lf.exit (Jd.j ⟨nm, run, eA, env, ec, nA, needs, nc, hasR, rdyp, restart, base, cap, stable, burst, win, lA, lad, lc, line, col⟩) ⟨4, inc, runs, since, times, due, armed, rung, halt, again⟩ code now jit = if restart = 3 ∨ restart = 2 ∧ code ≠ 0 then Lf.over (Jd.j ⟨nm, run, eA, env, ec, nA, needs, nc, hasR, rdyp, restart, base, cap, stable, burst, win, lA, lad, lc, line, col⟩) ⟨4, inc, (if stable ≤ Tk.sub now since then 0 else runs), since, times, due, armed, rung, halt, again⟩ now jit else if code = 0 then (Lf.rest ⟨4, inc, (if stable ≤ Tk.sub now since then 0 else runs), since, times, due, armed, rung, halt, again⟩ 7, false) else (Lf.rest ⟨4, inc, (if stable ≤ Tk.sub now since then 0 else runs), since, times, due, armed, rung, halt, again⟩ 8, false)) := Lib.hid HEX0.out
      clear HEX0
      have LS0 : Hid (∀ n, LS3 w (wc.drewN n) ⟨nm, run, eA, env, ec, nA, needs, nc, hasR, rdyp, restart, base, cap, stable, burst, win, lA, lad, lc, line, col⟩ ⟨4, inc, runs, since, times, due, armed, rung, halt, again⟩ A' c') := Lib.hid (fun n => ⟨b1k, B2.out, B3.out, hO.drewN n, HTS.out⟩)
      clear b1k
      generalize Tk.sub now since = sb at *
      go_upto_region 5 with fail
      go_cut [25] (fun s25 wx => s25 = .bool (decide (stable ≤ sb)) ∧ LS3 w wx ⟨nm, run, eA, env, ec, nA, needs, nc, hasR, rdyp, restart, base, cap, stable, burst, win, lA, lad, lc, line, col⟩ ⟨4, inc, runs, since, times, due, armed, rung, halt, again⟩ A' c')
      case first =>
        go_quiet ((go_at_call 54; exact HSB.out _ _))
        go_wp2_with fail
        go_meet
        case rel => exact ⟨rfl, LS0.out _⟩
      case rest =>
        obtain ⟨rfl, hls⟩ := hcut
        have HLS := Lib.hid hls
        clear hls LS0 HSB hO HTS B2 B3 c0 c1 c2 c3 c4 c5 c6 c7 c8 c9 f0 f1 f2 f3 f4 f5 f6 f7 f8 f9 e0 e1 e2 e3 e4 e5 e6 e7 e8 e9 e10 e11 e12 e13 e14
        have b1 : wc.heap[w.heap.size]? = some (.cells #[.string nm, .string run, .slice eA env.length ec, .slice nA needs.length nc, .bool hasR, .string rdyp, .int .i64 restart, .int .u64 base, .int .u64 cap, .int .u64 stable, .int .i64 burst, .int .u64 win, .slice lA lad.length lc, .int .i64 line, .int .i64 col] 33 (0, 0)) := HLS.out.bj
        have b2 : wc.heap[w.heap.size + 1]? = some (.cells #[.int .i64 4, .int .i64 inc, .int .i64 runs, .int .u64 since, .slice A' times.length c', .int .u64 due, .bool armed, .int .i64 rung, .bool halt, .bool again] 48 (0, 0)) := HLS.out.bl
        have b3 : wc.heap[w.heap.size + 1 + 1]? = some (.cells #[.int .i64 0, .int .i64 0, .int .i64 0, .int .u64 0, .slice none 0 0, .int .u64 0, .bool false, .int .i64 0, .bool false, .bool false] 48 (0, 0)) := HLS.out.br
        have hts : Ts wc 30 A' (u64s times) := HLS.out.ts
        have hO : Old w wc := HLS.out.old
        obtain ⟨⟨e0, e1, e2, e3, e4, e5, e6, e7, e8, e9, e10, e11, e12, e13, e14⟩, _⟩ := row15 b1
        obtain ⟨⟨c0, c1, c2, c3, c4, c5, c6, c7, c8, c9⟩, f0, f1, f2, f3, f4, f5, f6, f7, f8, f9⟩ := row10 b2
        have b1k := b1
        have B2 := Lib.hid b2
        have B3 := Lib.hid b3
        have HTS := Lib.hid hts
        clear b1 b2 b3 hts HLS
        go_upto_if 25 with fail
        go_cut [] (fun wx => LS3 w wx ⟨nm, run, eA, env, ec, nA, needs, nc, hasR, rdyp, restart, base, cap, stable, burst, win, lA, lad, lc, line, col⟩ ⟨4, inc, (if stable ≤ sb then 0 else runs), since, times, due, armed, rung, halt, again⟩ A' c')
        case first =>
          by_cases hsb : stable ≤ sb
          · have LS1 : Hid (LS3 w (wc.setCell ⟨w.heap.size + 1, 2, none⟩ (.int .i64 0)) ⟨nm, run, eA, env, ec, nA, needs, nc, hasR, rdyp, restart, base, cap, stable, burst, win, lA, lad, lc, line, col⟩ ⟨4, inc, (if stable ≤ sb then 0 else runs), since, times, due, armed, rung, halt, again⟩ A' c') := Lib.hid (by
              rw [if_pos hsb]
              exact ⟨(heap_setCell_other wc ⟨w.heap.size + 1, 2, none⟩ w.heap.size _ (by simp)).trans b1k, heap_setCell_same wc (w.heap.size + 1) 2 _ _ (.int .i64 0) B2.out, (heap_setCell_other wc ⟨w.heap.size + 1, 2, none⟩ (w.heap.size + 1 + 1) _ (by simp)).trans B3.out, hO.setCell (by simp only; omega) _, ((HTS.out.tn2 B2.out (by decide) B3.out (by decide)).set (k := w.heap.size + 1) (i := 2) (by simp) _).ts⟩)
            clear HTS B2 B3
            go_wp2_with fail
            go_meet
            case rel => exact LS1.out
          · have LS1 : Hid (LS3 w wc ⟨nm, run, eA, env, ec, nA, needs, nc, hasR, rdyp, restart, base, cap, stable, burst, win, lA, lad, lc, line, col⟩ ⟨4, inc, (if stable ≤ sb then 0 else runs), since, times, due, armed, rung, halt, again⟩ A' c') := Lib.hid (by
              rw [if_neg hsb]
              exact ⟨b1k, B2.out, B3.out, hO, HTS.out⟩)
            clear HTS B2 B3
            go_wp2_with fail
            go_meet
            case rel => exact LS1.out
        case rest =>
          have HEX := HEX1
          have HLS := Lib.hid hcut
          clear HEX1 hcut hO HTS B2 B3 c0 c1 c2 c3 c4 c5 c6 c7 c8 c9 f0 f1 f2 f3 f4 f5 f6 f7 f8 f9 e0 e1 e2 e3 e4 e5 e6 e7 e8 e9 e10 e11 e12 e13 e14 b1k
          generalize (if stable ≤ sb then 0 else runs) = R at *
          have b1 : wc.heap[w.heap.size]? = some (.cells #[.string nm, .string run, .slice eA env.length ec, .slice nA needs.length nc, .bool hasR, .string rdyp, .int .i64 restart, .int .u64 base, .int .u64 cap, .int .u64 stable, .int .i64 burst, .int .u64 win, .slice lA lad.length lc, .int .i64 line, .int .i64 col] 33 (0, 0)) := HLS.out.bj
          have b2 : wc.heap[w.heap.size + 1]? = some (.cells #[.int .i64 4, .int .i64 inc, .int .i64 R, .int .u64 since, .slice A' times.length c', .int .u64 due, .bool armed, .int .i64 rung, .bool halt, .bool again] 48 (0, 0)) := HLS.out.bl
          have b3 : wc.heap[w.heap.size + 1 + 1]? = some (.cells #[.int .i64 0, .int .i64 0, .int .i64 0, .int .u64 0, .slice none 0 0, .int .u64 0, .bool false, .int .i64 0, .bool false, .bool false] 48 (0, 0)) := HLS.out.br
          have hts : Ts wc 30 A' (u64s times) := HLS.out.ts
          have hO : Old w wc := HLS.out.old
          obtain ⟨⟨e0, e1, e2, e3, e4, e5, e6, e7, e8, e9, e10, e11, e12, e13, e14⟩, _⟩ := row15 b1
          obtain ⟨⟨c0, c1, c2, c3, c4, c5, c6, c7, c8, c9⟩, f0, f1, f2, f3, f4, f5, f6, f7, f8, f9⟩ := row10 b2
          have b1k := b1
          have B2 := Lib.hid b2
          have B3 := Lib.hid b3
          have HTS := Lib.hid hts
          clear b1 b2 b3 hts HLS
          generalize Lf.exit _ _ code now jit = ex at *
          · have hr3 := HR3.out
            simp only at hr3
            subst hr3
            clear HR3
            have HC := Lib.hid (fun W (h : Old wc W) => lfailFC ⟨nm, run, eA, env, ec, nA, needs, nc, hasR, rdyp, 3, base, cap, stable, burst, win, lA, lad, lc, line, col⟩ ⟨4, inc, R, since, times, due, armed, rung, halt, again⟩ A' c' now jit W (HJ.out.up (hO.up h)) hn hi (HTS.out.up h) hl hx)
            have HME : Hid (ex = Lf.over (Jd.j ⟨nm, run, eA, env, ec, nA, needs, nc, hasR, rdyp, 3, base, cap, stable, burst, win, lA, lad, lc, line, col⟩) ⟨4, inc, R, since, times, due, armed, rung, halt, again⟩ now jit) := Lib.hid (HEX.out.trans (if_pos (Or.inl rfl)))
            clear HEX
            generalize Lf.over _ _ now jit = q at *
            obtain ⟨⟨ph', inc', runs', since', times', due', armed', rung', halt', again'⟩, b'⟩ := q
            unfold LfPbF lfA jdA at HC
            simp only at HC
            go_wp2_with fail
            refine (HC.out _ (Old.refl _)).mono ?_; rintro e w3 ⟨A3, c3', rfl, ht3, hd3, hfr3⟩
            have HFR := Lib.hid (fun g off (e : A3 = some ⟨g, off, none⟩) (h0 : 0 < times'.length) => Nat.le_trans hO.size (hfr3 g off e h0))
            clear hfr3
            have B23 := Lib.hid (hd3.block B2.out)
            have B33 := Lib.hid (hd3.block B3.out)
            have hO3 := hO.up hd3
            have HT := Lib.hid (ht3.tn2 B23.out (by decide) B33.out (by decide))
            clear hd3 hO HC HTS B2 B3 ht3
            obtain ⟨⟨d0, d1, d2, d3, d4, d5, d6, d7, d8, d9⟩, g0, g1, g2, g3, g4, g5, g6, g7, g8, g9⟩ := row10 B33.out
            clear B23 B33
            go_wp2_with fail
            refine bodyPost_ret (by first | (simp [results, Try.results25, go_sem, lfA, d0, d1, d2, d3, d4, d5, d6, d7, d8, d9]; done) | (simp [results, Try.results25, go_sem, lfA, d0, d1, d2, d3, d4, d5, d6, d7, d8, d9]; first | rfl | exact ⟨rfl, rfl⟩)) rfl (HPO.out (⟨ph', inc', runs', since', times', due', armed', rung', halt', again'⟩, b') A3 c3' _ ⟨HME.out, HFR.out⟩ ?_ ?_)
            · refine Tn.ts (K := [w.heap.size + 1, w.heap.size + 1 + 1]) ?_
              repeat with_reducible refine Tn.set ?_ (by simp) _
              exact HT.out
            · repeat with_reducible first | exact Old.refl _ | assumption | refine Old.setCell ?_ (by first | omega | (simp <;> omega)) _ | refine Old.drewN ?_ _ | refine Old.alloc ?_ _ | refine Old.drew ?_
end Go.Proofs.Ytpknglclcdgfbaa
