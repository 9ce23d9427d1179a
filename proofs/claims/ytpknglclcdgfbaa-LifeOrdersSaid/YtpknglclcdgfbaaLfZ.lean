/-
  The walks of package life: Fire, Start, Stop, Restart.
-/
import Derived.Test.YtpknglclcdgfbaaLfW
import Derived.Deep.DeepCutAuto
namespace Go.Proofs.Ytpknglclcdgfbaa
open Go.RowKit Go.Shelf
set_option linter.unusedVariables false









set_option maxHeartbeats 3000000 in
set_option maxRecDepth 100000 in
theorem lstartC (x : Lf.T) (A : Option Addr) (c : Nat) (w : World) (hr : Ts w 30 A (u64s x.times)) (hl : x.times.length ≤ 68719476000) :
    Calls Try.prog 37 #[lfA x A c] w (LfP w (Lf.start x)) := by
  have HPO : Hid (∀ (q : Lf.T) A' c' w', Lf.start x = q → Ts w' 30 A' (u64s q.times) → Old w w' → LfP w (Lf.start x) (.returned (lfA q A' c')) w') := Lib.hid (fun q A' c' w' h1 h2 h3 => by subst h1; exact ⟨A', c', rfl, h2, h3⟩)
  have HOWN := Lib.hid (fun W (h : Old w W) => lownC x A c W (hr.up h) hl)
  clear hr
  unfold LfP lfA at HOWN
  unfold lfA
  go_enter Try.func37, Try.ntmps37
  go_upto_region 1 with fail
  go_cut [] (fun wx => ∃ (A' : Option Addr) (c' : Nat), LS2 w wx x A' c')
  case first =>
    go_wp2_with fail
    refine (HOWN.out _ (((Old.refl w).alloc _).alloc _)).mono ?_; rintro e w2 ⟨A2, c2, rfl, ht, hd⟩
    obtain ⟨b2, b3, hO⟩ := two_ hd
    obtain ⟨⟨c0, c1, c2', c3, c4, c5, c6, c7, c8, c9⟩, f0, f1, f2, f3, f4, f5, f6, f7, f8, f9⟩ := row10 b2
    have HX : Hid (LS2 w (put10 w2 w.heap.size (.int .i64 x.ph) (.int .i64 x.inc) (.int .i64 x.runs) (.int .u64 x.since) (.slice A2 x.times.length c2) (.int .u64 x.due) (.bool x.armed) (.int .i64 x.rung) (.bool x.halt) (.bool x.again)) x A2 c2) :=
      Lib.hid ⟨put10_row b2, (put10_other (by omega)).trans b3, put10_old hO (by omega), (put10_tn (ht.tn2 b2 (by decide) b3 (by decide)) (by simp)).ts⟩
    clear ht hd b2 b3 HOWN
    go_wp2_with fail
    go_meet
    case rel => exact ⟨A2, c2, HX.out⟩
  case rest =>
    obtain ⟨A', c', hls⟩ := hcut
    have HLS := Lib.hid hls
    clear hls
    obtain ⟨ph, inc, runs, since, times, due, armed, rung, halt, again⟩ := x
    have b2 : wc.heap[w.heap.size]? = some (.cells #[.int .i64 ph, .int .i64 inc, .int .i64 runs, .int .u64 since, .slice A' times.length c', .int .u64 due, .bool armed, .int .i64 rung, .bool halt, .bool again] 48 (0, 0)) := HLS.out.bl
    have b3 : wc.heap[w.heap.size + 1]? = some (.cells #[.int .i64 0, .int .i64 0, .int .i64 0, .int .u64 0, .slice none 0 0, .int .u64 0, .bool false, .int .i64 0, .bool false, .bool false] 48 (0, 0)) := HLS.out.br
    have hts : Ts wc 30 A' (u64s times) := HLS.out.ts
    have hO : Old w wc := HLS.out.old
    obtain ⟨⟨c0, c1, c2, c3, c4, c5, c6, c7, c8, c9⟩, f0, f1, f2, f3, f4, f5, f6, f7, f8, f9⟩ := row10 b2
    have B2 := Lib.hid b2
    have B3 := Lib.hid b3
    have HTS := Lib.hid hts
    clear b2 b3 hts HLS
    by_cases h7 : ph = 7
    · subst h7
      have HC := Lib.hid (fun W => lrestC ⟨7, inc, runs, since, times, due, armed, rung, halt, again⟩ A' c' 1 W)
      rw [show Lf.rest ⟨7, inc, runs, since, times, due, armed, rung, halt, again⟩ 1 = ⟨1, inc, runs, since, times, 0, false, 0, false, false⟩ from rfl] at HC
      unfold lfA at HC
      simp only at HC
      go_wp2_with fail
      refine (HC.out _).mono ?_; rintro e w3 ⟨rfl, hd3⟩
      clear c0 c1 c2 c3 c4 c5 c6 c7 c8 c9 f0 f1 f2 f3 f4 f5 f6 f7 f8 f9
      obtain ⟨⟨c0, c1, c2, c3, c4, c5, c6, c7, c8, c9⟩, f0, f1, f2, f3, f4, f5, f6, f7, f8, f9⟩ := row10 (hd3.block B2.out)
      go_upto_region 7 with fail
      rw [show ((((((((((w3.setCell ⟨w.heap.size, 0, none⟩ (.int .i64 1)).setCell ⟨w.heap.size, 1, none⟩ (.int .i64 inc)).setCell ⟨w.heap.size, 2, none⟩ (.int .i64 runs)).setCell ⟨w.heap.size, 3, none⟩ (.int .u64 since)).setCell ⟨w.heap.size, 4, none⟩ (.slice A' times.length c')).setCell ⟨w.heap.size, 5, none⟩ (.int .u64 0)).setCell ⟨w.heap.size, 6, none⟩ (.bool false)).setCell ⟨w.heap.size, 7, none⟩ (.int .i64 0)).setCell ⟨w.heap.size, 8, none⟩ (.bool false)).setCell ⟨w.heap.size, 9, none⟩ (.bool false)) = put10 w3 (w.heap.size) (.int .i64 1) (.int .i64 inc) (.int .i64 runs) (.int .u64 since) (.slice A' times.length c') (.int .u64 0) (.bool false) (.int .i64 0) (.bool false) (.bool false) from rfl]
      have b2' := put10_row (v0 := .int .i64 1) (v1 := .int .i64 inc) (v2 := .int .i64 runs) (v3 := .int .u64 since) (v4 := .slice A' times.length c') (v5 := .int .u64 0) (v6 := .bool false) (v7 := .int .i64 0) (v8 := .bool false) (v9 := .bool false) (hd3.block B2.out)
      have b3' := (put10_other (w := w3) (k := w.heap.size) (v0 := .int .i64 1) (v1 := .int .i64 inc) (v2 := .int .i64 runs) (v3 := .int .u64 since) (v4 := .slice A' times.length c') (v5 := .int .u64 0) (v6 := .bool false) (v7 := .int .i64 0) (v8 := .bool false) (v9 := .bool false) (show w.heap.size + 1 ≠ w.heap.size by omega)).trans (hd3.block B3.out)
      have hO3 := put10_old (k := w.heap.size) (v0 := .int .i64 1) (v1 := .int .i64 inc) (v2 := .int .i64 runs) (v3 := .int .u64 since) (v4 := .slice A' times.length c') (v5 := .int .u64 0) (v6 := .bool false) (v7 := .int .i64 0) (v8 := .bool false) (v9 := .bool false) (hO.up hd3) (Nat.le_refl _)
      generalize put10 w3 (w.heap.size) (.int .i64 1) (.int .i64 inc) (.int .i64 runs) (.int .u64 since) (.slice A' times.length c') (.int .u64 0) (.bool false) (.int .i64 0) (.bool false) (.bool false) = w4 at *
      clear c0 c1 c2 c3 c4 c5 c6 c7 c8 c9 f0 f1 f2 f3 f4 f5 f6 f7 f8 f9
      obtain ⟨⟨c0, c1, c2, c3, c4, c5, c6, c7, c8, c9⟩, f0, f1, f2, f3, f4, f5, f6, f7, f8, f9⟩ := row10 b2'
      obtain ⟨⟨d0, d1, d2, d3, d4, d5, d6, d7, d8, d9⟩, g0, g1, g2, g3, g4, g5, g6, g7, g8, g9⟩ := row10 b3'
      clear hd3 hO HC HTS B2 B3 b2' b3'
      go_wp2_with fail
      refine bodyPost_ret (by first | (simp [results, Try.results37, go_sem, lfA, d0, d1, d2, d3, d4, d5, d6, d7, d8, d9]; done) | (simp [results, Try.results37, go_sem, lfA, d0, d1, d2, d3, d4, d5, d6, d7, d8, d9]; first | rfl | exact ⟨rfl, rfl⟩)) rfl (HPO.out ⟨1, inc, 0, since, [], 0, false, 0, false, false⟩ none 0 _ rfl ?_ ?_)
      · refine Tn.ts (K := [w.heap.size, w.heap.size + 1]) ?_
        repeat with_reducible refine Tn.set ?_ (by simp) _
        exact (Or.inl rfl)
      · repeat with_reducible first | exact Old.refl _ | assumption | refine Old.setCell ?_ (by first | omega | (simp <;> omega)) _ | refine Old.drewN ?_ _ | refine Old.alloc ?_ _ | refine Old.drew ?_
    have n7 : (ph == 7) = false := by simpa using h7
    by_cases h8 : ph = 8
    · subst h8
      have HC := Lib.hid (fun W => lrestC ⟨8, inc, runs, since, times, due, armed, rung, halt, again⟩ A' c' 1 W)
      rw [show Lf.rest ⟨8, inc, runs, since, times, due, armed, rung, halt, again⟩ 1 = ⟨1, inc, runs, since, times, 0, false, 0, false, false⟩ from rfl] at HC
      unfold lfA at HC
      simp only at HC
      go_wp2_with fail
      refine (HC.out _).mono ?_; rintro e w3 ⟨rfl, hd3⟩
      clear c0 c1 c2 c3 c4 c5 c6 c7 c8 c9 f0 f1 f2 f3 f4 f5 f6 f7 f8 f9
      obtain ⟨⟨c0, c1, c2, c3, c4, c5, c6, c7, c8, c9⟩, f0, f1, f2, f3, f4, f5, f6, f7, f8, f9⟩ := row10 (hd3.block B2.out)
      go_upto_region 7 with fail
      rw [show ((((((((((w3.setCell ⟨w.heap.size, 0, none⟩ (.int .i64 1)).setCell ⟨w.heap.size, 1, none⟩ (.int .i64 inc)).setCell ⟨w.heap.size, 2, none⟩ (.int .i64 runs)).setCell ⟨w.heap.size, 3, none⟩ (.int .u64 since)).setCell ⟨w.heap.size, 4, none⟩ (.slice A' times.length c')).setCell ⟨w.heap.size, 5, none⟩ (.int .u64 0)).setCell ⟨w.heap.size, 6, none⟩ (.bool false)).setCell ⟨w.heap.size, 7, none⟩ (.int .i64 0)).setCell ⟨w.heap.size, 8, none⟩ (.bool false)).setCell ⟨w.heap.size, 9, none⟩ (.bool false)) = put10 w3 (w.heap.size) (.int .i64 1) (.int .i64 inc) (.int .i64 runs) (.int .u64 since) (.slice A' times.length c') (.int .u64 0) (.bool false) (.int .i64 0) (.bool false) (.bool false) from rfl]
      have b2' := put10_row (v0 := .int .i64 1) (v1 := .int .i64 inc) (v2 := .int .i64 runs) (v3 := .int .u64 since) (v4 := .slice A' times.length c') (v5 := .int .u64 0) (v6 := .bool false) (v7 := .int .i64 0) (v8 := .bool false) (v9 := .bool false) (hd3.block B2.out)
      have b3' := (put10_other (w := w3) (k := w.heap.size) (v0 := .int .i64 1) (v1 := .int .i64 inc) (v2 := .int .i64 runs) (v3 := .int .u64 since) (v4 := .slice A' times.length c') (v5 := .int .u64 0) (v6 := .bool false) (v7 := .int .i64 0) (v8 := .bool false) (v9 := .bool false) (show w.heap.size + 1 ≠ w.heap.size by omega)).trans (hd3.block B3.out)
      have hO3 := put10_old (k := w.heap.size) (v0 := .int .i64 1) (v1 := .int .i64 inc) (v2 := .int .i64 runs) (v3 := .int .u64 since) (v4 := .slice A' times.length c') (v5 := .int .u64 0) (v6 := .bool false) (v7 := .int .i64 0) (v8 := .bool false) (v9 := .bool false) (hO.up hd3) (Nat.le_refl _)
      generalize put10 w3 (w.heap.size) (.int .i64 1) (.int .i64 inc) (.int .i64 runs) (.int .u64 since) (.slice A' times.length c') (.int .u64 0) (.bool false) (.int .i64 0) (.bool false) (.bool false) = w4 at *
      clear c0 c1 c2 c3 c4 c5 c6 c7 c8 c9 f0 f1 f2 f3 f4 f5 f6 f7 f8 f9
      obtain ⟨⟨c0, c1, c2, c3, c4, c5, c6, c7, c8, c9⟩, f0, f1, f2, f3, f4, f5, f6, f7, f8, f9⟩ := row10 b2'
      obtain ⟨⟨d0, d1, d2, d3, d4, d5, d6, d7, d8, d9⟩, g0, g1, g2, g3, g4, g5, g6, g7, g8, g9⟩ := row10 b3'
      clear hd3 hO HC HTS B2 B3 b2' b3'
      go_wp2_with fail
      refine bodyPost_ret (by first | (simp [results, Try.results37, go_sem, lfA, d0, d1, d2, d3, d4, d5, d6, d7, d8, d9]; done) | (simp [results, Try.results37, go_sem, lfA, d0, d1, d2, d3, d4, d5, d6, d7, d8, d9]; first | rfl | exact ⟨rfl, rfl⟩)) rfl (HPO.out ⟨1, inc, 0, since, [], 0, false, 0, false, false⟩ none 0 _ rfl ?_ ?_)
      · refine Tn.ts (K := [w.heap.size, w.heap.size + 1]) ?_
        repeat with_reducible refine Tn.set ?_ (by simp) _
        exact (Or.inl rfl)
      · repeat with_reducible first | exact Old.refl _ | assumption | refine Old.setCell ?_ (by first | omega | (simp <;> omega)) _ | refine Old.drewN ?_ _ | refine Old.alloc ?_ _ | refine Old.drew ?_
    have n8 : (ph == 8) = false := by simpa using h8
    by_cases h9 : ph = 9
    · subst h9
      have HC := Lib.hid (fun W => lrestC ⟨9, inc, runs, since, times, due, armed, rung, halt, again⟩ A' c' 1 W)
      rw [show Lf.rest ⟨9, inc, runs, since, times, due, armed, rung, halt, again⟩ 1 = ⟨1, inc, runs, since, times, 0, false, 0, false, false⟩ from rfl] at HC
      unfold lfA at HC
      simp only at HC
      go_wp2_with fail
      refine (HC.out _).mono ?_; rintro e w3 ⟨rfl, hd3⟩
      clear c0 c1 c2 c3 c4 c5 c6 c7 c8 c9 f0 f1 f2 f3 f4 f5 f6 f7 f8 f9
      obtain ⟨⟨c0, c1, c2, c3, c4, c5, c6, c7, c8, c9⟩, f0, f1, f2, f3, f4, f5, f6, f7, f8, f9⟩ := row10 (hd3.block B2.out)
      go_upto_region 7 with fail
      rw [show ((((((((((w3.setCell ⟨w.heap.size, 0, none⟩ (.int .i64 1)).setCell ⟨w.heap.size, 1, none⟩ (.int .i64 inc)).setCell ⟨w.heap.size, 2, none⟩ (.int .i64 runs)).setCell ⟨w.heap.size, 3, none⟩ (.int .u64 since)).setCell ⟨w.heap.size, 4, none⟩ (.slice A' times.length c')).setCell ⟨w.heap.size, 5, none⟩ (.int .u64 0)).setCell ⟨w.heap.size, 6, none⟩ (.bool false)).setCell ⟨w.heap.size, 7, none⟩ (.int .i64 0)).setCell ⟨w.heap.size, 8, none⟩ (.bool false)).setCell ⟨w.heap.size, 9, none⟩ (.bool false)) = put10 w3 (w.heap.size) (.int .i64 1) (.int .i64 inc) (.int .i64 runs) (.int .u64 since) (.slice A' times.length c') (.int .u64 0) (.bool false) (.int .i64 0) (.bool false) (.bool false) from rfl]
      have b2' := put10_row (v0 := .int .i64 1) (v1 := .int .i64 inc) (v2 := .int .i64 runs) (v3 := .int .u64 since) (v4 := .slice A' times.length c') (v5 := .int .u64 0) (v6 := .bool false) (v7 := .int .i64 0) (v8 := .bool false) (v9 := .bool false) (hd3.block B2.out)
      have b3' := (put10_other (w := w3) (k := w.heap.size) (v0 := .int .i64 1) (v1 := .int .i64 inc) (v2 := .int .i64 runs) (v3 := .int .u64 since) (v4 := .slice A' times.length c') (v5 := .int .u64 0) (v6 := .bool false) (v7 := .int .i64 0) (v8 := .bool false) (v9 := .bool false) (show w.heap.size + 1 ≠ w.heap.size by omega)).trans (hd3.block B3.out)
      have hO3 := put10_old (k := w.heap.size) (v0 := .int .i64 1) (v1 := .int .i64 inc) (v2 := .int .i64 runs) (v3 := .int .u64 since) (v4 := .slice A' times.length c') (v5 := .int .u64 0) (v6 := .bool false) (v7 := .int .i64 0) (v8 := .bool false) (v9 := .bool false) (hO.up hd3) (Nat.le_refl _)
      generalize put10 w3 (w.heap.size) (.int .i64 1) (.int .i64 inc) (.int .i64 runs) (.int .u64 since) (.slice A' times.length c') (.int .u64 0) (.bool false) (.int .i64 0) (.bool false) (.bool false) = w4 at *
      clear c0 c1 c2 c3 c4 c5 c6 c7 c8 c9 f0 f1 f2 f3 f4 f5 f6 f7 f8 f9
      obtain ⟨⟨c0, c1, c2, c3, c4, c5, c6, c7, c8, c9⟩, f0, f1, f2, f3, f4, f5, f6, f7, f8, f9⟩ := row10 b2'
      obtain ⟨⟨d0, d1, d2, d3, d4, d5, d6, d7, d8, d9⟩, g0, g1, g2, g3, g4, g5, g6, g7, g8, g9⟩ := row10 b3'
      clear hd3 hO HC HTS B2 B3 b2' b3'
      go_wp2_with fail
      refine bodyPost_ret (by first | (simp [results, Try.results37, go_sem, lfA, d0, d1, d2, d3, d4, d5, d6, d7, d8, d9]; done) | (simp [results, Try.results37, go_sem, lfA, d0, d1, d2, d3, d4, d5, d6, d7, d8, d9]; first | rfl | exact ⟨rfl, rfl⟩)) rfl (HPO.out ⟨1, inc, 0, since, [], 0, false, 0, false, false⟩ none 0 _ rfl ?_ ?_)
      · refine Tn.ts (K := [w.heap.size, w.heap.size + 1]) ?_
        repeat with_reducible refine Tn.set ?_ (by simp) _
        exact (Or.inl rfl)
      · repeat with_reducible first | exact Old.refl _ | assumption | refine Old.setCell ?_ (by first | omega | (simp <;> omega)) _ | refine Old.drewN ?_ _ | refine Old.alloc ?_ _ | refine Old.drew ?_
    have n9 : (ph == 9) = false := by simpa using h9
    have HT := Lib.hid (HTS.out.tn2 B2.out (by decide) B3.out (by decide))
    obtain ⟨⟨d0, d1, d2, d3, d4, d5, d6, d7, d8, d9⟩, g0, g1, g2, g3, g4, g5, g6, g7, g8, g9⟩ := row10 B3.out
    clear HTS B2 B3
    go_wp2_with fail
    refine bodyPost_ret (by first | (simp [results, Try.results37, go_sem, lfA, d0, d1, d2, d3, d4, d5, d6, d7, d8, d9]; done) | (simp [results, Try.results37, go_sem, lfA, d0, d1, d2, d3, d4, d5, d6, d7, d8, d9]; first | rfl | exact ⟨rfl, rfl⟩)) rfl (HPO.out ⟨ph, inc, runs, since, times, due, armed, rung, halt, again⟩ A' c' _ (by unfold Lf.start; rw [if_neg (by simp only; omega)]) ?_ ?_)
    · refine Tn.ts (K := [w.heap.size, w.heap.size + 1]) ?_
      repeat with_reducible refine Tn.set ?_ (by simp) _
      exact HT.out
    · repeat with_reducible first | exact Old.refl _ | assumption | refine Old.setCell ?_ (by first | omega | (simp <;> omega)) _ | refine Old.drewN ?_ _ | refine Old.alloc ?_ _ | refine Old.drew ?_
set_option maxHeartbeats 3000000 in
set_option maxRecDepth 100000 in
theorem lstopC (j : Jd) (x : Lf.T) (A : Option Addr) (c : Nat) (now : Int) (w : World) (hj : JdOk w j) (hn : Tk.U now) (hr : Ts w 30 A (u64s x.times)) (hl : x.times.length ≤ 68719476000) :
    Calls Try.prog 29 #[jdA j, lfA x A c, .int .u64 now] w (LfPi w (Lf.stop j.j x now).1 (Lf.stop j.j x now).2) := by
  have HPO : Hid (∀ (q : Lf.T × Int) A' c' w', Lf.stop j.j x now = q → Ts w' 30 A' (u64s q.1.times) → Old w w' → LfPi w (Lf.stop j.j x now).1 (Lf.stop j.j x now).2 (.returned (.tuple #[lfA q.1 A' c', .int .i64 q.2])) w') := Lib.hid (fun q A' c' w' h1 h2 h3 => by subst h1; exact ⟨A', c', rfl, h2, h3⟩)
  have HOWN := Lib.hid (fun W (h : Old w W) => lownC x A c W (hr.up h) hl)
  clear hr
  have HJ := Lib.hid hj
  clear hj
  unfold LfP lfA at HOWN
  unfold lfA jdA
  go_enter Try.func29, Try.ntmps29
  go_upto_region 1 with fail
  go_cut [] (fun wx => ∃ (A' : Option Addr) (c' : Nat), LS3 w wx j x A' c')
  case first =>
    go_wp2_with fail
    refine (HOWN.out _ ((((Old.refl w).alloc _).alloc _).alloc _)).mono ?_; rintro e w2 ⟨A2, c2, rfl, ht, hd⟩
    obtain ⟨b1, b2, b3, hO⟩ := three_ hd
    obtain ⟨⟨c0, c1, c2', c3, c4, c5, c6, c7, c8, c9⟩, f0, f1, f2, f3, f4, f5, f6, f7, f8, f9⟩ := row10 b2
    have HX : Hid (LS3 w (put10 w2 (w.heap.size + 1) (.int .i64 x.ph) (.int .i64 x.inc) (.int .i64 x.runs) (.int .u64 x.since) (.slice A2 x.times.length c2) (.int .u64 x.due) (.bool x.armed) (.int .i64 x.rung) (.bool x.halt) (.bool x.again)) j x A2 c2) :=
      Lib.hid ⟨(put10_other (by omega)).trans b1, put10_row b2, (put10_other (by omega)).trans b3, put10_old hO (by omega), (put10_tn (ht.tn2 b2 (by decide) b3 (by decide)) (by simp)).ts⟩
    clear ht hd b1 b2 b3 HOWN
    go_wp2_with fail
    go_meet
    case rel => exact ⟨A2, c2, HX.out⟩
  case rest =>
    obtain ⟨A', c', hls⟩ := hcut
    have HLS := Lib.hid hls
    clear hls
    obtain ⟨nm, run, eA, env, ec, nA, needs, nc, hasR, rdyp, restart, base, cap, stable, burst, win, lA, lad, lc, line, col⟩ := j
    obtain ⟨ph, inc, runs, since, times, due, armed, rung, halt, again⟩ := x
    have b1 : wc.heap[w.heap.size]? = some (.cells #[.string nm, .string run, .slice eA env.length ec, .slice nA needs.length nc, .bool hasR, .string rdyp, .int .i64 restart, .int .u64 base, .int .u64 cap, .int .u64 stable, .int .i64 burst, .int .u64 win, .slice lA lad.length lc, .int .i64 line, .int .i64 col] 33 (0, 0)) := HLS.out.bj
    have b2 : wc.heap[w.heap.size + 1]? = some (.cells #[.int .i64 ph, .int .i64 inc, .int .i64 runs, .int .u64 since, .slice A' times.length c', .int .u64 due, .bool armed, .int .i64 rung, .bool halt, .bool again] 48 (0, 0)) := HLS.out.bl
    have b3 : wc.heap[w.heap.size + 1 + 1]? = some (.cells #[.int .i64 0, .int .i64 0, .int .i64 0, .int .u64 0, .slice none 0 0, .int .u64 0, .bool false, .int .i64 0, .bool false, .bool false] 48 (0, 0)) := HLS.out.br
    have hts : Ts wc 30 A' (u64s times) := HLS.out.ts
    have hO : Old w wc := HLS.out.old
    obtain ⟨⟨e0, e1, e2, e3, e4, e5, e6, e7, e8, e9, e10, e11, e12, e13, e14⟩, _⟩ := row15 b1
    obtain ⟨⟨c0, c1, c2, c3, c4, c5, c6, c7, c8, c9⟩, f0, f1, f2, f3, f4, f5, f6, f7, f8, f9⟩ := row10 b2
    have b1k := b1
    have B2 := Lib.hid b2
    have B3 := Lib.hid b3
    have HTS := Lib.hid hts
    clear b1 b2 b3 hts HLS
    by_cases h1 : ph = 1
    · subst h1
      have HC := Lib.hid (fun W => lrestC ⟨1, inc, runs, since, times, due, armed, rung, halt, again⟩ A' c' 9 W)
      rw [show Lf.rest ⟨1, inc, runs, since, times, due, armed, rung, halt, again⟩ 9 = ⟨9, inc, runs, since, times, 0, false, 0, false, false⟩ from rfl] at HC
      unfold lfA at HC
      simp only at HC
      go_wp2_with fail
      refine (HC.out _).mono ?_; rintro e w3 ⟨rfl, hd3⟩
      have HTS3 := Lib.hid (HTS.out.up hd3)
      have B23 := Lib.hid (hd3.block B2.out)
      have B33 := Lib.hid (hd3.block B3.out)
      have hO3 := hO.up hd3
      clear hd3 hO HC HTS B2 B3
      have HT := Lib.hid (HTS3.out.tn2 B23.out (by decide) B33.out (by decide))
      obtain ⟨⟨d0, d1, d2, d3, d4, d5, d6, d7, d8, d9⟩, g0, g1, g2, g3, g4, g5, g6, g7, g8, g9⟩ := row10 B33.out
      clear HTS3 B23 B33
      go_wp2_with fail
      refine bodyPost_ret (by first | (simp [results, Try.results29, go_sem, lfA, d0, d1, d2, d3, d4, d5, d6, d7, d8, d9]; done) | (simp [results, Try.results29, go_sem, lfA, d0, d1, d2, d3, d4, d5, d6, d7, d8, d9]; first | rfl | exact ⟨rfl, rfl⟩)) rfl (HPO.out (⟨9, inc, runs, since, times, 0, false, 0, false, false⟩, 0) A' c' _ rfl ?_ ?_)
      · refine Tn.ts (K := [w.heap.size + 1, w.heap.size + 1 + 1]) ?_
        repeat with_reducible refine Tn.set ?_ (by simp) _
        exact HT.out
      · repeat with_reducible first | exact Old.refl _ | assumption | refine Old.setCell ?_ (by first | omega | (simp <;> omega)) _ | refine Old.drewN ?_ _ | refine Old.alloc ?_ _ | refine Old.drew ?_
    have n1 : (ph == 1) = false := by simpa using h1
    by_cases h5 : ph = 5
    · subst h5
      have HC := Lib.hid (fun W => lrestC ⟨5, inc, runs, since, times, due, armed, rung, halt, again⟩ A' c' 9 W)
      rw [show Lf.rest ⟨5, inc, runs, since, times, due, armed, rung, halt, again⟩ 9 = ⟨9, inc, runs, since, times, 0, false, 0, false, false⟩ from rfl] at HC
      unfold lfA at HC
      simp only at HC
      go_wp2_with fail
      refine (HC.out _).mono ?_; rintro e w3 ⟨rfl, hd3⟩
      have HTS3 := Lib.hid (HTS.out.up hd3)
      have B23 := Lib.hid (hd3.block B2.out)
      have B33 := Lib.hid (hd3.block B3.out)
      have hO3 := hO.up hd3
      clear hd3 hO HC HTS B2 B3
      have HT := Lib.hid (HTS3.out.tn2 B23.out (by decide) B33.out (by decide))
      obtain ⟨⟨d0, d1, d2, d3, d4, d5, d6, d7, d8, d9⟩, g0, g1, g2, g3, g4, g5, g6, g7, g8, g9⟩ := row10 B33.out
      clear HTS3 B23 B33
      go_wp2_with fail
      refine bodyPost_ret (by first | (simp [results, Try.results29, go_sem, lfA, d0, d1, d2, d3, d4, d5, d6, d7, d8, d9]; done) | (simp [results, Try.results29, go_sem, lfA, d0, d1, d2, d3, d4, d5, d6, d7, d8, d9]; first | rfl | exact ⟨rfl, rfl⟩)) rfl (HPO.out (⟨9, inc, runs, since, times, 0, false, 0, false, false⟩, 0) A' c' _ rfl ?_ ?_)
      · refine Tn.ts (K := [w.heap.size + 1, w.heap.size + 1 + 1]) ?_
        repeat with_reducible refine Tn.set ?_ (by simp) _
        exact HT.out
      · repeat with_reducible first | exact Old.refl _ | assumption | refine Old.setCell ?_ (by first | omega | (simp <;> omega)) _ | refine Old.drewN ?_ _ | refine Old.alloc ?_ _ | refine Old.drew ?_
    have n5 : (ph == 5) = false := by simpa using h5
    by_cases h2 : ph = 2
    · subst h2
      have HT := Lib.hid (HTS.out.tn2 B2.out (by decide) B3.out (by decide))
      obtain ⟨⟨d0, d1, d2, d3, d4, d5, d6, d7, d8, d9⟩, g0, g1, g2, g3, g4, g5, g6, g7, g8, g9⟩ := row10 B3.out
      clear HTS B2 B3
      go_wp2_with fail
      refine bodyPost_ret (by first | (simp [results, Try.results29, go_sem, lfA, d0, d1, d2, d3, d4, d5, d6, d7, d8, d9]; done) | (simp [results, Try.results29, go_sem, lfA, d0, d1, d2, d3, d4, d5, d6, d7, d8, d9]; first | rfl | exact ⟨rfl, rfl⟩)) rfl (HPO.out (⟨2, inc, runs, since, times, due, armed, rung, true, false⟩, 0) A' c' _ rfl ?_ ?_)
      · refine Tn.ts (K := [w.heap.size + 1, w.heap.size + 1 + 1]) ?_
        repeat with_reducible refine Tn.set ?_ (by simp) _
        exact HT.out
      · repeat with_reducible first | exact Old.refl _ | assumption | refine Old.setCell ?_ (by first | omega | (simp <;> omega)) _ | refine Old.drewN ?_ _ | refine Old.alloc ?_ _ | refine Old.drew ?_
    have n2 : (ph == 2) = false := by simpa using h2
    by_cases h3 : ph = 3
    · subst h3
      have HC := Lib.hid (fun W (h : Old w W) => lhaltC ⟨nm, run, eA, env, ec, nA, needs, nc, hasR, rdyp, restart, base, cap, stable, burst, win, lA, lad, lc, line, col⟩ ⟨3, inc, runs, since, times, due, armed, rung, halt, false⟩ A' c' now W (HJ.out.up h) hn)
      have hqt : (Lf.halt_ (Jd.j ⟨nm, run, eA, env, ec, nA, needs, nc, hasR, rdyp, restart, base, cap, stable, burst, win, lA, lad, lc, line, col⟩) ⟨3, inc, runs, since, times, due, armed, rung, halt, false⟩ now).1.times = times := rfl
      have HME : Hid (Lf.stop (Jd.j ⟨nm, run, eA, env, ec, nA, needs, nc, hasR, rdyp, restart, base, cap, stable, burst, win, lA, lad, lc, line, col⟩) ⟨3, inc, runs, since, times, due, armed, rung, halt, again⟩ now = ((Lf.halt_ (Jd.j ⟨nm, run, eA, env, ec, nA, needs, nc, hasR, rdyp, restart, base, cap, stable, burst, win, lA, lad, lc, line, col⟩) ⟨3, inc, runs, since, times, due, armed, rung, halt, false⟩ now).1, (Lf.halt_ (Jd.j ⟨nm, run, eA, env, ec, nA, needs, nc, hasR, rdyp, restart, base, cap, stable, burst, win, lA, lad, lc, line, col⟩) ⟨3, inc, runs, since, times, due, armed, rung, halt, false⟩ now).2)) := Lib.hid (rfl)
      generalize Lf.halt_ (Jd.j ⟨nm, run, eA, env, ec, nA, needs, nc, hasR, rdyp, restart, base, cap, stable, burst, win, lA, lad, lc, line, col⟩) ⟨3, inc, runs, since, times, due, armed, rung, halt, false⟩ now = q at *
      obtain ⟨⟨ph', inc', runs', since', times', due', armed', rung', halt', again'⟩, s'⟩ := q
      simp only at hqt
      subst hqt
      unfold lfA at HC
      try unfold jdA at HC
      simp only at HC
      go_wp2_with fail
      refine (HC.out _ (hO.setCell (by simp only; omega) _)).mono ?_; rintro e w3 ⟨rfl, hd3⟩
      have b2' := heap_setCell_same wc (w.heap.size + 1) 9 _ _ (.bool false) B2.out
      have B33 := Lib.hid (hd3.block ((heap_setCell_other wc ⟨w.heap.size + 1, 9, none⟩ (w.heap.size + 1 + 1) (.bool false) (by simp)).trans B3.out))
      have HTS3 := Lib.hid (((HTS.out.tn2 B2.out (by decide) B3.out (by decide)).set (k := w.heap.size + 1) (i := 9) (by simp) (.bool false)).ts.up hd3)
      have B23 := Lib.hid (hd3.block b2')
      have hO3 := (hO.setCell (p := ⟨w.heap.size + 1, 9, none⟩) (by simp only; omega) (.bool false)).up hd3
      clear hd3 hO HC HTS B2 B3 b2'
      have HT := Lib.hid (HTS3.out.tn2 B23.out (by decide) B33.out (by decide))
      obtain ⟨⟨d0, d1, d2, d3, d4, d5, d6, d7, d8, d9⟩, g0, g1, g2, g3, g4, g5, g6, g7, g8, g9⟩ := row10 B33.out
      clear HTS3 B23 B33
      go_wp2_with fail
      refine bodyPost_ret (by first | (simp [results, Try.results29, go_sem, lfA, d0, d1, d2, d3, d4, d5, d6, d7, d8, d9]; done) | (simp [results, Try.results29, go_sem, lfA, d0, d1, d2, d3, d4, d5, d6, d7, d8, d9]; first | rfl | exact ⟨rfl, rfl⟩)) rfl (HPO.out (⟨ph', inc', runs', since', times', due', armed', rung', halt', again'⟩, s') A' c' _ HME.out ?_ ?_)
      · refine Tn.ts (K := [w.heap.size + 1, w.heap.size + 1 + 1]) ?_
        repeat with_reducible refine Tn.set ?_ (by simp) _
        exact HT.out
      · repeat with_reducible first | exact Old.refl _ | assumption | refine Old.setCell ?_ (by first | omega | (simp <;> omega)) _ | refine Old.drewN ?_ _ | refine Old.alloc ?_ _ | refine Old.drew ?_
    have n3 : (ph == 3) = false := by simpa using h3
    by_cases h4 : ph = 4
    · subst h4
      have HC := Lib.hid (fun W (h : Old w W) => lhaltC ⟨nm, run, eA, env, ec, nA, needs, nc, hasR, rdyp, restart, base, cap, stable, burst, win, lA, lad, lc, line, col⟩ ⟨4, inc, runs, since, times, due, armed, rung, halt, false⟩ A' c' now W (HJ.out.up h) hn)
      have hqt : (Lf.halt_ (Jd.j ⟨nm, run, eA, env, ec, nA, needs, nc, hasR, rdyp, restart, base, cap, stable, burst, win, lA, lad, lc, line, col⟩) ⟨4, inc, runs, since, times, due, armed, rung, halt, false⟩ now).1.times = times := rfl
      have HME : Hid (Lf.stop (Jd.j ⟨nm, run, eA, env, ec, nA, needs, nc, hasR, rdyp, restart, base, cap, stable, burst, win, lA, lad, lc, line, col⟩) ⟨4, inc, runs, since, times, due, armed, rung, halt, again⟩ now = ((Lf.halt_ (Jd.j ⟨nm, run, eA, env, ec, nA, needs, nc, hasR, rdyp, restart, base, cap, stable, burst, win, lA, lad, lc, line, col⟩) ⟨4, inc, runs, since, times, due, armed, rung, halt, false⟩ now).1, (Lf.halt_ (Jd.j ⟨nm, run, eA, env, ec, nA, needs, nc, hasR, rdyp, restart, base, cap, stable, burst, win, lA, lad, lc, line, col⟩) ⟨4, inc, runs, since, times, due, armed, rung, halt, false⟩ now).2)) := Lib.hid (rfl)
      generalize Lf.halt_ (Jd.j ⟨nm, run, eA, env, ec, nA, needs, nc, hasR, rdyp, restart, base, cap, stable, burst, win, lA, lad, lc, line, col⟩) ⟨4, inc, runs, since, times, due, armed, rung, halt, false⟩ now = q at *
      obtain ⟨⟨ph', inc', runs', since', times', due', armed', rung', halt', again'⟩, s'⟩ := q
      simp only at hqt
      subst hqt
      unfold lfA at HC
      try unfold jdA at HC
      simp only at HC
      go_wp2_with fail
      refine (HC.out _ (hO.setCell (by simp only; omega) _)).mono ?_; rintro e w3 ⟨rfl, hd3⟩
      have b2' := heap_setCell_same wc (w.heap.size + 1) 9 _ _ (.bool false) B2.out
      have B33 := Lib.hid (hd3.block ((heap_setCell_other wc ⟨w.heap.size + 1, 9, none⟩ (w.heap.size + 1 + 1) (.bool false) (by simp)).trans B3.out))
      have HTS3 := Lib.hid (((HTS.out.tn2 B2.out (by decide) B3.out (by decide)).set (k := w.heap.size + 1) (i := 9) (by simp) (.bool false)).ts.up hd3)
      have B23 := Lib.hid (hd3.block b2')
      have hO3 := (hO.setCell (p := ⟨w.heap.size + 1, 9, none⟩) (by simp only; omega) (.bool false)).up hd3
      clear hd3 hO HC HTS B2 B3 b2'
      have HT := Lib.hid (HTS3.out.tn2 B23.out (by decide) B33.out (by decide))
      obtain ⟨⟨d0, d1, d2, d3, d4, d5, d6, d7, d8, d9⟩, g0, g1, g2, g3, g4, g5, g6, g7, g8, g9⟩ := row10 B33.out
      clear HTS3 B23 B33
      go_wp2_with fail
      refine bodyPost_ret (by first | (simp [results, Try.results29, go_sem, lfA, d0, d1, d2, d3, d4, d5, d6, d7, d8, d9]; done) | (simp [results, Try.results29, go_sem, lfA, d0, d1, d2, d3, d4, d5, d6, d7, d8, d9]; first | rfl | exact ⟨rfl, rfl⟩)) rfl (HPO.out (⟨ph', inc', runs', since', times', due', armed', rung', halt', again'⟩, s') A' c' _ HME.out ?_ ?_)
      · refine Tn.ts (K := [w.heap.size + 1, w.heap.size + 1 + 1]) ?_
        repeat with_reducible refine Tn.set ?_ (by simp) _
        exact HT.out
      · repeat with_reducible first | exact Old.refl _ | assumption | refine Old.setCell ?_ (by first | omega | (simp <;> omega)) _ | refine Old.drewN ?_ _ | refine Old.alloc ?_ _ | refine Old.drew ?_
    have n4 : (ph == 4) = false := by simpa using h4
    by_cases h6 : ph = 6
    · subst h6
      have HT := Lib.hid (HTS.out.tn2 B2.out (by decide) B3.out (by decide))
      obtain ⟨⟨d0, d1, d2, d3, d4, d5, d6, d7, d8, d9⟩, g0, g1, g2, g3, g4, g5, g6, g7, g8, g9⟩ := row10 B3.out
      clear HTS B2 B3
      go_wp2_with fail
      refine bodyPost_ret (by first | (simp [results, Try.results29, go_sem, lfA, d0, d1, d2, d3, d4, d5, d6, d7, d8, d9]; done) | (simp [results, Try.results29, go_sem, lfA, d0, d1, d2, d3, d4, d5, d6, d7, d8, d9]; first | rfl | exact ⟨rfl, rfl⟩)) rfl (HPO.out (⟨6, inc, runs, since, times, due, armed, rung, halt, false⟩, 0) A' c' _ rfl ?_ ?_)
      · refine Tn.ts (K := [w.heap.size + 1, w.heap.size + 1 + 1]) ?_
        repeat with_reducible refine Tn.set ?_ (by simp) _
        exact HT.out
      · repeat with_reducible first | exact Old.refl _ | assumption | refine Old.setCell ?_ (by first | omega | (simp <;> omega)) _ | refine Old.drewN ?_ _ | refine Old.alloc ?_ _ | refine Old.drew ?_
    have n6 : (ph == 6) = false := by simpa using h6
    have HT := Lib.hid (HTS.out.tn2 B2.out (by decide) B3.out (by decide))
    obtain ⟨⟨d0, d1, d2, d3, d4, d5, d6, d7, d8, d9⟩, g0, g1, g2, g3, g4, g5, g6, g7, g8, g9⟩ := row10 B3.out
    clear HTS B2 B3
    go_wp2_with fail
    refine bodyPost_ret (by first | (simp [results, Try.results29, go_sem, lfA, d0, d1, d2, d3, d4, d5, d6, d7, d8, d9]; done) | (simp [results, Try.results29, go_sem, lfA, d0, d1, d2, d3, d4, d5, d6, d7, d8, d9]; first | rfl | exact ⟨rfl, rfl⟩)) rfl (HPO.out (⟨ph, inc, runs, since, times, due, armed, rung, halt, again⟩, 0) A' c' _ (by show Lf.stop (Jd.j ⟨nm, run, eA, env, ec, nA, needs, nc, hasR, rdyp, restart, base, cap, stable, burst, win, lA, lad, lc, line, col⟩) ⟨ph, inc, runs, since, times, due, armed, rung, halt, again⟩ now = _; unfold Lf.stop; rw [if_neg (by simp only; omega), if_neg (by simp only; omega), if_neg (by simp only; omega), if_neg (by simp only; omega)]) ?_ ?_)
    · refine Tn.ts (K := [w.heap.size + 1, w.heap.size + 1 + 1]) ?_
      repeat with_reducible refine Tn.set ?_ (by simp) _
      exact HT.out
    · repeat with_reducible first | exact Old.refl _ | assumption | refine Old.setCell ?_ (by first | omega | (simp <;> omega)) _ | refine Old.drewN ?_ _ | refine Old.alloc ?_ _ | refine Old.drew ?_
set_option maxHeartbeats 3000000 in
set_option maxRecDepth 100000 in
theorem lrestartC (j : Jd) (x : Lf.T) (A : Option Addr) (c : Nat) (now : Int) (w : World) (hj : JdOk w j) (hn : Tk.U now) (hr : Ts w 30 A (u64s x.times)) (hl : x.times.length ≤ 68719476000) :
    Calls Try.prog 34 #[jdA j, lfA x A c, .int .u64 now] w (LfPi w (Lf.restart j.j x now).1 (Lf.restart j.j x now).2) := by
  have HPO : Hid (∀ (q : Lf.T × Int) A' c' w', Lf.restart j.j x now = q → Ts w' 30 A' (u64s q.1.times) → Old w w' → LfPi w (Lf.restart j.j x now).1 (Lf.restart j.j x now).2 (.returned (.tuple #[lfA q.1 A' c', .int .i64 q.2])) w') := Lib.hid (fun q A' c' w' h1 h2 h3 => by subst h1; exact ⟨A', c', rfl, h2, h3⟩)
  have HOWN := Lib.hid (fun W (h : Old w W) => lownC x A c W (hr.up h) hl)
  clear hr
  have HJ := Lib.hid hj
  clear hj
  unfold LfP lfA at HOWN
  unfold lfA jdA
  go_enter Try.func34, Try.ntmps34
  go_upto_region 1 with fail
  go_cut [] (fun wx => ∃ (A' : Option Addr) (c' : Nat), LS3 w wx j x A' c')
  case first =>
    go_wp2_with fail
    refine (HOWN.out _ ((((Old.refl w).alloc _).alloc _).alloc _)).mono ?_; rintro e w2 ⟨A2, c2, rfl, ht, hd⟩
    obtain ⟨b1, b2, b3, hO⟩ := three_ hd
    obtain ⟨⟨c0, c1, c2', c3, c4, c5, c6, c7, c8, c9⟩, f0, f1, f2, f3, f4, f5, f6, f7, f8, f9⟩ := row10 b2
    have HX : Hid (LS3 w (put10 w2 (w.heap.size + 1) (.int .i64 x.ph) (.int .i64 x.inc) (.int .i64 x.runs) (.int .u64 x.since) (.slice A2 x.times.length c2) (.int .u64 x.due) (.bool x.armed) (.int .i64 x.rung) (.bool x.halt) (.bool x.again)) j x A2 c2) :=
      Lib.hid ⟨(put10_other (by omega)).trans b1, put10_row b2, (put10_other (by omega)).trans b3, put10_old hO (by omega), (put10_tn (ht.tn2 b2 (by decide) b3 (by decide)) (by simp)).ts⟩
    clear ht hd b1 b2 b3 HOWN
    go_wp2_with fail
    go_meet
    case rel => exact ⟨A2, c2, HX.out⟩
  case rest =>
    obtain ⟨A', c', hls⟩ := hcut
    have HLS := Lib.hid hls
    clear hls
    obtain ⟨nm, run, eA, env, ec, nA, needs, nc, hasR, rdyp, restart, base, cap, stable, burst, win, lA, lad, lc, line, col⟩ := j
    obtain ⟨ph, inc, runs, since, times, due, armed, rung, halt, again⟩ := x
    have b1 : wc.heap[w.heap.size]? = some (.cells #[.string nm, .string run, .slice eA env.length ec, .slice nA needs.length nc, .bool hasR, .string rdyp, .int .i64 restart, .int .u64 base, .int .u64 cap, .int .u64 stable, .int .i64 burst, .int .u64 win, .slice lA lad.length lc, .int .i64 line, .int .i64 col] 33 (0, 0)) := HLS.out.bj
    have b2 : wc.heap[w.heap.size + 1]? = some (.cells #[.int .i64 ph, .int .i64 inc, .int .i64 runs, .int .u64 since, .slice A' times.length c', .int .u64 due, .bool armed, .int .i64 rung, .bool halt, .bool again] 48 (0, 0)) := HLS.out.bl
    have b3 : wc.heap[w.heap.size + 1 + 1]? = some (.cells #[.int .i64 0, .int .i64 0, .int .i64 0, .int .u64 0, .slice none 0 0, .int .u64 0, .bool false, .int .i64 0, .bool false, .bool false] 48 (0, 0)) := HLS.out.br
    have hts : Ts wc 30 A' (u64s times) := HLS.out.ts
    have hO : Old w wc := HLS.out.old
    obtain ⟨⟨e0, e1, e2, e3, e4, e5, e6, e7, e8, e9, e10, e11, e12, e13, e14⟩, _⟩ := row15 b1
    obtain ⟨⟨c0, c1, c2, c3, c4, c5, c6, c7, c8, c9⟩, f0, f1, f2, f3, f4, f5, f6, f7, f8, f9⟩ := row10 b2
    have b1k := b1
    have B2 := Lib.hid b2
    have B3 := Lib.hid b3
    have HTS := Lib.hid hts
    clear b1 b2 b3 hts HLS
    by_cases h7 : ph = 7
    · subst h7
      have HC := Lib.hid (fun W (h : Old wc W) => lstartC ⟨7, inc, runs, since, times, due, armed, rung, halt, again⟩ A' c' W (HTS.out.up h) (by simpa using hl))
      rw [show Lf.start ⟨7, inc, runs, since, times, due, armed, rung, halt, again⟩ = ⟨1, inc, 0, since, [], 0, false, 0, false, false⟩ from rfl] at HC
      unfold LfP lfA at HC
      simp only at HC
      go_wp2_with fail
      refine (HC.out _ (Old.refl _)).mono ?_; rintro e w3 ⟨A3, c3', rfl, ht3, hd3⟩
      have B23 := Lib.hid (hd3.block B2.out)
      have B33 := Lib.hid (hd3.block B3.out)
      have hO3 := hO.up hd3
      have HT := Lib.hid (ht3.tn2 B23.out (by decide) B33.out (by decide))
      clear hd3 hO HC HTS B2 B3 ht3
      obtain ⟨⟨d0, d1, d2, d3, d4, d5, d6, d7, d8, d9⟩, g0, g1, g2, g3, g4, g5, g6, g7, g8, g9⟩ := row10 B33.out
      clear B23 B33
      go_wp2_with fail
      refine bodyPost_ret (by first | (simp [results, Try.results34, go_sem, lfA, d0, d1, d2, d3, d4, d5, d6, d7, d8, d9]; done) | (simp [results, Try.results34, go_sem, lfA, d0, d1, d2, d3, d4, d5, d6, d7, d8, d9]; first | rfl | exact ⟨rfl, rfl⟩)) rfl (HPO.out (⟨1, inc, 0, since, [], 0, false, 0, false, false⟩, 0) A3 c3' _ rfl ?_ ?_)
      · refine Tn.ts (K := [w.heap.size + 1, w.heap.size + 1 + 1]) ?_
        repeat with_reducible refine Tn.set ?_ (by simp) _
        exact HT.out
      · repeat with_reducible first | exact Old.refl _ | assumption | refine Old.setCell ?_ (by first | omega | (simp <;> omega)) _ | refine Old.drewN ?_ _ | refine Old.alloc ?_ _ | refine Old.drew ?_
    have n7 : (ph == 7) = false := by simpa using h7
    by_cases h8 : ph = 8
    · subst h8
      have HC := Lib.hid (fun W (h : Old wc W) => lstartC ⟨8, inc, runs, since, times, due, armed, rung, halt, again⟩ A' c' W (HTS.out.up h) (by simpa using hl))
      rw [show Lf.start ⟨8, inc, runs, since, times, due, armed, rung, halt, again⟩ = ⟨1, inc, 0, since, [], 0, false, 0, false, false⟩ from rfl] at HC
      unfold LfP lfA at HC
      simp only at HC
      go_wp2_with fail
      refine (HC.out _ (Old.refl _)).mono ?_; rintro e w3 ⟨A3, c3', rfl, ht3, hd3⟩
      have B23 := Lib.hid (hd3.block B2.out)
      have B33 := Lib.hid (hd3.block B3.out)
      have hO3 := hO.up hd3
      have HT := Lib.hid (ht3.tn2 B23.out (by decide) B33.out (by decide))
      clear hd3 hO HC HTS B2 B3 ht3
      obtain ⟨⟨d0, d1, d2, d3, d4, d5, d6, d7, d8, d9⟩, g0, g1, g2, g3, g4, g5, g6, g7, g8, g9⟩ := row10 B33.out
      clear B23 B33
      go_wp2_with fail
      refine bodyPost_ret (by first | (simp [results, Try.results34, go_sem, lfA, d0, d1, d2, d3, d4, d5, d6, d7, d8, d9]; done) | (simp [results, Try.results34, go_sem, lfA, d0, d1, d2, d3, d4, d5, d6, d7, d8, d9]; first | rfl | exact ⟨rfl, rfl⟩)) rfl (HPO.out (⟨1, inc, 0, since, [], 0, false, 0, false, false⟩, 0) A3 c3' _ rfl ?_ ?_)
      · refine Tn.ts (K := [w.heap.size + 1, w.heap.size + 1 + 1]) ?_
        repeat with_reducible refine Tn.set ?_ (by simp) _
        exact HT.out
      · repeat with_reducible first | exact Old.refl _ | assumption | refine Old.setCell ?_ (by first | omega | (simp <;> omega)) _ | refine Old.drewN ?_ _ | refine Old.alloc ?_ _ | refine Old.drew ?_
    have n8 : (ph == 8) = false := by simpa using h8
    by_cases h9 : ph = 9
    · subst h9
      have HC := Lib.hid (fun W (h : Old wc W) => lstartC ⟨9, inc, runs, since, times, due, armed, rung, halt, again⟩ A' c' W (HTS.out.up h) (by simpa using hl))
      rw [show Lf.start ⟨9, inc, runs, since, times, due, armed, rung, halt, again⟩ = ⟨1, inc, 0, since, [], 0, false, 0, false, false⟩ from rfl] at HC
      unfold LfP lfA at HC
      simp only at HC
      go_wp2_with fail
      refine (HC.out _ (Old.refl _)).mono ?_; rintro e w3 ⟨A3, c3', rfl, ht3, hd3⟩
      have B23 := Lib.hid (hd3.block B2.out)
      have B33 := Lib.hid (hd3.block B3.out)
      have hO3 := hO.up hd3
      have HT := Lib.hid (ht3.tn2 B23.out (by decide) B33.out (by decide))
      clear hd3 hO HC HTS B2 B3 ht3
      obtain ⟨⟨d0, d1, d2, d3, d4, d5, d6, d7, d8, d9⟩, g0, g1, g2, g3, g4, g5, g6, g7, g8, g9⟩ := row10 B33.out
      clear B23 B33
      go_wp2_with fail
      refine bodyPost_ret (by first | (simp [results, Try.results34, go_sem, lfA, d0, d1, d2, d3, d4, d5, d6, d7, d8, d9]; done) | (simp [results, Try.results34, go_sem, lfA, d0, d1, d2, d3, d4, d5, d6, d7, d8, d9]; first | rfl | exact ⟨rfl, rfl⟩)) rfl (HPO.out (⟨1, inc, 0, since, [], 0, false, 0, false, false⟩, 0) A3 c3' _ rfl ?_ ?_)
      · refine Tn.ts (K := [w.heap.size + 1, w.heap.size + 1 + 1]) ?_
        repeat with_reducible refine Tn.set ?_ (by simp) _
        exact HT.out
      · repeat with_reducible first | exact Old.refl _ | assumption | refine Old.setCell ?_ (by first | omega | (simp <;> omega)) _ | refine Old.drewN ?_ _ | refine Old.alloc ?_ _ | refine Old.drew ?_
    have n9 : (ph == 9) = false := by simpa using h9
    by_cases h5 : ph = 5
    · subst h5
      have HC := Lib.hid (fun W => lrestC ⟨5, inc, runs, since, times, due, armed, rung, halt, again⟩ A' c' 1 W)
      rw [show Lf.rest ⟨5, inc, runs, since, times, due, armed, rung, halt, again⟩ 1 = ⟨1, inc, runs, since, times, 0, false, 0, false, false⟩ from rfl] at HC
      unfold lfA at HC
      simp only at HC
      go_wp2_with fail
      refine (HC.out _).mono ?_; rintro e w3 ⟨rfl, hd3⟩
      have HTS3 := Lib.hid (HTS.out.up hd3)
      have B23 := Lib.hid (hd3.block B2.out)
      have B33 := Lib.hid (hd3.block B3.out)
      have hO3 := hO.up hd3
      clear hd3 hO HC HTS B2 B3
      have HT := Lib.hid (HTS3.out.tn2 B23.out (by decide) B33.out (by decide))
      obtain ⟨⟨d0, d1, d2, d3, d4, d5, d6, d7, d8, d9⟩, g0, g1, g2, g3, g4, g5, g6, g7, g8, g9⟩ := row10 B33.out
      clear HTS3 B23 B33
      go_wp2_with fail
      refine bodyPost_ret (by first | (simp [results, Try.results34, go_sem, lfA, d0, d1, d2, d3, d4, d5, d6, d7, d8, d9]; done) | (simp [results, Try.results34, go_sem, lfA, d0, d1, d2, d3, d4, d5, d6, d7, d8, d9]; first | rfl | exact ⟨rfl, rfl⟩)) rfl (HPO.out (⟨1, inc, runs, since, times, 0, false, 0, false, false⟩, 0) A' c' _ rfl ?_ ?_)
      · refine Tn.ts (K := [w.heap.size + 1, w.heap.size + 1 + 1]) ?_
        repeat with_reducible refine Tn.set ?_ (by simp) _
        exact HT.out
      · repeat with_reducible first | exact Old.refl _ | assumption | refine Old.setCell ?_ (by first | omega | (simp <;> omega)) _ | refine Old.drewN ?_ _ | refine Old.alloc ?_ _ | refine Old.drew ?_
    have n5 : (ph == 5) = false := by simpa using h5
    by_cases h2 : ph = 2
    · subst h2
      have HT := Lib.hid (HTS.out.tn2 B2.out (by decide) B3.out (by decide))
      obtain ⟨⟨d0, d1, d2, d3, d4, d5, d6, d7, d8, d9⟩, g0, g1, g2, g3, g4, g5, g6, g7, g8, g9⟩ := row10 B3.out
      clear HTS B2 B3
      go_wp2_with fail
      refine bodyPost_ret (by first | (simp [results, Try.results34, go_sem, lfA, d0, d1, d2, d3, d4, d5, d6, d7, d8, d9]; done) | (simp [results, Try.results34, go_sem, lfA, d0, d1, d2, d3, d4, d5, d6, d7, d8, d9]; first | rfl | exact ⟨rfl, rfl⟩)) rfl (HPO.out (⟨2, inc, runs, since, times, due, armed, rung, true, true⟩, 0) A' c' _ rfl ?_ ?_)
      · refine Tn.ts (K := [w.heap.size + 1, w.heap.size + 1 + 1]) ?_
        repeat with_reducible refine Tn.set ?_ (by simp) _
        exact HT.out
      · repeat with_reducible first | exact Old.refl _ | assumption | refine Old.setCell ?_ (by first | omega | (simp <;> omega)) _ | refine Old.drewN ?_ _ | refine Old.alloc ?_ _ | refine Old.drew ?_
    have n2 : (ph == 2) = false := by simpa using h2
    by_cases h3 : ph = 3
    · subst h3
      have HC := Lib.hid (fun W (h : Old w W) => lhaltC ⟨nm, run, eA, env, ec, nA, needs, nc, hasR, rdyp, restart, base, cap, stable, burst, win, lA, lad, lc, line, col⟩ ⟨3, inc, runs, since, times, due, armed, rung, halt, true⟩ A' c' now W (HJ.out.up h) hn)
      have hqt : (Lf.halt_ (Jd.j ⟨nm, run, eA, env, ec, nA, needs, nc, hasR, rdyp, restart, base, cap, stable, burst, win, lA, lad, lc, line, col⟩) ⟨3, inc, runs, since, times, due, armed, rung, halt, true⟩ now).1.times = times := rfl
      have HME : Hid (Lf.restart (Jd.j ⟨nm, run, eA, env, ec, nA, needs, nc, hasR, rdyp, restart, base, cap, stable, burst, win, lA, lad, lc, line, col⟩) ⟨3, inc, runs, since, times, due, armed, rung, halt, again⟩ now = ((Lf.halt_ (Jd.j ⟨nm, run, eA, env, ec, nA, needs, nc, hasR, rdyp, restart, base, cap, stable, burst, win, lA, lad, lc, line, col⟩) ⟨3, inc, runs, since, times, due, armed, rung, halt, true⟩ now).1, (Lf.halt_ (Jd.j ⟨nm, run, eA, env, ec, nA, needs, nc, hasR, rdyp, restart, base, cap, stable, burst, win, lA, lad, lc, line, col⟩) ⟨3, inc, runs, since, times, due, armed, rung, halt, true⟩ now).2)) := Lib.hid (rfl)
      generalize Lf.halt_ (Jd.j ⟨nm, run, eA, env, ec, nA, needs, nc, hasR, rdyp, restart, base, cap, stable, burst, win, lA, lad, lc, line, col⟩) ⟨3, inc, runs, since, times, due, armed, rung, halt, true⟩ now = q at *
      obtain ⟨⟨ph', inc', runs', since', times', due', armed', rung', halt', again'⟩, s'⟩ := q
      simp only at hqt
      subst hqt
      unfold lfA at HC
      try unfold jdA at HC
      simp only at HC
      go_wp2_with fail
      refine (HC.out _ (hO.setCell (by simp only; omega) _)).mono ?_; rintro e w3 ⟨rfl, hd3⟩
      have b2' := heap_setCell_same wc (w.heap.size + 1) 9 _ _ (.bool true) B2.out
      have B33 := Lib.hid (hd3.block ((heap_setCell_other wc ⟨w.heap.size + 1, 9, none⟩ (w.heap.size + 1 + 1) (.bool true) (by simp)).trans B3.out))
      have HTS3 := Lib.hid (((HTS.out.tn2 B2.out (by decide) B3.out (by decide)).set (k := w.heap.size + 1) (i := 9) (by simp) (.bool true)).ts.up hd3)
      have B23 := Lib.hid (hd3.block b2')
      have hO3 := (hO.setCell (p := ⟨w.heap.size + 1, 9, none⟩) (by simp only; omega) (.bool true)).up hd3
      clear hd3 hO HC HTS B2 B3 b2'
      have HT := Lib.hid (HTS3.out.tn2 B23.out (by decide) B33.out (by decide))
      obtain ⟨⟨d0, d1, d2, d3, d4, d5, d6, d7, d8, d9⟩, g0, g1, g2, g3, g4, g5, g6, g7, g8, g9⟩ := row10 B33.out
      clear HTS3 B23 B33
      go_wp2_with fail
      refine bodyPost_ret (by first | (simp [results, Try.results34, go_sem, lfA, d0, d1, d2, d3, d4, d5, d6, d7, d8, d9]; done) | (simp [results, Try.results34, go_sem, lfA, d0, d1, d2, d3, d4, d5, d6, d7, d8, d9]; first | rfl | exact ⟨rfl, rfl⟩)) rfl (HPO.out (⟨ph', inc', runs', since', times', due', armed', rung', halt', again'⟩, s') A' c' _ HME.out ?_ ?_)
      · refine Tn.ts (K := [w.heap.size + 1, w.heap.size + 1 + 1]) ?_
        repeat with_reducible refine Tn.set ?_ (by simp) _
        exact HT.out
      · repeat with_reducible first | exact Old.refl _ | assumption | refine Old.setCell ?_ (by first | omega | (simp <;> omega)) _ | refine Old.drewN ?_ _ | refine Old.alloc ?_ _ | refine Old.drew ?_
    have n3 : (ph == 3) = false := by simpa using h3
    by_cases h4 : ph = 4
    · subst h4
      have HC := Lib.hid (fun W (h : Old w W) => lhaltC ⟨nm, run, eA, env, ec, nA, needs, nc, hasR, rdyp, restart, base, cap, stable, burst, win, lA, lad, lc, line, col⟩ ⟨4, inc, runs, since, times, due, armed, rung, halt, true⟩ A' c' now W (HJ.out.up h) hn)
      have hqt : (Lf.halt_ (Jd.j ⟨nm, run, eA, env, ec, nA, needs, nc, hasR, rdyp, restart, base, cap, stable, burst, win, lA, lad, lc, line, col⟩) ⟨4, inc, runs, since, times, due, armed, rung, halt, true⟩ now).1.times = times := rfl
      have HME : Hid (Lf.restart (Jd.j ⟨nm, run, eA, env, ec, nA, needs, nc, hasR, rdyp, restart, base, cap, stable, burst, win, lA, lad, lc, line, col⟩) ⟨4, inc, runs, since, times, due, armed, rung, halt, again⟩ now = ((Lf.halt_ (Jd.j ⟨nm, run, eA, env, ec, nA, needs, nc, hasR, rdyp, restart, base, cap, stable, burst, win, lA, lad, lc, line, col⟩) ⟨4, inc, runs, since, times, due, armed, rung, halt, true⟩ now).1, (Lf.halt_ (Jd.j ⟨nm, run, eA, env, ec, nA, needs, nc, hasR, rdyp, restart, base, cap, stable, burst, win, lA, lad, lc, line, col⟩) ⟨4, inc, runs, since, times, due, armed, rung, halt, true⟩ now).2)) := Lib.hid (rfl)
      generalize Lf.halt_ (Jd.j ⟨nm, run, eA, env, ec, nA, needs, nc, hasR, rdyp, restart, base, cap, stable, burst, win, lA, lad, lc, line, col⟩) ⟨4, inc, runs, since, times, due, armed, rung, halt, true⟩ now = q at *
      obtain ⟨⟨ph', inc', runs', since', times', due', armed', rung', halt', again'⟩, s'⟩ := q
      simp only at hqt
      subst hqt
      unfold lfA at HC
      try unfold jdA at HC
      simp only at HC
      go_wp2_with fail
      refine (HC.out _ (hO.setCell (by simp only; omega) _)).mono ?_; rintro e w3 ⟨rfl, hd3⟩
      have b2' := heap_setCell_same wc (w.heap.size + 1) 9 _ _ (.bool true) B2.out
      have B33 := Lib.hid (hd3.block ((heap_setCell_other wc ⟨w.heap.size + 1, 9, none⟩ (w.heap.size + 1 + 1) (.bool true) (by simp)).trans B3.out))
      have HTS3 := Lib.hid (((HTS.out.tn2 B2.out (by decide) B3.out (by decide)).set (k := w.heap.size + 1) (i := 9) (by simp) (.bool true)).ts.up hd3)
      have B23 := Lib.hid (hd3.block b2')
      have hO3 := (hO.setCell (p := ⟨w.heap.size + 1, 9, none⟩) (by simp only; omega) (.bool true)).up hd3
      clear hd3 hO HC HTS B2 B3 b2'
      have HT := Lib.hid (HTS3.out.tn2 B23.out (by decide) B33.out (by decide))
      obtain ⟨⟨d0, d1, d2, d3, d4, d5, d6, d7, d8, d9⟩, g0, g1, g2, g3, g4, g5, g6, g7, g8, g9⟩ := row10 B33.out
      clear HTS3 B23 B33
      go_wp2_with fail
      refine bodyPost_ret (by first | (simp [results, Try.results34, go_sem, lfA, d0, d1, d2, d3, d4, d5, d6, d7, d8, d9]; done) | (simp [results, Try.results34, go_sem, lfA, d0, d1, d2, d3, d4, d5, d6, d7, d8, d9]; first | rfl | exact ⟨rfl, rfl⟩)) rfl (HPO.out (⟨ph', inc', runs', since', times', due', armed', rung', halt', again'⟩, s') A' c' _ HME.out ?_ ?_)
      · refine Tn.ts (K := [w.heap.size + 1, w.heap.size + 1 + 1]) ?_
        repeat with_reducible refine Tn.set ?_ (by simp) _
        exact HT.out
      · repeat with_reducible first | exact Old.refl _ | assumption | refine Old.setCell ?_ (by first | omega | (simp <;> omega)) _ | refine Old.drewN ?_ _ | refine Old.alloc ?_ _ | refine Old.drew ?_
    have n4 : (ph == 4) = false := by simpa using h4
    by_cases h6 : ph = 6
    · subst h6
      have HT := Lib.hid (HTS.out.tn2 B2.out (by decide) B3.out (by decide))
      obtain ⟨⟨d0, d1, d2, d3, d4, d5, d6, d7, d8, d9⟩, g0, g1, g2, g3, g4, g5, g6, g7, g8, g9⟩ := row10 B3.out
      clear HTS B2 B3
      go_wp2_with fail
      refine bodyPost_ret (by first | (simp [results, Try.results34, go_sem, lfA, d0, d1, d2, d3, d4, d5, d6, d7, d8, d9]; done) | (simp [results, Try.results34, go_sem, lfA, d0, d1, d2, d3, d4, d5, d6, d7, d8, d9]; first | rfl | exact ⟨rfl, rfl⟩)) rfl (HPO.out (⟨6, inc, runs, since, times, due, armed, rung, halt, true⟩, 0) A' c' _ rfl ?_ ?_)
      · refine Tn.ts (K := [w.heap.size + 1, w.heap.size + 1 + 1]) ?_
        repeat with_reducible refine Tn.set ?_ (by simp) _
        exact HT.out
      · repeat with_reducible first | exact Old.refl _ | assumption | refine Old.setCell ?_ (by first | omega | (simp <;> omega)) _ | refine Old.drewN ?_ _ | refine Old.alloc ?_ _ | refine Old.drew ?_
    have n6 : (ph == 6) = false := by simpa using h6
    have HT := Lib.hid (HTS.out.tn2 B2.out (by decide) B3.out (by decide))
    obtain ⟨⟨d0, d1, d2, d3, d4, d5, d6, d7, d8, d9⟩, g0, g1, g2, g3, g4, g5, g6, g7, g8, g9⟩ := row10 B3.out
    clear HTS B2 B3
    go_wp2_with fail
    refine bodyPost_ret (by first | (simp [results, Try.results34, go_sem, lfA, d0, d1, d2, d3, d4, d5, d6, d7, d8, d9]; done) | (simp [results, Try.results34, go_sem, lfA, d0, d1, d2, d3, d4, d5, d6, d7, d8, d9]; first | rfl | exact ⟨rfl, rfl⟩)) rfl (HPO.out (⟨ph, inc, runs, since, times, due, armed, rung, halt, again⟩, 0) A' c' _ (by show Lf.restart (Jd.j ⟨nm, run, eA, env, ec, nA, needs, nc, hasR, rdyp, restart, base, cap, stable, burst, win, lA, lad, lc, line, col⟩) ⟨ph, inc, runs, since, times, due, armed, rung, halt, again⟩ now = _; unfold Lf.restart; rw [if_neg (by simp only; omega), if_neg (by simp only; omega), if_neg (by simp only; omega), if_neg (by simp only; omega)]; unfold Lf.start; rw [if_neg (by simp only; omega)]) ?_ ?_)
    · refine Tn.ts (K := [w.heap.size + 1, w.heap.size + 1 + 1]) ?_
      repeat with_reducible refine Tn.set ?_ (by simp) _
      exact HT.out
    · repeat with_reducible first | exact Old.refl _ | assumption | refine Old.setCell ?_ (by first | omega | (simp <;> omega)) _ | refine Old.drewN ?_ _ | refine Old.alloc ?_ _ | refine Old.drew ?_
set_option maxHeartbeats 3000000 in
set_option maxRecDepth 100000 in
theorem lfireC (j : Jd) (x : Lf.T) (A : Option Addr) (c : Nat) (w : World) (hj : JdOk w j) (hx : Lf.Ok x) (hr : Ts w 30 A (u64s x.times)) (hl : x.times.length ≤ 68719476000) :
    Calls Try.prog 28 #[jdA j, lfA x A c] w (LfPi w (Lf.fire j.j x).1 (Lf.fire j.j x).2) := by
  have HPO : Hid (∀ (q : Lf.T × Int) A' c' w', Lf.fire j.j x = q → Ts w' 30 A' (u64s q.1.times) → Old w w' → LfPi w (Lf.fire j.j x).1 (Lf.fire j.j x).2 (.returned (.tuple #[lfA q.1 A' c', .int .i64 q.2])) w') := Lib.hid (fun q A' c' w' h1 h2 h3 => by subst h1; exact ⟨A', c', rfl, h2, h3⟩)
  have HOWN := Lib.hid (fun W (h : Old w W) => lownC x A c W (hr.up h) hl)
  clear hr
  have HJ := Lib.hid hj
  clear hj
  unfold LfP lfA at HOWN
  unfold lfA jdA
  go_enter Try.func28, Try.ntmps28
  go_upto_region 1 with fail
  go_cut [] (fun wx => ∃ (A' : Option Addr) (c' : Nat), LS3 w wx j x A' c')
  case first =>
    go_wp2_with fail
    refine (HOWN.out _ ((((Old.refl w).alloc _).alloc _).alloc _)).mono ?_; rintro e w2 ⟨A2, c2, rfl, ht, hd⟩
    obtain ⟨b1, b2, b3, hO⟩ := three_ hd
    obtain ⟨⟨c0, c1, c2', c3, c4, c5, c6, c7, c8, c9⟩, f0, f1, f2, f3, f4, f5, f6, f7, f8, f9⟩ := row10 b2
    have HX : Hid (LS3 w (put10 w2 (w.heap.size + 1) (.int .i64 x.ph) (.int .i64 x.inc) (.int .i64 x.runs) (.int .u64 x.since) (.slice A2 x.times.length c2) (.int .u64 x.due) (.bool x.armed) (.int .i64 x.rung) (.bool x.halt) (.bool x.again)) j x A2 c2) :=
      Lib.hid ⟨(put10_other (by omega)).trans b1, put10_row b2, (put10_other (by omega)).trans b3, put10_old hO (by omega), (put10_tn (ht.tn2 b2 (by decide) b3 (by decide)) (by simp)).ts⟩
    clear ht hd b1 b2 b3 HOWN
    go_wp2_with fail
    go_meet
    case rel => exact ⟨A2, c2, HX.out⟩
  case rest =>
    obtain ⟨A', c', hls⟩ := hcut
    have HLS := Lib.hid hls
    clear hls
    obtain ⟨nm, run, eA, env, ec, nA, needs, nc, hasR, rdyp, restart, base, cap, stable, burst, win, lA, lad, lc, line, col⟩ := j
    obtain ⟨ph, inc, runs, since, times, due, armed, rung, halt, again⟩ := x
    have b1 : wc.heap[w.heap.size]? = some (.cells #[.string nm, .string run, .slice eA env.length ec, .slice nA needs.length nc, .bool hasR, .string rdyp, .int .i64 restart, .int .u64 base, .int .u64 cap, .int .u64 stable, .int .i64 burst, .int .u64 win, .slice lA lad.length lc, .int .i64 line, .int .i64 col] 33 (0, 0)) := HLS.out.bj
    have b2 : wc.heap[w.heap.size + 1]? = some (.cells #[.int .i64 ph, .int .i64 inc, .int .i64 runs, .int .u64 since, .slice A' times.length c', .int .u64 due, .bool armed, .int .i64 rung, .bool halt, .bool again] 48 (0, 0)) := HLS.out.bl
    have b3 : wc.heap[w.heap.size + 1 + 1]? = some (.cells #[.int .i64 0, .int .i64 0, .int .i64 0, .int .u64 0, .slice none 0 0, .int .u64 0, .bool false, .int .i64 0, .bool false, .bool false] 48 (0, 0)) := HLS.out.br
    have hts : Ts wc 30 A' (u64s times) := HLS.out.ts
    have hO : Old w wc := HLS.out.old
    obtain ⟨⟨e0, e1, e2, e3, e4, e5, e6, e7, e8, e9, e10, e11, e12, e13, e14⟩, _⟩ := row15 b1
    obtain ⟨⟨c0, c1, c2, c3, c4, c5, c6, c7, c8, c9⟩, f0, f1, f2, f3, f4, f5, f6, f7, f8, f9⟩ := row10 b2
    have b1k := b1
    have B2 := Lib.hid b2
    have B3 := Lib.hid b3
    have HTS := Lib.hid hts
    clear b1 b2 b3 hts HLS
    by_cases h5 : ph = 5
    · subst h5
      have HC := Lib.hid (fun W => lrestC ⟨5, inc, runs, since, times, due, armed, rung, halt, again⟩ A' c' 1 W)
      rw [show Lf.rest ⟨5, inc, runs, since, times, due, armed, rung, halt, again⟩ 1 = ⟨1, inc, runs, since, times, 0, false, 0, false, false⟩ from rfl] at HC
      unfold lfA at HC
      simp only at HC
      go_wp2_with fail
      refine (HC.out _).mono ?_; rintro e w3 ⟨rfl, hd3⟩
      have HTS3 := Lib.hid (HTS.out.up hd3)
      have B23 := Lib.hid (hd3.block B2.out)
      have B33 := Lib.hid (hd3.block B3.out)
      have hO3 := hO.up hd3
      clear hd3 hO HC HTS B2 B3
      have HT := Lib.hid (HTS3.out.tn2 B23.out (by decide) B33.out (by decide))
      obtain ⟨⟨d0, d1, d2, d3, d4, d5, d6, d7, d8, d9⟩, g0, g1, g2, g3, g4, g5, g6, g7, g8, g9⟩ := row10 B33.out
      clear HTS3 B23 B33
      go_wp2_with fail
      refine bodyPost_ret (by first | (simp [results, Try.results28, go_sem, lfA, d0, d1, d2, d3, d4, d5, d6, d7, d8, d9]; done) | (simp [results, Try.results28, go_sem, lfA, d0, d1, d2, d3, d4, d5, d6, d7, d8, d9]; first | rfl | exact ⟨rfl, rfl⟩)) rfl (HPO.out (⟨1, inc, runs, since, times, 0, false, 0, false, false⟩, 0) A' c' _ rfl ?_ ?_)
      · refine Tn.ts (K := [w.heap.size + 1, w.heap.size + 1 + 1]) ?_
        repeat with_reducible refine Tn.set ?_ (by simp) _
        exact HT.out
      · repeat with_reducible first | exact Old.refl _ | assumption | refine Old.setCell ?_ (by first | omega | (simp <;> omega)) _ | refine Old.drewN ?_ _ | refine Old.alloc ?_ _ | refine Old.drew ?_
    have n5 : (ph == 5) = false := by simpa using h5
    by_cases h6 : ph = 6
    · subst h6
      cases armed with
      | true =>
        have HC := Lib.hid (fun W (h : Old w W) => lclimbC ⟨nm, run, eA, env, ec, nA, needs, nc, hasR, rdyp, restart, base, cap, stable, burst, win, lA, lad, lc, line, col⟩ ⟨6, inc, runs, since, times, due, true, rung, halt, again⟩ A' c' due W (HJ.out.up h) hx.2.1)
        have hqt : (Lf.climb (Jd.j ⟨nm, run, eA, env, ec, nA, needs, nc, hasR, rdyp, restart, base, cap, stable, burst, win, lA, lad, lc, line, col⟩) ⟨6, inc, runs, since, times, due, true, rung, halt, again⟩ due).1.times = times := rfl
        have HME : Hid (Lf.fire (Jd.j ⟨nm, run, eA, env, ec, nA, needs, nc, hasR, rdyp, restart, base, cap, stable, burst, win, lA, lad, lc, line, col⟩) ⟨6, inc, runs, since, times, due, true, rung, halt, again⟩ = ((Lf.climb (Jd.j ⟨nm, run, eA, env, ec, nA, needs, nc, hasR, rdyp, restart, base, cap, stable, burst, win, lA, lad, lc, line, col⟩) ⟨6, inc, runs, since, times, due, true, rung, halt, again⟩ due).1, (Lf.climb (Jd.j ⟨nm, run, eA, env, ec, nA, needs, nc, hasR, rdyp, restart, base, cap, stable, burst, win, lA, lad, lc, line, col⟩) ⟨6, inc, runs, since, times, due, true, rung, halt, again⟩ due).2)) := Lib.hid (rfl)
        generalize Lf.climb (Jd.j ⟨nm, run, eA, env, ec, nA, needs, nc, hasR, rdyp, restart, base, cap, stable, burst, win, lA, lad, lc, line, col⟩) ⟨6, inc, runs, since, times, due, true, rung, halt, again⟩ due = q at *
        obtain ⟨⟨ph', inc', runs', since', times', due', armed', rung', halt', again'⟩, s'⟩ := q
        simp only at hqt
        subst hqt
        unfold lfA at HC
        try unfold jdA at HC
        simp only at HC
        go_wp2_with fail
        refine (HC.out _ hO).mono ?_; rintro e w3 ⟨rfl, hd3⟩
        have HTS3 := Lib.hid (HTS.out.up hd3)
        have B23 := Lib.hid (hd3.block B2.out)
        have B33 := Lib.hid (hd3.block B3.out)
        have hO3 := hO.up hd3
        clear hd3 hO HC HTS B2 B3
        have HT := Lib.hid (HTS3.out.tn2 B23.out (by decide) B33.out (by decide))
        obtain ⟨⟨d0, d1, d2, d3, d4, d5, d6, d7, d8, d9⟩, g0, g1, g2, g3, g4, g5, g6, g7, g8, g9⟩ := row10 B33.out
        clear HTS3 B23 B33
        go_wp2_with fail
        refine bodyPost_ret (by first | (simp [results, Try.results28, go_sem, lfA, d0, d1, d2, d3, d4, d5, d6, d7, d8, d9]; done) | (simp [results, Try.results28, go_sem, lfA, d0, d1, d2, d3, d4, d5, d6, d7, d8, d9]; first | rfl | exact ⟨rfl, rfl⟩)) rfl (HPO.out (⟨ph', inc', runs', since', times', due', armed', rung', halt', again'⟩, s') A' c' _ HME.out ?_ ?_)
        · refine Tn.ts (K := [w.heap.size + 1, w.heap.size + 1 + 1]) ?_
          repeat with_reducible refine Tn.set ?_ (by simp) _
          exact HT.out
        · repeat with_reducible first | exact Old.refl _ | assumption | refine Old.setCell ?_ (by first | omega | (simp <;> omega)) _ | refine Old.drewN ?_ _ | refine Old.alloc ?_ _ | refine Old.drew ?_
      | false =>
        have HT := Lib.hid (HTS.out.tn2 B2.out (by decide) B3.out (by decide))
        obtain ⟨⟨d0, d1, d2, d3, d4, d5, d6, d7, d8, d9⟩, g0, g1, g2, g3, g4, g5, g6, g7, g8, g9⟩ := row10 B3.out
        clear HTS B2 B3
        go_wp2_with fail
        refine bodyPost_ret (by first | (simp [results, Try.results28, go_sem, lfA, d0, d1, d2, d3, d4, d5, d6, d7, d8, d9]; done) | (simp [results, Try.results28, go_sem, lfA, d0, d1, d2, d3, d4, d5, d6, d7, d8, d9]; first | rfl | exact ⟨rfl, rfl⟩)) rfl (HPO.out (⟨6, inc, runs, since, times, due, false, rung, halt, again⟩, 0) A' c' _ rfl ?_ ?_)
        · refine Tn.ts (K := [w.heap.size + 1, w.heap.size + 1 + 1]) ?_
          repeat with_reducible refine Tn.set ?_ (by simp) _
          exact HT.out
        · repeat with_reducible first | exact Old.refl _ | assumption | refine Old.setCell ?_ (by first | omega | (simp <;> omega)) _ | refine Old.drewN ?_ _ | refine Old.alloc ?_ _ | refine Old.drew ?_
    have n6 : (ph == 6) = false := by simpa using h6
    have HT := Lib.hid (HTS.out.tn2 B2.out (by decide) B3.out (by decide))
    obtain ⟨⟨d0, d1, d2, d3, d4, d5, d6, d7, d8, d9⟩, g0, g1, g2, g3, g4, g5, g6, g7, g8, g9⟩ := row10 B3.out
    clear HTS B2 B3
    go_wp2_with fail
    refine bodyPost_ret (by first | (simp [results, Try.results28, go_sem, lfA, d0, d1, d2, d3, d4, d5, d6, d7, d8, d9]; done) | (simp [results, Try.results28, go_sem, lfA, d0, d1, d2, d3, d4, d5, d6, d7, d8, d9]; first | rfl | exact ⟨rfl, rfl⟩)) rfl (HPO.out (⟨ph, inc, runs, since, times, due, armed, rung, halt, again⟩, 0) A' c' _ (by show Lf.fire (Jd.j ⟨nm, run, eA, env, ec, nA, needs, nc, hasR, rdyp, restart, base, cap, stable, burst, win, lA, lad, lc, line, col⟩) ⟨ph, inc, runs, since, times, due, armed, rung, halt, again⟩ = _; unfold Lf.fire; rw [if_neg (by simp only; omega), if_neg (by simp only; omega)]) ?_ ?_)
    · refine Tn.ts (K := [w.heap.size + 1, w.heap.size + 1 + 1]) ?_
      repeat with_reducible refine Tn.set ?_ (by simp) _
      exact HT.out
    · repeat with_reducible first | exact Old.refl _ | assumption | refine Old.setCell ?_ (by first | omega | (simp <;> omega)) _ | refine Old.drewN ?_ _ | refine Old.alloc ?_ _ | refine Old.drew ?_
end Go.Proofs.Ytpknglclcdgfbaa
