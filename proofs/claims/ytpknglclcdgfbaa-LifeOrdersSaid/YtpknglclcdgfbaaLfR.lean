/-
  The walks of the reference of life: rest, climb, ended, New, done, Spawn, Matched, Start, over.
-/
import Derived.Test.YtpknglclcdgfbaaLfB
import Derived.Deep.DeepCutAuto
namespace Go.Proofs.Ytpknglclcdgfbaa
open Go.RowKit Go.Shelf
set_option linter.unusedVariables false









set_option maxHeartbeats 4000000 in
set_option maxRecDepth 100000 in
theorem rrestC (x : Lf.T) (A : Option Addr) (c : Nat) (p : Int) (w : World) :
    Calls Try.prog 64 #[lfA x A c, .int .i64 p] w fun e w' => e = .returned (lfA (Lf.rest x p) A c) ∧ Old w w' := by
  obtain ⟨ph, inc, runs, since, times, due, armed, rung, halt, again⟩ := x
  unfold lfA Lf.rest
  simp only
  go_enter Try.func64, Try.ntmps64
  go_wp2_with fail
  exact bodyPost_ret (v := .agg #[.int .i64 p, .int .i64 inc, .int .i64 runs, .int .u64 since, .slice A times.length c, .int .u64 0, .bool false, .int .i64 0, .bool false, .bool false]) (by simp [results, Try.results64, go_sem]) rfl ⟨rfl, ((Old.refl w).alloc _).alloc _⟩
set_option maxHeartbeats 4000000 in
set_option maxRecDepth 100000 in
theorem rclimbC (j : Jd) (x : Lf.T) (A : Option Addr) (c : Nat) (now : Int) (w : World) (hj : JdOk w j) (hn : Tk.U now) :
    Calls Try.prog 65 #[jdA j, lfA x A c, .int .u64 now] w fun e w' => e = .returned (.tuple #[lfA (Lf.climb j.j x now).1 A c, .int .i64 (Lf.climb j.j x now).2]) ∧ Old w w' := by
  have HN := Lib.hid (fun W (h : Old w W) => rNext_any j.lA j.lc j.lad x.rung now W (hj.lad.up h).rs (by have := hj.few; unfold maxLen; omega) hj.ok hn)
  clear hj
  obtain ⟨ph, inc, runs, since, times, due, armed, rung, halt, again⟩ := x
  obtain ⟨nm, run, eA, env, ec, nA, needs, nc, hasR, ready, restart, base, cap, stable, burst, win, lA, lad, lc, line, col⟩ := j
  unfold lfA jdA Lf.climb Jd.j
  simp only at HN ⊢
  generalize Ld.next lad rung now = q at *
  obtain ⟨q1, q2, q3⟩ := q
  go_enter Try.func65, Try.ntmps65
  go_wp2_with fail
  refine (HN.out _ ((((Old.refl w).alloc _).alloc _).alloc _)).mono ?_; rintro e w2 ⟨rfl, n, rfl⟩
  go_wp2_with fail
  refine bodyPost_ret (by first | (simp [results, Try.results65, go_sem]; done) | (simp [results, Try.results65, go_sem]; rfl)) rfl ⟨rfl, ?_⟩
  repeat with_reducible first | exact Old.refl _ | assumption | refine Old.setCell ?_ (by first | omega | (simp <;> omega)) _ | refine Old.drewN ?_ _ | refine Old.alloc ?_ _ | refine Old.drew ?_
set_option maxHeartbeats 4000000 in
set_option maxRecDepth 100000 in
theorem rendedC (x : Lf.T) (A : Option Addr) (c : Nat) (w : World) :
    Calls Try.prog 82 #[lfA x A c] w fun e w' => e = .returned (lfA (Lf.ended x) A c) ∧ Old w w' := by
  obtain ⟨ph, inc, runs, since, times, due, armed, rung, halt, again⟩ := x
  cases again with
  | false =>
    have HC := Lib.hid (fun W => rrestC ⟨ph, inc, runs, since, times, due, armed, rung, halt, false⟩ A c 9 W)
    rw [show Lf.ended ⟨ph, inc, runs, since, times, due, armed, rung, halt, false⟩ = Lf.rest ⟨ph, inc, runs, since, times, due, armed, rung, halt, false⟩ 9 from rfl]
    generalize Lf.rest _ 9 = q at *
    obtain ⟨ph', inc', runs', since', times', due', armed', rung', halt', again'⟩ := q
    unfold lfA at HC ⊢
    go_enter Try.func82, Try.ntmps82
    go_wp2_with fail
    refine (HC.out _).mono ?_; rintro e w2 ⟨rfl, hd⟩
    obtain ⟨b1, b2, hO⟩ := two_ hd
    obtain ⟨⟨d0, d1, d2, d3, d4, d5, d6, d7, d8, d9⟩, g0, g1, g2, g3, g4, g5, g6, g7, g8, g9⟩ := row10 b2
    clear hd HC b1 b2
    go_wp2_with fail
    refine bodyPost_ret (by first | (simp [results, Try.results82, go_sem, d0, d1, d2, d3, d4, d5, d6, d7, d8, d9]; done) | (simp [results, Try.results82, go_sem, d0, d1, d2, d3, d4, d5, d6, d7, d8, d9]; rfl)) rfl ⟨rfl, ?_⟩
    repeat with_reducible first | exact Old.refl _ | assumption | refine Old.setCell ?_ (by first | omega | (simp <;> omega)) _ | refine Old.drewN ?_ _ | refine Old.alloc ?_ _ | refine Old.drew ?_
  | true =>
    have HC := Lib.hid (fun W => rrestC ⟨ph, inc, 0, since, times, due, armed, rung, halt, true⟩ A c 1 W)
    rw [show Lf.ended ⟨ph, inc, runs, since, times, due, armed, rung, halt, true⟩ = Lf.rest ⟨ph, inc, 0, since, times, due, armed, rung, halt, true⟩ 1 from rfl]
    generalize Lf.rest _ 1 = q at *
    obtain ⟨ph', inc', runs', since', times', due', armed', rung', halt', again'⟩ := q
    unfold lfA at HC ⊢
    go_enter Try.func82, Try.ntmps82
    go_wp2_with fail
    refine (HC.out _).mono ?_; rintro e w2 ⟨rfl, hd⟩
    obtain ⟨b1, b2, hO⟩ := two_ hd
    obtain ⟨⟨d0, d1, d2, d3, d4, d5, d6, d7, d8, d9⟩, g0, g1, g2, g3, g4, g5, g6, g7, g8, g9⟩ := row10 b2
    clear hd HC b1 b2
    go_wp2_with fail
    refine bodyPost_ret (by first | (simp [results, Try.results82, go_sem, d0, d1, d2, d3, d4, d5, d6, d7, d8, d9]; done) | (simp [results, Try.results82, go_sem, d0, d1, d2, d3, d4, d5, d6, d7, d8, d9]; rfl)) rfl ⟨rfl, ?_⟩
    repeat with_reducible first | exact Old.refl _ | assumption | refine Old.setCell ?_ (by first | omega | (simp <;> omega)) _ | refine Old.drewN ?_ _ | refine Old.alloc ?_ _ | refine Old.drew ?_
set_option maxHeartbeats 3000000 in
set_option maxRecDepth 100000 in
theorem rnewC (w : World) : Calls Try.prog 62 #[] w fun e w' => e = .returned (lfA Lf.new none 0) ∧ Old w w' := by
  have HC := Lib.hid (fun W => rrestC ⟨0, 0, 0, 0, [], 0, false, 0, false, false⟩ none 0 1 W)
  rw [show Lf.rest ⟨0, 0, 0, 0, [], 0, false, 0, false, false⟩ 1 = ⟨1, 0, 0, 0, [], 0, false, 0, false, false⟩ from rfl] at HC
  unfold lfA at HC
  simp only [List.length_nil] at HC
  go_enter Try.func62, Try.ntmps62
  go_wp2_with fail
  refine (HC.out _).mono ?_; rintro e w2 ⟨rfl, hd⟩
  have b1 := hd.block (heap_alloc_new w (.cells #[.int .i64 0, .int .i64 0, .int .i64 0, .int .u64 0, .slice none 0 0, .int .u64 0, .bool false, .int .i64 0, .bool false, .bool false] 48))
  have hO := ((Old.refl w).alloc (.cells #[.int .i64 0, .int .i64 0, .int .i64 0, .int .u64 0, .slice none 0 0, .int .u64 0, .bool false, .int .i64 0, .bool false, .bool false] 48)).up hd
  obtain ⟨⟨d0, d1, d2, d3, d4, d5, d6, d7, d8, d9⟩, g0, g1, g2, g3, g4, g5, g6, g7, g8, g9⟩ := row10 b1
  clear hd HC b1
  go_wp2_with fail
  refine bodyPost_ret (by first | (simp [results, Try.results62, go_sem, d0, d1, d2, d3, d4, d5, d6, d7, d8, d9]; done) | (simp [results, Try.results62, go_sem, d0, d1, d2, d3, d4, d5, d6, d7, d8, d9]; rfl)) rfl ⟨rfl, ?_⟩
  repeat with_reducible first | exact Old.refl _ | assumption | refine Old.setCell ?_ (by first | omega | (simp <;> omega)) _ | refine Old.drewN ?_ _ | refine Old.alloc ?_ _ | refine Old.drew ?_
set_option maxHeartbeats 3000000 in
set_option maxRecDepth 100000 in
theorem rdoneC (x : Lf.T) (A : Option Addr) (c : Nat) (w : World) : Calls Try.prog 67 #[lfA x A c] w fun e w' => e = .returned (.bool (decide (x.ph = 7 ∨ x.ph = 8 ∨ x.ph = 9))) ∧ Old w w' := by
  obtain ⟨ph, inc, runs, since, times, due, armed, rung, halt, again⟩ := x
  unfold lfA
  simp only
  by_cases h7 : ph = 7
  · subst h7
    go_enter Try.func67, Try.ntmps67
    go_wp2_with fail
    go_ret
    refine ⟨rfl, ?_⟩
    repeat with_reducible first | exact Old.refl _ | assumption | refine Old.setCell ?_ (by first | omega | (simp <;> omega)) _ | refine Old.drewN ?_ _ | refine Old.alloc ?_ _ | refine Old.drew ?_
  have n7 : (ph == 7) = false := by simpa using h7
  by_cases h8 : ph = 8
  · subst h8
    go_enter Try.func67, Try.ntmps67
    go_wp2_with fail
    go_ret
    refine ⟨rfl, ?_⟩
    repeat with_reducible first | exact Old.refl _ | assumption | refine Old.setCell ?_ (by first | omega | (simp <;> omega)) _ | refine Old.drewN ?_ _ | refine Old.alloc ?_ _ | refine Old.drew ?_
  have n8 : (ph == 8) = false := by simpa using h8
  by_cases h9 : ph = 9
  · subst h9
    go_enter Try.func67, Try.ntmps67
    go_wp2_with fail
    go_ret
    refine ⟨rfl, ?_⟩
    repeat with_reducible first | exact Old.refl _ | assumption | refine Old.setCell ?_ (by first | omega | (simp <;> omega)) _ | refine Old.drewN ?_ _ | refine Old.alloc ?_ _ | refine Old.drew ?_
  have n9 : (ph == 9) = false := by simpa using h9
  have HX : Hid (decide (ph = 7 ∨ ph = 8 ∨ ph = 9) = false) := Lib.hid (by rw [decide_eq_false]; omega)
  clear h7 h8 h9
  go_enter Try.func67, Try.ntmps67
  go_wp2_with fail
  go_ret
  refine ⟨by rw [HX.out]; rfl, ?_⟩
  repeat with_reducible first | exact Old.refl _ | assumption | refine Old.setCell ?_ (by first | omega | (simp <;> omega)) _ | refine Old.drewN ?_ _ | refine Old.alloc ?_ _ | refine Old.drew ?_
set_option maxHeartbeats 3000000 in
set_option maxRecDepth 100000 in
theorem rspawnC (x : Lf.T) (A' : Option Addr) (c' : Nat) (w : World) (hr : Ts w 30 A' (u64s x.times)) :
    Calls Try.prog 75 #[lfA x A' c'] w (LfPb w (Lf.spawn x).1 (Lf.spawn x).2) := by
  have HPO : Hid (∀ (q : Lf.T × Bool) A' c' w', Lf.spawn x = q → Ts w' 30 A' (u64s q.1.times) → Old w w' → LfPb w (Lf.spawn x).1 (Lf.spawn x).2 (.returned (.tuple #[lfA q.1 A' c', .bool q.2])) w') := Lib.hid (fun q A' c' w' h1 h2 h3 => by subst h1; exact ⟨A', c', rfl, h2, h3⟩)
  obtain ⟨ph, inc, runs, since, times, due, armed, rung, halt, again⟩ := x
  have HLS : Hid (LS2 w ((w.alloc (.cells #[.int .i64 ph, .int .i64 inc, .int .i64 runs, .int .u64 since, .slice A' times.length c', .int .u64 due, .bool armed, .int .i64 rung, .bool halt, .bool again] 48)).alloc (.cells #[.int .i64 0, .int .i64 0, .int .i64 0, .int .u64 0, .slice none 0 0, .int .u64 0, .bool false, .int .i64 0, .bool false, .bool false] 48)) ⟨ph, inc, runs, since, times, due, armed, rung, halt, again⟩ A' c') := Lib.hid (by obtain ⟨b1, b2, hO⟩ := two_ (Old.refl ((w.alloc (.cells #[.int .i64 ph, .int .i64 inc, .int .i64 runs, .int .u64 since, .slice A' times.length c', .int .u64 due, .bool armed, .int .i64 rung, .bool halt, .bool again] 48)).alloc (.cells #[.int .i64 0, .int .i64 0, .int .i64 0, .int .u64 0, .slice none 0 0, .int .u64 0, .bool false, .int .i64 0, .bool false, .bool false] 48))); exact ⟨b1, b2, hO, hr.up hO⟩)
  clear hr
  unfold lfA
  try simp only
  go_enter Try.func75, Try.ntmps75
  go_upto_region 1 with fail
  generalize (w.alloc (.cells #[.int .i64 ph, .int .i64 inc, .int .i64 runs, .int .u64 since, .slice A' times.length c', .int .u64 due, .bool armed, .int .i64 rung, .bool halt, .bool again] 48)).alloc (.cells #[.int .i64 0, .int .i64 0, .int .i64 0, .int .u64 0, .slice none 0 0, .int .u64 0, .bool false, .int .i64 0, .bool false, .bool false] 48) = wc at *
  have b2 : wc.heap[w.heap.size]? = some (.cells #[.int .i64 ph, .int .i64 inc, .int .i64 runs, .int .u64 since, .slice A' times.length c', .int .u64 due, .bool armed, .int .i64 rung, .bool halt, .bool again] 48 (0, 0)) := HLS.out.bl
  have b3 : wc.heap[w.heap.size + 1]? = some (.cells #[.int .i64 0, .int .i64 0, .int .i64 0, .int .u64 0, .slice none 0 0, .int .u64 0, .bool false, .int .i64 0, .bool false, .bool false] 48 (0, 0)) := HLS.out.br
  have hts : Ts wc 30 A' (u64s times) := HLS.out.ts
  have hO : Old w wc := HLS.out.old
  obtain ⟨⟨c0, c1, c2, c3, c4, c5, c6, c7, c8, c9⟩, f0, f1, f2, f3, f4, f5, f6, f7, f8, f9⟩ := row10 b2
  have B2 := Lib.hid b2
  have B3 := Lib.hid b3
  have HTS := Lib.hid hts
  clear b2 b3 hts HLS
  by_cases h1 : ph = 1
  · subst h1
    have HT := Lib.hid (HTS.out.tn2 B2.out (by decide) B3.out (by decide))
    obtain ⟨⟨d0, d1, d2, d3, d4, d5, d6, d7, d8, d9⟩, g0, g1, g2, g3, g4, g5, g6, g7, g8, g9⟩ := row10 B3.out
    clear HTS B2 B3
    go_wp2_with fail
    refine bodyPost_ret (by first | (simp [results, Try.results75, go_sem, lfA, d0, d1, d2, d3, d4, d5, d6, d7, d8, d9]; done) | (simp [results, Try.results75, go_sem, lfA, d0, d1, d2, d3, d4, d5, d6, d7, d8, d9]; first | rfl | exact ⟨rfl, rfl⟩)) rfl (HPO.out (⟨2, wrap64 (inc + 1), runs, since, times, due, armed, rung, halt, again⟩, true) A' c' _ rfl ?_ ?_)
    · refine Tn.ts (K := [w.heap.size, w.heap.size + 1]) ?_
      repeat with_reducible refine Tn.set ?_ (by simp) _
      exact HT.out
    · repeat with_reducible first | exact Old.refl _ | assumption | refine Old.setCell ?_ (by first | omega | (simp <;> omega)) _ | refine Old.drewN ?_ _ | refine Old.alloc ?_ _ | refine Old.drew ?_
  have n1 : (ph == 1) = false := by simpa using h1
  have HT := Lib.hid (HTS.out.tn2 B2.out (by decide) B3.out (by decide))
  obtain ⟨⟨d0, d1, d2, d3, d4, d5, d6, d7, d8, d9⟩, g0, g1, g2, g3, g4, g5, g6, g7, g8, g9⟩ := row10 B3.out
  clear HTS B2 B3
  go_wp2_with fail
  refine bodyPost_ret (by first | (simp [results, Try.results75, go_sem, lfA, d0, d1, d2, d3, d4, d5, d6, d7, d8, d9]; done) | (simp [results, Try.results75, go_sem, lfA, d0, d1, d2, d3, d4, d5, d6, d7, d8, d9]; first | rfl | exact ⟨rfl, rfl⟩)) rfl (HPO.out (⟨ph, inc, runs, since, times, due, armed, rung, halt, again⟩, false) A' c' _ (by unfold Lf.spawn; rw [if_neg h1]) ?_ ?_)
  · refine Tn.ts (K := [w.heap.size, w.heap.size + 1]) ?_
    repeat with_reducible refine Tn.set ?_ (by simp) _
    exact HT.out
  · repeat with_reducible first | exact Old.refl _ | assumption | refine Old.setCell ?_ (by first | omega | (simp <;> omega)) _ | refine Old.drewN ?_ _ | refine Old.alloc ?_ _ | refine Old.drew ?_
set_option maxHeartbeats 3000000 in
set_option maxRecDepth 100000 in
theorem rmatchedC (x : Lf.T) (A' : Option Addr) (c' : Nat) (w : World) (hr : Ts w 30 A' (u64s x.times)) :
    Calls Try.prog 77 #[lfA x A' c'] w (LfP w (Lf.matched x)) := by
  have HPO : Hid (∀ (q : Lf.T) A' c' w', Lf.matched x = q → Ts w' 30 A' (u64s q.times) → Old w w' → LfP w (Lf.matched x) (.returned (lfA q A' c')) w') := Lib.hid (fun q A' c' w' h1 h2 h3 => by subst h1; exact ⟨A', c', rfl, h2, h3⟩)
  obtain ⟨ph, inc, runs, since, times, due, armed, rung, halt, again⟩ := x
  have HLS : Hid (LS2 w ((w.alloc (.cells #[.int .i64 ph, .int .i64 inc, .int .i64 runs, .int .u64 since, .slice A' times.length c', .int .u64 due, .bool armed, .int .i64 rung, .bool halt, .bool again] 48)).alloc (.cells #[.int .i64 0, .int .i64 0, .int .i64 0, .int .u64 0, .slice none 0 0, .int .u64 0, .bool false, .int .i64 0, .bool false, .bool false] 48)) ⟨ph, inc, runs, since, times, due, armed, rung, halt, again⟩ A' c') := Lib.hid (by obtain ⟨b1, b2, hO⟩ := two_ (Old.refl ((w.alloc (.cells #[.int .i64 ph, .int .i64 inc, .int .i64 runs, .int .u64 since, .slice A' times.length c', .int .u64 due, .bool armed, .int .i64 rung, .bool halt, .bool again] 48)).alloc (.cells #[.int .i64 0, .int .i64 0, .int .i64 0, .int .u64 0, .slice none 0 0, .int .u64 0, .bool false, .int .i64 0, .bool false, .bool false] 48))); exact ⟨b1, b2, hO, hr.up hO⟩)
  clear hr
  unfold lfA
  try simp only
  go_enter Try.func77, Try.ntmps77
  go_upto_region 1 with fail
  generalize (w.alloc (.cells #[.int .i64 ph, .int .i64 inc, .int .i64 runs, .int .u64 since, .slice A' times.length c', .int .u64 due, .bool armed, .int .i64 rung, .bool halt, .bool again] 48)).alloc (.cells #[.int .i64 0, .int .i64 0, .int .i64 0, .int .u64 0, .slice none 0 0, .int .u64 0, .bool false, .int .i64 0, .bool false, .bool false] 48) = wc at *
  have b2 : wc.heap[w.heap.size]? = some (.cells #[.int .i64 ph, .int .i64 inc, .int .i64 runs, .int .u64 since, .slice A' times.length c', .int .u64 due, .bool armed, .int .i64 rung, .bool halt, .bool again] 48 (0, 0)) := HLS.out.bl
  have b3 : wc.heap[w.heap.size + 1]? = some (.cells #[.int .i64 0, .int .i64 0, .int .i64 0, .int .u64 0, .slice none 0 0, .int .u64 0, .bool false, .int .i64 0, .bool false, .bool false] 48 (0, 0)) := HLS.out.br
  have hts : Ts wc 30 A' (u64s times) := HLS.out.ts
  have hO : Old w wc := HLS.out.old
  obtain ⟨⟨c0, c1, c2, c3, c4, c5, c6, c7, c8, c9⟩, f0, f1, f2, f3, f4, f5, f6, f7, f8, f9⟩ := row10 b2
  have B2 := Lib.hid b2
  have B3 := Lib.hid b3
  have HTS := Lib.hid hts
  clear b2 b3 hts HLS
  by_cases h3 : ph = 3
  · subst h3
    have HT := Lib.hid (HTS.out.tn2 B2.out (by decide) B3.out (by decide))
    obtain ⟨⟨d0, d1, d2, d3, d4, d5, d6, d7, d8, d9⟩, g0, g1, g2, g3, g4, g5, g6, g7, g8, g9⟩ := row10 B3.out
    clear HTS B2 B3
    go_wp2_with fail
    refine bodyPost_ret (by first | (simp [results, Try.results77, go_sem, lfA, d0, d1, d2, d3, d4, d5, d6, d7, d8, d9]; done) | (simp [results, Try.results77, go_sem, lfA, d0, d1, d2, d3, d4, d5, d6, d7, d8, d9]; first | rfl | exact ⟨rfl, rfl⟩)) rfl (HPO.out ⟨4, inc, runs, since, times, due, armed, rung, halt, again⟩ A' c' _ rfl ?_ ?_)
    · refine Tn.ts (K := [w.heap.size, w.heap.size + 1]) ?_
      repeat with_reducible refine Tn.set ?_ (by simp) _
      exact HT.out
    · repeat with_reducible first | exact Old.refl _ | assumption | refine Old.setCell ?_ (by first | omega | (simp <;> omega)) _ | refine Old.drewN ?_ _ | refine Old.alloc ?_ _ | refine Old.drew ?_
  have n3 : (ph == 3) = false := by simpa using h3
  have HT := Lib.hid (HTS.out.tn2 B2.out (by decide) B3.out (by decide))
  obtain ⟨⟨d0, d1, d2, d3, d4, d5, d6, d7, d8, d9⟩, g0, g1, g2, g3, g4, g5, g6, g7, g8, g9⟩ := row10 B3.out
  clear HTS B2 B3
  go_wp2_with fail
  refine bodyPost_ret (by first | (simp [results, Try.results77, go_sem, lfA, d0, d1, d2, d3, d4, d5, d6, d7, d8, d9]; done) | (simp [results, Try.results77, go_sem, lfA, d0, d1, d2, d3, d4, d5, d6, d7, d8, d9]; first | rfl | exact ⟨rfl, rfl⟩)) rfl (HPO.out ⟨ph, inc, runs, since, times, due, armed, rung, halt, again⟩ A' c' _ (by unfold Lf.matched; rw [if_neg h3]) ?_ ?_)
  · refine Tn.ts (K := [w.heap.size, w.heap.size + 1]) ?_
    repeat with_reducible refine Tn.set ?_ (by simp) _
    exact HT.out
  · repeat with_reducible first | exact Old.refl _ | assumption | refine Old.setCell ?_ (by first | omega | (simp <;> omega)) _ | refine Old.drewN ?_ _ | refine Old.alloc ?_ _ | refine Old.drew ?_
set_option maxHeartbeats 3000000 in
set_option maxRecDepth 100000 in
theorem rstartC (x : Lf.T) (A' : Option Addr) (c' : Nat) (w : World) (hr : Ts w 30 A' (u64s x.times)) :
    Calls Try.prog 38 #[lfA x A' c'] w (LfP w (Lf.start x)) := by
  have HPO : Hid (∀ (q : Lf.T) A' c' w', Lf.start x = q → Ts w' 30 A' (u64s q.times) → Old w w' → LfP w (Lf.start x) (.returned (lfA q A' c')) w') := Lib.hid (fun q A' c' w' h1 h2 h3 => by subst h1; exact ⟨A', c', rfl, h2, h3⟩)
  obtain ⟨ph, inc, runs, since, times, due, armed, rung, halt, again⟩ := x
  have HLS : Hid (LS2 w ((w.alloc (.cells #[.int .i64 ph, .int .i64 inc, .int .i64 runs, .int .u64 since, .slice A' times.length c', .int .u64 due, .bool armed, .int .i64 rung, .bool halt, .bool again] 48)).alloc (.cells #[.int .i64 0, .int .i64 0, .int .i64 0, .int .u64 0, .slice none 0 0, .int .u64 0, .bool false, .int .i64 0, .bool false, .bool false] 48)) ⟨ph, inc, runs, since, times, due, armed, rung, halt, again⟩ A' c') := Lib.hid (by obtain ⟨b1, b2, hO⟩ := two_ (Old.refl ((w.alloc (.cells #[.int .i64 ph, .int .i64 inc, .int .i64 runs, .int .u64 since, .slice A' times.length c', .int .u64 due, .bool armed, .int .i64 rung, .bool halt, .bool again] 48)).alloc (.cells #[.int .i64 0, .int .i64 0, .int .i64 0, .int .u64 0, .slice none 0 0, .int .u64 0, .bool false, .int .i64 0, .bool false, .bool false] 48))); exact ⟨b1, b2, hO, hr.up hO⟩)
  clear hr
  unfold lfA
  try simp only
  go_enter Try.func38, Try.ntmps38
  go_upto_region 1 with fail
  generalize (w.alloc (.cells #[.int .i64 ph, .int .i64 inc, .int .i64 runs, .int .u64 since, .slice A' times.length c', .int .u64 due, .bool armed, .int .i64 rung, .bool halt, .bool again] 48)).alloc (.cells #[.int .i64 0, .int .i64 0, .int .i64 0, .int .u64 0, .slice none 0 0, .int .u64 0, .bool false, .int .i64 0, .bool false, .bool false] 48) = wc at *
  have b2 : wc.heap[w.heap.size]? = some (.cells #[.int .i64 ph, .int .i64 inc, .int .i64 runs, .int .u64 since, .slice A' times.length c', .int .u64 due, .bool armed, .int .i64 rung, .bool halt, .bool again] 48 (0, 0)) := HLS.out.bl
  have b3 : wc.heap[w.heap.size + 1]? = some (.cells #[.int .i64 0, .int .i64 0, .int .i64 0, .int .u64 0, .slice none 0 0, .int .u64 0, .bool false, .int .i64 0, .bool false, .bool false] 48 (0, 0)) := HLS.out.br
  have hts : Ts wc 30 A' (u64s times) := HLS.out.ts
  have hO : Old w wc := HLS.out.old
  obtain ⟨⟨c0, c1, c2, c3, c4, c5, c6, c7, c8, c9⟩, f0, f1, f2, f3, f4, f5, f6, f7, f8, f9⟩ := row10 b2
  have B2 := Lib.hid b2
  have B3 := Lib.hid b3
  have HTS := Lib.hid hts
  clear b2 b3 hts HLS
  by_cases h7 : ph = 7
  · subst h7
    have HDN := Lib.hid (fun W => rdoneC ⟨7, inc, runs, since, times, due, armed, rung, halt, again⟩ A' c' W)
    rw [show decide ((⟨7, inc, runs, since, times, due, armed, rung, halt, again⟩ : Lf.T).ph = 7 ∨ (⟨7, inc, runs, since, times, due, armed, rung, halt, again⟩ : Lf.T).ph = 8 ∨ (⟨7, inc, runs, since, times, due, armed, rung, halt, again⟩ : Lf.T).ph = 9) = true from rfl] at HDN
    have HC := Lib.hid (fun W => rrestC ⟨7, inc, 0, since, [], due, armed, rung, halt, again⟩ none 0 1 W)
    rw [show Lf.rest ⟨7, inc, 0, since, [], due, armed, rung, halt, again⟩ 1 = ⟨1, inc, 0, since, [], 0, false, 0, false, false⟩ from rfl] at HC
    unfold lfA at HC HDN
    simp only [List.length_nil] at HC HDN
    go_wp2_with fail
    refine (HDN.out _).mono ?_; rintro e wd ⟨rfl, hdd⟩
    have b2d := hdd.block B2.out
    have b3d := hdd.block B3.out
    have hOd := hO.up hdd
    clear hdd HDN B2 B3 hO c0 c1 c2 c3 c4 c5 c6 c7 c8 c9 f0 f1 f2 f3 f4 f5 f6 f7 f8 f9 HTS
    obtain ⟨⟨c0, c1, c2, c3, c4, c5, c6, c7, c8, c9⟩, f0, f1, f2, f3, f4, f5, f6, f7, f8, f9⟩ := row10 b2d
    go_wp2_with fail
    refine (HC.out _).mono ?_; rintro e w3 ⟨rfl, hd3⟩
    have b33 := hd3.block ((heap_setCell_other _ ⟨w.heap.size, 4, none⟩ (w.heap.size + 1) _ (by simp)).trans ((heap_setCell_other _ ⟨w.heap.size, 2, none⟩ (w.heap.size + 1) _ (by simp)).trans b3d))
    have hO3 := ((hOd.setCell (p := ⟨w.heap.size, 2, none⟩) (by simp only; omega) _).setCell (p := ⟨w.heap.size, 4, none⟩) (by simp only; omega) _).up hd3
    obtain ⟨⟨d0, d1, d2, d3, d4, d5, d6, d7, d8, d9⟩, g0, g1, g2, g3, g4, g5, g6, g7, g8, g9⟩ := row10 b33
    clear hd3 hOd b2d b3d b33 HC
    go_wp2_with fail
    refine bodyPost_ret (by first | (simp [results, Try.results38, go_sem, lfA, d0, d1, d2, d3, d4, d5, d6, d7, d8, d9]; done) | (simp [results, Try.results38, go_sem, lfA, d0, d1, d2, d3, d4, d5, d6, d7, d8, d9]; first | rfl | exact ⟨rfl, rfl⟩)) rfl (HPO.out ⟨1, inc, 0, since, [], 0, false, 0, false, false⟩ none 0 _ rfl ?_ ?_)
    · refine Tn.ts (K := [w.heap.size, w.heap.size + 1]) ?_
      repeat with_reducible refine Tn.set ?_ (by simp) _
      exact (Or.inl rfl)
    · repeat with_reducible first | exact Old.refl _ | assumption | refine Old.setCell ?_ (by first | omega | (simp <;> omega)) _ | refine Old.drewN ?_ _ | refine Old.alloc ?_ _ | refine Old.drew ?_
  have n7 : (ph == 7) = false := by simpa using h7
  by_cases h8 : ph = 8
  · subst h8
    have HDN := Lib.hid (fun W => rdoneC ⟨8, inc, runs, since, times, due, armed, rung, halt, again⟩ A' c' W)
    rw [show decide ((⟨8, inc, runs, since, times, due, armed, rung, halt, again⟩ : Lf.T).ph = 7 ∨ (⟨8, inc, runs, since, times, due, armed, rung, halt, again⟩ : Lf.T).ph = 8 ∨ (⟨8, inc, runs, since, times, due, armed, rung, halt, again⟩ : Lf.T).ph = 9) = true from rfl] at HDN
    have HC := Lib.hid (fun W => rrestC ⟨8, inc, 0, since, [], due, armed, rung, halt, again⟩ none 0 1 W)
    rw [show Lf.rest ⟨8, inc, 0, since, [], due, armed, rung, halt, again⟩ 1 = ⟨1, inc, 0, since, [], 0, false, 0, false, false⟩ from rfl] at HC
    unfold lfA at HC HDN
    simp only [List.length_nil] at HC HDN
    go_wp2_with fail
    refine (HDN.out _).mono ?_; rintro e wd ⟨rfl, hdd⟩
    have b2d := hdd.block B2.out
    have b3d := hdd.block B3.out
    have hOd := hO.up hdd
    clear hdd HDN B2 B3 hO c0 c1 c2 c3 c4 c5 c6 c7 c8 c9 f0 f1 f2 f3 f4 f5 f6 f7 f8 f9 HTS
    obtain ⟨⟨c0, c1, c2, c3, c4, c5, c6, c7, c8, c9⟩, f0, f1, f2, f3, f4, f5, f6, f7, f8, f9⟩ := row10 b2d
    go_wp2_with fail
    refine (HC.out _).mono ?_; rintro e w3 ⟨rfl, hd3⟩
    have b33 := hd3.block ((heap_setCell_other _ ⟨w.heap.size, 4, none⟩ (w.heap.size + 1) _ (by simp)).trans ((heap_setCell_other _ ⟨w.heap.size, 2, none⟩ (w.heap.size + 1) _ (by simp)).trans b3d))
    have hO3 := ((hOd.setCell (p := ⟨w.heap.size, 2, none⟩) (by simp only; omega) _).setCell (p := ⟨w.heap.size, 4, none⟩) (by simp only; omega) _).up hd3
    obtain ⟨⟨d0, d1, d2, d3, d4, d5, d6, d7, d8, d9⟩, g0, g1, g2, g3, g4, g5, g6, g7, g8, g9⟩ := row10 b33
    clear hd3 hOd b2d b3d b33 HC
    go_wp2_with fail
    refine bodyPost_ret (by first | (simp [results, Try.results38, go_sem, lfA, d0, d1, d2, d3, d4, d5, d6, d7, d8, d9]; done) | (simp [results, Try.results38, go_sem, lfA, d0, d1, d2, d3, d4, d5, d6, d7, d8, d9]; first | rfl | exact ⟨rfl, rfl⟩)) rfl (HPO.out ⟨1, inc, 0, since, [], 0, false, 0, false, false⟩ none 0 _ rfl ?_ ?_)
    · refine Tn.ts (K := [w.heap.size, w.heap.size + 1]) ?_
      repeat with_reducible refine Tn.set ?_ (by simp) _
      exact (Or.inl rfl)
    · repeat with_reducible first | exact Old.refl _ | assumption | refine Old.setCell ?_ (by first | omega | (simp <;> omega)) _ | refine Old.drewN ?_ _ | refine Old.alloc ?_ _ | refine Old.drew ?_
  have n8 : (ph == 8) = false := by simpa using h8
  by_cases h9 : ph = 9
  · subst h9
    have HDN := Lib.hid (fun W => rdoneC ⟨9, inc, runs, since, times, due, armed, rung, halt, again⟩ A' c' W)
    rw [show decide ((⟨9, inc, runs, since, times, due, armed, rung, halt, again⟩ : Lf.T).ph = 7 ∨ (⟨9, inc, runs, since, times, due, armed, rung, halt, again⟩ : Lf.T).ph = 8 ∨ (⟨9, inc, runs, since, times, due, armed, rung, halt, again⟩ : Lf.T).ph = 9) = true from rfl] at HDN
    have HC := Lib.hid (fun W => rrestC ⟨9, inc, 0, since, [], due, armed, rung, halt, again⟩ none 0 1 W)
    rw [show Lf.rest ⟨9, inc, 0, since, [], due, armed, rung, halt, again⟩ 1 = ⟨1, inc, 0, since, [], 0, false, 0, false, false⟩ from rfl] at HC
    unfold lfA at HC HDN
    simp only [List.length_nil] at HC HDN
    go_wp2_with fail
    refine (HDN.out _).mono ?_; rintro e wd ⟨rfl, hdd⟩
    have b2d := hdd.block B2.out
    have b3d := hdd.block B3.out
    have hOd := hO.up hdd
    clear hdd HDN B2 B3 hO c0 c1 c2 c3 c4 c5 c6 c7 c8 c9 f0 f1 f2 f3 f4 f5 f6 f7 f8 f9 HTS
    obtain ⟨⟨c0, c1, c2, c3, c4, c5, c6, c7, c8, c9⟩, f0, f1, f2, f3, f4, f5, f6, f7, f8, f9⟩ := row10 b2d
    go_wp2_with fail
    refine (HC.out _).mono ?_; rintro e w3 ⟨rfl, hd3⟩
    have b33 := hd3.block ((heap_setCell_other _ ⟨w.heap.size, 4, none⟩ (w.heap.size + 1) _ (by simp)).trans ((heap_setCell_other _ ⟨w.heap.size, 2, none⟩ (w.heap.size + 1) _ (by simp)).trans b3d))
    have hO3 := ((hOd.setCell (p := ⟨w.heap.size, 2, none⟩) (by simp only; omega) _).setCell (p := ⟨w.heap.size, 4, none⟩) (by simp only; omega) _).up hd3
    obtain ⟨⟨d0, d1, d2, d3, d4, d5, d6, d7, d8, d9⟩, g0, g1, g2, g3, g4, g5, g6, g7, g8, g9⟩ := row10 b33
    clear hd3 hOd b2d b3d b33 HC
    go_wp2_with fail
    refine bodyPost_ret (by first | (simp [results, Try.results38, go_sem, lfA, d0, d1, d2, d3, d4, d5, d6, d7, d8, d9]; done) | (simp [results, Try.results38, go_sem, lfA, d0, d1, d2, d3, d4, d5, d6, d7, d8, d9]; first | rfl | exact ⟨rfl, rfl⟩)) rfl (HPO.out ⟨1, inc, 0, since, [], 0, false, 0, false, false⟩ none 0 _ rfl ?_ ?_)
    · refine Tn.ts (K := [w.heap.size, w.heap.size + 1]) ?_
      repeat with_reducible refine Tn.set ?_ (by simp) _
      exact (Or.inl rfl)
    · repeat with_reducible first | exact Old.refl _ | assumption | refine Old.setCell ?_ (by first | omega | (simp <;> omega)) _ | refine Old.drewN ?_ _ | refine Old.alloc ?_ _ | refine Old.drew ?_
  have n9 : (ph == 9) = false := by simpa using h9
  have HDN := Lib.hid (fun W => rdoneC ⟨ph, inc, runs, since, times, due, armed, rung, halt, again⟩ A' c' W)
  rw [show decide ((⟨ph, inc, runs, since, times, due, armed, rung, halt, again⟩ : Lf.T).ph = 7 ∨ (⟨ph, inc, runs, since, times, due, armed, rung, halt, again⟩ : Lf.T).ph = 8 ∨ (⟨ph, inc, runs, since, times, due, armed, rung, halt, again⟩ : Lf.T).ph = 9) = false from (by rw [decide_eq_false]; simp only; omega)] at HDN
  unfold lfA at HDN
  simp only at HDN
  go_wp2_with fail
  refine (HDN.out _).mono ?_; rintro e wd ⟨rfl, hdd⟩
  have B2d := Lib.hid (hdd.block B2.out)
  have B3d := Lib.hid (hdd.block B3.out)
  have hOd := hO.up hdd
  have HTSd := Lib.hid (HTS.out.up hdd)
  have HME : Hid (Lf.start ⟨ph, inc, runs, since, times, due, armed, rung, halt, again⟩ = ⟨ph, inc, runs, since, times, due, armed, rung, halt, again⟩) := Lib.hid (by unfold Lf.start; rw [if_neg (by simp only; omega)])
  clear hdd HDN B2 B3 hO c0 c1 c2 c3 c4 c5 c6 c7 c8 c9 f0 f1 f2 f3 f4 f5 f6 f7 f8 f9 HTS
  obtain ⟨⟨c0, c1, c2, c3, c4, c5, c6, c7, c8, c9⟩, f0, f1, f2, f3, f4, f5, f6, f7, f8, f9⟩ := row10 B2d.out
  have HT := Lib.hid (HTSd.out.tn2 B2d.out (by decide) B3d.out (by decide))
  obtain ⟨⟨d0, d1, d2, d3, d4, d5, d6, d7, d8, d9⟩, g0, g1, g2, g3, g4, g5, g6, g7, g8, g9⟩ := row10 B3d.out
  clear HTSd B2d B3d
  go_wp2_with fail
  refine bodyPost_ret (by first | (simp [results, Try.results38, go_sem, lfA, d0, d1, d2, d3, d4, d5, d6, d7, d8, d9]; done) | (simp [results, Try.results38, go_sem, lfA, d0, d1, d2, d3, d4, d5, d6, d7, d8, d9]; first | rfl | exact ⟨rfl, rfl⟩)) rfl (HPO.out ⟨ph, inc, runs, since, times, due, armed, rung, halt, again⟩ A' c' _ HME.out ?_ ?_)
  · refine Tn.ts (K := [w.heap.size, w.heap.size + 1]) ?_
    repeat with_reducible refine Tn.set ?_ (by simp) _
    exact HT.out
  · repeat with_reducible first | exact Old.refl _ | assumption | refine Old.setCell ?_ (by first | omega | (simp <;> omega)) _ | refine Old.drewN ?_ _ | refine Old.alloc ?_ _ | refine Old.drew ?_
set_option maxHeartbeats 3000000 in
set_option maxRecDepth 100000 in
theorem roverC (j : Jd) (x : Lf.T) (A : Option Addr) (c : Nat) (now jit : Int) (w : World) (hj : JdOk w j) (hn : Tk.U now) (hi : Tk.U jit) (hr : Ts w 30 A (u64s x.times)) (hl : x.times.length ≤ 68719476000) (hx : Lf.Ok x) (hru : x.runs ≤ 9223372036854775807) :
    Calls Try.prog 83 #[jdA j, lfA x A c, .int .u64 now, .int .u64 jit] w (LfPb w (Lf.over j.j x now jit).1 (Lf.over j.j x now jit).2) := by
  have HPO : Hid (∀ (q : Lf.T × Bool) A' c' w', Lf.over j.j x now jit = q → Ts w' 30 A' (u64s q.1.times) → Old w w' → LfPb w (Lf.over j.j x now jit).1 (Lf.over j.j x now jit).2 (.returned (.tuple #[lfA q.1 A' c', .bool q.2])) w') := Lib.hid (fun q A' c' w' h1 h2 h3 => by subst h1; exact ⟨A', c', rfl, h2, h3⟩)
  have HB := Lib.hid (fun W (h : Old w W) => rAllow A c x.times j.burst now j.win W (hr.up h).rs (by omega) hx.2.2 hn hj.win)
  have hD := fun W => rDelay j.base j.cap x.runs jit hj.base hj.cap hi hru W
  have hUD := Tk.U_delay x.runs hj.base hj.cap hi
  have hA := fun W => rAdd now (Tk.delay j.base j.cap x.runs jit) hn hUD W
  clear hj hr hx hUD
  have HOV : Hid (Lf.over j.j x now jit = if (Bu.allow x.times j.burst now j.win).2 = true then (⟨5, x.inc, wrap64 (x.runs + 1), x.since, (Bu.allow x.times j.burst now j.win).1, Tk.add now (Tk.delay j.base j.cap x.runs jit), x.armed, x.rung, x.halt, x.again⟩, true) else (⟨8, x.inc, x.runs, x.since, (Bu.allow x.times j.burst now j.win).1, 0, false, 0, false, false⟩, false)) := Lib.hid rfl
  obtain ⟨nm, run, eA, env, ec, nA, needs, nc, hasR, rdyp, restart, base, cap, stable, burst, win, lA, lad, lc, line, col⟩ := j
  obtain ⟨ph, inc, runs, since, times, due, armed, rung, halt, again⟩ := x
  unfold Jd.j at HPO HOV ⊢
  simp only at HB hD hA HPO HOV ⊢
  generalize Lf.over _ _ now jit = ov at *
  generalize Bu.allow times burst now win = r at *
  obtain ⟨r1, ok⟩ := r
  generalize Tk.delay base cap runs jit = dl at *
  generalize Tk.add now dl = due2 at *
  have HD := Lib.hid hD
  have HA := Lib.hid hA
  clear hD hA
  cases ok with
  | true =>
    have HME : Hid (ov = (⟨5, inc, wrap64 (runs + 1), since, r1, due2, armed, rung, halt, again⟩, true)) := Lib.hid (HOV.out.trans (if_pos rfl))
    clear HOV
    unfold lfA jdA
    try simp only
    go_enter Try.func83, Try.ntmps83
    go_wp2_with fail
    refine (HB.out _ ((((Old.refl w).alloc _).alloc _).alloc _)).mono ?_; rintro e w2 ⟨v, rfl, hown, hd⟩
    obtain ⟨b1, b2, b3, hO⟩ := three_ hd
    obtain ⟨⟨e0, e1, e2, e3, e4, e5, e6, e7, e8, e9, e10, e11, e12, e13, e14⟩, _⟩ := row15 b1
    obtain ⟨⟨c0, c1, c2, c3, c4, c5, c6, c7, c8, c9⟩, f0, f1, f2, f3, f4, f5, f6, f7, f8, f9⟩ := row10 b2
    obtain ⟨⟨d0, d1, d2, d3, d4, d5, d6, d7, d8, d9⟩, g0, g1, g2, g3, g4, g5, g6, g7, g8, g9⟩ := row10 b3
    obtain ⟨A2, c2', rfl, ht, _, _⟩ := hown.shape
    have HT := Lib.hid (ht.tn2 b2 (by decide) b3 (by decide))
    clear hown ht b1 b2 b3 hd HB
    go_wp2_with fail
    refine (HD.out _).mono ?_; rintro e w3 ⟨rfl, rfl⟩
    go_wp2_with fail
    refine (HA.out _).mono ?_; rintro e w3 ⟨rfl, rfl⟩
    go_wp2_with fail
    refine bodyPost_ret (by first | (simp [results, Try.results83, go_sem, lfA, d0, d1, d2, d3, d4, d5, d6, d7, d8, d9]; done) | (simp [results, Try.results83, go_sem, lfA, d0, d1, d2, d3, d4, d5, d6, d7, d8, d9]; first | rfl | exact ⟨rfl, rfl⟩)) rfl (HPO.out (⟨5, inc, wrap64 (runs + 1), since, r1, due2, armed, rung, halt, again⟩, true) A2 c2' _ HME.out ?_ ?_)
    · refine Tn.ts (K := [w.heap.size + 1, w.heap.size + 1 + 1]) ?_
      repeat with_reducible refine Tn.set ?_ (by simp) _
      exact HT.out
    · repeat with_reducible first | exact Old.refl _ | assumption | refine Old.setCell ?_ (by first | omega | (simp <;> omega)) _ | refine Old.drewN ?_ _ | refine Old.alloc ?_ _ | refine Old.drew ?_
  | false =>
    have HME : Hid (ov = (⟨8, inc, runs, since, r1, 0, false, 0, false, false⟩, false)) := Lib.hid (HOV.out.trans (if_neg (by simp)))
    have HC := Lib.hid (fun W A c => rrestC ⟨ph, inc, runs, since, r1, due, armed, rung, halt, again⟩ A c 8 W)
    rw [show Lf.rest ⟨ph, inc, runs, since, r1, due, armed, rung, halt, again⟩ 8 = ⟨8, inc, runs, since, r1, 0, false, 0, false, false⟩ from rfl] at HC
    clear HOV
    unfold lfA at HC
    unfold lfA jdA
    try simp only at HC ⊢
    go_enter Try.func83, Try.ntmps83
    go_wp2_with fail
    refine (HB.out _ ((((Old.refl w).alloc _).alloc _).alloc _)).mono ?_; rintro e w2 ⟨v, rfl, hown, hd⟩
    obtain ⟨b1, b2, b3, hO⟩ := three_ hd
    obtain ⟨⟨c0, c1, c2, c3, c4, c5, c6, c7, c8, c9⟩, f0, f1, f2, f3, f4, f5, f6, f7, f8, f9⟩ := row10 b2
    obtain ⟨A2, c2', rfl, ht, _, _⟩ := hown.shape
    have B2 := Lib.hid b2
    have B3 := Lib.hid b3
    have HTS := Lib.hid ht
    clear hown ht b1 b2 b3 hd HB
    go_wp2_with fail
    refine (HC.out _ _ _).mono ?_; rintro e w3 ⟨rfl, hd3⟩
    have b2' := heap_setCell_same w2 (w.heap.size + 1) 4 _ _ (.slice A2 r1.length c2') B2.out
    have B33 := Lib.hid (hd3.block ((heap_setCell_other w2 ⟨w.heap.size + 1, 4, none⟩ (w.heap.size + 1 + 1) (.slice A2 r1.length c2') (by simp)).trans B3.out))
    have HTS3 := Lib.hid (((HTS.out.tn2 B2.out (by decide) B3.out (by decide)).set (k := w.heap.size + 1) (i := 4) (by simp) (.slice A2 r1.length c2')).ts.up hd3)
    have B23 := Lib.hid (hd3.block b2')
    have hO3 := (hO.setCell (p := ⟨w.heap.size + 1, 4, none⟩) (by simp only; omega) (.slice A2 r1.length c2')).up hd3
    clear hd3 hO HC HTS B2 B3 b2'
    have HT := Lib.hid (HTS3.out.tn2 B23.out (by decide) B33.out (by decide))
    obtain ⟨⟨d0, d1, d2, d3, d4, d5, d6, d7, d8, d9⟩, g0, g1, g2, g3, g4, g5, g6, g7, g8, g9⟩ := row10 B33.out
    clear HTS3 B23 B33
    go_wp2_with fail
    refine bodyPost_ret (by first | (simp [results, Try.results83, go_sem, lfA, d0, d1, d2, d3, d4, d5, d6, d7, d8, d9]; done) | (simp [results, Try.results83, go_sem, lfA, d0, d1, d2, d3, d4, d5, d6, d7, d8, d9]; first | rfl | exact ⟨rfl, rfl⟩)) rfl (HPO.out (⟨8, inc, runs, since, r1, 0, false, 0, false, false⟩, false) A2 c2' _ HME.out ?_ ?_)
    · refine Tn.ts (K := [w.heap.size + 1, w.heap.size + 1 + 1]) ?_
      repeat with_reducible refine Tn.set ?_ (by simp) _
      exact HT.out
    · repeat with_reducible first | exact Old.refl _ | assumption | refine Old.setCell ?_ (by first | omega | (simp <;> omega)) _ | refine Old.drewN ?_ _ | refine Old.alloc ?_ _ | refine Old.drew ?_
end Go.Proofs.Ytpknglclcdgfbaa
