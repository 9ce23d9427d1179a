/-
  The walks of package life: rest, climb, own, stopped, halt.
-/
import Derived.Test.YtpknglclcdgfbaaLfB
import Derived.Deep.DeepCutAuto
namespace Go.Proofs.Ytpknglclcdgfbaa
open Go.RowKit Go.Shelf
set_option linter.unusedVariables false









set_option maxHeartbeats 4000000 in
set_option maxRecDepth 100000 in
theorem lrestC (x : Lf.T) (A : Option Addr) (c : Nat) (p : Int) (w : World) :
    Calls Try.prog 56 #[lfA x A c, .int .i64 p] w fun e w' => e = .returned (lfA (Lf.rest x p) A c) ∧ Old w w' := by
  obtain ⟨ph, inc, runs, since, times, due, armed, rung, halt, again⟩ := x
  unfold lfA Lf.rest
  simp only
  go_enter Try.func56, Try.ntmps56
  go_wp2_with fail
  exact bodyPost_ret (v := .agg #[.int .i64 p, .int .i64 inc, .int .i64 runs, .int .u64 since, .slice A times.length c, .int .u64 0, .bool false, .int .i64 0, .bool false, .bool false]) (by simp [results, Try.results56, go_sem]) rfl ⟨rfl, ((Old.refl w).alloc _).alloc _⟩
set_option maxHeartbeats 4000000 in
set_option maxRecDepth 100000 in
theorem lclimbC (j : Jd) (x : Lf.T) (A : Option Addr) (c : Nat) (now : Int) (w : World) (hj : JdOk w j) (hn : Tk.U now) :
    Calls Try.prog 60 #[jdA j, lfA x A c, .int .u64 now] w fun e w' => e = .returned (.tuple #[lfA (Lf.climb j.j x now).1 A c, .int .i64 (Lf.climb j.j x now).2]) ∧ Old w w' := by
  have HN := Lib.hid (fun W (h : Old w W) => lNext_any j.lA j.lc j.lad x.rung now W (hj.lad.up h).rs (by have := hj.few; unfold maxLen; omega) hj.ok hn)
  clear hj
  obtain ⟨ph, inc, runs, since, times, due, armed, rung, halt, again⟩ := x
  obtain ⟨nm, run, eA, env, ec, nA, needs, nc, hasR, ready, restart, base, cap, stable, burst, win, lA, lad, lc, line, col⟩ := j
  unfold lfA jdA Lf.climb Jd.j
  simp only at HN ⊢
  generalize Ld.next lad rung now = q at *
  obtain ⟨q1, q2, q3⟩ := q
  go_enter Try.func60, Try.ntmps60
  go_wp2_with fail
  refine (HN.out _ ((((Old.refl w).alloc _).alloc _).alloc _)).mono ?_; rintro e w2 ⟨rfl, n, rfl⟩
  go_wp2_with fail
  refine bodyPost_ret (by first | (simp [results, Try.results60, go_sem]; done) | (simp [results, Try.results60, go_sem]; rfl)) rfl ⟨rfl, ?_⟩
  repeat with_reducible first | exact Old.refl _ | assumption | refine Old.setCell ?_ (by first | omega | (simp <;> omega)) _ | refine Old.drewN ?_ _ | refine Old.alloc ?_ _ | refine Old.drew ?_
set_option maxHeartbeats 4000000 in
set_option maxRecDepth 100000 in
theorem lownC (x : Lf.T) (A : Option Addr) (c : Nat) (w : World) (hr : Ts w 30 A (u64s x.times)) (hl : x.times.length ≤ 68719476000) :
    Calls Try.prog 50 #[lfA x A c] w (LfP w x) := by
  have HC := Lib.hid (fun W (h : Old w W) => cloneU A c x.times W (hr.up h).rs (by omega))
  clear hr
  have HPO : Hid (∀ (q : Lf.T) A' c' w', x = q → Ts w' 30 A' (u64s q.times) → Old w w' → LfP w x (.returned (lfA q A' c')) w') := Lib.hid (fun q A' c' w' h1 h2 h3 => by subst h1; exact ⟨A', c', rfl, h2, h3⟩)
  obtain ⟨ph, inc, runs, since, times, due, armed, rung, halt, again⟩ := x
  unfold lfA
  simp only at HC ⊢
  go_enter Try.func50, Try.ntmps50
  go_wp2_with fail
  refine (HC.out _ (((Old.refl w).alloc _).alloc _)).mono ?_; rintro e w2 ⟨v, rfl, hown, hd⟩
  obtain ⟨b1, b2, hO⟩ := two_ hd
  obtain ⟨⟨c0, c1, c2, c3, c4, c5, c6, c7, c8, c9⟩, f0, f1, f2, f3, f4, f5, f6, f7, f8, f9⟩ := row10 b1
  obtain ⟨⟨d0, d1, d2, d3, d4, d5, d6, d7, d8, d9⟩, g0, g1, g2, g3, g4, g5, g6, g7, g8, g9⟩ := row10 b2
  obtain ⟨A2, c2', rfl, ht, _, _⟩ := hown.shape
  have HT := Lib.hid (ht.tn2 b1 (by decide) b2 (by decide))
  clear hown ht b1 b2 hd HC
  go_wp2_with fail
  refine bodyPost_ret (by first | (simp [results, Try.results50, go_sem, lfA, d0, d1, d2, d3, d4, d5, d6, d7, d8, d9]; done) | (simp [results, Try.results50, go_sem, lfA, d0, d1, d2, d3, d4, d5, d6, d7, d8, d9]; first | rfl | exact ⟨rfl, rfl⟩)) rfl (HPO.out ⟨ph, inc, runs, since, times, due, armed, rung, halt, again⟩ A2 c2' _ rfl ?_ ?_)
  · refine Tn.ts (K := [w.heap.size, w.heap.size + 1]) ?_
    repeat with_reducible refine Tn.set ?_ (by simp) _
    exact HT.out
  · repeat with_reducible first | exact Old.refl _ | assumption | refine Old.setCell ?_ (by first | omega | (simp <;> omega)) _ | refine Old.drewN ?_ _ | refine Old.alloc ?_ _ | refine Old.drew ?_
set_option maxHeartbeats 4000000 in
set_option maxRecDepth 100000 in
theorem lstoppedC (x : Lf.T) (A : Option Addr) (c : Nat) (w : World) :
    Calls Try.prog 57 #[lfA x A c] w fun e w' => e = .returned (lfA (Lf.ended x) A c) ∧ Old w w' := by
  obtain ⟨ph, inc, runs, since, times, due, armed, rung, halt, again⟩ := x
  cases again with
  | false =>
    have HC := Lib.hid (fun W => lrestC ⟨ph, inc, runs, since, times, due, armed, rung, halt, false⟩ A c 9 W)
    rw [show Lf.ended ⟨ph, inc, runs, since, times, due, armed, rung, halt, false⟩ = Lf.rest ⟨ph, inc, runs, since, times, due, armed, rung, halt, false⟩ 9 from rfl]
    generalize Lf.rest _ 9 = q at *
    obtain ⟨ph', inc', runs', since', times', due', armed', rung', halt', again'⟩ := q
    unfold lfA at HC ⊢
    go_enter Try.func57, Try.ntmps57
    go_wp2_with fail
    refine (HC.out _).mono ?_; rintro e w2 ⟨rfl, hd⟩
    obtain ⟨b1, b2, hO⟩ := two_ hd
    obtain ⟨⟨d0, d1, d2, d3, d4, d5, d6, d7, d8, d9⟩, g0, g1, g2, g3, g4, g5, g6, g7, g8, g9⟩ := row10 b2
    clear hd HC b1 b2
    go_wp2_with fail
    refine bodyPost_ret (by first | (simp [results, Try.results57, go_sem, d0, d1, d2, d3, d4, d5, d6, d7, d8, d9]; done) | (simp [results, Try.results57, go_sem, d0, d1, d2, d3, d4, d5, d6, d7, d8, d9]; rfl)) rfl ⟨rfl, ?_⟩
    repeat with_reducible first | exact Old.refl _ | assumption | refine Old.setCell ?_ (by first | omega | (simp <;> omega)) _ | refine Old.drewN ?_ _ | refine Old.alloc ?_ _ | refine Old.drew ?_
  | true =>
    have HC := Lib.hid (fun W => lrestC ⟨ph, inc, 0, since, times, due, armed, rung, halt, true⟩ A c 1 W)
    rw [show Lf.ended ⟨ph, inc, runs, since, times, due, armed, rung, halt, true⟩ = Lf.rest ⟨ph, inc, 0, since, times, due, armed, rung, halt, true⟩ 1 from rfl]
    generalize Lf.rest _ 1 = q at *
    obtain ⟨ph', inc', runs', since', times', due', armed', rung', halt', again'⟩ := q
    unfold lfA at HC ⊢
    go_enter Try.func57, Try.ntmps57
    go_wp2_with fail
    refine (HC.out _).mono ?_; rintro e w2 ⟨rfl, hd⟩
    obtain ⟨b1, b2, hO⟩ := two_ hd
    obtain ⟨⟨d0, d1, d2, d3, d4, d5, d6, d7, d8, d9⟩, g0, g1, g2, g3, g4, g5, g6, g7, g8, g9⟩ := row10 b2
    clear hd HC b1 b2
    go_wp2_with fail
    refine bodyPost_ret (by first | (simp [results, Try.results57, go_sem, d0, d1, d2, d3, d4, d5, d6, d7, d8, d9]; done) | (simp [results, Try.results57, go_sem, d0, d1, d2, d3, d4, d5, d6, d7, d8, d9]; rfl)) rfl ⟨rfl, ?_⟩
    repeat with_reducible first | exact Old.refl _ | assumption | refine Old.setCell ?_ (by first | omega | (simp <;> omega)) _ | refine Old.drewN ?_ _ | refine Old.alloc ?_ _ | refine Old.drew ?_
set_option maxHeartbeats 4000000 in
set_option maxRecDepth 100000 in
theorem lhaltC (j : Jd) (x : Lf.T) (A : Option Addr) (c : Nat) (now : Int) (w : World) (hj : JdOk w j) (hn : Tk.U now) :
    Calls Try.prog 52 #[jdA j, lfA x A c, .int .u64 now] w fun e w' => e = .returned (.tuple #[lfA (Lf.halt_ j.j x now).1 A c, .int .i64 (Lf.halt_ j.j x now).2]) ∧ Old w w' := by
  have HN := Lib.hid (fun W (h : Old w W) => lclimbC j { x with ph := 6, rung := 0 } A c now W (hj.up h) hn)
  clear hj
  unfold Lf.halt_
  obtain ⟨ph, inc, runs, since, times, due, armed, rung, halt, again⟩ := x
  simp only at HN ⊢
  generalize (Lf.climb j.j _ now) = q at *
  obtain ⟨q1, s⟩ := q
  obtain ⟨ph', inc', runs', since', times', due', armed', rung', halt', again'⟩ := q1
  obtain ⟨nm, run, eA, env, ec, nA, needs, nc, hasR, rdyp, restart, base, cap, stable, burst, win, lA, lad, lc, line, col⟩ := j
  unfold lfA jdA at HN ⊢
  simp only at HN ⊢
  go_enter Try.func52, Try.ntmps52
  go_wp2_with fail
  refine (HN.out _ ((((Old.refl w).alloc _).alloc _).alloc _)).mono ?_; rintro e w2 ⟨rfl, hd⟩
  obtain ⟨b1, b2, b3, hO⟩ := three_ hd
  obtain ⟨⟨d0, d1, d2, d3, d4, d5, d6, d7, d8, d9⟩, g0, g1, g2, g3, g4, g5, g6, g7, g8, g9⟩ := row10 b3
  clear hd HN b1 b2 b3
  go_wp2_with fail
  refine bodyPost_ret (by first | (simp [results, Try.results52, go_sem, d0, d1, d2, d3, d4, d5, d6, d7, d8, d9]; done) | (simp [results, Try.results52, go_sem, d0, d1, d2, d3, d4, d5, d6, d7, d8, d9]; rfl)) rfl ⟨rfl, ?_⟩
  repeat with_reducible first | exact Old.refl _ | assumption | refine Old.setCell ?_ (by first | omega | (simp <;> omega)) _ | refine Old.drewN ?_ _ | refine Old.alloc ?_ _ | refine Old.drew ?_
end Go.Proofs.Ytpknglclcdgfbaa
