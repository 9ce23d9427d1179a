/-
  The walks of the reference of life: Start, Stop, Restart: the times stay where they lie.
-/
import Derived.Test.YtpknglclcdgfbaaLfR
import Derived.Deep.DeepCutAuto
namespace Go.Proofs.Ytpknglclcdgfbaa
open Go.RowKit Go.Shelf
set_option linter.unusedVariables false









/-- Times that lie where they lay, or there are none. -/
def Tq (A0 A : Option Addr) (xs : List Value) : Prop := xs = [] ∨ A = A0
section
variable {A0 A : Option Addr} {xs : List Value}
theorem Tq.up {w w' : World} (h : Tq A0 A xs) (_ : Old w w') : Tq A0 A xs := h
theorem Tq.tn2 {P Q : Prop} (h : Tq A0 A xs) (_ : P) (_ : True) (_ : Q) (_ : True) : Tq A0 A xs := h
theorem Tq.set {k i : Nat} (h : Tq A0 A xs) (_ : True) (_ : Value) : Tq A0 A xs := h
theorem Tq.ts (h : Tq A0 A xs) : Tq A0 A xs := h
theorem Tq.rs {w : World} (h : Tq A0 A xs) (hr : Rs w A0 xs) : Rs w A xs := by
  rcases h with rfl | rfl
  · exact Rs.nil_
  · exact hr
end
structure LQ3 (w wx : World) (j : Jd) (x : Lf.T) (A : Option Addr) (c : Nat) : Prop where
  bj : wx.heap[w.heap.size]? = some (jdO j)
  bl : wx.heap[w.heap.size + 1]? = some (lfO x A c)
  br : wx.heap[w.heap.size + 1 + 1]? = some lfZ
  old : Old w wx
structure LQ2 (w wx : World) (x : Lf.T) (A : Option Addr) (c : Nat) : Prop where
  bl : wx.heap[w.heap.size]? = some (lfO x A c)
  br : wx.heap[w.heap.size + 1]? = some lfZ
  old : Old w wx
def LqP (w : World) (A0 : Option Addr) (x : Lf.T) (e : Ending) (w' : World) : Prop := ∃ A c, e = .returned (lfA x A c) ∧ Tq A0 A (u64s x.times) ∧ Old w w'
def LqPi (w : World) (A0 : Option Addr) (x : Lf.T) (s : Int) (e : Ending) (w' : World) : Prop := ∃ A c, e = .returned (.tuple #[lfA x A c, .int .i64 s]) ∧ Tq A0 A (u64s x.times) ∧ Old w w'
set_option maxHeartbeats 3000000 in
set_option maxRecDepth 100000 in
theorem rstartQ (x : Lf.T) (A' : Option Addr) (c' : Nat) (w : World)  :
    Calls Try.prog 38 #[lfA x A' c'] w (LqP w A' (Lf.start x)) := by
  have HPO : Hid (∀ (q : Lf.T) A2 c2 w', Lf.start x = q → Tq A' A2 (u64s q.times) → Old w w' → LqP w A' (Lf.start x) (.returned (lfA q A2 c2)) w') := Lib.hid (fun q A2 c2 w' h1 h2 h3 => by subst h1; exact ⟨A2, c2, rfl, h2, h3⟩)
  obtain ⟨ph, inc, runs, since, times, due, armed, rung, halt, again⟩ := x
  have HLS : Hid (LQ2 w ((w.alloc (.cells #[.int .i64 ph, .int .i64 inc, .int .i64 runs, .int .u64 since, .slice A' times.length c', .int .u64 due, .bool armed, .int .i64 rung, .bool halt, .bool again] 48)).alloc (.cells #[.int .i64 0, .int .i64 0, .int .i64 0, .int .u64 0, .slice none 0 0, .int .u64 0, .bool false, .int .i64 0, .bool false, .bool false] 48)) ⟨ph, inc, runs, since, times, due, armed, rung, halt, again⟩ A' c') := Lib.hid (by obtain ⟨b1, b2, hO⟩ := two_ (Old.refl ((w.alloc (.cells #[.int .i64 ph, .int .i64 inc, .int .i64 runs, .int .u64 since, .slice A' times.length c', .int .u64 due, .bool armed, .int .i64 rung, .bool halt, .bool again] 48)).alloc (.cells #[.int .i64 0, .int .i64 0, .int .i64 0, .int .u64 0, .slice none 0 0, .int .u64 0, .bool false, .int .i64 0, .bool false, .bool false] 48))); exact ⟨b1, b2, hO⟩)
  unfold lfA
  try simp only
  go_enter Try.func38, Try.ntmps38
  go_upto_region 1 with fail
  generalize (w.alloc (.cells #[.int .i64 ph, .int .i64 inc, .int .i64 runs, .int .u64 since, .slice A' times.length c', .int .u64 due, .bool armed, .int .i64 rung, .bool halt, .bool again] 48)).alloc (.cells #[.int .i64 0, .int .i64 0, .int .i64 0, .int .u64 0, .slice none 0 0, .int .u64 0, .bool false, .int .i64 0, .bool false, .bool false] 48) = wc at *
  have b2 : wc.heap[w.heap.size]? = some (.cells #[.int .i64 ph, .int .i64 inc, .int .i64 runs, .int .u64 since, .slice A' times.length c', .int .u64 due, .bool armed, .int .i64 rung, .bool halt, .bool again] 48 (0, 0)) := HLS.out.bl
  have b3 : wc.heap[w.heap.size + 1]? = some (.cells #[.int .i64 0, .int .i64 0, .int .i64 0, .int .u64 0, .slice none 0 0, .int .u64 0, .bool false, .int .i64 0, .bool false, .bool false] 48 (0, 0)) := HLS.out.br
  have hts : Tq A' A' (u64s times) := Or.inr rfl
  have hO : Old w wc := HLS.out.old
  obtain ⟨⟨c0, c1, c2, c3, c4, c5, c6, c7, c8, c9⟩, f0, f1, f2, f3, f4, f5, f6, f7, f8, f9⟩ := row10 b2
  have B2 := Lib.hid b2
  have B3 := Lib.hid b3
  have HTS := Lib.hid hts
  clear b2 b3 hts HLS
  by_cases h7 : ph = 7
  · subst h7
    have HDN := Lib.hid (fun W => rdoneC ⟨7, inc, runs, since, times, due, armed, rung, halt, again⟩ A' c' W)
    rw [show decide ((⟨7, inc, runs, since, times, due, armed, rung, halt, again⟩ : Lf.T).ph = 7 ∨ (⟨7, inc, runs, since, times, due, armed, rung, halt, again⟩ : Lf.T).ph = 8 ∨ (⟨7, inc, runs, since, times, due, armed, rung, halt, again⟩ : Lf.T).ph = 9) = true from rfl] at HDN
    have HC := Lib.hid (fun W => rrestC ⟨7, inc, 0, since, [], due, armed, rung, halt, again⟩ none 0 1 W)
    rw [show Lf.rest ⟨7, inc, 0, since, [], due, armed, rung, halt, again⟩ 1 = ⟨1, inc, 0, since, [], 0, false, 0, false, false⟩ from rfl] at HC
    unfold lfA at HC HDN
    simp only [List.length_nil] at HC HDN
    go_wp2_with fail
    refine (HDN.out _).mono ?_; rintro e wd ⟨rfl, hdd⟩
    have b2d := hdd.block B2.out
    have b3d := hdd.block B3.out
    have hOd := hO.up hdd
    clear hdd HDN B2 B3 hO c0 c1 c2 c3 c4 c5 c6 c7 c8 c9 f0 f1 f2 f3 f4 f5 f6 f7 f8 f9 HTS
    obtain ⟨⟨c0, c1, c2, c3, c4, c5, c6, c7, c8, c9⟩, f0, f1, f2, f3, f4, f5, f6, f7, f8, f9⟩ := row10 b2d
    go_wp2_with fail
    refine (HC.out _).mono ?_; rintro e w3 ⟨rfl, hd3⟩
    have b33 := hd3.block ((heap_setCell_other _ ⟨w.heap.size, 4, none⟩ (w.heap.size + 1) _ (by simp)).trans ((heap_setCell_other _ ⟨w.heap.size, 2, none⟩ (w.heap.size + 1) _ (by simp)).trans b3d))
    have hO3 := ((hOd.setCell (p := ⟨w.heap.size, 2, none⟩) (by simp only; omega) _).setCell (p := ⟨w.heap.size, 4, none⟩) (by simp only; omega) _).up hd3
    obtain ⟨⟨d0, d1, d2, d3, d4, d5, d6, d7, d8, d9⟩, g0, g1, g2, g3, g4, g5, g6, g7, g8, g9⟩ := row10 b33
    clear hd3 hOd b2d b3d b33 HC
    go_wp2_with fail
    refine bodyPost_ret (by first | (simp [results, Try.results38, go_sem, lfA, d0, d1, d2, d3, d4, d5, d6, d7, d8, d9]; done) | (simp [results, Try.results38, go_sem, lfA, d0, d1, d2, d3, d4, d5, d6, d7, d8, d9]; first | rfl | exact ⟨rfl, rfl⟩)) rfl (HPO.out ⟨1, inc, 0, since, [], 0, false, 0, false, false⟩ none 0 _ rfl ?_ ?_)
    · exact (Or.inl rfl)
    · repeat with_reducible first | exact Old.refl _ | assumption | refine Old.setCell ?_ (by first | omega | (simp <;> omega)) _ | refine Old.drewN ?_ _ | refine Old.alloc ?_ _ | refine Old.drew ?_
  have n7 : (ph == 7) = false := by simpa using h7
  by_cases h8 : ph = 8
  · subst h8
    have HDN := Lib.hid (fun W => rdoneC ⟨8, inc, runs, since, times, due, armed, rung, halt, again⟩ A' c' W)
    rw [show decide ((⟨8, inc, runs, since, times, due, armed, rung, halt, again⟩ : Lf.T).ph = 7 ∨ (⟨8, inc, runs, since, times, due, armed, rung, halt, again⟩ : Lf.T).ph = 8 ∨ (⟨8, inc, runs, since, times, due, armed, rung, halt, again⟩ : Lf.T).ph = 9) = true from rfl] at HDN
    have HC := Lib.hid (fun W => rrestC ⟨8, inc, 0, since, [], due, armed, rung, halt, again⟩ none 0 1 W)
    rw [show Lf.rest ⟨8, inc, 0, since, [], due, armed, rung, halt, again⟩ 1 = ⟨1, inc, 0, since, [], 0, false, 0, false, false⟩ from rfl] at HC
    unfold lfA at HC HDN
    simp only [List.length_nil] at HC HDN
    go_wp2_with fail
    refine (HDN.out _).mono ?_; rintro e wd ⟨rfl, hdd⟩
    have b2d := hdd.block B2.out
    have b3d := hdd.block B3.out
    have hOd := hO.up hdd
    clear hdd HDN B2 B3 hO c0 c1 c2 c3 c4 c5 c6 c7 c8 c9 f0 f1 f2 f3 f4 f5 f6 f7 f8 f9 HTS
    obtain ⟨⟨c0, c1, c2, c3, c4, c5, c6, c7, c8, c9⟩, f0, f1, f2, f3, f4, f5, f6, f7, f8, f9⟩ := row10 b2d
    go_wp2_with fail
    refine (HC.out _).mono ?_; rintro e w3 ⟨rfl, hd3⟩
    have b33 := hd3.block ((heap_setCell_other _ ⟨w.heap.size, 4, none⟩ (w.heap.size + 1) _ (by simp)).trans ((heap_setCell_other _ ⟨w.heap.size, 2, none⟩ (w.heap.size + 1) _ (by simp)).trans b3d))
    have hO3 := ((hOd.setCell (p := ⟨w.heap.size, 2, none⟩) (by simp only; omega) _).setCell (p := ⟨w.heap.size, 4, none⟩) (by simp only; omega) _).up hd3
    obtain ⟨⟨d0, d1, d2, d3, d4, d5, d6, d7, d8, d9⟩, g0, g1, g2, g3, g4, g5, g6, g7, g8, g9⟩ := row10 b33
    clear hd3 hOd b2d b3d b33 HC
    go_wp2_with fail
    refine bodyPost_ret (by first | (simp [results, Try.results38, go_sem, lfA, d0, d1, d2, d3, d4, d5, d6, d7, d8, d9]; done) | (simp [results, Try.results38, go_sem, lfA, d0, d1, d2, d3, d4, d5, d6, d7, d8, d9]; first | rfl | exact ⟨rfl, rfl⟩)) rfl (HPO.out ⟨1, inc, 0, since, [], 0, false, 0, false, false⟩ none 0 _ rfl ?_ ?_)
    · exact (Or.inl rfl)
    · repeat with_reducible first | exact Old.refl _ | assumption | refine Old.setCell ?_ (by first | omega | (simp <;> omega)) _ | refine Old.drewN ?_ _ | refine Old.alloc ?_ _ | refine Old.drew ?_
  have n8 : (ph == 8) = false := by simpa using h8
  by_cases h9 : ph = 9
  · subst h9
    have HDN := Lib.hid (fun W => rdoneC ⟨9, inc, runs, since, times, due, armed, rung, halt, again⟩ A' c' W)
    rw [show decide ((⟨9, inc, runs, since, times, due, armed, rung, halt, again⟩ : Lf.T).ph = 7 ∨ (⟨9, inc, runs, since, times, due, armed, rung, halt, again⟩ : Lf.T).ph = 8 ∨ (⟨9, inc, runs, since, times, due, armed, rung, halt, again⟩ : Lf.T).ph = 9) = true from rfl] at HDN
    have HC := Lib.hid (fun W => rrestC ⟨9, inc, 0, since, [], due, armed, rung, halt, again⟩ none 0 1 W)
    rw [show Lf.rest ⟨9, inc, 0, since, [], due, armed, rung, halt, again⟩ 1 = ⟨1, inc, 0, since, [], 0, false, 0, false, false⟩ from rfl] at HC
    unfold lfA at HC HDN
    simp only [List.length_nil] at HC HDN
    go_wp2_with fail
    refine (HDN.out _).mono ?_; rintro e wd ⟨rfl, hdd⟩
    have b2d := hdd.block B2.out
    have b3d := hdd.block B3.out
    have hOd := hO.up hdd
    clear hdd HDN B2 B3 hO c0 c1 c2 c3 c4 c5 c6 c7 c8 c9 f0 f1 f2 f3 f4 f5 f6 f7 f8 f9 HTS
    obtain ⟨⟨c0, c1, c2, c3, c4, c5, c6, c7, c8, c9⟩, f0, f1, f2, f3, f4, f5, f6, f7, f8, f9⟩ := row10 b2d
    go_wp2_with fail
    refine (HC.out _).mono ?_; rintro e w3 ⟨rfl, hd3⟩
    have b33 := hd3.block ((heap_setCell_other _ ⟨w.heap.size, 4, none⟩ (w.heap.size + 1) _ (by simp)).trans ((heap_setCell_other _ ⟨w.heap.size, 2, none⟩ (w.heap.size + 1) _ (by simp)).trans b3d))
    have hO3 := ((hOd.setCell (p := ⟨w.heap.size, 2, none⟩) (by simp only; omega) _).setCell (p := ⟨w.heap.size, 4, none⟩) (by simp only; omega) _).up hd3
    obtain ⟨⟨d0, d1, d2, d3, d4, d5, d6, d7, d8, d9⟩, g0, g1, g2, g3, g4, g5, g6, g7, g8, g9⟩ := row10 b33
    clear hd3 hOd b2d b3d b33 HC
    go_wp2_with fail
    refine bodyPost_ret (by first | (simp [results, Try.results38, go_sem, lfA, d0, d1, d2, d3, d4, d5, d6, d7, d8, d9]; done) | (simp [results, Try.results38, go_sem, lfA, d0, d1, d2, d3, d4, d5, d6, d7, d8, d9]; first | rfl | exact ⟨rfl, rfl⟩)) rfl (HPO.out ⟨1, inc, 0, since, [], 0, false, 0, false, false⟩ none 0 _ rfl ?_ ?_)
    · exact (Or.inl rfl)
    · repeat with_reducible first | exact Old.refl _ | assumption | refine Old.setCell ?_ (by first | omega | (simp <;> omega)) _ | refine Old.drewN ?_ _ | refine Old.alloc ?_ _ | refine Old.drew ?_
  have n9 : (ph == 9) = false := by simpa using h9
  have HDN := Lib.hid (fun W => rdoneC ⟨ph, inc, runs, since, times, due, armed, rung, halt, again⟩ A' c' W)
  rw [show decide ((⟨ph, inc, runs, since, times, due, armed, rung, halt, again⟩ : Lf.T).ph = 7 ∨ (⟨ph, inc, runs, since, times, due, armed, rung, halt, again⟩ : Lf.T).ph = 8 ∨ (⟨ph, inc, runs, since, times, due, armed, rung, halt, again⟩ : Lf.T).ph = 9) = false from (by rw [decide_eq_false]; simp only; omega)] at HDN
  unfold lfA at HDN
  simp only at HDN
  go_wp2_with fail
  refine (HDN.out _).mono ?_; rintro e wd ⟨rfl, hdd⟩
  have B2d := Lib.hid (hdd.block B2.out)
  have B3d := Lib.hid (hdd.block B3.out)
  have hOd := hO.up hdd
  have HTSd := Lib.hid (HTS.out.up hdd)
  have HME : Hid (Lf.start ⟨ph, inc, runs, since, times, due, armed, rung, halt, again⟩ = ⟨ph, inc, runs, since, times, due, armed, rung, halt, again⟩) := Lib.hid (by unfold Lf.start; rw [if_neg (by simp only; omega)])
  clear hdd HDN B2 B3 hO c0 c1 c2 c3 c4 c5 c6 c7 c8 c9 f0 f1 f2 f3 f4 f5 f6 f7 f8 f9 HTS
  obtain ⟨⟨c0, c1, c2, c3, c4, c5, c6, c7, c8, c9⟩, f0, f1, f2, f3, f4, f5, f6, f7, f8, f9⟩ := row10 B2d.out
  have HT := Lib.hid (HTSd.out.tn2 B2d.out (by decide) B3d.out (by decide))
  obtain ⟨⟨d0, d1, d2, d3, d4, d5, d6, d7, d8, d9⟩, g0, g1, g2, g3, g4, g5, g6, g7, g8, g9⟩ := row10 B3d.out
  clear HTSd B2d B3d
  go_wp2_with fail
  refine bodyPost_ret (by first | (simp [results, Try.results38, go_sem, lfA, d0, d1, d2, d3, d4, d5, d6, d7, d8, d9]; done) | (simp [results, Try.results38, go_sem, lfA, d0, d1, d2, d3, d4, d5, d6, d7, d8, d9]; first | rfl | exact ⟨rfl, rfl⟩)) rfl (HPO.out ⟨ph, inc, runs, since, times, due, armed, rung, halt, again⟩ A' c' _ HME.out ?_ ?_)
  · exact HT.out
  · repeat with_reducible first | exact Old.refl _ | assumption | refine Old.setCell ?_ (by first | omega | (simp <;> omega)) _ | refine Old.drewN ?_ _ | refine Old.alloc ?_ _ | refine Old.drew ?_
set_option maxHeartbeats 3000000 in
set_option maxRecDepth 100000 in
theorem rstopQ (j : Jd) (x : Lf.T) (A' : Option Addr) (c' : Nat) (now : Int) (w : World) (hj : JdOk w j) (hn : Tk.U now)  :
    Calls Try.prog 33 #[jdA j, lfA x A' c', .int .u64 now] w (LqPi w A' (Lf.stop j.j x now).1 (Lf.stop j.j x now).2) := by
  have HPO : Hid (∀ (q : Lf.T × Int) A2 c2 w', Lf.stop j.j x now = q → Tq A' A2 (u64s q.1.times) → Old w w' → LqPi w A' (Lf.stop j.j x now).1 (Lf.stop j.j x now).2 (.returned (.tuple #[lfA q.1 A2 c2, .int .i64 q.2])) w') := Lib.hid (fun q A2 c2 w' h1 h2 h3 => by subst h1; exact ⟨A2, c2, rfl, h2, h3⟩)
  obtain ⟨nm, run, eA, env, ec, nA, needs, nc, hasR, rdyp, restart, base, cap, stable, burst, win, lA, lad, lc, line, col⟩ := j
  obtain ⟨ph, inc, runs, since, times, due, armed, rung, halt, again⟩ := x
  have HJ := Lib.hid hj
  have HLS : Hid (LQ3 w (((w.alloc (.cells #[.string nm, .string run, .slice eA env.length ec, .slice nA needs.length nc, .bool hasR, .string rdyp, .int .i64 restart, .int .u64 base, .int .u64 cap, .int .u64 stable, .int .i64 burst, .int .u64 win, .slice lA lad.length lc, .int .i64 line, .int .i64 col] 33)).alloc (.cells #[.int .i64 ph, .int .i64 inc, .int .i64 runs, .int .u64 since, .slice A' times.length c', .int .u64 due, .bool armed, .int .i64 rung, .bool halt, .bool again] 48)).alloc (.cells #[.int .i64 0, .int .i64 0, .int .i64 0, .int .u64 0, .slice none 0 0, .int .u64 0, .bool false, .int .i64 0, .bool false, .bool false] 48)) ⟨nm, run, eA, env, ec, nA, needs, nc, hasR, rdyp, restart, base, cap, stable, burst, win, lA, lad, lc, line, col⟩ ⟨ph, inc, runs, since, times, due, armed, rung, halt, again⟩ A' c') := Lib.hid (by obtain ⟨b1, b2, b3, hO⟩ := three_ (Old.refl (((w.alloc (.cells #[.string nm, .string run, .slice eA env.length ec, .slice nA needs.length nc, .bool hasR, .string rdyp, .int .i64 restart, .int .u64 base, .int .u64 cap, .int .u64 stable, .int .i64 burst, .int .u64 win, .slice lA lad.length lc, .int .i64 line, .int .i64 col] 33)).alloc (.cells #[.int .i64 ph, .int .i64 inc, .int .i64 runs, .int .u64 since, .slice A' times.length c', .int .u64 due, .bool armed, .int .i64 rung, .bool halt, .bool again] 48)).alloc (.cells #[.int .i64 0, .int .i64 0, .int .i64 0, .int .u64 0, .slice none 0 0, .int .u64 0, .bool false, .int .i64 0, .bool false, .bool false] 48))); exact ⟨b1, b2, b3, hO⟩)
  clear hj
  unfold lfA jdA
  try simp only
  go_enter Try.func33, Try.ntmps33
  go_upto_region 1 with fail
  generalize ((w.alloc (.cells #[.string nm, .string run, .slice eA env.length ec, .slice nA needs.length nc, .bool hasR, .string rdyp, .int .i64 restart, .int .u64 base, .int .u64 cap, .int .u64 stable, .int .i64 burst, .int .u64 win, .slice lA lad.length lc, .int .i64 line, .int .i64 col] 33)).alloc (.cells #[.int .i64 ph, .int .i64 inc, .int .i64 runs, .int .u64 since, .slice A' times.length c', .int .u64 due, .bool armed, .int .i64 rung, .bool halt, .bool again] 48)).alloc (.cells #[.int .i64 0, .int .i64 0, .int .i64 0, .int .u64 0, .slice none 0 0, .int .u64 0, .bool false, .int .i64 0, .bool false, .bool false] 48) = wc at *
  have b1 : wc.heap[w.heap.size]? = some (.cells #[.string nm, .string run, .slice eA env.length ec, .slice nA needs.length nc, .bool hasR, .string rdyp, .int .i64 restart, .int .u64 base, .int .u64 cap, .int .u64 stable, .int .i64 burst, .int .u64 win, .slice lA lad.length lc, .int .i64 line, .int .i64 col] 33 (0, 0)) := HLS.out.bj
  have b2 : wc.heap[w.heap.size + 1]? = some (.cells #[.int .i64 ph, .int .i64 inc, .int .i64 runs, .int .u64 since, .slice A' times.length c', .int .u64 due, .bool armed, .int .i64 rung, .bool halt, .bool again] 48 (0, 0)) := HLS.out.bl
  have b3 : wc.heap[w.heap.size + 1 + 1]? = some (.cells #[.int .i64 0, .int .i64 0, .int .i64 0, .int .u64 0, .slice none 0 0, .int .u64 0, .bool false, .int .i64 0, .bool false, .bool false] 48 (0, 0)) := HLS.out.br
  have hts : Tq A' A' (u64s times) := Or.inr rfl
  have hO : Old w wc := HLS.out.old
  obtain ⟨⟨e0, e1, e2, e3, e4, e5, e6, e7, e8, e9, e10, e11, e12, e13, e14⟩, _⟩ := row15 b1
  obtain ⟨⟨c0, c1, c2, c3, c4, c5, c6, c7, c8, c9⟩, f0, f1, f2, f3, f4, f5, f6, f7, f8, f9⟩ := row10 b2
  have b1k := b1
  have B2 := Lib.hid b2
  have B3 := Lib.hid b3
  have HTS := Lib.hid hts
  clear b1 b2 b3 hts HLS
  by_cases h1 : ph = 1
  · subst h1
    have HC := Lib.hid (fun W => rrestC ⟨1, inc, runs, since, times, due, armed, rung, halt, again⟩ A' c' 9 W)
    rw [show Lf.rest ⟨1, inc, runs, since, times, due, armed, rung, halt, again⟩ 9 = ⟨9, inc, runs, since, times, 0, false, 0, false, false⟩ from rfl] at HC
    unfold lfA at HC
    simp only at HC
    go_wp2_with fail
    refine (HC.out _).mono ?_; rintro e w3 ⟨rfl, hd3⟩
    have HTS3 := Lib.hid (HTS.out.up hd3)
    have B23 := Lib.hid (hd3.block B2.out)
    have B33 := Lib.hid (hd3.block B3.out)
    have hO3 := hO.up hd3
    clear hd3 hO HC HTS B2 B3
    have HT := Lib.hid (HTS3.out.tn2 B23.out (by decide) B33.out (by decide))
    obtain ⟨⟨d0, d1, d2, d3, d4, d5, d6, d7, d8, d9⟩, g0, g1, g2, g3, g4, g5, g6, g7, g8, g9⟩ := row10 B33.out
    clear HTS3 B23 B33
    go_wp2_with fail
    refine bodyPost_ret (by first | (simp [results, Try.results33, go_sem, lfA, d0, d1, d2, d3, d4, d5, d6, d7, d8, d9]; done) | (simp [results, Try.results33, go_sem, lfA, d0, d1, d2, d3, d4, d5, d6, d7, d8, d9]; first | rfl | exact ⟨rfl, rfl⟩)) rfl (HPO.out (⟨9, inc, runs, since, times, 0, false, 0, false, false⟩, 0) A' c' _ rfl ?_ ?_)
    · exact HT.out
    · repeat with_reducible first | exact Old.refl _ | assumption | refine Old.setCell ?_ (by first | omega | (simp <;> omega)) _ | refine Old.drewN ?_ _ | refine Old.alloc ?_ _ | refine Old.drew ?_
  have n1 : (ph == 1) = false := by simpa using h1
  by_cases h5 : ph = 5
  · subst h5
    have HC := Lib.hid (fun W => rrestC ⟨5, inc, runs, since, times, due, armed, rung, halt, again⟩ A' c' 9 W)
    rw [show Lf.rest ⟨5, inc, runs, since, times, due, armed, rung, halt, again⟩ 9 = ⟨9, inc, runs, since, times, 0, false, 0, false, false⟩ from rfl] at HC
    unfold lfA at HC
    simp only at HC
    go_wp2_with fail
    refine (HC.out _).mono ?_; rintro e w3 ⟨rfl, hd3⟩
    have HTS3 := Lib.hid (HTS.out.up hd3)
    have B23 := Lib.hid (hd3.block B2.out)
    have B33 := Lib.hid (hd3.block B3.out)
    have hO3 := hO.up hd3
    clear hd3 hO HC HTS B2 B3
    have HT := Lib.hid (HTS3.out.tn2 B23.out (by decide) B33.out (by decide))
    obtain ⟨⟨d0, d1, d2, d3, d4, d5, d6, d7, d8, d9⟩, g0, g1, g2, g3, g4, g5, g6, g7, g8, g9⟩ := row10 B33.out
    clear HTS3 B23 B33
    go_wp2_with fail
    refine bodyPost_ret (by first | (simp [results, Try.results33, go_sem, lfA, d0, d1, d2, d3, d4, d5, d6, d7, d8, d9]; done) | (simp [results, Try.results33, go_sem, lfA, d0, d1, d2, d3, d4, d5, d6, d7, d8, d9]; first | rfl | exact ⟨rfl, rfl⟩)) rfl (HPO.out (⟨9, inc, runs, since, times, 0, false, 0, false, false⟩, 0) A' c' _ rfl ?_ ?_)
    · exact HT.out
    · repeat with_reducible first | exact Old.refl _ | assumption | refine Old.setCell ?_ (by first | omega | (simp <;> omega)) _ | refine Old.drewN ?_ _ | refine Old.alloc ?_ _ | refine Old.drew ?_
  have n5 : (ph == 5) = false := by simpa using h5
  by_cases h2 : ph = 2
  · subst h2
    have HT := Lib.hid (HTS.out.tn2 B2.out (by decide) B3.out (by decide))
    obtain ⟨⟨d0, d1, d2, d3, d4, d5, d6, d7, d8, d9⟩, g0, g1, g2, g3, g4, g5, g6, g7, g8, g9⟩ := row10 B3.out
    clear HTS B2 B3
    go_wp2_with fail
    refine bodyPost_ret (by first | (simp [results, Try.results33, go_sem, lfA, d0, d1, d2, d3, d4, d5, d6, d7, d8, d9]; done) | (simp [results, Try.results33, go_sem, lfA, d0, d1, d2, d3, d4, d5, d6, d7, d8, d9]; first | rfl | exact ⟨rfl, rfl⟩)) rfl (HPO.out (⟨2, inc, runs, since, times, due, armed, rung, true, false⟩, 0) A' c' _ rfl ?_ ?_)
    · exact HT.out
    · repeat with_reducible first | exact Old.refl _ | assumption | refine Old.setCell ?_ (by first | omega | (simp <;> omega)) _ | refine Old.drewN ?_ _ | refine Old.alloc ?_ _ | refine Old.drew ?_
  have n2 : (ph == 2) = false := by simpa using h2
  by_cases h3 : ph = 3
  · subst h3
    have HC := Lib.hid (fun W (h : Old w W) => rclimbC ⟨nm, run, eA, env, ec, nA, needs, nc, hasR, rdyp, restart, base, cap, stable, burst, win, lA, lad, lc, line, col⟩ ⟨6, inc, runs, since, times, due, armed, 0, halt, false⟩ A' c' now W (HJ.out.up h) hn)
    have hqt : (Lf.climb (Jd.j ⟨nm, run, eA, env, ec, nA, needs, nc, hasR, rdyp, restart, base, cap, stable, burst, win, lA, lad, lc, line, col⟩) ⟨6, inc, runs, since, times, due, armed, 0, halt, false⟩ now).1.times = times := rfl
    have HME : Hid (Lf.stop (Jd.j ⟨nm, run, eA, env, ec, nA, needs, nc, hasR, rdyp, restart, base, cap, stable, burst, win, lA, lad, lc, line, col⟩) ⟨3, inc, runs, since, times, due, armed, rung, halt, again⟩ now = ((Lf.climb (Jd.j ⟨nm, run, eA, env, ec, nA, needs, nc, hasR, rdyp, restart, base, cap, stable, burst, win, lA, lad, lc, line, col⟩) ⟨6, inc, runs, since, times, due, armed, 0, halt, false⟩ now).1, (Lf.climb (Jd.j ⟨nm, run, eA, env, ec, nA, needs, nc, hasR, rdyp, restart, base, cap, stable, burst, win, lA, lad, lc, line, col⟩) ⟨6, inc, runs, since, times, due, armed, 0, halt, false⟩ now).2)) := Lib.hid rfl
    generalize Lf.climb (Jd.j ⟨nm, run, eA, env, ec, nA, needs, nc, hasR, rdyp, restart, base, cap, stable, burst, win, lA, lad, lc, line, col⟩) ⟨6, inc, runs, since, times, due, armed, 0, halt, false⟩ now = q at *
    obtain ⟨⟨ph', inc', runs', since', times', due', armed', rung', halt', again'⟩, s'⟩ := q
    simp only at hqt
    subst hqt
    unfold lfA at HC
    try unfold jdA at HC
    simp only at HC
    go_wp2_with fail
    refine (HC.out _ (((hO.setCell (p := ⟨w.heap.size + 1, 0, none⟩) (by simp only; omega) (.int .i64 6)).setCell (p := ⟨w.heap.size + 1, 7, none⟩) (by simp only; omega) (.int .i64 0)).setCell (p := ⟨w.heap.size + 1, 9, none⟩) (by simp only; omega) (.bool false))).mono ?_; rintro e w3 ⟨rfl, hd3⟩
    have p20 := heap_setCell_same wc (w.heap.size + 1) 0 _ _ (.int .i64 6) B2.out
    have p30 := (heap_setCell_other wc ⟨w.heap.size + 1, 0, none⟩ (w.heap.size + 1 + 1) (.int .i64 6) (by simp)).trans B3.out
    have p21 := heap_setCell_same _ (w.heap.size + 1) 7 _ _ (.int .i64 0) p20
    have p31 := (heap_setCell_other _ ⟨w.heap.size + 1, 7, none⟩ (w.heap.size + 1 + 1) (.int .i64 0) (by simp)).trans p30
    have p22 := heap_setCell_same _ (w.heap.size + 1) 9 _ _ (.bool false) p21
    have p32 := (heap_setCell_other _ ⟨w.heap.size + 1, 9, none⟩ (w.heap.size + 1 + 1) (.bool false) (by simp)).trans p31
    have B33 := Lib.hid (hd3.block p32)
    have HTS3 := Lib.hid (((((HTS.out.tn2 B2.out (by decide) B3.out (by decide)).set (k := w.heap.size + 1) (i := 0) (by simp) (.int .i64 6)).set (k := w.heap.size + 1) (i := 7) (by simp) (.int .i64 0)).set (k := w.heap.size + 1) (i := 9) (by simp) (.bool false)).ts.up hd3)
    have B23 := Lib.hid (hd3.block p22)
    have hO3 := (((hO.setCell (p := ⟨w.heap.size + 1, 0, none⟩) (by simp only; omega) (.int .i64 6)).setCell (p := ⟨w.heap.size + 1, 7, none⟩) (by simp only; omega) (.int .i64 0)).setCell (p := ⟨w.heap.size + 1, 9, none⟩) (by simp only; omega) (.bool false)).up hd3
    clear hd3 hO HC HTS B2 B3 p20 p30 p21 p31 p22 p32
    have HT := Lib.hid (HTS3.out.tn2 B23.out (by decide) B33.out (by decide))
    obtain ⟨⟨d0, d1, d2, d3, d4, d5, d6, d7, d8, d9⟩, g0, g1, g2, g3, g4, g5, g6, g7, g8, g9⟩ := row10 B33.out
    clear HTS3 B23 B33
    go_wp2_with fail
    refine bodyPost_ret (by first | (simp [results, Try.results33, go_sem, lfA, d0, d1, d2, d3, d4, d5, d6, d7, d8, d9]; done) | (simp [results, Try.results33, go_sem, lfA, d0, d1, d2, d3, d4, d5, d6, d7, d8, d9]; first | rfl | exact ⟨rfl, rfl⟩)) rfl (HPO.out (⟨ph', inc', runs', since', times', due', armed', rung', halt', again'⟩, s') A' c' _ HME.out ?_ ?_)
    · exact HT.out
    · repeat with_reducible first | exact Old.refl _ | assumption | refine Old.setCell ?_ (by first | omega | (simp <;> omega)) _ | refine Old.drewN ?_ _ | refine Old.alloc ?_ _ | refine Old.drew ?_
  have n3 : (ph == 3) = false := by simpa using h3
  by_cases h4 : ph = 4
  · subst h4
    have HC := Lib.hid (fun W (h : Old w W) => rclimbC ⟨nm, run, eA, env, ec, nA, needs, nc, hasR, rdyp, restart, base, cap, stable, burst, win, lA, lad, lc, line, col⟩ ⟨6, inc, runs, since, times, due, armed, 0, halt, false⟩ A' c' now W (HJ.out.up h) hn)
    have hqt : (Lf.climb (Jd.j ⟨nm, run, eA, env, ec, nA, needs, nc, hasR, rdyp, restart, base, cap, stable, burst, win, lA, lad, lc, line, col⟩) ⟨6, inc, runs, since, times, due, armed, 0, halt, false⟩ now).1.times = times := rfl
    have HME : Hid (Lf.stop (Jd.j ⟨nm, run, eA, env, ec, nA, needs, nc, hasR, rdyp, restart, base, cap, stable, burst, win, lA, lad, lc, line, col⟩) ⟨4, inc, runs, since, times, due, armed, rung, halt, again⟩ now = ((Lf.climb (Jd.j ⟨nm, run, eA, env, ec, nA, needs, nc, hasR, rdyp, restart, base, cap, stable, burst, win, lA, lad, lc, line, col⟩) ⟨6, inc, runs, since, times, due, armed, 0, halt, false⟩ now).1, (Lf.climb (Jd.j ⟨nm, run, eA, env, ec, nA, needs, nc, hasR, rdyp, restart, base, cap, stable, burst, win, lA, lad, lc, line, col⟩) ⟨6, inc, runs, since, times, due, armed, 0, halt, false⟩ now).2)) := Lib.hid rfl
    generalize Lf.climb (Jd.j ⟨nm, run, eA, env, ec, nA, needs, nc, hasR, rdyp, restart, base, cap, stable, burst, win, lA, lad, lc, line, col⟩) ⟨6, inc, runs, since, times, due, armed, 0, halt, false⟩ now = q at *
    obtain ⟨⟨ph', inc', runs', since', times', due', armed', rung', halt', again'⟩, s'⟩ := q
    simp only at hqt
    subst hqt
    unfold lfA at HC
    try unfold jdA at HC
    simp only at HC
    go_wp2_with fail
    refine (HC.out _ (((hO.setCell (p := ⟨w.heap.size + 1, 0, none⟩) (by simp only; omega) (.int .i64 6)).setCell (p := ⟨w.heap.size + 1, 7, none⟩) (by simp only; omega) (.int .i64 0)).setCell (p := ⟨w.heap.size + 1, 9, none⟩) (by simp only; omega) (.bool false))).mono ?_; rintro e w3 ⟨rfl, hd3⟩
    have p20 := heap_setCell_same wc (w.heap.size + 1) 0 _ _ (.int .i64 6) B2.out
    have p30 := (heap_setCell_other wc ⟨w.heap.size + 1, 0, none⟩ (w.heap.size + 1 + 1) (.int .i64 6) (by simp)).trans B3.out
    have p21 := heap_setCell_same _ (w.heap.size + 1) 7 _ _ (.int .i64 0) p20
    have p31 := (heap_setCell_other _ ⟨w.heap.size + 1, 7, none⟩ (w.heap.size + 1 + 1) (.int .i64 0) (by simp)).trans p30
    have p22 := heap_setCell_same _ (w.heap.size + 1) 9 _ _ (.bool false) p21
    have p32 := (heap_setCell_other _ ⟨w.heap.size + 1, 9, none⟩ (w.heap.size + 1 + 1) (.bool false) (by simp)).trans p31
    have B33 := Lib.hid (hd3.block p32)
    have HTS3 := Lib.hid (((((HTS.out.tn2 B2.out (by decide) B3.out (by decide)).set (k := w.heap.size + 1) (i := 0) (by simp) (.int .i64 6)).set (k := w.heap.size + 1) (i := 7) (by simp) (.int .i64 0)).set (k := w.heap.size + 1) (i := 9) (by simp) (.bool false)).ts.up hd3)
    have B23 := Lib.hid (hd3.block p22)
    have hO3 := (((hO.setCell (p := ⟨w.heap.size + 1, 0, none⟩) (by simp only; omega) (.int .i64 6)).setCell (p := ⟨w.heap.size + 1, 7, none⟩) (by simp only; omega) (.int .i64 0)).setCell (p := ⟨w.heap.size + 1, 9, none⟩) (by simp only; omega) (.bool false)).up hd3
    clear hd3 hO HC HTS B2 B3 p20 p30 p21 p31 p22 p32
    have HT := Lib.hid (HTS3.out.tn2 B23.out (by decide) B33.out (by decide))
    obtain ⟨⟨d0, d1, d2, d3, d4, d5, d6, d7, d8, d9⟩, g0, g1, g2, g3, g4, g5, g6, g7, g8, g9⟩ := row10 B33.out
    clear HTS3 B23 B33
    go_wp2_with fail
    refine bodyPost_ret (by first | (simp [results, Try.results33, go_sem, lfA, d0, d1, d2, d3, d4, d5, d6, d7, d8, d9]; done) | (simp [results, Try.results33, go_sem, lfA, d0, d1, d2, d3, d4, d5, d6, d7, d8, d9]; first | rfl | exact ⟨rfl, rfl⟩)) rfl (HPO.out (⟨ph', inc', runs', since', times', due', armed', rung', halt', again'⟩, s') A' c' _ HME.out ?_ ?_)
    · exact HT.out
    · repeat with_reducible first | exact Old.refl _ | assumption | refine Old.setCell ?_ (by first | omega | (simp <;> omega)) _ | refine Old.drewN ?_ _ | refine Old.alloc ?_ _ | refine Old.drew ?_
  have n4 : (ph == 4) = false := by simpa using h4
  by_cases h6 : ph = 6
  · subst h6
    have HT := Lib.hid (HTS.out.tn2 B2.out (by decide) B3.out (by decide))
    obtain ⟨⟨d0, d1, d2, d3, d4, d5, d6, d7, d8, d9⟩, g0, g1, g2, g3, g4, g5, g6, g7, g8, g9⟩ := row10 B3.out
    clear HTS B2 B3
    go_wp2_with fail
    refine bodyPost_ret (by first | (simp [results, Try.results33, go_sem, lfA, d0, d1, d2, d3, d4, d5, d6, d7, d8, d9]; done) | (simp [results, Try.results33, go_sem, lfA, d0, d1, d2, d3, d4, d5, d6, d7, d8, d9]; first | rfl | exact ⟨rfl, rfl⟩)) rfl (HPO.out (⟨6, inc, runs, since, times, due, armed, rung, halt, false⟩, 0) A' c' _ rfl ?_ ?_)
    · exact HT.out
    · repeat with_reducible first | exact Old.refl _ | assumption | refine Old.setCell ?_ (by first | omega | (simp <;> omega)) _ | refine Old.drewN ?_ _ | refine Old.alloc ?_ _ | refine Old.drew ?_
  have n6 : (ph == 6) = false := by simpa using h6
  have HT := Lib.hid (HTS.out.tn2 B2.out (by decide) B3.out (by decide))
  obtain ⟨⟨d0, d1, d2, d3, d4, d5, d6, d7, d8, d9⟩, g0, g1, g2, g3, g4, g5, g6, g7, g8, g9⟩ := row10 B3.out
  clear HTS B2 B3
  go_wp2_with fail
  refine bodyPost_ret (by first | (simp [results, Try.results33, go_sem, lfA, d0, d1, d2, d3, d4, d5, d6, d7, d8, d9]; done) | (simp [results, Try.results33, go_sem, lfA, d0, d1, d2, d3, d4, d5, d6, d7, d8, d9]; first | rfl | exact ⟨rfl, rfl⟩)) rfl (HPO.out (⟨ph, inc, runs, since, times, due, armed, rung, halt, again⟩, 0) A' c' _ (by show Lf.stop (Jd.j ⟨nm, run, eA, env, ec, nA, needs, nc, hasR, rdyp, restart, base, cap, stable, burst, win, lA, lad, lc, line, col⟩) ⟨ph, inc, runs, since, times, due, armed, rung, halt, again⟩ now = _; unfold Lf.stop; rw [if_neg (by simp only; omega), if_neg (by simp only; omega), if_neg (by simp only; omega), if_neg (by simp only; omega)]) ?_ ?_)
  · exact HT.out
  · repeat with_reducible first | exact Old.refl _ | assumption | refine Old.setCell ?_ (by first | omega | (simp <;> omega)) _ | refine Old.drewN ?_ _ | refine Old.alloc ?_ _ | refine Old.drew ?_
set_option maxHeartbeats 3000000 in
set_option maxRecDepth 100000 in
theorem rrestartQ (j : Jd) (x : Lf.T) (A' : Option Addr) (c' : Nat) (now : Int) (w : World) (hj : JdOk w j) (hn : Tk.U now)  :
    Calls Try.prog 35 #[jdA j, lfA x A' c', .int .u64 now] w (LqPi w A' (Lf.restart j.j x now).1 (Lf.restart j.j x now).2) := by
  have HPO : Hid (∀ (q : Lf.T × Int) A2 c2 w', Lf.restart j.j x now = q → Tq A' A2 (u64s q.1.times) → Old w w' → LqPi w A' (Lf.restart j.j x now).1 (Lf.restart j.j x now).2 (.returned (.tuple #[lfA q.1 A2 c2, .int .i64 q.2])) w') := Lib.hid (fun q A2 c2 w' h1 h2 h3 => by subst h1; exact ⟨A2, c2, rfl, h2, h3⟩)
  obtain ⟨nm, run, eA, env, ec, nA, needs, nc, hasR, rdyp, restart, base, cap, stable, burst, win, lA, lad, lc, line, col⟩ := j
  obtain ⟨ph, inc, runs, since, times, due, armed, rung, halt, again⟩ := x
  have HJ := Lib.hid hj
  have HLS : Hid (LQ3 w (((w.alloc (.cells #[.string nm, .string run, .slice eA env.length ec, .slice nA needs.length nc, .bool hasR, .string rdyp, .int .i64 restart, .int .u64 base, .int .u64 cap, .int .u64 stable, .int .i64 burst, .int .u64 win, .slice lA lad.length lc, .int .i64 line, .int .i64 col] 33)).alloc (.cells #[.int .i64 ph, .int .i64 inc, .int .i64 runs, .int .u64 since, .slice A' times.length c', .int .u64 due, .bool armed, .int .i64 rung, .bool halt, .bool again] 48)).alloc (.cells #[.int .i64 0, .int .i64 0, .int .i64 0, .int .u64 0, .slice none 0 0, .int .u64 0, .bool false, .int .i64 0, .bool false, .bool false] 48)) ⟨nm, run, eA, env, ec, nA, needs, nc, hasR, rdyp, restart, base, cap, stable, burst, win, lA, lad, lc, line, col⟩ ⟨ph, inc, runs, since, times, due, armed, rung, halt, again⟩ A' c') := Lib.hid (by obtain ⟨b1, b2, b3, hO⟩ := three_ (Old.refl (((w.alloc (.cells #[.string nm, .string run, .slice eA env.length ec, .slice nA needs.length nc, .bool hasR, .string rdyp, .int .i64 restart, .int .u64 base, .int .u64 cap, .int .u64 stable, .int .i64 burst, .int .u64 win, .slice lA lad.length lc, .int .i64 line, .int .i64 col] 33)).alloc (.cells #[.int .i64 ph, .int .i64 inc, .int .i64 runs, .int .u64 since, .slice A' times.length c', .int .u64 due, .bool armed, .int .i64 rung, .bool halt, .bool again] 48)).alloc (.cells #[.int .i64 0, .int .i64 0, .int .i64 0, .int .u64 0, .slice none 0 0, .int .u64 0, .bool false, .int .i64 0, .bool false, .bool false] 48))); exact ⟨b1, b2, b3, hO⟩)
  clear hj
  unfold lfA jdA
  try simp only
  go_enter Try.func35, Try.ntmps35
  go_upto_region 1 with fail
  generalize ((w.alloc (.cells #[.string nm, .string run, .slice eA env.length ec, .slice nA needs.length nc, .bool hasR, .string rdyp, .int .i64 restart, .int .u64 base, .int .u64 cap, .int .u64 stable, .int .i64 burst, .int .u64 win, .slice lA lad.length lc, .int .i64 line, .int .i64 col] 33)).alloc (.cells #[.int .i64 ph, .int .i64 inc, .int .i64 runs, .int .u64 since, .slice A' times.length c', .int .u64 due, .bool armed, .int .i64 rung, .bool halt, .bool again] 48)).alloc (.cells #[.int .i64 0, .int .i64 0, .int .i64 0, .int .u64 0, .slice none 0 0, .int .u64 0, .bool false, .int .i64 0, .bool false, .bool false] 48) = wc at *
  have b1 : wc.heap[w.heap.size]? = some (.cells #[.string nm, .string run, .slice eA env.length ec, .slice nA needs.length nc, .bool hasR, .string rdyp, .int .i64 restart, .int .u64 base, .int .u64 cap, .int .u64 stable, .int .i64 burst, .int .u64 win, .slice lA lad.length lc, .int .i64 line, .int .i64 col] 33 (0, 0)) := HLS.out.bj
  have b2 : wc.heap[w.heap.size + 1]? = some (.cells #[.int .i64 ph, .int .i64 inc, .int .i64 runs, .int .u64 since, .slice A' times.length c', .int .u64 due, .bool armed, .int .i64 rung, .bool halt, .bool again] 48 (0, 0)) := HLS.out.bl
  have b3 : wc.heap[w.heap.size + 1 + 1]? = some (.cells #[.int .i64 0, .int .i64 0, .int .i64 0, .int .u64 0, .slice none 0 0, .int .u64 0, .bool false, .int .i64 0, .bool false, .bool false] 48 (0, 0)) := HLS.out.br
  have hts : Tq A' A' (u64s times) := Or.inr rfl
  have hO : Old w wc := HLS.out.old
  obtain ⟨⟨e0, e1, e2, e3, e4, e5, e6, e7, e8, e9, e10, e11, e12, e13, e14⟩, _⟩ := row15 b1
  obtain ⟨⟨c0, c1, c2, c3, c4, c5, c6, c7, c8, c9⟩, f0, f1, f2, f3, f4, f5, f6, f7, f8, f9⟩ := row10 b2
  have b1k := b1
  have B2 := Lib.hid b2
  have B3 := Lib.hid b3
  have HTS := Lib.hid hts
  clear b1 b2 b3 hts HLS
  by_cases h7 : ph = 7
  · subst h7
    have HC := Lib.hid (fun W (h : Old wc W) => rstartQ ⟨7, inc, runs, since, times, due, armed, rung, halt, again⟩ A' c' W)
    rw [show Lf.start ⟨7, inc, runs, since, times, due, armed, rung, halt, again⟩ = ⟨1, inc, 0, since, [], 0, false, 0, false, false⟩ from rfl] at HC
    unfold LqP lfA at HC
    simp only at HC
    go_wp2_with fail
    refine (HC.out _ (Old.refl _)).mono ?_; rintro e w3 ⟨A3, c3', rfl, ht3, hd3⟩
    have B23 := Lib.hid (hd3.block B2.out)
    have B33 := Lib.hid (hd3.block B3.out)
    have hO3 := hO.up hd3
    have HT := Lib.hid (ht3.tn2 B23.out (by decide) B33.out (by decide))
    clear hd3 hO HC HTS B2 B3 ht3
    obtain ⟨⟨d0, d1, d2, d3, d4, d5, d6, d7, d8, d9⟩, g0, g1, g2, g3, g4, g5, g6, g7, g8, g9⟩ := row10 B33.out
    clear B23 B33
    go_wp2_with fail
    refine bodyPost_ret (by first | (simp [results, Try.results35, go_sem, lfA, d0, d1, d2, d3, d4, d5, d6, d7, d8, d9]; done) | (simp [results, Try.results35, go_sem, lfA, d0, d1, d2, d3, d4, d5, d6, d7, d8, d9]; first | rfl | exact ⟨rfl, rfl⟩)) rfl (HPO.out (⟨1, inc, 0, since, [], 0, false, 0, false, false⟩, 0) A3 c3' _ rfl ?_ ?_)
    · exact HT.out
    · repeat with_reducible first | exact Old.refl _ | assumption | refine Old.setCell ?_ (by first | omega | (simp <;> omega)) _ | refine Old.drewN ?_ _ | refine Old.alloc ?_ _ | refine Old.drew ?_
  have n7 : (ph == 7) = false := by simpa using h7
  by_cases h8 : ph = 8
  · subst h8
    have HC := Lib.hid (fun W (h : Old wc W) => rstartQ ⟨8, inc, runs, since, times, due, armed, rung, halt, again⟩ A' c' W)
    rw [show Lf.start ⟨8, inc, runs, since, times, due, armed, rung, halt, again⟩ = ⟨1, inc, 0, since, [], 0, false, 0, false, false⟩ from rfl] at HC
    unfold LqP lfA at HC
    simp only at HC
    go_wp2_with fail
    refine (HC.out _ (Old.refl _)).mono ?_; rintro e w3 ⟨A3, c3', rfl, ht3, hd3⟩
    have B23 := Lib.hid (hd3.block B2.out)
    have B33 := Lib.hid (hd3.block B3.out)
    have hO3 := hO.up hd3
    have HT := Lib.hid (ht3.tn2 B23.out (by decide) B33.out (by decide))
    clear hd3 hO HC HTS B2 B3 ht3
    obtain ⟨⟨d0, d1, d2, d3, d4, d5, d6, d7, d8, d9⟩, g0, g1, g2, g3, g4, g5, g6, g7, g8, g9⟩ := row10 B33.out
    clear B23 B33
    go_wp2_with fail
    refine bodyPost_ret (by first | (simp [results, Try.results35, go_sem, lfA, d0, d1, d2, d3, d4, d5, d6, d7, d8, d9]; done) | (simp [results, Try.results35, go_sem, lfA, d0, d1, d2, d3, d4, d5, d6, d7, d8, d9]; first | rfl | exact ⟨rfl, rfl⟩)) rfl (HPO.out (⟨1, inc, 0, since, [], 0, false, 0, false, false⟩, 0) A3 c3' _ rfl ?_ ?_)
    · exact HT.out
    · repeat with_reducible first | exact Old.refl _ | assumption | refine Old.setCell ?_ (by first | omega | (simp <;> omega)) _ | refine Old.drewN ?_ _ | refine Old.alloc ?_ _ | refine Old.drew ?_
  have n8 : (ph == 8) = false := by simpa using h8
  by_cases h9 : ph = 9
  · subst h9
    have HC := Lib.hid (fun W (h : Old wc W) => rstartQ ⟨9, inc, runs, since, times, due, armed, rung, halt, again⟩ A' c' W)
    rw [show Lf.start ⟨9, inc, runs, since, times, due, armed, rung, halt, again⟩ = ⟨1, inc, 0, since, [], 0, false, 0, false, false⟩ from rfl] at HC
    unfold LqP lfA at HC
    simp only at HC
    go_wp2_with fail
    refine (HC.out _ (Old.refl _)).mono ?_; rintro e w3 ⟨A3, c3', rfl, ht3, hd3⟩
    have B23 := Lib.hid (hd3.block B2.out)
    have B33 := Lib.hid (hd3.block B3.out)
    have hO3 := hO.up hd3
    have HT := Lib.hid (ht3.tn2 B23.out (by decide) B33.out (by decide))
    clear hd3 hO HC HTS B2 B3 ht3
    obtain ⟨⟨d0, d1, d2, d3, d4, d5, d6, d7, d8, d9⟩, g0, g1, g2, g3, g4, g5, g6, g7, g8, g9⟩ := row10 B33.out
    clear B23 B33
    go_wp2_with fail
    refine bodyPost_ret (by first | (simp [results, Try.results35, go_sem, lfA, d0, d1, d2, d3, d4, d5, d6, d7, d8, d9]; done) | (simp [results, Try.results35, go_sem, lfA, d0, d1, d2, d3, d4, d5, d6, d7, d8, d9]; first | rfl | exact ⟨rfl, rfl⟩)) rfl (HPO.out (⟨1, inc, 0, since, [], 0, false, 0, false, false⟩, 0) A3 c3' _ rfl ?_ ?_)
    · exact HT.out
    · repeat with_reducible first | exact Old.refl _ | assumption | refine Old.setCell ?_ (by first | omega | (simp <;> omega)) _ | refine Old.drewN ?_ _ | refine Old.alloc ?_ _ | refine Old.drew ?_
  have n9 : (ph == 9) = false := by simpa using h9
  by_cases h5 : ph = 5
  · subst h5
    have HC := Lib.hid (fun W => rrestC ⟨5, inc, runs, since, times, due, armed, rung, halt, again⟩ A' c' 1 W)
    rw [show Lf.rest ⟨5, inc, runs, since, times, due, armed, rung, halt, again⟩ 1 = ⟨1, inc, runs, since, times, 0, false, 0, false, false⟩ from rfl] at HC
    unfold lfA at HC
    simp only at HC
    go_wp2_with fail
    refine (HC.out _).mono ?_; rintro e w3 ⟨rfl, hd3⟩
    have HTS3 := Lib.hid (HTS.out.up hd3)
    have B23 := Lib.hid (hd3.block B2.out)
    have B33 := Lib.hid (hd3.block B3.out)
    have hO3 := hO.up hd3
    clear hd3 hO HC HTS B2 B3
    have HT := Lib.hid (HTS3.out.tn2 B23.out (by decide) B33.out (by decide))
    obtain ⟨⟨d0, d1, d2, d3, d4, d5, d6, d7, d8, d9⟩, g0, g1, g2, g3, g4, g5, g6, g7, g8, g9⟩ := row10 B33.out
    clear HTS3 B23 B33
    go_wp2_with fail
    refine bodyPost_ret (by first | (simp [results, Try.results35, go_sem, lfA, d0, d1, d2, d3, d4, d5, d6, d7, d8, d9]; done) | (simp [results, Try.results35, go_sem, lfA, d0, d1, d2, d3, d4, d5, d6, d7, d8, d9]; first | rfl | exact ⟨rfl, rfl⟩)) rfl (HPO.out (⟨1, inc, runs, since, times, 0, false, 0, false, false⟩, 0) A' c' _ rfl ?_ ?_)
    · exact HT.out
    · repeat with_reducible first | exact Old.refl _ | assumption | refine Old.setCell ?_ (by first | omega | (simp <;> omega)) _ | refine Old.drewN ?_ _ | refine Old.alloc ?_ _ | refine Old.drew ?_
  have n5 : (ph == 5) = false := by simpa using h5
  by_cases h2 : ph = 2
  · subst h2
    have HC := Lib.hid (fun W (ht : Tq A' A' (u64s times)) => rstartQ ⟨2, inc, runs, since, times, due, armed, rung, true, true⟩ A' c' W)
    rw [show Lf.start ⟨2, inc, runs, since, times, due, armed, rung, true, true⟩ = ⟨2, inc, runs, since, times, due, armed, rung, true, true⟩ from rfl] at HC
    unfold LqP lfA at HC
    simp only at HC
    have B2o := (heap_setCell_same _ (w.heap.size + 1) 9 _ _ (.bool true) (heap_setCell_same _ (w.heap.size + 1) 8 _ _ (.bool true) B2.out))
    have B3o := ((heap_setCell_other _ ⟨w.heap.size + 1, 9, none⟩ (w.heap.size + 1 + 1) (.bool true) (by simp)).trans ((heap_setCell_other _ ⟨w.heap.size + 1, 8, none⟩ (w.heap.size + 1 + 1) (.bool true) (by simp)).trans B3.out))
    have hOo := ((hO.setCell (p := ⟨w.heap.size + 1, 8, none⟩) (by simp only; omega) (.bool true)).setCell (p := ⟨w.heap.size + 1, 9, none⟩) (by simp only; omega) (.bool true))
    have hts3 := (((HTS.out.tn2 B2.out (by decide) B3.out (by decide)).set (k := w.heap.size + 1) (i := 8) (by simp) (.bool true)).set (k := w.heap.size + 1) (i := 9) (by simp) (.bool true)).ts
    go_wp2_with fail
    refine (HC.out _ hts3).mono ?_; rintro e w3 ⟨A3, c3', rfl, ht3, hd3⟩
    have B23 := Lib.hid (hd3.block B2o)
    have B33 := Lib.hid (hd3.block B3o)
    have hO3 := hOo.up hd3
    have HT := Lib.hid (ht3.tn2 B23.out (by decide) B33.out (by decide))
    clear hd3 hO HC HTS B2 B3 hOo B2o B3o ht3 hts3
    obtain ⟨⟨d0, d1, d2, d3, d4, d5, d6, d7, d8, d9⟩, g0, g1, g2, g3, g4, g5, g6, g7, g8, g9⟩ := row10 B33.out
    clear B23 B33
    go_wp2_with fail
    refine bodyPost_ret (by first | (simp [results, Try.results35, go_sem, lfA, d0, d1, d2, d3, d4, d5, d6, d7, d8, d9]; done) | (simp [results, Try.results35, go_sem, lfA, d0, d1, d2, d3, d4, d5, d6, d7, d8, d9]; first | rfl | exact ⟨rfl, rfl⟩)) rfl (HPO.out (⟨2, inc, runs, since, times, due, armed, rung, true, true⟩, 0) A3 c3' _ rfl ?_ ?_)
    · exact HT.out
    · repeat with_reducible first | exact Old.refl _ | assumption | refine Old.setCell ?_ (by first | omega | (simp <;> omega)) _ | refine Old.drewN ?_ _ | refine Old.alloc ?_ _ | refine Old.drew ?_
  have n2 : (ph == 2) = false := by simpa using h2
  by_cases h3 : ph = 3
  · subst h3
    have HC := Lib.hid (fun W (h : Old wc W) => rstopQ ⟨nm, run, eA, env, ec, nA, needs, nc, hasR, rdyp, restart, base, cap, stable, burst, win, lA, lad, lc, line, col⟩ ⟨3, inc, runs, since, times, due, armed, rung, halt, again⟩ A' c' now W (HJ.out.up (hO.up h)) hn)
    have HME : Hid (Lf.restart (Jd.j ⟨nm, run, eA, env, ec, nA, needs, nc, hasR, rdyp, restart, base, cap, stable, burst, win, lA, lad, lc, line, col⟩) ⟨3, inc, runs, since, times, due, armed, rung, halt, again⟩ now = ((⟨(Lf.stop (Jd.j ⟨nm, run, eA, env, ec, nA, needs, nc, hasR, rdyp, restart, base, cap, stable, burst, win, lA, lad, lc, line, col⟩) ⟨3, inc, runs, since, times, due, armed, rung, halt, again⟩ now).1.ph, (Lf.stop (Jd.j ⟨nm, run, eA, env, ec, nA, needs, nc, hasR, rdyp, restart, base, cap, stable, burst, win, lA, lad, lc, line, col⟩) ⟨3, inc, runs, since, times, due, armed, rung, halt, again⟩ now).1.inc, (Lf.stop (Jd.j ⟨nm, run, eA, env, ec, nA, needs, nc, hasR, rdyp, restart, base, cap, stable, burst, win, lA, lad, lc, line, col⟩) ⟨3, inc, runs, since, times, due, armed, rung, halt, again⟩ now).1.runs, (Lf.stop (Jd.j ⟨nm, run, eA, env, ec, nA, needs, nc, hasR, rdyp, restart, base, cap, stable, burst, win, lA, lad, lc, line, col⟩) ⟨3, inc, runs, since, times, due, armed, rung, halt, again⟩ now).1.since, (Lf.stop (Jd.j ⟨nm, run, eA, env, ec, nA, needs, nc, hasR, rdyp, restart, base, cap, stable, burst, win, lA, lad, lc, line, col⟩) ⟨3, inc, runs, since, times, due, armed, rung, halt, again⟩ now).1.times, (Lf.stop (Jd.j ⟨nm, run, eA, env, ec, nA, needs, nc, hasR, rdyp, restart, base, cap, stable, burst, win, lA, lad, lc, line, col⟩) ⟨3, inc, runs, since, times, due, armed, rung, halt, again⟩ now).1.due, (Lf.stop (Jd.j ⟨nm, run, eA, env, ec, nA, needs, nc, hasR, rdyp, restart, base, cap, stable, burst, win, lA, lad, lc, line, col⟩) ⟨3, inc, runs, since, times, due, armed, rung, halt, again⟩ now).1.armed, (Lf.stop (Jd.j ⟨nm, run, eA, env, ec, nA, needs, nc, hasR, rdyp, restart, base, cap, stable, burst, win, lA, lad, lc, line, col⟩) ⟨3, inc, runs, since, times, due, armed, rung, halt, again⟩ now).1.rung, (Lf.stop (Jd.j ⟨nm, run, eA, env, ec, nA, needs, nc, hasR, rdyp, restart, base, cap, stable, burst, win, lA, lad, lc, line, col⟩) ⟨3, inc, runs, since, times, due, armed, rung, halt, again⟩ now).1.halt, true⟩ : Lf.T), (Lf.stop (Jd.j ⟨nm, run, eA, env, ec, nA, needs, nc, hasR, rdyp, restart, base, cap, stable, burst, win, lA, lad, lc, line, col⟩) ⟨3, inc, runs, since, times, due, armed, rung, halt, again⟩ now).2)) := Lib.hid rfl
    generalize Lf.stop (Jd.j ⟨nm, run, eA, env, ec, nA, needs, nc, hasR, rdyp, restart, base, cap, stable, burst, win, lA, lad, lc, line, col⟩) ⟨3, inc, runs, since, times, due, armed, rung, halt, again⟩ now = q at *
    obtain ⟨⟨ph', inc', runs', since', times', due', armed', rung', halt', again'⟩, s'⟩ := q
    unfold LqPi lfA jdA at HC
    simp only at HC HME
    go_wp2_with fail
    refine (HC.out _ (Old.refl _)).mono ?_; rintro e w3 ⟨A3, c3', rfl, ht3, hd3⟩
    have B2o := B2.out
    have B3o := B3.out
    have hOo := hO
    have B23 := Lib.hid (hd3.block B2o)
    have B33 := Lib.hid (hd3.block B3o)
    have hO3 := hOo.up hd3
    have HT := Lib.hid ((ht3).tn2 B23.out (by decide) B33.out (by decide))
    clear hd3 hO HC HTS B2 B3 hOo B2o B3o
    obtain ⟨⟨d0, d1, d2, d3, d4, d5, d6, d7, d8, d9⟩, g0, g1, g2, g3, g4, g5, g6, g7, g8, g9⟩ := row10 (((Old.refl w3).alloc (.cells #[.int .i64 ph', .int .i64 inc', .int .i64 runs', .int .u64 since', .slice A3 times'.length c3', .int .u64 due', .bool armed', .int .i64 rung', .bool halt', .bool true] 48)).block B33.out)
    clear B23 B33
    go_wp2_with fail
    refine bodyPost_ret (by first | (simp [results, Try.results35, go_sem, lfA, d0, d1, d2, d3, d4, d5, d6, d7, d8, d9]; done) | (simp [results, Try.results35, go_sem, lfA, d0, d1, d2, d3, d4, d5, d6, d7, d8, d9]; first | rfl | exact ⟨rfl, rfl⟩)) rfl (HPO.out (⟨ph', inc', runs', since', times', due', armed', rung', halt', true⟩, s') A3 c3' _ HME.out ?_ ?_)
    · exact HT.out
    · repeat with_reducible first | exact Old.refl _ | assumption | refine Old.setCell ?_ (by first | omega | (simp <;> omega)) _ | refine Old.drewN ?_ _ | refine Old.alloc ?_ _ | refine Old.drew ?_
  have n3 : (ph == 3) = false := by simpa using h3
  by_cases h4 : ph = 4
  · subst h4
    have HC := Lib.hid (fun W (h : Old wc W) => rstopQ ⟨nm, run, eA, env, ec, nA, needs, nc, hasR, rdyp, restart, base, cap, stable, burst, win, lA, lad, lc, line, col⟩ ⟨4, inc, runs, since, times, due, armed, rung, halt, again⟩ A' c' now W (HJ.out.up (hO.up h)) hn)
    have HME : Hid (Lf.restart (Jd.j ⟨nm, run, eA, env, ec, nA, needs, nc, hasR, rdyp, restart, base, cap, stable, burst, win, lA, lad, lc, line, col⟩) ⟨4, inc, runs, since, times, due, armed, rung, halt, again⟩ now = ((⟨(Lf.stop (Jd.j ⟨nm, run, eA, env, ec, nA, needs, nc, hasR, rdyp, restart, base, cap, stable, burst, win, lA, lad, lc, line, col⟩) ⟨4, inc, runs, since, times, due, armed, rung, halt, again⟩ now).1.ph, (Lf.stop (Jd.j ⟨nm, run, eA, env, ec, nA, needs, nc, hasR, rdyp, restart, base, cap, stable, burst, win, lA, lad, lc, line, col⟩) ⟨4, inc, runs, since, times, due, armed, rung, halt, again⟩ now).1.inc, (Lf.stop (Jd.j ⟨nm, run, eA, env, ec, nA, needs, nc, hasR, rdyp, restart, base, cap, stable, burst, win, lA, lad, lc, line, col⟩) ⟨4, inc, runs, since, times, due, armed, rung, halt, again⟩ now).1.runs, (Lf.stop (Jd.j ⟨nm, run, eA, env, ec, nA, needs, nc, hasR, rdyp, restart, base, cap, stable, burst, win, lA, lad, lc, line, col⟩) ⟨4, inc, runs, since, times, due, armed, rung, halt, again⟩ now).1.since, (Lf.stop (Jd.j ⟨nm, run, eA, env, ec, nA, needs, nc, hasR, rdyp, restart, base, cap, stable, burst, win, lA, lad, lc, line, col⟩) ⟨4, inc, runs, since, times, due, armed, rung, halt, again⟩ now).1.times, (Lf.stop (Jd.j ⟨nm, run, eA, env, ec, nA, needs, nc, hasR, rdyp, restart, base, cap, stable, burst, win, lA, lad, lc, line, col⟩) ⟨4, inc, runs, since, times, due, armed, rung, halt, again⟩ now).1.due, (Lf.stop (Jd.j ⟨nm, run, eA, env, ec, nA, needs, nc, hasR, rdyp, restart, base, cap, stable, burst, win, lA, lad, lc, line, col⟩) ⟨4, inc, runs, since, times, due, armed, rung, halt, again⟩ now).1.armed, (Lf.stop (Jd.j ⟨nm, run, eA, env, ec, nA, needs, nc, hasR, rdyp, restart, base, cap, stable, burst, win, lA, lad, lc, line, col⟩) ⟨4, inc, runs, since, times, due, armed, rung, halt, again⟩ now).1.rung, (Lf.stop (Jd.j ⟨nm, run, eA, env, ec, nA, needs, nc, hasR, rdyp, restart, base, cap, stable, burst, win, lA, lad, lc, line, col⟩) ⟨4, inc, runs, since, times, due, armed, rung, halt, again⟩ now).1.halt, true⟩ : Lf.T), (Lf.stop (Jd.j ⟨nm, run, eA, env, ec, nA, needs, nc, hasR, rdyp, restart, base, cap, stable, burst, win, lA, lad, lc, line, col⟩) ⟨4, inc, runs, since, times, due, armed, rung, halt, again⟩ now).2)) := Lib.hid rfl
    generalize Lf.stop (Jd.j ⟨nm, run, eA, env, ec, nA, needs, nc, hasR, rdyp, restart, base, cap, stable, burst, win, lA, lad, lc, line, col⟩) ⟨4, inc, runs, since, times, due, armed, rung, halt, again⟩ now = q at *
    obtain ⟨⟨ph', inc', runs', since', times', due', armed', rung', halt', again'⟩, s'⟩ := q
    unfold LqPi lfA jdA at HC
    simp only at HC HME
    go_wp2_with fail
    refine (HC.out _ (Old.refl _)).mono ?_; rintro e w3 ⟨A3, c3', rfl, ht3, hd3⟩
    have B2o := B2.out
    have B3o := B3.out
    have hOo := hO
    have B23 := Lib.hid (hd3.block B2o)
    have B33 := Lib.hid (hd3.block B3o)
    have hO3 := hOo.up hd3
    have HT := Lib.hid ((ht3).tn2 B23.out (by decide) B33.out (by decide))
    clear hd3 hO HC HTS B2 B3 hOo B2o B3o
    obtain ⟨⟨d0, d1, d2, d3, d4, d5, d6, d7, d8, d9⟩, g0, g1, g2, g3, g4, g5, g6, g7, g8, g9⟩ := row10 (((Old.refl w3).alloc (.cells #[.int .i64 ph', .int .i64 inc', .int .i64 runs', .int .u64 since', .slice A3 times'.length c3', .int .u64 due', .bool armed', .int .i64 rung', .bool halt', .bool true] 48)).block B33.out)
    clear B23 B33
    go_wp2_with fail
    refine bodyPost_ret (by first | (simp [results, Try.results35, go_sem, lfA, d0, d1, d2, d3, d4, d5, d6, d7, d8, d9]; done) | (simp [results, Try.results35, go_sem, lfA, d0, d1, d2, d3, d4, d5, d6, d7, d8, d9]; first | rfl | exact ⟨rfl, rfl⟩)) rfl (HPO.out (⟨ph', inc', runs', since', times', due', armed', rung', halt', true⟩, s') A3 c3' _ HME.out ?_ ?_)
    · exact HT.out
    · repeat with_reducible first | exact Old.refl _ | assumption | refine Old.setCell ?_ (by first | omega | (simp <;> omega)) _ | refine Old.drewN ?_ _ | refine Old.alloc ?_ _ | refine Old.drew ?_
  have n4 : (ph == 4) = false := by simpa using h4
  by_cases h6 : ph = 6
  · subst h6
    have HC := Lib.hid (fun W (ht : Tq A' A' (u64s times)) => rstartQ ⟨6, inc, runs, since, times, due, armed, rung, halt, true⟩ A' c' W)
    rw [show Lf.start ⟨6, inc, runs, since, times, due, armed, rung, halt, true⟩ = ⟨6, inc, runs, since, times, due, armed, rung, halt, true⟩ from rfl] at HC
    unfold LqP lfA at HC
    simp only at HC
    have B2o := (heap_setCell_same _ (w.heap.size + 1) 9 _ _ (.bool true) B2.out)
    have B3o := ((heap_setCell_other _ ⟨w.heap.size + 1, 9, none⟩ (w.heap.size + 1 + 1) (.bool true) (by simp)).trans B3.out)
    have hOo := (hO.setCell (p := ⟨w.heap.size + 1, 9, none⟩) (by simp only; omega) (.bool true))
    have hts3 := ((HTS.out.tn2 B2.out (by decide) B3.out (by decide)).set (k := w.heap.size + 1) (i := 9) (by simp) (.bool true)).ts
    go_wp2_with fail
    refine (HC.out _ hts3).mono ?_; rintro e w3 ⟨A3, c3', rfl, ht3, hd3⟩
    have B23 := Lib.hid (hd3.block B2o)
    have B33 := Lib.hid (hd3.block B3o)
    have hO3 := hOo.up hd3
    have HT := Lib.hid (ht3.tn2 B23.out (by decide) B33.out (by decide))
    clear hd3 hO HC HTS B2 B3 hOo B2o B3o ht3 hts3
    obtain ⟨⟨d0, d1, d2, d3, d4, d5, d6, d7, d8, d9⟩, g0, g1, g2, g3, g4, g5, g6, g7, g8, g9⟩ := row10 B33.out
    clear B23 B33
    go_wp2_with fail
    refine bodyPost_ret (by first | (simp [results, Try.results35, go_sem, lfA, d0, d1, d2, d3, d4, d5, d6, d7, d8, d9]; done) | (simp [results, Try.results35, go_sem, lfA, d0, d1, d2, d3, d4, d5, d6, d7, d8, d9]; first | rfl | exact ⟨rfl, rfl⟩)) rfl (HPO.out (⟨6, inc, runs, since, times, due, armed, rung, halt, true⟩, 0) A3 c3' _ rfl ?_ ?_)
    · exact HT.out
    · repeat with_reducible first | exact Old.refl _ | assumption | refine Old.setCell ?_ (by first | omega | (simp <;> omega)) _ | refine Old.drewN ?_ _ | refine Old.alloc ?_ _ | refine Old.drew ?_
  have n6 : (ph == 6) = false := by simpa using h6
  have HC := Lib.hid (fun W (h : Old wc W) => rstartQ ⟨ph, inc, runs, since, times, due, armed, rung, halt, again⟩ A' c' W)
  rw [show Lf.start ⟨ph, inc, runs, since, times, due, armed, rung, halt, again⟩ = ⟨ph, inc, runs, since, times, due, armed, rung, halt, again⟩ from (by unfold Lf.start; rw [if_neg (by simp only; omega)])] at HC
  have HME : Hid (Lf.restart (Jd.j ⟨nm, run, eA, env, ec, nA, needs, nc, hasR, rdyp, restart, base, cap, stable, burst, win, lA, lad, lc, line, col⟩) ⟨ph, inc, runs, since, times, due, armed, rung, halt, again⟩ now = (⟨ph, inc, runs, since, times, due, armed, rung, halt, again⟩, 0)) := Lib.hid (by show Lf.restart (Jd.j ⟨nm, run, eA, env, ec, nA, needs, nc, hasR, rdyp, restart, base, cap, stable, burst, win, lA, lad, lc, line, col⟩) ⟨ph, inc, runs, since, times, due, armed, rung, halt, again⟩ now = _; unfold Lf.restart; rw [if_neg (by simp only; omega), if_neg (by simp only; omega), if_neg (by simp only; omega), if_neg (by simp only; omega)]; unfold Lf.start; rw [if_neg (by simp only; omega)])
  unfold LqP lfA at HC
  simp only at HC
  go_wp2_with fail
  refine (HC.out _ (Old.refl _)).mono ?_; rintro e w3 ⟨A3, c3', rfl, ht3, hd3⟩
  have B23 := Lib.hid (hd3.block B2.out)
  have B33 := Lib.hid (hd3.block B3.out)
  have hO3 := hO.up hd3
  have HT := Lib.hid (ht3.tn2 B23.out (by decide) B33.out (by decide))
  clear hd3 hO HC HTS B2 B3 ht3
  obtain ⟨⟨d0, d1, d2, d3, d4, d5, d6, d7, d8, d9⟩, g0, g1, g2, g3, g4, g5, g6, g7, g8, g9⟩ := row10 B33.out
  clear B23 B33
  go_wp2_with fail
  refine bodyPost_ret (by first | (simp [results, Try.results35, go_sem, lfA, d0, d1, d2, d3, d4, d5, d6, d7, d8, d9]; done) | (simp [results, Try.results35, go_sem, lfA, d0, d1, d2, d3, d4, d5, d6, d7, d8, d9]; first | rfl | exact ⟨rfl, rfl⟩)) rfl (HPO.out (⟨ph, inc, runs, since, times, due, armed, rung, halt, again⟩, 0) A3 c3' _ HME.out ?_ ?_)
  · exact HT.out
  · repeat with_reducible first | exact Old.refl _ | assumption | refine Old.setCell ?_ (by first | omega | (simp <;> omega)) _ | refine Old.drewN ?_ _ | refine Old.alloc ?_ _ | refine Old.drew ?_
end Go.Proofs.Ytpknglclcdgfbaa
