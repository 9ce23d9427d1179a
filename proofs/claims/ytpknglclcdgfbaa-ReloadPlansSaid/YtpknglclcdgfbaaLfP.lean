/-
  The plain functions behind package life and its reference. No program in sight.
-/
import Derived.Test.YtpknglclcdgfbaaLadderP
import Derived.Test.YtpknglclcdgfbaaBurstP
import Derived.RowKit
namespace Go.Proofs.Ytpknglclcdgfbaa
open Go.RowKit
set_option linter.unusedVariables false
namespace Lf
/-- A life. -/
structure T where
  ph : Int
  inc : Int
  runs : Int
  since : Int
  times : List Int
  due : Int
  armed : Bool
  rung : Int
  halt : Bool
  again : Bool
/-- What of a job counts for its life. -/
structure J where
  restart : Int
  base : Int
  cap : Int
  stable : Int
  burst : Int
  win : Int
  lad : List (Int × Int)
def new : T := ⟨1, 0, 0, 0, [], 0, false, 0, false, false⟩
def live (x : T) : Bool := decide (x.ph = 2 ∨ x.ph = 3 ∨ x.ph = 4 ∨ x.ph = 6)
def rest (x : T) (p : Int) : T := { x with ph := p, due := 0, rung := 0, armed := false, halt := false, again := false }
def spawn (x : T) : T × Bool := if x.ph = 1 then ({ x with ph := 2, inc := wrap64 (x.inc + 1) }, true) else (x, false)
def ended (x : T) : T := if x.again = true then rest { x with runs := 0 } 1 else rest x 9
def climb (j : J) (x : T) (now : Int) : T × Int :=
  let r := Ld.next j.lad x.rung now
  ({ x with due := r.2.1, armed := r.2.2, rung := wrap64 (x.rung + 1) }, r.1)
def halt_ (j : J) (x : T) (now : Int) : T × Int := climb j { x with ph := 6, rung := 0 } now
def over (j : J) (x : T) (now jit : Int) : T × Bool :=
  let r := Bu.allow x.times j.burst now j.win
  if r.2 = true then ({ x with times := r.1, ph := 5, due := Tk.add now (Tk.delay j.base j.cap x.runs jit), runs := wrap64 (x.runs + 1) }, true)
  else (rest { x with times := r.1 } 8, false)
def unb (j : J) (x : T) (now jit : Int) : T × Bool := if x.halt = true then (ended x, false) else if j.restart = 1 then (rest x 8, false) else over j x now jit
def spawned (j : J) (x : T) (ok ready : Bool) (now jit : Int) : T × Int × Bool :=
  if x.ph ≠ 2 then (x, 0, false)
  else if ok = false then
    if x.halt = true then (ended x, 0, false)
    else if j.restart = 1 then (rest x 8, 0, false)
    else ((over j x now jit).1, 0, (over j x now jit).2)
  else if x.halt = true then ((halt_ j { x with since := now } now).1, (halt_ j { x with since := now } now).2, false)
  else ({ x with since := now, ph := if ready = true then 4 else 3 }, 0, false)
def matched (x : T) : T := if x.ph = 3 then { x with ph := 4 } else x
def exit (j : J) (x : T) (code now jit : Int) : T × Bool :=
  if x.ph = 3 ∨ x.ph = 4 then
    let y : T := if j.stable ≤ Tk.sub now x.since then { x with runs := 0 } else x
    if j.restart = 3 ∨ j.restart = 2 ∧ code ≠ 0 then over j y now jit
    else if code = 0 then (rest y 7, false) else (rest y 8, false)
  else if x.ph = 6 then (ended x, false)
  else (x, false)
def fire (j : J) (x : T) : T × Int :=
  if x.ph = 5 then (rest x 1, 0)
  else if x.ph = 6 ∧ x.armed = true then climb j x x.due
  else (x, 0)
def start (x : T) : T := if x.ph = 7 ∨ x.ph = 8 ∨ x.ph = 9 then { rest x 1 with runs := 0, times := [] } else x
def stop (j : J) (x : T) (now : Int) : T × Int :=
  if x.ph = 1 ∨ x.ph = 5 then (rest x 9, 0)
  else if x.ph = 2 then ({ x with halt := true, again := false }, 0)
  else if x.ph = 6 then ({ x with again := false }, 0)
  else if x.ph = 3 ∨ x.ph = 4 then halt_ j { x with again := false } now
  else (x, 0)
def restart (j : J) (x : T) (now : Int) : T × Int :=
  if x.ph = 5 then (rest x 1, 0)
  else if x.ph = 2 then ({ x with halt := true, again := true }, 0)
  else if x.ph = 6 then ({ x with again := true }, 0)
  else if x.ph = 3 ∨ x.ph = 4 then halt_ j { x with again := true } now
  else (start x, 0)
theorem spawned_no {j : J} {x : T} {ready : Bool} {now jit : Int} (h : x.ph = 2) : spawned j x false ready now jit = ((unb j x now jit).1, 0, (unb j x now jit).2) := by
  unfold spawned unb
  rw [if_neg (by simp [h]), if_pos rfl]
  split
  · rfl
  · split <;> rfl
theorem exit_run {j : J} {x : T} {code now jit : Int} (h : x.ph = 3 ∨ x.ph = 4) : exit j x code now jit = if j.restart = 3 ∨ j.restart = 2 ∧ code ≠ 0 then over j { x with runs := if j.stable ≤ Tk.sub now x.since then 0 else x.runs } now jit
    else if code = 0 then (rest { x with runs := if j.stable ≤ Tk.sub now x.since then 0 else x.runs } 7, false) else (rest { x with runs := if j.stable ≤ Tk.sub now x.since then 0 else x.runs } 8, false) := by
  unfold exit
  rw [if_pos h]
  simp only
  have e : (if j.stable ≤ Tk.sub now x.since then { x with runs := 0 } else x) = { x with runs := if j.stable ≤ Tk.sub now x.since then 0 else x.runs } := by split <;> rfl
  rw [e]
/-- The numbers are of their kinds. -/
def Ok (x : T) : Prop := Tk.U x.since ∧ Tk.U x.due ∧ ∀ t ∈ x.times, Tk.U t
theorem U0 : Tk.U 0 := ⟨by decide, by decide⟩
theorem ok_new : Ok new := ⟨U0, U0, fun t h => by cases h⟩
theorem ok_rest {x : T} (h : Ok x) (p : Int) : Ok (rest x p) := ⟨h.1, U0, h.2.2⟩
theorem ok_spawn {x : T} (h : Ok x) : Ok (spawn x).1 := by unfold spawn; split <;> exact h
theorem ok_ended {x : T} (h : Ok x) : Ok (ended x) := by unfold ended; split <;> exact ⟨h.1, U0, h.2.2⟩
theorem ok_climb {j : J} {x : T} {now : Int} (h : Ok x) (hj : Ld.Ok j.lad) (hn : Tk.U now) : Ok (climb j x now).1 := ⟨h.1, Ld.U_next hj _ hn, h.2.2⟩
theorem ok_halt {j : J} {x : T} {now : Int} (h : Ok x) (hj : Ld.Ok j.lad) (hn : Tk.U now) : Ok (halt_ j x now).1 := ok_climb (x := { x with ph := 6, rung := 0 }) h hj hn
theorem ok_over {j : J} {x : T} {now jit : Int} (h : Ok x) (hb : Tk.U j.base) (hc : Tk.U j.cap) (hn : Tk.U now) (hi : Tk.U jit) : Ok (over j x now jit).1 := by
  unfold over
  have h1 := Bu.allow_U h.2.2 (most := j.burst) (win := j.win) hn
  simp only
  split
  · exact ⟨h.1, Tk.U_add hn (Tk.U_delay _ hb hc hi), h1⟩
  · exact ⟨h.1, U0, h1⟩
theorem ok_spawned {j : J} {x : T} {ok ready : Bool} {now jit : Int} (h : Ok x) (hj : Ld.Ok j.lad) (hb : Tk.U j.base) (hc : Tk.U j.cap) (hn : Tk.U now) (hi : Tk.U jit) : Ok (spawned j x ok ready now jit).1 := by
  unfold spawned
  split
  · exact h
  · split
    · split
      · exact ok_ended h
      · split
        · exact ok_rest h _
        · exact ok_over h hb hc hn hi
    · split
      · exact ok_halt (x := { x with since := now }) ⟨hn, h.2⟩ hj hn
      · exact ⟨hn, h.2⟩
theorem ok_matched {x : T} (h : Ok x) : Ok (matched x) := by unfold matched; split <;> exact h
theorem ok_exit {j : J} {x : T} {code now jit : Int} (h : Ok x) (hb : Tk.U j.base) (hc : Tk.U j.cap) (hn : Tk.U now) (hi : Tk.U jit) : Ok (exit j x code now jit).1 := by
  unfold exit
  have hy : Ok (if j.stable ≤ Tk.sub now x.since then { x with runs := 0 } else x) := by split <;> exact h
  split
  · simp only
    split
    · exact ok_over hy hb hc hn hi
    · split <;> exact ok_rest hy _
  · split
    · exact ok_ended h
    · exact h
theorem ok_fire {j : J} {x : T} (h : Ok x) (hj : Ld.Ok j.lad) : Ok (fire j x).1 := by
  unfold fire
  split
  · exact ok_rest h _
  · split
    · exact ok_climb h hj h.2.1
    · exact h
theorem ok_start {x : T} (h : Ok x) : Ok (start x) := by
  unfold start
  split
  · exact ⟨h.1, U0, fun t ht => by cases ht⟩
  · exact h
theorem ok_stop {j : J} {x : T} {now : Int} (h : Ok x) (hj : Ld.Ok j.lad) (hn : Tk.U now) : Ok (stop j x now).1 := by
  unfold stop
  split
  · exact ok_rest h _
  · split
    · exact h
    · split
      · exact h
      · split
        · exact ok_halt (x := { x with again := false }) h hj hn
        · exact h
theorem ok_restart {j : J} {x : T} {now : Int} (h : Ok x) (hj : Ld.Ok j.lad) (hn : Tk.U now) : Ok (restart j x now).1 := by
  unfold restart
  split
  · exact ok_rest h _
  · split
    · exact h
    · split
      · exact h
      · split
        · exact ok_halt (x := { x with again := true }) h hj hn
        · exact ok_start h
/-! ### how many times are kept -/
theorem len_over (j : J) (x : T) (now jit : Int) : (over j x now jit).1.times.length ≤ x.times.length + 1 := by
  have := Bu.allow_le x.times j.burst now j.win
  unfold over
  simp only
  split <;> exact this
theorem len_ended (x : T) : (ended x).times = x.times := by unfold ended; split <;> rfl
theorem len_spawn (x : T) : (spawn x).1.times = x.times := by unfold spawn; split <;> rfl
theorem len_spawned (j : J) (x : T) (ok ready : Bool) (now jit : Int) : (spawned j x ok ready now jit).1.times.length ≤ x.times.length + 1 := by
  have h := len_over j x now jit
  unfold spawned
  split
  · exact Nat.le_succ _
  · split
    · split
      · rw [len_ended]; exact Nat.le_succ _
      · split
        · exact Nat.le_succ _
        · exact h
    · split <;> exact Nat.le_succ _
theorem len_matched (x : T) : (matched x).times = x.times := by unfold matched; split <;> rfl
theorem len_exit (j : J) (x : T) (code now jit : Int) : (exit j x code now jit).1.times.length ≤ x.times.length + 1 := by
  have h0 := len_over j x now jit
  have h1 := len_over j { x with runs := 0 } now jit
  unfold exit
  split
  · simp only
    split
    · split
      · exact h1
      · exact h0
    · split <;> split <;> exact Nat.le_succ _
  · split
    · rw [len_ended]; exact Nat.le_succ _
    · exact Nat.le_succ _
theorem len_fire (j : J) (x : T) : (fire j x).1.times = x.times := by unfold fire; split <;> (try split) <;> rfl
theorem len_start (x : T) : (start x).times.length ≤ x.times.length := by unfold start; split <;> simp
theorem len_stop (j : J) (x : T) (now : Int) : (stop j x now).1.times = x.times := by unfold stop; split <;> (try split) <;> (try split) <;> (try split) <;> rfl
theorem len_restart (j : J) (x : T) (now : Int) : (restart j x now).1.times.length ≤ x.times.length := by
  have := len_start x
  unfold restart; split <;> (try split) <;> (try split) <;> (try split) <;> first | exact this | exact Nat.le_refl _
/-! ### LifeClimbs -/
/-- What the life is after i further signals. -/
def clim (l : List (Int × Int)) (now : Int) (i : Nat) : T := ⟨6, 1, 0, now, [], (Ld.upTo l now (i + 1)).2, decide ((i : Int) < l.length), (i : Int) + 1, false, false⟩
def sig (l : List (Int × Int)) (now : Int) (i : Nat) : Int := (Ld.next l i (Ld.upTo l now i).2).1
theorem up_new (j : J) (now : Int) : spawned j (spawn new).1 true true now 0 = (⟨4, 1, 0, now, [], 0, false, 0, false, false⟩, 0, false) := rfl
theorem clim_zero (j : J) (now : Int) (h : j.lad.length ≤ 1000) : stop j ⟨4, 1, 0, now, [], 0, false, 0, false, false⟩ now = (clim j.lad now 0, sig j.lad now 0) := by
  have e := Ld.next_eq j.lad now 0 (Nat.zero_le _)
  have e1 : (Ld.upTo j.lad now 0).2 = now := rfl
  rw [e1] at e
  unfold stop halt_ climb clim sig
  simp only
  rw [if_neg (by decide), if_neg (by decide), if_neg (by decide), if_pos (by decide)]
  rw [show ((0 : Nat) : Int) = 0 from rfl] at e ⊢
  rw [e, e1]
  rfl
theorem clim_succ (j : J) (now : Int) (i : Nat) (h : j.lad.length ≤ 1000) (hi : i < j.lad.length) : fire j (clim j.lad now i) = (clim j.lad now (i + 1), sig j.lad now (i + 1)) := by
  have e := Ld.next_eq j.lad now (i + 1) hi
  unfold fire climb
  rw [if_neg (by show ¬ (6 : Int) = 5; decide), if_pos ⟨rfl, by show decide _ = true; rw [decide_eq_true_iff]; omega⟩]
  have e2 : (clim j.lad now i).rung = ((i + 1 : Nat) : Int) := by show (i : Int) + 1 = _; omega
  have e3 : (clim j.lad now i).due = (Ld.upTo j.lad now (i + 1)).2 := rfl
  rw [e2, e3, e]
  have e4 : wrap64 (((i + 1 : Nat) : Int) + 1) = ((i + 1 : Nat) : Int) + 1 := (by unfold wrap64; omega)
  rw [e4]
  rfl
theorem clim_end (j : J) (now : Int) : fire j (clim j.lad now j.lad.length) = (clim j.lad now j.lad.length, 0) := by
  unfold fire
  rw [if_neg (by show ¬ (6 : Int) = 5; decide), if_neg (fun h => by have := h.2; have h2 : decide ((j.lad.length : Int) < j.lad.length) = true := this; rw [decide_eq_true_iff] at h2; omega)]
theorem clim_exit (j : J) (now : Int) (i : Nat) : exit j (clim j.lad now i) 0 now 0 = (rest (clim j.lad now i) 9, false) := by
  unfold exit
  rw [if_neg (by show ¬ ((6 : Int) = 3 ∨ (6 : Int) = 4); decide), if_pos (by show (6 : Int) = 6; rfl)]
  rfl
/-! ### LifeWaits -/
theorem sub_mono {a b c : Int} (h : a ≤ b) : Tk.sub a c ≤ Tk.sub b c := by unfold Tk.sub; split <;> split <;> omega
theorem trim_trim (l : List Int) {a b win : Int} (h : a ≤ b) : Bu.trim (Bu.trim l a win) b win = Bu.trim l b win := by
  unfold Bu.trim
  rw [List.filter_filter]
  congr 1
  funext x
  by_cases hx : Tk.sub b x < win
  · have := sub_mono (c := x) h
    simp [hx]; omega
  · simp [hx]
theorem trim_app (l m : List Int) (a win : Int) : Bu.trim (l ++ m) a win = Bu.trim l a win ++ Bu.trim m a win := by unfold Bu.trim; rw [List.filter_append]
/-- What is kept of the restarts, and all of them: the same ones count. -/
def Keeps (l b : List Int) (now win : Int) : Prop := ∀ t, now ≤ t → Bu.trim l t win = Bu.trim b t win
theorem Keeps.next {l b : List Int} {now now' win : Int} (h : Keeps l b now win) (hn : now ≤ now') : Keeps (Bu.trim l now' win ++ [now']) (b ++ [now']) now' win := fun t ht => by
  rw [trim_app, trim_app, trim_trim l ht, h t (by omega)]
theorem Keeps.mono {l b : List Int} {now now' win : Int} (h : Keeps l b now win) (hn : now ≤ now') : Keeps l b now' win := fun t ht => h t (by omega)
/-- A life that waits to be spawned, k times spawned before. -/
def wt (k : Nat) (since : Int) (l : List Int) : T := ⟨1, k, k, since, l, 0, false, 0, false, false⟩
theorem wt_spawn {k : Nat} (hk : k < 1000) (since : Int) (l : List Int) : spawn (wt k since l) = (⟨2, k + 1, k, since, l, 0, false, 0, false, false⟩, true) := by
  unfold spawn
  rw [if_pos (show (wt k since l).ph = 1 from rfl)]
  have e : wrap64 ((wt k since l).inc + 1) = (k : Int) + 1 := (by show wrap64 ((k : Int) + 1) = _; unfold wrap64; omega)
  rw [e]
  rfl
theorem wt_spawned (j : J) (k : Nat) (since : Int) (l : List Int) (now : Int) : spawned j ⟨2, k + 1, k, since, l, 0, false, 0, false, false⟩ true true now 0 = (⟨4, k + 1, k, now, l, 0, false, 0, false, false⟩, 0, false) := rfl
theorem wt_exit {j : J} {k : Nat} (hk : k < 1000) {now now' jit : Int} {l : List Int} (hr : j.restart = 3) (hs : j.stable = 1099511627776) (hn : now ≤ now') (hn' : now' ≤ now + 1000) :
    exit j ⟨4, k + 1, k, now, l, 0, false, 0, false, false⟩ 1 now' jit =
      if (Bu.allow l j.burst now' j.win).2 = true then (⟨5, k + 1, k + 1, now, (Bu.allow l j.burst now' j.win).1, Tk.add now' (Tk.delay j.base j.cap k jit), false, 0, false, false⟩, true)
      else (⟨8, k + 1, k, now, (Bu.allow l j.burst now' j.win).1, 0, false, 0, false, false⟩, false) := by
  unfold exit
  rw [if_pos (show (4 : Int) = 3 ∨ (4 : Int) = 4 from Or.inr rfl)]
  simp only
  rw [if_pos (Or.inl hr), if_neg (by rw [hs]; unfold Tk.sub; split <;> omega)]
  unfold over
  simp only
  have e : wrap64 ((k : Int) + 1) = (k : Int) + 1 := (by unfold wrap64; omega)
  rw [e]
  rfl
theorem wt_fire (j : J) (k : Nat) (now : Int) (l : List Int) (due : Int) : fire j ⟨5, k + 1, k + 1, now, l, due, false, 0, false, false⟩ = (wt (k + 1) now l, 0) := by
  unfold fire
  rw [if_pos (show (5 : Int) = 5 from rfl)]
  unfold rest wt
  simp
theorem due_bd {now base cap jit : Int} {n : Int} (hb : 0 ≤ base ∧ base ≤ 5) (hc : 0 ≤ cap ∧ cap ≤ 24) (hj : 0 ≤ jit ∧ jit ≤ 8) (hn : 0 ≤ now ∧ now ≤ 100000) : now ≤ Tk.add now (Tk.delay base cap n jit) ∧ Tk.add now (Tk.delay base cap n jit) ≤ now + 32 := by
  have ub : Tk.U base := ⟨hb.1, by omega⟩
  have uc : Tk.U cap := ⟨hc.1, by omega⟩
  have uj : Tk.U jit := ⟨hj.1, by omega⟩
  have h1 := (Tk.U_dbl n ub).1
  have h2 : 0 ≤ Tk.low cap (Tk.dbl base n) ∧ Tk.low cap (Tk.dbl base n) ≤ 24 := by unfold Tk.low; split <;> omega
  have h3 : 0 ≤ Tk.delay base cap n jit ∧ Tk.delay base cap n jit ≤ 32 := by
    unfold Tk.delay
    unfold Tk.add
    split <;> omega
  unfold Tk.add
  split <;> omega
end Lf
end Go.Proofs.Ytpknglclcdgfbaa
