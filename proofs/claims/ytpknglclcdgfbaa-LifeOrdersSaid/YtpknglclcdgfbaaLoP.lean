/-
  What a life keeps to, whatever is done to it. No program in sight.
-/
import Derived.Test.YtpknglclcdgfbaaLfP
namespace Go.Proofs.Ytpknglclcdgfbaa
open Go.RowKit
set_option linter.unusedVariables false
namespace Lf
/-- The numbers are of their kinds, and there are at most n times. -/
def LB (x : T) (n : Nat) : Prop := Ok x ∧ x.runs ≤ 9223372036854775807 ∧ x.times.length ≤ n
theorem w64_le (y : Int) : wrap64 y ≤ 9223372036854775807 := by unfold wrap64; omega
variable {j : J} {x : T} {n : Nat} {now jit : Int}
theorem LB.mono {m : Nat} (h : LB x n) (hm : n ≤ m) : LB x m := ⟨h.1, h.2.1, Nat.le_trans h.2.2 hm⟩
theorem lb_new : LB new 0 := ⟨ok_new, by decide, Nat.le_refl _⟩
theorem lb_spawn (h : LB x n) : LB (spawn x).1 (n + 1) := ⟨ok_spawn h.1, by unfold spawn; split <;> exact h.2.1, by rw [len_spawn]; exact Nat.le_succ_of_le h.2.2⟩
theorem lb_matched (h : LB x n) : LB (matched x) (n + 1) := ⟨ok_matched h.1, by unfold matched; split <;> exact h.2.1, by rw [len_matched]; exact Nat.le_succ_of_le h.2.2⟩
theorem runs_ended (h : x.runs ≤ 9223372036854775807) : (ended x).runs ≤ 9223372036854775807 := by
  unfold ended
  split
  · show (0 : Int) ≤ _; decide
  · exact h
theorem runs_over (h : x.runs ≤ 9223372036854775807) : (over j x now jit).1.runs ≤ 9223372036854775807 := by
  unfold over
  simp only
  split
  · exact w64_le _
  · exact h
theorem lb_spawned {ok ready : Bool} (h : LB x n) (hj : Ld.Ok j.lad) (hb : Tk.U j.base) (hc : Tk.U j.cap) (hn : Tk.U now) (hi : Tk.U jit) : LB (spawned j x ok ready now jit).1 (n + 1) :=
  ⟨ok_spawned h.1 hj hb hc hn hi, by
    unfold spawned
    split
    · exact h.2.1
    · split
      · split
        · exact runs_ended h.2.1
        · split
          · exact h.2.1
          · exact runs_over h.2.1
      · split <;> exact h.2.1, Nat.le_trans (len_spawned j x ok ready now jit) (Nat.succ_le_succ h.2.2)⟩
theorem lb_exit {code : Int} (h : LB x n) (hb : Tk.U j.base) (hc : Tk.U j.cap) (hn : Tk.U now) (hi : Tk.U jit) : LB (exit j x code now jit).1 (n + 1) :=
  ⟨ok_exit h.1 hb hc hn hi, by
    have hy : (if j.stable ≤ Tk.sub now x.since then { x with runs := 0 } else x).runs ≤ 9223372036854775807 := by
      split
      · show (0 : Int) ≤ _; decide
      · exact h.2.1
    unfold exit
    split
    · simp only
      split
      · exact runs_over hy
      · split <;> exact hy
    · split
      · exact runs_ended h.2.1
      · exact h.2.1, Nat.le_trans (len_exit j x code now jit) (Nat.succ_le_succ h.2.2)⟩
theorem lb_fire (h : LB x n) (hj : Ld.Ok j.lad) : LB (fire j x).1 (n + 1) :=
  ⟨ok_fire h.1 hj, by unfold fire; split <;> (try split) <;> exact h.2.1, by rw [len_fire]; exact Nat.le_succ_of_le h.2.2⟩
theorem lb_start (h : LB x n) : LB (start x) (n + 1) :=
  ⟨ok_start h.1, by
    unfold start
    split
    · show (0 : Int) ≤ _; decide
    · exact h.2.1, Nat.le_trans (len_start x) (Nat.le_succ_of_le h.2.2)⟩
theorem lb_stop (h : LB x n) (hj : Ld.Ok j.lad) (hn : Tk.U now) : LB (stop j x now).1 (n + 1) :=
  ⟨ok_stop h.1 hj hn, by unfold stop; split <;> (try split) <;> (try split) <;> (try split) <;> exact h.2.1, by rw [len_stop]; exact Nat.le_succ_of_le h.2.2⟩
theorem lb_restart (h : LB x n) (hj : Ld.Ok j.lad) (hn : Tk.U now) : LB (restart j x now).1 (n + 1) :=
  ⟨ok_restart h.1 hj hn, by unfold restart; split <;> (try split) <;> (try split) <;> (try split) <;> first | exact h.2.1 | exact (lb_start h).2.1, Nat.le_trans (len_restart j x now) (Nat.le_succ_of_le h.2.2)⟩
end Lf
end Go.Proofs.Ytpknglclcdgfbaa
