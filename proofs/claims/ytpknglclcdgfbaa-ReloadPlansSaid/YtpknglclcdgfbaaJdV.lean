/-
  A job's cells as one value; a whole struct that is stored.
-/
import Derived.Test.YtpknglclcdgfbaaJbB
import Derived.Laws.Tables
namespace Go.Proofs.Ytpknglclcdgfbaa
open Go.RowKit Go.Shelf
set_option linter.unusedVariables false

def jdV (j : Jd) : Array Value := #[.string j.nm, .string j.run, .slice j.eA j.env.length j.ec, .slice j.nA j.needs.length j.nc, .bool j.hasR, .string j.ready, .int .i64 j.restart, .int .u64 j.base, .int .u64 j.cap, .int .u64 j.stable, .int .i64 j.burst, .int .u64 j.win, .slice j.lA j.lad.length j.lc, .int .i64 j.line, .int .i64 j.col]
theorem jdV_one (j : Jd) : ∀ v ∈ (jdV j).toList, v.oneCell' = true := fun v hv => (Array.all_eq_true_iff_forall_mem.1 (show (jdV j).all (·.oneCell') = true by simp [jdV, Value.oneCell'])) v (by simpa using hv)
theorem setRow_grown (w : World) (k : Nat) (v : Array Value) : w.grownBy (w.setRow k v) (some k) := ⟨rfl, rfl, rfl, by simp, fun b _ hk => setRow_other w k b v (fun e => hk (by rw [e]))⟩
theorem setRow_ts {w : World} {e t : TypeId} {A : Option Addr} {xs : List Value} {k : Nat} {cs v : Array Value} {z : Nat × Nat} (h : Ts w e A xs) (hk : w.heap[k]? = some (.cells cs t z)) (hne : e ≠ t) : Ts (w.setRow k v) e A xs := by
  rcases h with q | ⟨b, off, cur, fz, hA, hb, hc⟩
  · exact Or.inl q
  · refine Or.inr ⟨b, off, cur, fz, hA, (setRow_other w k b v (fun e => ?_)).trans hb, hc⟩
    subst e
    rw [hb] at hk
    simp at hk
    exact hne hk.2.1
theorem row_turnJ {w w' : World} {B g : Nat} {l : List Int} {k : Nat} {cs : Array Value} {t : TypeId} {z : Nat × Nat} (hd : Dk w B g l) (hg : w.grownBy w' (some g)) (hk : w.heap[k]? = some (.cells cs t z)) (hne : 79 ≠ t) : w'.heap[k]? = some (.cells cs t z) := by
  obtain ⟨_, A, c, at_, full, h1, _⟩ := hd
  refine (hg.block k (lt_of_block hk) ?_).trans hk
  intro e
  injection e with e
  subst e
  rw [hk] at h1
  simp at h1
  exact hne h1.2.1.symm
end Go.Proofs.Ytpknglclcdgfbaa
