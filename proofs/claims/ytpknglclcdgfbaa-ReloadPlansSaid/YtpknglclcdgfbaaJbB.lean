/-
  A job that is being made, in memory (mill.Job).
-/
import Derived.Test.YtpknglclcdgfbaaLfB
import Derived.Test.YtpknglclcdgfbaaMillC
namespace Go.Proofs.Ytpknglclcdgfbaa
open Go.RowKit Go.Shelf
set_option linter.unusedVariables false

def strsV (l : List ByteArray) : List Value := l.map Value.string
def varsV (l : List (ByteArray × ByteArray)) : List Value := l.flatMap fun p => [.string p.1, .string p.2]
def jdCells (x : Jd) : List Value := [.string x.nm, .string x.run, .slice x.eA x.env.length x.ec, .slice x.nA x.needs.length x.nc, .bool x.hasR, .string x.ready, .int .i64 x.restart, .int .u64 x.base, .int .u64 x.cap, .int .u64 x.stable, .int .i64 x.burst, .int .u64 x.win, .slice x.lA x.lad.length x.lc, .int .i64 x.line, .int .i64 x.col]
theorem jdO_eq (x : Jd) : jdO x = .cells (jdCells x).toArray 33 (0, 0) := rfl
def jd0 : Jd := ⟨⟨#[]⟩, ⟨#[]⟩, none, [], 0, none, [], 0, false, ⟨#[]⟩, 0, 0, 0, 0, 0, 0, none, [], 0, 0, 0⟩
/-- The rows of another element type stay when an own row is written. -/
theorem Own.keeps {w w' : World} {base : Nat} {e t : TypeId} {size n : Nat} {v : Value} {xs : List Value} {cs : Array Value} {fz : Nat × Nat} {k : Nat} (hown : Own w base e size v n xs) (hg : w.grownBy w' v.ownBlock) (hb : w.heap[k]? = some (.cells cs t fz)) (hne : e ≠ t) : w'.heap[k]? = some (.cells cs t fz) := by
  rw [hg.block k (lt_of_block hb) ?_]
  · exact hb
  · intro hk
    rcases hown with ⟨_, ⟨rfl, _⟩ | ⟨g, cap, cu, rfl, _, hgg, _⟩⟩
    · simp [Value.ownBlock] at hk
    · simp [Value.ownBlock] at hk
      subst hk
      rw [hb] at hgg
      simp at hgg
      exact hne hgg.2.1.symm
/-- The job in block k (its ladder apart), the result's block k6, the deck. -/
structure JC (w0 w : World) (B g k k6 : Nat) (l : List Int) (j : Jd) : Prop where
  gw : w0.grownBy w (some g)
  gl : g < w0.heap.size
  kk : w0.heap.size ≤ k
  row : w.heap[k]? = some (jdO j)
  k66 : w0.heap.size ≤ k6
  res : w.heap[k6]? = some (jdO jd0)
  ne : k6 ≠ k
  dk : Dk w B g l
  env : Ts w 85 j.eA (varsV j.env)
  needs : Own w w0.heap.size 9 1 (.slice j.nA j.needs.length j.nc) j.needs.length (strsV j.needs)
/-- The ladder, a row of the call's own. -/
def LO (w0 w : World) (v : Value) (l : List (Int × Int)) : Prop := Own w w0.heap.size 74 2 v l.length (rungs l)
theorem grown_trans {a b c : World} {row : Option Nat} (h : a.grownBy b row) (k : b.grownBy c row) : a.grownBy c row :=
  ⟨k.os.trans h.os, k.tape.trans h.tape, k.output.trans h.output, Nat.le_trans h.size k.size, fun i hi hr => (k.block i (Nat.lt_of_lt_of_le hi h.size) hr).trans (h.block i hi hr)⟩
theorem grown_far {a b c : World} {g : Nat} {row : Option Nat} (h : a.grownBy b (some g)) (k : b.grownBy c row) (hr : ∀ q, row = some q → a.heap.size ≤ q) : a.grownBy c (some g) :=
  ⟨k.os.trans h.os, k.tape.trans h.tape, k.output.trans h.output, Nat.le_trans h.size k.size, fun i hi hne => (k.block i (Nat.lt_of_lt_of_le hi h.size) (fun e => by have := hr i e.symm; omega)).trans (h.block i hi hne)⟩
theorem old_grown {a b : World} (h : Old a b) : a.grownBy b none := ⟨h.out.os, h.out.tape, h.out.output, h.out.size, fun k hk _ => h.out.block k hk⟩
section
variable {w0 w w' : World} {B g k k6 : Nat} {l l' : List Int} {j j' : Jd}
theorem JC.up (h : JC w0 w B g k k6 l j) (ho : Old w w') : JC w0 w' B g k k6 l j :=
  ⟨grown_far h.gw (old_grown ho) (fun q e => by cases e), h.gl, h.kk, ho.block h.row, h.k66, ho.block h.res, h.ne, h.dk.up ho, h.env.up ho, h.needs.up ho⟩
theorem JC.turn (h : JC w0 w B g k k6 l j) (hd : Dk w' B g l') (hg : w.grownBy w' (some g)) : JC w0 w' B g k k6 l' j :=
  ⟨grown_trans h.gw hg, h.gl, h.kk, (hg.block k (lt_of_block h.row) (fun e => by injection e with e; have := h.kk; have := h.gl; omega)).trans h.row, h.k66, (hg.block k6 (lt_of_block h.res) (fun e => by injection e with e; have := h.k66; have := h.gl; omega)).trans h.res, h.ne, hd, h.dk.ts hg h.env (by decide), h.dk.own hg h.needs (by decide)⟩
/-- A field is put in. -/
theorem JC.mk_ (gw : w0.grownBy w (some g)) (gl : g < w0.heap.size) (kk : w0.heap.size ≤ k) (row : w.heap[k]? = some (jdO j)) (k66 : w0.heap.size ≤ k6) (res : w.heap[k6]? = some (jdO jd0)) (ne : k6 ≠ k) (dk : Dk w B g l) (i : Nat) (v : Value) (hv : (jdCells j).set i v = jdCells j')
    (henv : Ts w 85 j'.eA (varsV j'.env)) (hneeds : Own w w0.heap.size 9 1 (.slice j'.nA j'.needs.length j'.nc) j'.needs.length (strsV j'.needs)) : JC w0 (w.setCell ⟨k, i, none⟩ v) B g k k6 l j' := by
  have hgr : w.grownBy (w.setCell ⟨k, i, none⟩ v) (some k) := ⟨rfl, rfl, rfl, by simp, fun q _ hq => heap_setCell_other w ⟨k, i, none⟩ q _ (fun e => hq (by simp [e]))⟩
  have hrow := heap_setCell_same w k i _ _ v (show w.heap[k]? = some (.cells (jdCells j).toArray 33 (0, 0)) from row)
  have hB := dk.1
  refine ⟨grown_far gw hgr (fun q e => by injection e with e; omega), gl, kk, ?_, k66, (heap_setCell_other w ⟨k, i, none⟩ k6 _ ne).trans res, ne, dk.far hgr (fun e => by injection e with e; omega) (fun q e => by injection e with e; omega), ?_, ?_⟩
  · rw [hrow, jdO_eq, ← hv]; simp
  · rcases henv with q | ⟨b, off, cur, fz, hA, hb, hc⟩
    · exact Or.inl q
    · refine Or.inr ⟨b, off, cur, fz, hA, (heap_setCell_other w ⟨k, i, none⟩ b _ (fun e => ?_)).trans hb, hc⟩
      subst e
      rw [show jdO j = .cells (jdCells j).toArray 33 (0, 0) from rfl, hb] at row
      simp at row
  · refine World.ownsRow.kept hneeds hgr ?_
    cases hv2 : (Value.slice j'.nA j'.needs.length j'.nc).ownBlock with
    | none => exact Or.inl rfl
    | some q =>
      refine Or.inr (fun e => ?_)
      injection e with e
      subst e
      rcases hneeds with ⟨_, ⟨e3, _⟩ | ⟨g3, cap, cu, e3, _, hgg, _⟩⟩
      · rw [e3] at hv2; simp [Value.ownBlock] at hv2
      · rw [e3] at hv2
        simp [Value.ownBlock] at hv2
        subst hv2
        rw [show jdO j = .cells (jdCells j).toArray 33 (0, 0) from rfl, hgg] at row
        simp at row
theorem JC.put (h : JC w0 w B g k k6 l j) (i : Nat) (v : Value) (hv : (jdCells j).set i v = jdCells j') (he : j'.eA = j.eA ∧ j'.env = j.env) (hn : j'.nA = j.nA ∧ j'.needs = j.needs ∧ j'.nc = j.nc) : JC w0 (w.setCell ⟨k, i, none⟩ v) B g k k6 l j' :=
  JC.mk_ h.gw h.gl h.kk h.row h.k66 h.res h.ne h.dk i v hv (by rw [he.1, he.2]; exact h.env) (by rw [hn.1, hn.2.1, hn.2.2]; exact h.needs)
theorem JC.putE (h : JC w0 w B g k k6 l j) {A : Option Addr} {c : Nat} {env : List (ByteArray × ByteArray)} (he : Ts w 85 A (varsV env)) : JC w0 (w.setCell ⟨k, 2, none⟩ (.slice A env.length c)) B g k k6 l { j with eA := A, env := env, ec := c } :=
  JC.mk_ h.gw h.gl h.kk h.row h.k66 h.res h.ne h.dk 2 _ rfl he h.needs
/-- One more is needed. -/
theorem JC.putN {v : Value} {s : ByteArray} (h : JC w0 w B g k k6 l j) (ho : Own w' w0.heap.size 9 1 v (j.needs.length + 1) (strsV j.needs ++ [.string s])) (hg : w.grownBy w' (Value.slice j.nA j.needs.length j.nc).ownBlock) :
    ∃ A c, v = .slice A (j.needs.length + 1) c ∧ JC w0 (w'.setCell ⟨k, 3, none⟩ v) B g k k6 l { j with nA := A, needs := j.needs ++ [s], nc := c } := by
  obtain ⟨A, c, rfl, _, _, _⟩ := ho.shape
  refine ⟨A, c, rfl, JC.mk_ (grown_far h.gw hg (fun q e => (World.ownsRow.lt h.needs q e).1)) h.gl h.kk (h.needs.keeps hg h.row (by decide)) h.k66 (h.needs.keeps hg h.res (by decide)) h.ne (h.dk.push h.needs (by decide) (by have := h.dk.1; have := h.gl; omega) hg) 3 _ ?_ (h.env.grown h.needs (by decide) hg) ?_⟩
  · simp [jdCells]
  · have e : strsV j.needs ++ [.string s] = strsV (j.needs ++ [s]) := by simp [strsV]
    rw [e] at ho
    simpa using ho
/-- An own row of rungs was written. -/
theorem JC.pushL (h : JC w0 w B g k k6 l j) {v : Value} {n : Nat} {xs : List Value} (ho : Own w w0.heap.size 74 2 v n xs) (hg : w.grownBy w' v.ownBlock) : JC w0 w' B g k k6 l j :=
  ⟨grown_far h.gw hg (fun q e => (World.ownsRow.lt ho q e).1), h.gl, h.kk, ho.keeps hg h.row (by decide), h.k66, ho.keeps hg h.res (by decide), h.ne, h.dk.push ho (by decide) (by have := h.dk.1; have := h.gl; omega) hg, h.env.grown ho (by decide) hg, h.needs.grown ho (by decide) hg⟩
theorem LO.up {v : Value} {r : List (Int × Int)} (h : LO w0 w v r) (ho : Old w w') : LO w0 w' v r := Own.up h ho
theorem LO.turn {v : Value} {r : List (Int × Int)} (h : LO w0 w v r) (hc : JC w0 w B g k k6 l j) (hg : w.grownBy w' (some g)) : LO w0 w' v r := hc.dk.own hg h (by decide)
theorem LO.put {v : Value} {r : List (Int × Int)} (h : LO w0 w v r) (hc : JC w0 w B g k k6 l j) (i : Nat) (u : Value) : LO w0 (w.setCell ⟨k, i, none⟩ u) v r := by
  have hgr : w.grownBy (w.setCell ⟨k, i, none⟩ u) (some k) := ⟨rfl, rfl, rfl, by simp, fun q _ hq => heap_setCell_other w ⟨k, i, none⟩ q _ (fun e => hq (by simp [e]))⟩
  refine World.ownsRow.kept h hgr ?_
  cases hv : v.ownBlock with
  | none => exact Or.inl rfl
  | some q =>
    refine Or.inr (fun e => ?_)
    injection e with e
    subst e
    rcases h with ⟨_, ⟨rfl, _⟩ | ⟨g3, cap, cu, rfl, _, hgg, _⟩⟩
    · simp [Value.ownBlock] at hv
    · simp [Value.ownBlock] at hv
      subst hv
      have := hc.row
      rw [show jdO j = .cells (jdCells j).toArray 33 (0, 0) from rfl, hgg] at this
      simp at this
theorem LO.pushN {r : List (Int × Int)} {v : Value} (h : LO w0 w v r) (hc : JC w0 w B g k k6 l j) (hg : w.grownBy w' (Value.slice j.nA j.needs.length j.nc).ownBlock) : LO w0 w' v r := Own.grown h hc.needs (by decide) hg
end
end Go.Proofs.Ytpknglclcdgfbaa
