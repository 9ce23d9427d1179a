/-
  The state of LifeWaits in memory.
-/
import Derived.Test.YtpknglclcdgfbaaLvH
import Derived.Test.YtpknglclcdgfbaaLfF
namespace Go.Proofs.Ytpknglclcdgfbaa
open Go.RowKit Go.Shelf
set_option linter.unusedVariables false

/-- The job as LifeWaits has it. -/
def Jd.wt (j : Jd) : Jd := { j with restart := 3, stable := 1099511627776 }
theorem set_g (w : World) (k i : Nat) (v : Value) : w.grownBy (w.setCell ⟨k, i, none⟩ v) (some k) :=
  ⟨rfl, rfl, rfl, by simp, fun q _ hq => heap_setCell_other w ⟨k, i, none⟩ q _ (fun e => hq (by simp [e]))⟩
theorem put10_grown (w : World) (k : Nat) (v0 v1 v2 v3 v4 v5 v6 v7 v8 v9 : Value) : w.grownBy (put10 w k v0 v1 v2 v3 v4 v5 v6 v7 v8 v9) (some k) :=
  grown_trans (grown_trans (grown_trans (grown_trans (grown_trans (grown_trans (grown_trans (grown_trans (grown_trans (set_g w k 0 v0) (set_g _ k 1 v1)) (set_g _ k 2 v2)) (set_g _ k 3 v3)) (set_g _ k 4 v4)) (set_g _ k 5 v5)) (set_g _ k 6 v6)) (set_g _ k 7 v7)) (set_g _ k 8 v8)) (set_g _ k 9 v9)
theorem row_turn {w w' : World} {B g : Nat} {l : List Int} {k : Nat} {cs : Array Value} {t : TypeId} {z : Nat × Nat} (hd : Dk w B g l) (hg : w.grownBy w' (some g)) (hk : w.heap[k]? = some (.cells cs t z)) (hne : 79 ≠ t) : w'.heap[k]? = some (.cells cs t z) := by
  obtain ⟨_, A, c, at_, full, h1, _⟩ := hd
  refine (hg.block k (lt_of_block hk) ?_).trans hk
  intro e
  injection e with e
  subst e
  rw [hk] at h1
  simp at h1
  exact hne h1.2.1.symm
theorem Ts.grown_far {w w' wb : World} {e e' : TypeId} {A : Option Addr} {xs : List Value} {base size n : Nat} {v : Value} {ys : List Value} (h : Ts w e A xs) (hown : Own wb base e' size v n ys)
    (hf : ∀ g off, A = some ⟨g, off, none⟩ → 0 < xs.length → wb.heap.size ≤ g) (hg : w.grownBy w' v.ownBlock) : Ts w' e A xs := by
  rcases h with rfl | ⟨b, off, cur, fz, rfl, hh, hc⟩
  · exact Ts.nil_
  · by_cases h0 : xs = []
    · subst h0; exact Ts.nil_
    · refine Or.inr ⟨b, off, cur, fz, rfl, ?_, hc⟩
      rw [hg.block b (lt_of_block hh) ?_]
      · exact hh
      · intro hk
        have h1 := hf b off rfl (List.length_pos_iff.mpr h0)
        have h2 := (World.ownsRow.lt hown b hk.symm).2
        omega
theorem u64s_len (l : List Int) : (u64s l).length = l.length := by simp [u64s]
/-- Everything that lasts through the rounds of LifeWaits. -/
structure WS (w : World) (jw : Jd) (B g kj k7 : Nat) (x : Lf.T) (A : Option Addr) (c : Nat) (vb : Value) (back : List Int) (dl : List Int) (wr : World) : Prop where
  b7 : wr.heap[k7]? = some (lfO x A c)
  bj : wr.heap[kj]? = some (jdO jw)
  ok : JdOk wr jw
  dk : Dk wr B g dl
  own : Own wr k7 30 1 vb back.length (u64s back)
  old : Old w wr
  gl : w.heap.size ≤ g
  b7l : w.heap.size ≤ k7
  bB : B ≤ k7
section
variable {w wr w' : World} {jw : Jd} {B g kj k7 c : Nat} {x : Lf.T} {A : Option Addr} {vb : Value} {back dl : List Int}
theorem WS.up (h : WS w jw B g kj k7 x A c vb back dl wr) (ho : Old wr w') : WS w jw B g kj k7 x A c vb back dl w' :=
  ⟨ho.block h.b7, ho.block h.bj, h.ok.up ho, h.dk.up ho, h.own.up ho, h.old.up ho, h.gl, h.b7l, h.bB⟩
theorem WS.turn {dl' : List Int} (h : WS w jw B g kj k7 x A c vb back dl wr) (hd : Dk w' B g dl') (hg : wr.grownBy w' (some g)) : WS w jw B g kj k7 x A c vb back dl' w' :=
  ⟨row_turn h.dk hg h.b7 (by decide), row_turn h.dk hg h.bj (by decide), ⟨h.dk.ts hg h.ok.lad (by decide), h.ok.few, h.ok.ok, h.ok.base, h.ok.cap, h.ok.stable, h.ok.win⟩, hd, h.dk.own hg h.own (by decide), Dk.old h.old hg h.gl, h.gl, h.b7l, h.bB⟩
theorem WS.put {k : Nat} {v0 v1 v2 v3 v4 v5 v6 v7 v8 v9 : Value} {c1 : Array Value} {z1 : Nat × Nat} (h : WS w jw B g kj k7 x A c vb back dl wr) (hk : wr.heap[k]? = some (.cells c1 48 z1)) (ne : k7 ≠ k) (hl : k7 ≤ k) :
    WS w jw B g kj k7 x A c vb back dl (put10 wr k v0 v1 v2 v3 v4 v5 v6 v7 v8 v9) := by
  have hg := put10_grown wr k v0 v1 v2 v3 v4 v5 v6 v7 v8 v9
  have hbl := h.b7l
  have hB := h.bB
  have hj : kj ≠ k := fun e => by have := h.bj; rw [e, hk] at this; simp [jdO] at this
  have hgk : g ≠ k := fun e => by obtain ⟨_, A, c, at_, full, h1, _⟩ := h.dk; rw [e, hk] at h1; simp at h1
  refine ⟨(put10_other ne).trans h.b7, (put10_other hj).trans h.bj, h.ok.put10 hk (by decide), h.dk.far hg (fun e => hgk (by injection e with e; exact e.symm)) (fun q e => by injection e with e; omega), ?_, put10_old h.old (by omega), h.gl, h.b7l, h.bB⟩
  refine World.ownsRow.kept h.own hg ?_
  rcases h.own with ⟨_, ⟨rfl, _⟩ | ⟨g', cap, cu, rfl, _, hgg, _⟩⟩
  · exact Or.inl rfl
  · refine Or.inr ?_
    simp [Value.ownBlock]
    intro e
    subst e
    rw [hk] at hgg
    simp at hgg
theorem WS.push {v' : Value} {now : Int} (h : WS w jw B g kj k7 x A c vb back dl wr) (ho : Own w' k7 30 1 v' (back.length + 1) (u64s back ++ [.int .u64 now])) (hg : wr.grownBy w' vb.ownBlock) : WS w jw B g kj k7 x A c v' (back ++ [now]) dl w' :=
  ⟨h.own.keeps hg h.b7 (by decide), h.own.keeps hg h.bj (by decide), ⟨h.ok.lad.grown h.own (by decide) hg, h.ok.few, h.ok.ok, h.ok.base, h.ok.cap, h.ok.stable, h.ok.win⟩, h.dk.push h.own (by decide) h.bB hg, by rw [List.length_append]; simpa [u64s] using ho, Own.grown_old h.old h.own h.b7l hg, h.gl, h.b7l, h.bB⟩
theorem WS.put7 {y : Lf.T} {Ay : Option Addr} {cy : Nat} (h : WS w jw B g kj k7 x A c vb back dl wr) :
    WS w jw B g kj k7 y Ay cy vb back dl (put10 wr k7 (.int .i64 y.ph) (.int .i64 y.inc) (.int .i64 y.runs) (.int .u64 y.since) (.slice Ay y.times.length cy) (.int .u64 y.due) (.bool y.armed) (.int .i64 y.rung) (.bool y.halt) (.bool y.again)) := by
  have hk : wr.heap[k7]? = some (.cells _ 48 (0, 0)) := h.b7
  have hg := put10_grown wr k7 (.int .i64 y.ph) (.int .i64 y.inc) (.int .i64 y.runs) (.int .u64 y.since) (.slice Ay y.times.length cy) (.int .u64 y.due) (.bool y.armed) (.int .i64 y.rung) (.bool y.halt) (.bool y.again)
  have hbl := h.b7l
  have hB := h.bB
  have hj : kj ≠ k7 := fun e => by have := h.bj; rw [e, hk] at this; simp [jdO] at this
  have hgk : g ≠ k7 := fun e => by obtain ⟨_, A, c, at_, full, h1, _⟩ := h.dk; rw [e, hk] at h1; simp at h1
  refine ⟨put10_row h.b7, (put10_other hj).trans h.bj, h.ok.put10 hk (by decide), h.dk.far hg (fun e => hgk (by injection e with e; exact e.symm)) (fun q e => by injection e with e; omega), ?_, put10_old h.old (by omega), h.gl, h.b7l, h.bB⟩
  refine World.ownsRow.kept h.own hg ?_
  rcases h.own with ⟨_, ⟨rfl, _⟩ | ⟨g', cap, cu, rfl, _, hgg, _⟩⟩
  · exact Or.inl rfl
  · refine Or.inr ?_
    simp [Value.ownBlock]
    intro e
    subst e
    rw [hk] at hgg
    simp at hgg
end
end Go.Proofs.Ytpknglclcdgfbaa
