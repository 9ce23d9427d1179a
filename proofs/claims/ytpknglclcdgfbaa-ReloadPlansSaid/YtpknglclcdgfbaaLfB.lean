/-
  Lives and jobs as values, and in memory.
-/
import Derived.Test.YtpknglclcdgfbaaLfP
import Derived.Test.YtpknglclcdgfbaaLdW
import Derived.Test.YtpknglclcdgfbaaBurstX
namespace Go.Proofs.Ytpknglclcdgfbaa
open Go.RowKit Go.Shelf
set_option linter.unusedVariables false

/-- A job: its data, and where its lists lie. -/
structure Jd where
  nm : ByteArray
  run : ByteArray
  eA : Option Addr
  env : List (ByteArray × ByteArray)
  ec : Nat
  nA : Option Addr
  needs : List ByteArray
  nc : Nat
  hasR : Bool
  ready : ByteArray
  restart : Int
  base : Int
  cap : Int
  stable : Int
  burst : Int
  win : Int
  lA : Option Addr
  lad : List (Int × Int)
  lc : Nat
  line : Int
  col : Int
def Jd.j (x : Jd) : Lf.J := ⟨x.restart, x.base, x.cap, x.stable, x.burst, x.win, x.lad⟩
def jdA (x : Jd) : Value := .agg #[.string x.nm, .string x.run, .slice x.eA x.env.length x.ec, .slice x.nA x.needs.length x.nc, .bool x.hasR, .string x.ready, .int .i64 x.restart, .int .u64 x.base, .int .u64 x.cap, .int .u64 x.stable, .int .i64 x.burst, .int .u64 x.win, .slice x.lA x.lad.length x.lc, .int .i64 x.line, .int .i64 x.col]
def lfA (x : Lf.T) (A : Option Addr) (c : Nat) : Value := .agg #[.int .i64 x.ph, .int .i64 x.inc, .int .i64 x.runs, .int .u64 x.since, .slice A x.times.length c, .int .u64 x.due, .bool x.armed, .int .i64 x.rung, .bool x.halt, .bool x.again]
/-- What the calls on lives ask of a job. -/
structure JdOk (w : World) (x : Jd) : Prop where
  lad : Ts w 74 x.lA (rungs x.lad)
  few : x.lad.length ≤ 1000
  ok : Ld.Ok x.lad
  base : Tk.U x.base
  cap : Tk.U x.cap
  stable : Tk.U x.stable
  win : Tk.U x.win
theorem JdOk.up {w w' : World} {x : Jd} (h : JdOk w x) (ho : Old w w') : JdOk w' x := ⟨h.lad.up ho, h.few, h.ok, h.base, h.cap, h.stable, h.win⟩
theorem JdOk.drewN {w : World} {x : Jd} (h : JdOk w x) (n : Nat) : JdOk (w.drewN n) x := ⟨h.lad, h.few, h.ok, h.base, h.cap, h.stable, h.win⟩
theorem row10 {w : World} {k : Nat} {v0 v1 v2 v3 v4 v5 v6 v7 v8 v9 : Value} {t : TypeId} (h : w.heap[k]? = some (.cells #[v0, v1, v2, v3, v4, v5, v6, v7, v8, v9] t (0, 0))) : (w.cell? ⟨k, 0, none⟩ = some v0 ∧ w.cell? ⟨k, 1, none⟩ = some v1 ∧ w.cell? ⟨k, 2, none⟩ = some v2 ∧ w.cell? ⟨k, 3, none⟩ = some v3 ∧ w.cell? ⟨k, 4, none⟩ = some v4 ∧ w.cell? ⟨k, 5, none⟩ = some v5 ∧ w.cell? ⟨k, 6, none⟩ = some v6 ∧ w.cell? ⟨k, 7, none⟩ = some v7 ∧ w.cell? ⟨k, 8, none⟩ = some v8 ∧ w.cell? ⟨k, 9, none⟩ = some v9) ∧ (w.frozen? ⟨k, 0, none⟩ = false ∧ w.frozen? ⟨k, 1, none⟩ = false ∧ w.frozen? ⟨k, 2, none⟩ = false ∧ w.frozen? ⟨k, 3, none⟩ = false ∧ w.frozen? ⟨k, 4, none⟩ = false ∧ w.frozen? ⟨k, 5, none⟩ = false ∧ w.frozen? ⟨k, 6, none⟩ = false ∧ w.frozen? ⟨k, 7, none⟩ = false ∧ w.frozen? ⟨k, 8, none⟩ = false ∧ w.frozen? ⟨k, 9, none⟩ = false) :=
  ⟨⟨(cell_of_row w k 0 _ _ _ h).trans rfl, (cell_of_row w k 1 _ _ _ h).trans rfl, (cell_of_row w k 2 _ _ _ h).trans rfl, (cell_of_row w k 3 _ _ _ h).trans rfl, (cell_of_row w k 4 _ _ _ h).trans rfl, (cell_of_row w k 5 _ _ _ h).trans rfl, (cell_of_row w k 6 _ _ _ h).trans rfl, (cell_of_row w k 7 _ _ _ h).trans rfl, (cell_of_row w k 8 _ _ _ h).trans rfl, (cell_of_row w k 9 _ _ _ h).trans rfl⟩, ⟨frozen_of_row w k 0 _ _ h, frozen_of_row w k 1 _ _ h, frozen_of_row w k 2 _ _ h, frozen_of_row w k 3 _ _ h, frozen_of_row w k 4 _ _ h, frozen_of_row w k 5 _ _ h, frozen_of_row w k 6 _ _ h, frozen_of_row w k 7 _ _ h, frozen_of_row w k 8 _ _ h, frozen_of_row w k 9 _ _ h⟩⟩
theorem row15 {w : World} {k : Nat} {v0 v1 v2 v3 v4 v5 v6 v7 v8 v9 v10 v11 v12 v13 v14 : Value} {t : TypeId} (h : w.heap[k]? = some (.cells #[v0, v1, v2, v3, v4, v5, v6, v7, v8, v9, v10, v11, v12, v13, v14] t (0, 0))) : (w.cell? ⟨k, 0, none⟩ = some v0 ∧ w.cell? ⟨k, 1, none⟩ = some v1 ∧ w.cell? ⟨k, 2, none⟩ = some v2 ∧ w.cell? ⟨k, 3, none⟩ = some v3 ∧ w.cell? ⟨k, 4, none⟩ = some v4 ∧ w.cell? ⟨k, 5, none⟩ = some v5 ∧ w.cell? ⟨k, 6, none⟩ = some v6 ∧ w.cell? ⟨k, 7, none⟩ = some v7 ∧ w.cell? ⟨k, 8, none⟩ = some v8 ∧ w.cell? ⟨k, 9, none⟩ = some v9 ∧ w.cell? ⟨k, 10, none⟩ = some v10 ∧ w.cell? ⟨k, 11, none⟩ = some v11 ∧ w.cell? ⟨k, 12, none⟩ = some v12 ∧ w.cell? ⟨k, 13, none⟩ = some v13 ∧ w.cell? ⟨k, 14, none⟩ = some v14) ∧ (w.frozen? ⟨k, 0, none⟩ = false ∧ w.frozen? ⟨k, 1, none⟩ = false ∧ w.frozen? ⟨k, 2, none⟩ = false ∧ w.frozen? ⟨k, 3, none⟩ = false ∧ w.frozen? ⟨k, 4, none⟩ = false ∧ w.frozen? ⟨k, 5, none⟩ = false ∧ w.frozen? ⟨k, 6, none⟩ = false ∧ w.frozen? ⟨k, 7, none⟩ = false ∧ w.frozen? ⟨k, 8, none⟩ = false ∧ w.frozen? ⟨k, 9, none⟩ = false ∧ w.frozen? ⟨k, 10, none⟩ = false ∧ w.frozen? ⟨k, 11, none⟩ = false ∧ w.frozen? ⟨k, 12, none⟩ = false ∧ w.frozen? ⟨k, 13, none⟩ = false ∧ w.frozen? ⟨k, 14, none⟩ = false) :=
  ⟨⟨(cell_of_row w k 0 _ _ _ h).trans rfl, (cell_of_row w k 1 _ _ _ h).trans rfl, (cell_of_row w k 2 _ _ _ h).trans rfl, (cell_of_row w k 3 _ _ _ h).trans rfl, (cell_of_row w k 4 _ _ _ h).trans rfl, (cell_of_row w k 5 _ _ _ h).trans rfl, (cell_of_row w k 6 _ _ _ h).trans rfl, (cell_of_row w k 7 _ _ _ h).trans rfl, (cell_of_row w k 8 _ _ _ h).trans rfl, (cell_of_row w k 9 _ _ _ h).trans rfl, (cell_of_row w k 10 _ _ _ h).trans rfl, (cell_of_row w k 11 _ _ _ h).trans rfl, (cell_of_row w k 12 _ _ _ h).trans rfl, (cell_of_row w k 13 _ _ _ h).trans rfl, (cell_of_row w k 14 _ _ _ h).trans rfl⟩, ⟨frozen_of_row w k 0 _ _ h, frozen_of_row w k 1 _ _ h, frozen_of_row w k 2 _ _ h, frozen_of_row w k 3 _ _ h, frozen_of_row w k 4 _ _ h, frozen_of_row w k 5 _ _ h, frozen_of_row w k 6 _ _ h, frozen_of_row w k 7 _ _ h, frozen_of_row w k 8 _ _ h, frozen_of_row w k 9 _ _ h, frozen_of_row w k 10 _ _ h, frozen_of_row w k 11 _ _ h, frozen_of_row w k 12 _ _ h, frozen_of_row w k 13 _ _ h, frozen_of_row w k 14 _ _ h⟩⟩
theorem two_ {w w2 : World} {o1 o2 : Obj} (h : Old ((w.alloc o1).alloc o2) w2) : w2.heap[w.heap.size]? = some o1 ∧ w2.heap[w.heap.size + 1]? = some o2 ∧ Old w w2 := by
  have a1 := ((Old.refl (w.alloc o1)).alloc o2).block (heap_alloc_new w o1)
  have a2 := heap_alloc_new (w.alloc o1) o2
  have e : (w.alloc o1).heap.size = w.heap.size + 1 := by simp
  rw [e] at a2
  exact ⟨h.block a1, h.block a2, (((Old.refl w).alloc _).alloc _).up h⟩
theorem three_ {w w2 : World} {o1 o2 o3 : Obj} (h : Old (((w.alloc o1).alloc o2).alloc o3) w2) : w2.heap[w.heap.size]? = some o1 ∧ w2.heap[w.heap.size + 1]? = some o2 ∧ w2.heap[w.heap.size + 1 + 1]? = some o3 ∧ Old w w2 := by
  have a3 := heap_alloc_new ((w.alloc o1).alloc o2) o3
  have e : ((w.alloc o1).alloc o2).heap.size = w.heap.size + 1 + 1 := by simp
  rw [e] at a3
  obtain ⟨b1, b2, b3⟩ := two_ (((Old.refl ((w.alloc o1).alloc o2)).alloc o3).up h)
  exact ⟨b1, b2, h.block a3, b3⟩
/-- A typed row that lies in none of some blocks. -/
def Tn (w : World) (e : TypeId) (A : Option Addr) (xs : List Value) (K : List Nat) : Prop :=
  xs = [] ∨ ∃ b off cur fz, A = some ⟨b, off, none⟩ ∧ b ∉ K ∧ w.heap[b]? = some (.cells cur e fz) ∧ ∀ j u, xs[j]? = some u → cur[off + j]? = some u
theorem Tn.ts {w : World} {e : TypeId} {A : Option Addr} {xs : List Value} {K : List Nat} (h : Tn w e A xs K) : Ts w e A xs := by
  rcases h with h | ⟨b, off, cur, fz, h1, _, h2, h3⟩
  · exact Or.inl h
  · exact Or.inr ⟨b, off, cur, fz, h1, h2, h3⟩
theorem Tn.set {w : World} {e : TypeId} {A : Option Addr} {xs : List Value} {K : List Nat} (h : Tn w e A xs K) {k i : Nat} (hk : k ∈ K) (v : Value) : Tn (w.setCell ⟨k, i, none⟩ v) e A xs K := by
  rcases h with h | ⟨b, off, cur, fz, h1, h0, h2, h3⟩
  · exact Or.inl h
  · exact Or.inr ⟨b, off, cur, fz, h1, h0, (heap_setCell_other w ⟨k, i, none⟩ b _ (fun e => h0 (e ▸ hk))).trans h2, h3⟩
theorem Tn.alloc {w : World} {e : TypeId} {A : Option Addr} {xs : List Value} {K : List Nat} (h : Tn w e A xs K) (o : Obj) : Tn (w.alloc o) e A xs K := by
  rcases h with h | ⟨b, off, cur, fz, h1, h0, h2, h3⟩
  · exact Or.inl h
  · exact Or.inr ⟨b, off, cur, fz, h1, h0, ((Old.refl w).alloc o).block h2, h3⟩
theorem Ts.tn2 {w : World} {e t1 t2 : TypeId} {A : Option Addr} {xs : List Value} {k1 k2 : Nat} {c1 c2 : Array Value} {z1 z2 : Nat × Nat} (h : Ts w e A xs) (h1 : w.heap[k1]? = some (.cells c1 t1 z1)) (n1 : e ≠ t1) (h2 : w.heap[k2]? = some (.cells c2 t2 z2)) (n2 : e ≠ t2) : Tn w e A xs [k1, k2] := by
  rcases h with h | ⟨b, off, cur, fz, hA, hb, hc⟩
  · exact Or.inl h
  · refine Or.inr ⟨b, off, cur, fz, hA, ?_, hb, hc⟩
    intro hm
    simp only [List.mem_cons, List.not_mem_nil, or_false] at hm
    rcases hm with rfl | rfl
    · rw [hb] at h1; simp at h1; exact n1 h1.2.1
    · rw [hb] at h2; simp at h2; exact n2 h2.2.1
/-- What a call that returns a life says: its data, its times in memory, nothing old has turned. -/
def LfP (w : World) (x : Lf.T) (e : Ending) (w' : World) : Prop := ∃ A c, e = .returned (lfA x A c) ∧ Ts w' 30 A (u64s x.times) ∧ Old w w'
def LfPi (w : World) (x : Lf.T) (s : Int) (e : Ending) (w' : World) : Prop := ∃ A c, e = .returned (.tuple #[lfA x A c, .int .i64 s]) ∧ Ts w' 30 A (u64s x.times) ∧ Old w w'
def LfPb (w : World) (x : Lf.T) (b : Bool) (e : Ending) (w' : World) : Prop := ∃ A c, e = .returned (.tuple #[lfA x A c, .bool b]) ∧ Ts w' 30 A (u64s x.times) ∧ Old w w'
def LfPib (w : World) (x : Lf.T) (s : Int) (b : Bool) (e : Ending) (w' : World) : Prop := ∃ A c, e = .returned (.tuple #[lfA x A c, .int .i64 s, .bool b]) ∧ Ts w' 30 A (u64s x.times) ∧ Old w w'
def lfO (x : Lf.T) (A : Option Addr) (c : Nat) : Obj := .cells #[.int .i64 x.ph, .int .i64 x.inc, .int .i64 x.runs, .int .u64 x.since, .slice A x.times.length c, .int .u64 x.due, .bool x.armed, .int .i64 x.rung, .bool x.halt, .bool x.again] 48 (0, 0)
def lfZ : Obj := .cells #[.int .i64 0, .int .i64 0, .int .i64 0, .int .u64 0, .slice none 0 0, .int .u64 0, .bool false, .int .i64 0, .bool false, .bool false] 48 (0, 0)
def jdO (x : Jd) : Obj := .cells #[.string x.nm, .string x.run, .slice x.eA x.env.length x.ec, .slice x.nA x.needs.length x.nc, .bool x.hasR, .string x.ready, .int .i64 x.restart, .int .u64 x.base, .int .u64 x.cap, .int .u64 x.stable, .int .i64 x.burst, .int .u64 x.win, .slice x.lA x.lad.length x.lc, .int .i64 x.line, .int .i64 x.col] 33 (0, 0)
/-- The start of a function on lives: the job's box, the life's box (its times its own), the result's box. -/
structure LS3 (w wx : World) (j : Jd) (x : Lf.T) (A : Option Addr) (c : Nat) : Prop where
  bj : wx.heap[w.heap.size]? = some (jdO j)
  bl : wx.heap[w.heap.size + 1]? = some (lfO x A c)
  br : wx.heap[w.heap.size + 1 + 1]? = some lfZ
  old : Old w wx
  ts : Ts wx 30 A (u64s x.times)
structure LS2 (w wx : World) (x : Lf.T) (A : Option Addr) (c : Nat) : Prop where
  bl : wx.heap[w.heap.size]? = some (lfO x A c)
  br : wx.heap[w.heap.size + 1]? = some lfZ
  old : Old w wx
  ts : Ts wx 30 A (u64s x.times)
def put10 (w : World) (k : Nat) (v0 v1 v2 v3 v4 v5 v6 v7 v8 v9 : Value) : World :=
  (((((((((w.setCell ⟨k, 0, none⟩ v0).setCell ⟨k, 1, none⟩ v1).setCell ⟨k, 2, none⟩ v2).setCell ⟨k, 3, none⟩ v3).setCell ⟨k, 4, none⟩ v4).setCell ⟨k, 5, none⟩ v5).setCell ⟨k, 6, none⟩ v6).setCell ⟨k, 7, none⟩ v7).setCell ⟨k, 8, none⟩ v8).setCell ⟨k, 9, none⟩ v9
section
variable {w : World} {k : Nat} {v0 v1 v2 v3 v4 v5 v6 v7 v8 v9 : Value}
theorem put10_other {j : Nat} (hj : j ≠ k) : (put10 w k v0 v1 v2 v3 v4 v5 v6 v7 v8 v9).heap[j]? = w.heap[j]? := by
  unfold put10
  iterate 10 rw [heap_setCell_other _ _ j _ hj]
theorem put10_row {u0 u1 u2 u3 u4 u5 u6 u7 u8 u9 : Value} {t : TypeId} (h : w.heap[k]? = some (.cells #[u0, u1, u2, u3, u4, u5, u6, u7, u8, u9] t (0, 0))) : (put10 w k v0 v1 v2 v3 v4 v5 v6 v7 v8 v9).heap[k]? = some (.cells #[v0, v1, v2, v3, v4, v5, v6, v7, v8, v9] t (0, 0)) := by
  have h0 : (w.setCell ⟨k, 0, none⟩ v0).heap[k]? = some (.cells #[v0, u1, u2, u3, u4, u5, u6, u7, u8, u9] t (0, 0)) := heap_setCell_same _ k 0 _ _ v0 h
  have h1 : ((w.setCell ⟨k, 0, none⟩ v0).setCell ⟨k, 1, none⟩ v1).heap[k]? = some (.cells #[v0, v1, u2, u3, u4, u5, u6, u7, u8, u9] t (0, 0)) := heap_setCell_same _ k 1 _ _ v1 h0
  have h2 : (((w.setCell ⟨k, 0, none⟩ v0).setCell ⟨k, 1, none⟩ v1).setCell ⟨k, 2, none⟩ v2).heap[k]? = some (.cells #[v0, v1, v2, u3, u4, u5, u6, u7, u8, u9] t (0, 0)) := heap_setCell_same _ k 2 _ _ v2 h1
  have h3 : ((((w.setCell ⟨k, 0, none⟩ v0).setCell ⟨k, 1, none⟩ v1).setCell ⟨k, 2, none⟩ v2).setCell ⟨k, 3, none⟩ v3).heap[k]? = some (.cells #[v0, v1, v2, v3, u4, u5, u6, u7, u8, u9] t (0, 0)) := heap_setCell_same _ k 3 _ _ v3 h2
  have h4 : (((((w.setCell ⟨k, 0, none⟩ v0).setCell ⟨k, 1, none⟩ v1).setCell ⟨k, 2, none⟩ v2).setCell ⟨k, 3, none⟩ v3).setCell ⟨k, 4, none⟩ v4).heap[k]? = some (.cells #[v0, v1, v2, v3, v4, u5, u6, u7, u8, u9] t (0, 0)) := heap_setCell_same _ k 4 _ _ v4 h3
  have h5 : ((((((w.setCell ⟨k, 0, none⟩ v0).setCell ⟨k, 1, none⟩ v1).setCell ⟨k, 2, none⟩ v2).setCell ⟨k, 3, none⟩ v3).setCell ⟨k, 4, none⟩ v4).setCell ⟨k, 5, none⟩ v5).heap[k]? = some (.cells #[v0, v1, v2, v3, v4, v5, u6, u7, u8, u9] t (0, 0)) := heap_setCell_same _ k 5 _ _ v5 h4
  have h6 : (((((((w.setCell ⟨k, 0, none⟩ v0).setCell ⟨k, 1, none⟩ v1).setCell ⟨k, 2, none⟩ v2).setCell ⟨k, 3, none⟩ v3).setCell ⟨k, 4, none⟩ v4).setCell ⟨k, 5, none⟩ v5).setCell ⟨k, 6, none⟩ v6).heap[k]? = some (.cells #[v0, v1, v2, v3, v4, v5, v6, u7, u8, u9] t (0, 0)) := heap_setCell_same _ k 6 _ _ v6 h5
  have h7 : ((((((((w.setCell ⟨k, 0, none⟩ v0).setCell ⟨k, 1, none⟩ v1).setCell ⟨k, 2, none⟩ v2).setCell ⟨k, 3, none⟩ v3).setCell ⟨k, 4, none⟩ v4).setCell ⟨k, 5, none⟩ v5).setCell ⟨k, 6, none⟩ v6).setCell ⟨k, 7, none⟩ v7).heap[k]? = some (.cells #[v0, v1, v2, v3, v4, v5, v6, v7, u8, u9] t (0, 0)) := heap_setCell_same _ k 7 _ _ v7 h6
  have h8 : (((((((((w.setCell ⟨k, 0, none⟩ v0).setCell ⟨k, 1, none⟩ v1).setCell ⟨k, 2, none⟩ v2).setCell ⟨k, 3, none⟩ v3).setCell ⟨k, 4, none⟩ v4).setCell ⟨k, 5, none⟩ v5).setCell ⟨k, 6, none⟩ v6).setCell ⟨k, 7, none⟩ v7).setCell ⟨k, 8, none⟩ v8).heap[k]? = some (.cells #[v0, v1, v2, v3, v4, v5, v6, v7, v8, u9] t (0, 0)) := heap_setCell_same _ k 8 _ _ v8 h7
  exact heap_setCell_same _ k 9 _ _ v9 h8
theorem put10_old {w0 : World} (h : Old w0 w) (hk : w0.heap.size ≤ k) : Old w0 (put10 w k v0 v1 v2 v3 v4 v5 v6 v7 v8 v9) :=
  (((((((((h.setCell hk v0).setCell hk v1).setCell hk v2).setCell hk v3).setCell hk v4).setCell hk v5).setCell hk v6).setCell hk v7).setCell hk v8).setCell hk v9
theorem put10_tn {e : TypeId} {A : Option Addr} {xs : List Value} {K : List Nat} (h : Tn w e A xs K) (hk : k ∈ K) : Tn (put10 w k v0 v1 v2 v3 v4 v5 v6 v7 v8 v9) e A xs K :=
  (((((((((h.set hk v0).set hk v1).set hk v2).set hk v3).set hk v4).set hk v5).set hk v6).set hk v7).set hk v8).set hk v9
theorem JdOk.put10 {j : Jd} {c1 : Array Value} {t1 : TypeId} {z1 : Nat × Nat} (h : JdOk w j) (hk : w.heap[k]? = some (.cells c1 t1 z1)) (n : 74 ≠ t1) : JdOk (put10 w k v0 v1 v2 v3 v4 v5 v6 v7 v8 v9) j :=
  ⟨(put10_tn (h.lad.tn2 hk n hk n) (by simp)).ts, h.few, h.ok, h.base, h.cap, h.stable, h.win⟩
end
end Go.Proofs.Ytpknglclcdgfbaa
