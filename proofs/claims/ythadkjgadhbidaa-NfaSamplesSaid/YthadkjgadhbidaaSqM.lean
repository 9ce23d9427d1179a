/-
  The reference's moves: the places that lie a step without a byte on.
-/
import Derived.Test.YthadkjgadhbidaaSqV
import Derived.Test.YthadkjgadhbidaaNbA
namespace Go.Proofs.Ythadkjgadhbidaa
open Go.RowKit
set_option linter.unusedVariables false

def plO (vs : List Value) : Obj := .cells vs.toArray 98 (0, 0)
def plZ : List Value := [.int .i64 0, .bool false, .bool false, .slice none 0 0]
/-- Two places made in a region. -/
structure M2 (W : World) (cs : List Value) (k6 k7 : Nat) (b2 b3 b4 b5 : Bool) (ww : World) : Prop where
  old : Old W ww
  p6 : b2 = true → W.heap.size ≤ k6 ∧ k6 < ww.heap.size ∧ ww.heap[k6]? = some (plO (if b4 = true then cs else plZ))
  p7 : b3 = true → W.heap.size ≤ k7 ∧ k7 < ww.heap.size ∧ ww.heap[k7]? = some (plO (if b5 = true then cs else plZ))
  ne : b2 = true → b3 = true → k6 ≠ k7
theorem pl_cells {w : World} {k : Nat} {a b c d : Value} (h : w.heap[k]? = some (plO [a, b, c, d])) : (w.cell? ⟨k, 0, none⟩ = some a ∧ w.cell? ⟨k, 1, none⟩ = some b ∧ w.cell? ⟨k, 2, none⟩ = some c ∧ w.cell? ⟨k, 3, none⟩ = some d) ∧ (w.frozen? ⟨k, 0, none⟩ = false ∧ w.frozen? ⟨k, 1, none⟩ = false ∧ w.frozen? ⟨k, 2, none⟩ = false ∧ w.frozen? ⟨k, 3, none⟩ = false) :=
  ⟨⟨by rw [cell_of_row w k 0 _ _ _ h]; rfl, by rw [cell_of_row w k 1 _ _ _ h]; rfl, by rw [cell_of_row w k 2 _ _ _ h]; rfl, by rw [cell_of_row w k 3 _ _ _ h]; rfl⟩, frozen_of_row w k 0 _ _ h, frozen_of_row w k 1 _ _ h, frozen_of_row w k 2 _ _ h, frozen_of_row w k 3 _ _ h⟩
theorem pl_put {w : World} {k i : Nat} {vs vs' : List Value} (h : w.heap[k]? = some (plO vs)) (v : Value) (hv : vs.set i v = vs') : (w.setCell ⟨k, i, none⟩ v).heap[k]? = some (plO vs') := by
  have := heap_setCell_same w k i _ _ v h
  rw [this, ← hv]
  simp [plO]
theorem pl_put4 {w : World} {k : Nat} {a b c d a' b' c' d' : Value} (h : w.heap[k]? = some (plO [a, b, c, d])) :
    ((((w.setCell ⟨k, 0, none⟩ a').setCell ⟨k, 1, none⟩ b').setCell ⟨k, 2, none⟩ c').setCell ⟨k, 3, none⟩ d').heap[k]? = some (plO [a', b', c', d']) :=
  pl_put (pl_put (pl_put (pl_put h a' rfl) b' rfl) c' rfl) d' rfl
theorem M2.up {W : World} {cs : List Value} {k6 k7 : Nat} {b2 b3 b4 b5 : Bool} {ww w' : World} (h : M2 W cs k6 k7 b2 b3 b4 b5 ww) (ho : Old ww w') : M2 W cs k6 k7 b2 b3 b4 b5 w' :=
  ⟨h.old.up ho, fun e => ⟨(h.p6 e).1, Nat.lt_of_lt_of_le (h.p6 e).2.1 ho.size, ho.block (h.p6 e).2.2⟩, fun e => ⟨(h.p7 e).1, Nat.lt_of_lt_of_le (h.p7 e).2.1 ho.size, ho.block (h.p7 e).2.2⟩, h.ne⟩
theorem M2.a6 {W : World} {cs : List Value} {k6 k7 : Nat} {b3 b5 : Bool} {ww : World} (h : M2 W cs k6 k7 false b3 false b5 ww) : M2 W cs ww.heap.size k7 true b3 false b5 (ww.alloc (plO plZ)) := by
  have ho := (Old.refl ww).alloc (plO plZ)
  refine ⟨h.old.up ho, fun _ => ⟨h.old.size, by simp, heap_alloc_new _ _⟩, fun e => (M2.up h ho).p7 e, fun _ e => ?_⟩
  have := (h.p7 e).2.1
  omega
theorem M2.a7 {W : World} {cs : List Value} {k6 k7 : Nat} {b2 b4 : Bool} {ww : World} (h : M2 W cs k6 k7 b2 false b4 false ww) : M2 W cs k6 ww.heap.size b2 true b4 false (ww.alloc (plO plZ)) := by
  have ho := (Old.refl ww).alloc (plO plZ)
  refine ⟨h.old.up ho, fun e => (M2.up h ho).p6 e, fun _ => ⟨h.old.size, by simp, heap_alloc_new _ _⟩, fun e _ => ?_⟩
  have := (h.p6 e).2.1
  omega
theorem pset4_other (w : World) (k j : Nat) (a b c d : Value) (hj : j ≠ k) : ((((w.setCell ⟨k, 0, none⟩ a).setCell ⟨k, 1, none⟩ b).setCell ⟨k, 2, none⟩ c).setCell ⟨k, 3, none⟩ d).heap[j]? = w.heap[j]? := by
  rw [heap_setCell_other _ ⟨k, 3, none⟩ j _ hj, heap_setCell_other _ ⟨k, 2, none⟩ j _ hj, heap_setCell_other _ ⟨k, 1, none⟩ j _ hj, heap_setCell_other _ ⟨k, 0, none⟩ j _ hj]
theorem M2.s6 {W : World} {a b c d : Value} {k6 k7 : Nat} {b5 : Bool} {ww : World} (h : M2 W [a, b, c, d] k6 k7 true true false b5 ww) :
    M2 W [a, b, c, d] k6 k7 true true true b5 ((((ww.setCell ⟨k6, 0, none⟩ a).setCell ⟨k6, 1, none⟩ b).setCell ⟨k6, 2, none⟩ c).setCell ⟨k6, 3, none⟩ d) := by
  obtain ⟨h1, h2, h3⟩ := h.p6 rfl
  obtain ⟨g1, g2, g3⟩ := h.p7 rfl
  exact ⟨(((h.old.setCell h1 _).setCell h1 _).setCell h1 _).setCell h1 _, fun _ => ⟨h1, by simpa using h2, pl_put4 h3⟩, fun _ => ⟨g1, by simpa using g2, (pset4_other ww k6 k7 a b c d (fun e => h.ne rfl rfl e.symm)).trans g3⟩, h.ne⟩
theorem M2.s7 {W : World} {a b c d : Value} {k6 k7 : Nat} {b4 : Bool} {ww : World} (h : M2 W [a, b, c, d] k6 k7 true true b4 false ww) :
    M2 W [a, b, c, d] k6 k7 true true b4 true ((((ww.setCell ⟨k7, 0, none⟩ a).setCell ⟨k7, 1, none⟩ b).setCell ⟨k7, 2, none⟩ c).setCell ⟨k7, 3, none⟩ d) := by
  obtain ⟨h1, h2, h3⟩ := h.p7 rfl
  obtain ⟨g1, g2, g3⟩ := h.p6 rfl
  exact ⟨(((h.old.setCell h1 _).setCell h1 _).setCell h1 _).setCell h1 _, fun _ => ⟨g1, by simpa using g2, (pset4_other ww k7 k6 a b c d (fun e => h.ne rfl rfl e)).trans g3⟩, fun _ => ⟨h1, by simpa using h2, pl_put4 h3⟩, h.ne⟩
/-- The two places' states are put in. -/
structure M3 (W : World) (lf rt b c d a : Value) (k6 k7 : Nat) (b5 b7 : Bool) (ww : World) : Prop where
  old : Old W ww
  p6 : W.heap.size ≤ k6 ∧ k6 < ww.heap.size ∧ ww.heap[k6]? = some (plO [if b5 = true then lf else a, b, c, d])
  p7 : W.heap.size ≤ k7 ∧ k7 < ww.heap.size ∧ ww.heap[k7]? = some (plO [if b7 = true then rt else a, b, c, d])
  ne : k6 ≠ k7
theorem M3.s6 {W : World} {lf rt a b c d : Value} {k6 k7 : Nat} {b7 : Bool} {ww : World} (h : M3 W lf rt b c d a k6 k7 false b7 ww) : M3 W lf rt b c d a k6 k7 true b7 (ww.setCell ⟨k6, 0, none⟩ lf) :=
  ⟨h.old.setCell h.p6.1 _, ⟨h.p6.1, by simpa using h.p6.2.1, pl_put h.p6.2.2 lf rfl⟩, ⟨h.p7.1, by simpa using h.p7.2.1, (heap_setCell_other ww ⟨k6, 0, none⟩ k7 _ (fun e => h.ne e.symm)).trans h.p7.2.2⟩, h.ne⟩
theorem M3.s7 {W : World} {lf rt a b c d : Value} {k6 k7 : Nat} {b5 : Bool} {ww : World} (h : M3 W lf rt b c d a k6 k7 b5 false ww) : M3 W lf rt b c d a k6 k7 b5 true (ww.setCell ⟨k7, 0, none⟩ rt) :=
  ⟨h.old.setCell h.p7.1 _, ⟨h.p6.1, by simpa using h.p6.2.1, (heap_setCell_other ww ⟨k7, 0, none⟩ k6 _ (fun e => h.ne e)).trans h.p6.2.2⟩, ⟨h.p7.1, by simpa using h.p7.2.1, pl_put h.p7.2.2 rt rfl⟩, h.ne⟩
def NdAtS (w : World) (k : Nat) (x : Nd) : Prop := w.heap[k]? = some (.cells (ndCells x).toArray 42 (0, 0))
def MVI (W : World) (v0 v1 v2 v3 : Value) (k3 k5 : Nat) (listed : Array Bool) (a : Act) (w : World) : Prop :=
  ∃ (b0 b1 b2 b3 b4 b5 : Bool) (k6 k7 : Nat) (u0 u1 u8 u9 u10 u11 u12 : Value), listed = #[b0, b1, b2, b3, b4, b5] ∧
    a = { tmps := #[u0, u1, undef, .pointer (some ⟨k3, 0, none⟩), .slice none 0 0, .pointer (some ⟨k5, 0, none⟩), cond b2 (.pointer (some ⟨k6, 0, none⟩)) (undef), cond b3 (.pointer (some ⟨k7, 0, none⟩)) (undef), u8, u9, u10, u11, u12, cond b0 (.agg #[v0, v1, v2, v3]) (undef), cond b1 (.agg #[v0, v1, v2, v3]) (undef), undef, undef, undef, undef, undef, undef, undef, undef, undef, undef, undef, undef, undef, undef, undef, undef, undef, undef, undef, undef, undef, undef, undef, undef, undef, undef, undef, undef, undef, undef], defers := [] } ∧ M2 W [v0, v1, v2, v3] k6 k7 b2 b3 b4 b5 w
def MVJ (W : World) (lf rt v0 v1 v2 v3 : Value) (k3 k5 k6 k7 : Nat) (listed : Array Bool) (a : Act) (w : World) : Prop :=
  ∃ (b0 b1 b2 b3 b4 b5 b6 b7 : Bool) (dummy : Nat) (u0 u1 u8 u9 u10 u11 u12 u13 u14 : Value), listed = #[b0, b1, b2, b3, b4, b5, b6, b7] ∧
    a = { tmps := #[u0, u1, undef, .pointer (some ⟨k3, 0, none⟩), .slice none 0 0, .pointer (some ⟨k5, 0, none⟩), .pointer (some ⟨k6, 0, none⟩), .pointer (some ⟨k7, 0, none⟩), u8, u9, u10, u11, u12, u13, u14, cond b0 (.pointer (some ⟨k5, 1, none⟩)) (undef), cond b1 (lf) (undef), cond b2 (.pointer (some ⟨k5, 2, none⟩)) (undef), cond b3 (rt) (undef), cond b4 (.pointer (some ⟨k6, 0, none⟩)) (undef), cond b6 (.pointer (some ⟨k7, 0, none⟩)) (undef), undef, undef, undef, undef, undef, undef, undef, undef, undef, undef, undef, undef, undef, undef, undef, undef, undef, undef, undef, undef, undef, undef, undef, undef], defers := [] } ∧ M3 W lf rt v1 v2 v3 v0 k6 k7 b5 b7 w
/-- What moves returns. -/
def MovPost (w : World) (st : List Nd) (x : Pr) (e : Ending) (w' : World) : Prop :=
  ∃ A' c', e = .returned (.slice A' (movM st x.p).length c') ∧ Rs w' A' (prsV ((movM st x.p).map fun q => ⟨q, x.A, x.n, x.c⟩)) ∧ (A' = none ∨ 0 < (movM st x.p).length) ∧ Old w w'
set_option maxHeartbeats 4000000 in
set_option maxRecDepth 100000 in
theorem movesC (A : Option Addr) (c : Nat) (st : List Nd) (x : Pr) (w : World) (hr : Rs w A (ndsV st)) (hv : svalid st = true) (hlt : x.p.s < st.length) :
    Calls Try.prog 51 #[.slice A st.length c, prA x] w (MovPost w st x) := by
  obtain ⟨⟨ps, pb, pe⟩, xA, xn, xc⟩ := x
  obtain ⟨_, _, hok⟩ := svalid_ok hv
  obtain ⟨_, _, o3, o4⟩ := hok ps hlt
  simp only at hlt
  have hb3 := heap_alloc_new w (.cells #[.int .i64 (ps : Int), .bool pb, .bool pe, .slice xA xn xc] 98)
  have ho3 := (Old.refl w).alloc (.cells #[.int .i64 (ps : Int), .bool pb, .bool pe, .slice xA xn xc] 98)
  have hx : st[ps]? = some (nd st ps) := by unfold nd; rw [List.getD_eq_getElem?_getD, List.getElem?_eq_getElem hlt]; rfl
  obtain ⟨bs, off, rfl, hbl, hcl⟩ := (hr.up ho3).at_ (by rw [ndsV_length]; omega)
  have hg := ndsV_get st ps _ hx
  have c0 := hcl _ _ (hg 0 (by omega))
  have c1 := hcl _ _ (hg 1 (by omega))
  have c2 := hcl _ _ (hg 2 (by omega))
  have c3 := hcl _ _ (hg 3 (by omega))
  have c4 := hcl _ _ (hg 4 (by omega))
  have c5 := hcl _ _ (hg 5 (by omega))
  have c6 := hcl _ _ (hg 6 (by omega))
  rw [← Nat.add_assoc] at c0 c1 c2 c3 c4 c5 c6
  rw [Nat.add_zero] at c0
  have s1 : (0 : Int) ≤ (ps : Int) := by omega
  have s2 : (ps : Int) < (st.length : Int) := by omega
  have HPO : Hid (∀ M A' c' w', movM st ⟨ps, pb, pe⟩ = M → Rs w' A' (prsV (M.map fun q => ⟨q, xA, xn, xc⟩)) → (A' = none ∨ 0 < M.length) → Old w w' → MovPost w st ⟨⟨ps, pb, pe⟩, xA, xn, xc⟩ (.returned (.slice A' M.length c')) w') := Lib.hid (fun M A' c' w' h1 h2 h3 h4 => by subst h1; exact ⟨A', c', rfl, h2, h3, h4⟩)
  have HM : Hid (movM st ⟨ps, pb, pe⟩ = if (nd st ps).kind = 2 then [⟨(nd st ps).left.toNat, pb, pe⟩, ⟨(nd st ps).right.toNat, pb, pe⟩] else if (nd st ps).kind = 3 ∧ pb = true then [⟨(nd st ps).left.toNat, pb, pe⟩] else if (nd st ps).kind = 4 then [⟨(nd st ps).left.toNat, pb, true⟩] else []) := Lib.hid rfl
  clear hr hbl hcl hg hx hv hok
  generalize nd st ps = y at *
  obtain ⟨kd, lf, rt, se⟩ := y
  simp only at o3 o4 HM
  replace c0 : (w.alloc (.cells #[.int .i64 (ps : Int), .bool pb, .bool pe, .slice xA xn xc] 98)).cell? ⟨bs, off + ps * 7, none⟩ = some (.int .i64 kd) := c0
  replace c1 : (w.alloc (.cells #[.int .i64 (ps : Int), .bool pb, .bool pe, .slice xA xn xc] 98)).cell? ⟨bs, off + ps * 7 + 1, none⟩ = some (.int .i64 lf) := c1
  replace c2 : (w.alloc (.cells #[.int .i64 (ps : Int), .bool pb, .bool pe, .slice xA xn xc] 98)).cell? ⟨bs, off + ps * 7 + 2, none⟩ = some (.int .i64 rt) := c2
  replace c3 : (w.alloc (.cells #[.int .i64 (ps : Int), .bool pb, .bool pe, .slice xA xn xc] 98)).cell? ⟨bs, off + ps * 7 + 3, none⟩ = some (.int .u64 (setW se 0)) := c3
  replace c4 : (w.alloc (.cells #[.int .i64 (ps : Int), .bool pb, .bool pe, .slice xA xn xc] 98)).cell? ⟨bs, off + ps * 7 + 4, none⟩ = some (.int .u64 (setW se 1)) := c4
  replace c5 : (w.alloc (.cells #[.int .i64 (ps : Int), .bool pb, .bool pe, .slice xA xn xc] 98)).cell? ⟨bs, off + ps * 7 + 5, none⟩ = some (.int .u64 (setW se 2)) := c5
  replace c6 : (w.alloc (.cells #[.int .i64 (ps : Int), .bool pb, .bool pe, .slice xA xn xc] 98)).cell? ⟨bs, off + ps * 7 + 6, none⟩ = some (.int .u64 (setW se 3)) := c6
  unfold prA
  simp only
  go_enter Try.func51, Try.ntmps51
  go_upto_region 1 with fail
  generalize w.alloc (.cells #[.int .i64 (ps : Int), .bool pb, .bool pe, .slice xA xn xc] 98) = w1 at *
  generalize w.heap.size = k3 at *
  obtain ⟨⟨d0, d1, d2, d3⟩, _⟩ := pl_cells hb3
  go_upto_region 2 with fail
  have hk5 : NdAtS (w1.alloc (.cells (ndCells ⟨kd, lf, rt, se⟩).toArray 42)) w1.heap.size ⟨kd, lf, rt, se⟩ := heap_alloc_new w1 _
  have ho5 := (Old.refl w1).alloc (.cells (ndCells ⟨kd, lf, rt, se⟩).toArray 42)
  have hb3' := ho5.block hb3
  have hWW : w1.alloc (.cells #[.int .i64 kd, .int .i64 lf, .int .i64 rt, .int .u64 (setW se 0), .int .u64 (setW se 1), .int .u64 (setW se 2), .int .u64 (setW se 3)] 42) = w1.alloc (.cells (ndCells ⟨kd, lf, rt, se⟩).toArray 42) := rfl
  rw [hWW]
  generalize w1.alloc (.cells (ndCells ⟨kd, lf, rt, se⟩).toArray 42) = W at *
  have HB3 : Hid (W.heap[k3]? = some (plO [.int .i64 (ps : Int), .bool pb, .bool pe, .slice xA xn xc])) := Lib.hid hb3'
  generalize w1.heap.size = k5 at *
  have HB5 := Lib.hid hk5
  have HOW := Lib.hid (ho3.up ho5)
  clear hk5 hWW hb3' hb3 ho3 ho5 c0 c1 c2 c3 c4 c5 c6 d0 d1 d2 d3
  have hF0 : M2 W [.int .i64 (ps : Int), .bool pb, .bool pe, .slice xA xn xc] 0 0 false false false false W.drew := ⟨(Old.refl W).drew, fun e => (by cases e), fun e => (by cases e), fun e => (by cases e)⟩
  refine wp_region_steps2 (by kernel_rfl) (by kernel_rfl) (MVI W (.int .i64 (ps : Int)) (.bool pb) (.bool pe) (.slice xA xn xc) k3 k5) ?_ ?_ ⟨?_, ?_, ?_, ?_, ?_, ?_, trivial⟩
  · exact ⟨false, false, false, false, false, false, 0, 0, _, _, _, _, _, _, _, rfl, rfl, hF0⟩
  · rintro a w1 ⟨b0, b1, b2, b3, b4, b5, k6, k7, u0, u1, u8, u9, u10, u11, u12, hl, rfl, hF⟩
    have hl' := congrArg Array.toList hl
    simp at hl'
    obtain ⟨rfl, rfl, rfl, rfl, rfl, rfl⟩ := hl'
    clear hl
    have hF3 : M3 W (.int .i64 lf) (.int .i64 rt) (.bool pb) (.bool pe) (.slice xA xn xc) (.int .i64 (ps : Int)) k6 k7 false false w1 := ⟨hF.old, hF.p6 rfl, hF.p7 rfl, hF.ne rfl rfl⟩
    clear hF hF0
    go_upto_region 3 with fail
    replace hF3 : M3 W (.int .i64 lf) (.int .i64 rt) (.bool pb) (.bool pe) (.slice xA xn xc) (.int .i64 (ps : Int)) k6 k7 false false w1.drew := ⟨hF3.old.drew, hF3.p6, hF3.p7, hF3.ne⟩
    refine wp_region_steps2 (by kernel_rfl) (by kernel_rfl) (MVJ W (.int .i64 lf) (.int .i64 rt) (.int .i64 (ps : Int)) (.bool pb) (.bool pe) (.slice xA xn xc) k3 k5 k6 k7) ?_ ?_ ⟨?_, ?_, ?_, ?_, ?_, ?_, ?_, ?_, trivial⟩
    · exact ⟨false, false, false, false, false, false, false, false, 0, _, _, _, _, _, _, _, _, _, rfl, rfl, hF3⟩
    · rintro a w1 ⟨b0, b1, b2, b3, b4, b5, b6, b7, dummy, u0, u1, u8, u9, u10, u11, u12, u13, u14, hl, rfl, hF⟩
      have hl' := congrArg Array.toList hl
      simp at hl'
      obtain ⟨rfl, rfl, rfl, rfl, rfl, rfl, rfl, rfl⟩ := hl'
      clear hl
      have HO := Lib.hid (HOW.out.up hF.old)
      have hb6 := hF.p6.2.2
      have hb7 := hF.p7.2.2
      have hk6 := hF.p6.1
      simp only [if_true] at hb6 hb7
      have hb5 := hF.old.block HB5.out
      have hb3 := hF.old.block HB3.out
      have HOS : Hid (∀ u, Old w (w1.setCell ⟨k6, 2, none⟩ u)) := Lib.hid (fun u => HOW.out.up (hF.old.setCell hk6 u))
      obtain ⟨⟨q0, q1, q2, q3⟩, f0, f1, f2, f3⟩ := pl_cells hb6
      obtain ⟨⟨p0, p1, p2, p3⟩, _⟩ := pl_cells hb7
      obtain ⟨⟨_, r1, _⟩, _⟩ := pl_cells hb3
      have x0 : w1.cell? ⟨k5, 0, none⟩ = some (.int .i64 kd) := by rw [cell_of_row w1 k5 0 _ _ _ hb5]; rfl
      clear hF hF3 hb6 hb7 hb5 hb3 HB5 HB3 HOW
      by_cases e2 : kd = 2
      · subst e2
        obtain ⟨lf, rfl⟩ := Int.eq_ofNat_of_zero_le (o3 (by decide)).1
        obtain ⟨rt, rfl⟩ := Int.eq_ofNat_of_zero_le (o4 rfl).1
        have HR := Lib.hid (HPO.out [⟨lf, pb, pe⟩, ⟨rt, pb, pe⟩] (some ⟨w1.heap.size, 0, none⟩) 2 _ HM.out (rs_new w1 (prsV [⟨⟨lf, pb, pe⟩, xA, xn, xc⟩, ⟨⟨rt, pb, pe⟩, xA, xn, xc⟩]) 98) (Or.inr (Nat.succ_pos _)) (HO.out.alloc _))
        clear HPO HM
        go_wp2_with fail
        go_ret
        exact HR.out
      have b2 : (kd == 2) = false := by simpa using e2
      have HM2 := Lib.hid (HM.out.trans (if_neg e2))
      clear HM
      by_cases e3 : kd = 3
      · subst e3
        cases pb with
        | true =>
          obtain ⟨lf, rfl⟩ := Int.eq_ofNat_of_zero_le (o3 (by decide)).1
          have HR := Lib.hid (HPO.out [⟨lf, true, pe⟩] (some ⟨w1.heap.size, 0, none⟩) 1 _ (HM2.out.trans (if_pos ⟨rfl, rfl⟩)) (rs_new w1 (prsV [⟨⟨lf, true, pe⟩, xA, xn, xc⟩]) 98) (Or.inr (Nat.succ_pos _)) (HO.out.alloc _))
          clear HPO HM2
          go_wp2_with fail
          go_ret
          exact HR.out
        | false =>
          have HR := Lib.hid (HPO.out [] none 0 w1 (HM2.out.trans ((if_neg (fun h => by cases h.2)).trans (if_neg (by decide)))) (Or.inl rfl) (Or.inl rfl) HO.out)
          clear HPO HM2
          go_wp2_with fail
          go_ret
          exact HR.out
      have b3 : (kd == 3) = false := by simpa using e3
      have HM3 := Lib.hid (HM2.out.trans (if_neg (fun h => e3 h.1)))
      clear HM2
      by_cases e4 : kd = 4
      · subst e4
        obtain ⟨lf, rfl⟩ := Int.eq_ofNat_of_zero_le (o3 (by decide)).1
        have HR := Lib.hid (HPO.out [⟨lf, pb, true⟩] (some ⟨(w1.setCell ⟨k6, 2, none⟩ (.bool true)).heap.size, 0, none⟩) 1 _ (HM3.out.trans (if_pos rfl)) (rs_new (w1.setCell ⟨k6, 2, none⟩ (.bool true)) (prsV [⟨⟨lf, pb, true⟩, xA, xn, xc⟩]) 98) (Or.inr (Nat.succ_pos _)) ((HOS.out (.bool true)).alloc _))
        clear HPO HM3
        go_wp2_with fail
        go_ret
        have hr := HR.out
        rw [show (w1.setCell ⟨k6, 2, none⟩ (.bool true)).heap.size = w1.heap.size by simp] at hr
        exact hr
      have b4 : (kd == 4) = false := by simpa using e4
      have HR := Lib.hid (HPO.out [] none 0 w1 (HM3.out.trans (if_neg e4)) (Or.inl rfl) (Or.inl rfl) HO.out)
      clear HPO HM3
      go_wp2_with fail
      go_ret
      exact HR.out
    · intro listed a w1 K hs hcl hf hall hI hK
      obtain ⟨b0, b1, b2, b3, b4, b5, b6, b7, dummy, u0, u1, u8, u9, u10, u11, u12, u13, u14, rfl, rfl, hF⟩ := hI
      have hf' : b0 = false := hf
      subst hf'
      clear hall hcl hs hf
      go_simp
      exact hK _ _ ⟨true, b1, b2, b3, b4, b5, b6, b7, dummy, u0, u1, u8, u9, u10, u11, u12, u13, u14, rfl, rfl, hF⟩
    · intro listed a w1 K hs hcl hf hall hI hK
      obtain ⟨b0, b1, b2, b3, b4, b5, b6, b7, dummy, u0, u1, u8, u9, u10, u11, u12, u13, u14, rfl, rfl, hF⟩ := hI
      have hf' : b1 = false := hf
      subst hf'
      have hq0 : b0 = true := hall ⟨0, .data⟩ (by first | exact .head _ | simp) rfl
      subst hq0
      have hb4 : b4 = false := by
        cases b4
        · rfl
        · exact absurd (show false = true from hcl 4 _ rfl rfl ⟨1, .phase⟩ (by first | exact .head _ | simp) rfl) (by decide)
      subst hb4
      have hb5 : b5 = false := by
        cases b5
        · rfl
        · exact absurd (show false = true from hcl 5 _ rfl rfl ⟨1, .data⟩ (by first | exact .head _ | simp) rfl) (by decide)
      subst hb5
      have hb6 : b6 = false := by
        cases b6
        · rfl
        · exact absurd (show false = true from hcl 6 _ rfl rfl ⟨1, .phase⟩ (by first | exact .head _ | simp) rfl) (by decide)
      subst hb6
      have hb7 : b7 = false := by
        cases b7
        · rfl
        · exact absurd (show false = true from hcl 7 _ rfl rfl ⟨1, .phase⟩ (by first | exact .head _ | simp) rfl) (by decide)
      subst hb7
      clear hall hcl hs hf
      have hb5 := hF.old.block HB5.out
      have q1 : w1.cell? ⟨k5, 1, none⟩ = some (.int .i64 lf) := by rw [cell_of_row w1 k5 1 _ _ _ hb5]; rfl
      have q2 : w1.cell? ⟨k5, 2, none⟩ = some (.int .i64 rt) := by rw [cell_of_row w1 k5 2 _ _ _ hb5]; rfl
      clear hb5
      go_simp
      exact hK _ _ ⟨true, true, b2, b3, false, false, false, false, dummy, u0, u1, u8, u9, u10, u11, u12, u13, u14, rfl, rfl, hF⟩
    · intro listed a w1 K hs hcl hf hall hI hK
      obtain ⟨b0, b1, b2, b3, b4, b5, b6, b7, dummy, u0, u1, u8, u9, u10, u11, u12, u13, u14, rfl, rfl, hF⟩ := hI
      have hf' : b2 = false := hf
      subst hf'
      clear hall hcl hs hf
      go_simp
      exact hK _ _ ⟨b0, b1, true, b3, b4, b5, b6, b7, dummy, u0, u1, u8, u9, u10, u11, u12, u13, u14, rfl, rfl, hF⟩
    · intro listed a w1 K hs hcl hf hall hI hK
      obtain ⟨b0, b1, b2, b3, b4, b5, b6, b7, dummy, u0, u1, u8, u9, u10, u11, u12, u13, u14, rfl, rfl, hF⟩ := hI
      have hf' : b3 = false := hf
      subst hf'
      have hq2 : b2 = true := hall ⟨2, .data⟩ (by first | exact .head _ | simp) rfl
      subst hq2
      have hb6 : b6 = false := by
        cases b6
        · rfl
        · exact absurd (show false = true from hcl 6 _ rfl rfl ⟨3, .phase⟩ (by first | exact .head _ | simp) rfl) (by decide)
      subst hb6
      have hb7 : b7 = false := by
        cases b7
        · rfl
        · exact absurd (show false = true from hcl 7 _ rfl rfl ⟨3, .data⟩ (by first | exact .head _ | simp) rfl) (by decide)
      subst hb7
      clear hall hcl hs hf
      have hb5 := hF.old.block HB5.out
      have q1 : w1.cell? ⟨k5, 1, none⟩ = some (.int .i64 lf) := by rw [cell_of_row w1 k5 1 _ _ _ hb5]; rfl
      have q2 : w1.cell? ⟨k5, 2, none⟩ = some (.int .i64 rt) := by rw [cell_of_row w1 k5 2 _ _ _ hb5]; rfl
      clear hb5
      go_simp
      exact hK _ _ ⟨b0, b1, true, true, b4, b5, false, false, dummy, u0, u1, u8, u9, u10, u11, u12, u13, u14, rfl, rfl, hF⟩
    · intro listed a w1 K hs hcl hf hall hI hK
      obtain ⟨b0, b1, b2, b3, b4, b5, b6, b7, dummy, u0, u1, u8, u9, u10, u11, u12, u13, u14, rfl, rfl, hF⟩ := hI
      have hf' : b4 = false := hf
      subst hf'
      have hq0 : b0 = true := hall ⟨0, .phase⟩ (by first | exact .head _ | simp) rfl
      subst hq0
      have hq1 : b1 = true := hall ⟨1, .phase⟩ (by first | exact .head _ | simp) rfl
      subst hq1
      clear hall hcl hs hf
      go_simp
      exact hK _ _ ⟨true, true, b2, b3, true, b5, b6, b7, dummy, u0, u1, u8, u9, u10, u11, u12, u13, u14, rfl, rfl, hF⟩
    · intro listed a w1 K hs hcl hf hall hI hK
      obtain ⟨b0, b1, b2, b3, b4, b5, b6, b7, dummy, u0, u1, u8, u9, u10, u11, u12, u13, u14, rfl, rfl, hF⟩ := hI
      have hf' : b5 = false := hf
      subst hf'
      have hq4 : b4 = true := hall ⟨4, .data⟩ (by first | exact .head _ | simp) rfl
      subst hq4
      have hq1 : b1 = true := hall ⟨1, .data⟩ (by first | exact .head _ | simp) rfl
      subst hq1
      have hq0 : b0 = true := hall ⟨0, .phase⟩ (by first | exact .head _ | simp) rfl
      subst hq0
      have hb6 : b6 = false := by
        cases b6
        · rfl
        · exact absurd (show false = true from hcl 6 _ rfl rfl ⟨5, .phase⟩ (by first | exact .head _ | simp) rfl) (by decide)
      subst hb6
      have hb7 : b7 = false := by
        cases b7
        · rfl
        · exact absurd (show false = true from hcl 7 _ rfl rfl ⟨5, .chain⟩ (by first | exact .head _ | simp) rfl) (by decide)
      subst hb7
      clear hall hcl hs hf
      have hb := hF.p6.2.2
      simp only [Bool.false_eq_true, if_false] at hb
      obtain ⟨⟨q0, q1, q2, q3⟩, f0, f1, f2, f3⟩ := pl_cells hb
      clear hb
      go_simp
      exact hK _ _ ⟨true, true, b2, b3, true, true, false, false, dummy, u0, u1, u8, u9, u10, u11, u12, u13, u14, rfl, rfl, hF.s6⟩
    · intro listed a w1 K hs hcl hf hall hI hK
      obtain ⟨b0, b1, b2, b3, b4, b5, b6, b7, dummy, u0, u1, u8, u9, u10, u11, u12, u13, u14, rfl, rfl, hF⟩ := hI
      have hf' : b6 = false := hf
      subst hf'
      have hq0 : b0 = true := hall ⟨0, .phase⟩ (by first | exact .head _ | simp) rfl
      subst hq0
      have hq1 : b1 = true := hall ⟨1, .phase⟩ (by first | exact .head _ | simp) rfl
      subst hq1
      have hq2 : b2 = true := hall ⟨2, .phase⟩ (by first | exact .head _ | simp) rfl
      subst hq2
      have hq3 : b3 = true := hall ⟨3, .phase⟩ (by first | exact .head _ | simp) rfl
      subst hq3
      have hq4 : b4 = true := hall ⟨4, .phase⟩ (by first | exact .head _ | simp) rfl
      subst hq4
      have hq5 : b5 = true := hall ⟨5, .phase⟩ (by first | exact .head _ | simp) rfl
      subst hq5
      clear hall hcl hs hf
      go_simp
      exact hK _ _ ⟨true, true, true, true, true, true, true, b7, dummy, u0, u1, u8, u9, u10, u11, u12, u13, u14, rfl, rfl, hF⟩
    · intro listed a w1 K hs hcl hf hall hI hK
      obtain ⟨b0, b1, b2, b3, b4, b5, b6, b7, dummy, u0, u1, u8, u9, u10, u11, u12, u13, u14, rfl, rfl, hF⟩ := hI
      have hf' : b7 = false := hf
      subst hf'
      have hq6 : b6 = true := hall ⟨6, .data⟩ (by first | exact .head _ | simp) rfl
      subst hq6
      have hq3 : b3 = true := hall ⟨3, .data⟩ (by first | exact .head _ | simp) rfl
      subst hq3
      have hq5 : b5 = true := hall ⟨5, .chain⟩ (by first | exact .head _ | simp) rfl
      subst hq5
      have hq0 : b0 = true := hall ⟨0, .phase⟩ (by first | exact .head _ | simp) rfl
      subst hq0
      have hq1 : b1 = true := hall ⟨1, .phase⟩ (by first | exact .head _ | simp) rfl
      subst hq1
      have hq2 : b2 = true := hall ⟨2, .phase⟩ (by first | exact .head _ | simp) rfl
      subst hq2
      have hq4 : b4 = true := hall ⟨4, .phase⟩ (by first | exact .head _ | simp) rfl
      subst hq4
      clear hall hcl hs hf
      have hb := hF.p7.2.2
      simp only [Bool.false_eq_true, if_false] at hb
      obtain ⟨⟨q0, q1, q2, q3⟩, f0, f1, f2, f3⟩ := pl_cells hb
      clear hb
      go_simp
      exact hK _ _ ⟨true, true, true, true, true, true, true, true, dummy, u0, u1, u8, u9, u10, u11, u12, u13, u14, rfl, rfl, hF.s7⟩
  · intro listed a w1 K hs hcl hf hall hI hK
    obtain ⟨b0, b1, b2, b3, b4, b5, k6, k7, u0, u1, u8, u9, u10, u11, u12, rfl, rfl, hF⟩ := hI
    have hf' : b0 = false := hf
    subst hf'
    have hb4 : b4 = false := by
      cases b4
      · rfl
      · exact absurd (show false = true from hcl 4 _ rfl rfl ⟨0, .data⟩ (by first | exact .head _ | simp) rfl) (by decide)
    subst hb4
    have hb5 : b5 = false := by
      cases b5
      · rfl
      · exact absurd (show false = true from hcl 5 _ rfl rfl ⟨0, .phase⟩ (by first | exact .head _ | simp) rfl) (by decide)
    subst hb5
    clear hall hcl hs hf
    obtain ⟨⟨q0, q1, q2, q3⟩, _⟩ := pl_cells (hF.old.block HB3.out)
    go_simp
    exact hK _ _ ⟨true, b1, b2, b3, false, false, k6, k7, u0, u1, u8, u9, u10, u11, u12, rfl, rfl, hF⟩
  · intro listed a w1 K hs hcl hf hall hI hK
    obtain ⟨b0, b1, b2, b3, b4, b5, k6, k7, u0, u1, u8, u9, u10, u11, u12, rfl, rfl, hF⟩ := hI
    have hf' : b1 = false := hf
    subst hf'
    have hb5 : b5 = false := by
      cases b5
      · rfl
      · exact absurd (show false = true from hcl 5 _ rfl rfl ⟨1, .data⟩ (by first | exact .head _ | simp) rfl) (by decide)
    subst hb5
    clear hall hcl hs hf
    obtain ⟨⟨q0, q1, q2, q3⟩, _⟩ := pl_cells (hF.old.block HB3.out)
    go_simp
    exact hK _ _ ⟨b0, true, b2, b3, b4, false, k6, k7, u0, u1, u8, u9, u10, u11, u12, rfl, rfl, hF⟩
  · intro listed a w1 K hs hcl hf hall hI hK
    obtain ⟨b0, b1, b2, b3, b4, b5, k6, k7, u0, u1, u8, u9, u10, u11, u12, rfl, rfl, hF⟩ := hI
    have hf' : b2 = false := hf
    subst hf'
    have hb4 : b4 = false := by
      cases b4
      · rfl
      · exact absurd (show false = true from hcl 4 _ rfl rfl ⟨2, .data⟩ (by first | exact .head _ | simp) rfl) (by decide)
    subst hb4
    have hb5 : b5 = false := by
      cases b5
      · rfl
      · exact absurd (show false = true from hcl 5 _ rfl rfl ⟨2, .phase⟩ (by first | exact .head _ | simp) rfl) (by decide)
    subst hb5
    clear hall hcl hs hf
    go_simp
    exact hK _ _ ⟨b0, b1, true, b3, false, false, w1.heap.size, k7, u0, u1, u8, u9, u10, u11, u12, rfl, rfl, hF.a6⟩
  · intro listed a w1 K hs hcl hf hall hI hK
    obtain ⟨b0, b1, b2, b3, b4, b5, k6, k7, u0, u1, u8, u9, u10, u11, u12, rfl, rfl, hF⟩ := hI
    have hf' : b3 = false := hf
    subst hf'
    have hb4 : b4 = false := by
      cases b4
      · rfl
      · exact absurd (show false = true from hcl 4 _ rfl rfl ⟨3, .phase⟩ (by first | exact .head _ | simp) rfl) (by decide)
    subst hb4
    have hb5 : b5 = false := by
      cases b5
      · rfl
      · exact absurd (show false = true from hcl 5 _ rfl rfl ⟨3, .data⟩ (by first | exact .head _ | simp) rfl) (by decide)
    subst hb5
    clear hall hcl hs hf
    go_simp
    exact hK _ _ ⟨b0, b1, b2, true, false, false, k6, w1.heap.size, u0, u1, u8, u9, u10, u11, u12, rfl, rfl, hF.a7⟩
  · intro listed a w1 K hs hcl hf hall hI hK
    obtain ⟨b0, b1, b2, b3, b4, b5, k6, k7, u0, u1, u8, u9, u10, u11, u12, rfl, rfl, hF⟩ := hI
    have hf' : b4 = false := hf
    subst hf'
    have hq2 : b2 = true := hall ⟨2, .data⟩ (by first | exact .head _ | simp) rfl
    subst hq2
    have hq0 : b0 = true := hall ⟨0, .data⟩ (by first | exact .head _ | simp) rfl
    subst hq0
    have hq3 : b3 = true := hall ⟨3, .phase⟩ (by first | exact .head _ | simp) rfl
    subst hq3
    have hb5 : b5 = false := by
      cases b5
      · rfl
      · exact absurd (show false = true from hcl 5 _ rfl rfl ⟨4, .chain⟩ (by first | exact .head _ | simp) rfl) (by decide)
    subst hb5
    clear hall hcl hs hf
    have hb : w1.heap[k6]? = some (plO plZ) := (hF.p6 rfl).2.2
    obtain ⟨⟨q0, q1, q2, q3⟩, f0, f1, f2, f3⟩ := pl_cells hb
    clear hb
    go_simp
    exact hK _ _ ⟨true, b1, true, true, true, false, k6, k7, u0, u1, u8, u9, u10, u11, u12, rfl, rfl, hF.s6⟩
  · intro listed a w1 K hs hcl hf hall hI hK
    obtain ⟨b0, b1, b2, b3, b4, b5, k6, k7, u0, u1, u8, u9, u10, u11, u12, rfl, rfl, hF⟩ := hI
    have hf' : b5 = false := hf
    subst hf'
    have hq3 : b3 = true := hall ⟨3, .data⟩ (by first | exact .head _ | simp) rfl
    subst hq3
    have hq1 : b1 = true := hall ⟨1, .data⟩ (by first | exact .head _ | simp) rfl
    subst hq1
    have hq4 : b4 = true := hall ⟨4, .chain⟩ (by first | exact .head _ | simp) rfl
    subst hq4
    have hq0 : b0 = true := hall ⟨0, .phase⟩ (by first | exact .head _ | simp) rfl
    subst hq0
    have hq2 : b2 = true := hall ⟨2, .phase⟩ (by first | exact .head _ | simp) rfl
    subst hq2
    clear hall hcl hs hf
    have hb : w1.heap[k7]? = some (plO plZ) := (hF.p7 rfl).2.2
    obtain ⟨⟨q0, q1, q2, q3⟩, f0, f1, f2, f3⟩ := pl_cells hb
    clear hb
    go_simp
    exact hK _ _ ⟨true, true, true, true, true, true, k6, k7, u0, u1, u8, u9, u10, u11, u12, rfl, rfl, hF.s7⟩
end Go.Proofs.Ythadkjgadhbidaa
