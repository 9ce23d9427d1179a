/-
  The sanity check of law 22.
-/
import Derived.Test.YtpknglclcdgfbaaLfY
import Derived.Test.YtpknglclcdgfbaaLfE
namespace Go.Proofs.Ytpknglclcdgfbaa
open Go.RowKit Go.Shelf
set_option linter.unusedVariables false

def jdS : Jd := ⟨⟨#[]⟩, ⟨#[]⟩, none, [], 0, none, [], 0, false, ⟨#[]⟩, 2, 100, 1000, 1000, 5, 10000, none, [], 0, 0, 0⟩
theorem jdS_ok (w : World) : JdOk w jdS := ⟨Or.inl rfl, by decide, fun i => ⟨by simp [jdS], by simp [jdS]⟩, ⟨by decide, by decide⟩, ⟨by decide, by decide⟩, ⟨by decide, by decide⟩, ⟨by decide, by decide⟩⟩
theorem jdS_A : jdA jdS = .agg #[.string ⟨#[]⟩, .string ⟨#[]⟩, .slice none 0 0, .slice none 0 0, .bool false, .string ⟨#[]⟩, .int .i64 2, .int .u64 100, .int .u64 1000, .int .u64 1000, .int .i64 5, .int .u64 10000, .slice none 0 0, .int .i64 0, .int .i64 0] := rfl
set_option maxHeartbeats 4000000 in
set_option maxRecDepth 100000 in
theorem lvsaneC (w : World) : Calls Try.prog 19 #[] w fun e w' => e = .returned (.bool true) ∧ Old w w' := by
  have h1 := fun W => lnewC W
  have h2 := fun (W : World) (A : Option Addr) (c : Nat) => lspawnC ⟨1, 0, 0, 0, [], 0, false, 0, false, false⟩ A c W (Or.inl rfl) (by decide)
  have h3 := fun (W : World) (A : Option Addr) (c : Nat) => lspawnedC jdS ⟨2, 1, 0, 0, [], 0, false, 0, false, false⟩ A c true false 0 0 W (jdS_ok W) Lf.U0 Lf.U0 ⟨Lf.U0, Lf.U0, fun t h => by cases h⟩ (Or.inl rfl) (by decide)
  have h4 := fun (W : World) (A : Option Addr) (c : Nat) => lexitC jdS ⟨3, 1, 0, 0, [], 0, false, 0, false, false⟩ A c 1 50 0 W (jdS_ok W) ⟨by decide, by decide⟩ Lf.U0 ⟨Lf.U0, Lf.U0, fun t h => by cases h⟩ (Or.inl rfl) (by decide)
  rw [show Lf.spawn ⟨1, 0, 0, 0, [], 0, false, 0, false, false⟩ = (⟨2, 1, 0, 0, [], 0, false, 0, false, false⟩, true) from by kernel_rfl] at h2
  rw [show Lf.spawned jdS.j ⟨2, 1, 0, 0, [], 0, false, 0, false, false⟩ true false 0 0 = (⟨3, 1, 0, 0, [], 0, false, 0, false, false⟩, 0, false) from by kernel_rfl] at h3
  rw [show Lf.exit jdS.j ⟨3, 1, 0, 0, [], 0, false, 0, false, false⟩ 1 50 0 = (⟨5, 1, 1, 0, [50], 150, false, 0, false, false⟩, true) from by kernel_rfl] at h4
  rw [jdS_A] at h3 h4
  unfold LfP lfA Lf.new at h1
  unfold LfPb lfA at h2 h4
  unfold LfPib lfA at h3
  simp only [List.length_nil, List.length_singleton] at h1 h2 h3 h4
  have H1 := Lib.hid h1
  have H2 := Lib.hid h2
  have H3 := Lib.hid h3
  have H4 := Lib.hid h4
  clear h1 h2 h3 h4
  go_enter Try.func19, Try.ntmps19
  go_wp2_with fail
  refine (H1.out _).mono ?_; rintro e w2 ⟨A2, c2, rfl, _, hd2⟩
  have bj := hd2.block (heap_alloc_new w (.cells #[.string ⟨#[]⟩, .string ⟨#[]⟩, .slice none 0 0, .slice none 0 0, .bool false, .string ⟨#[]⟩, .int .i64 2, .int .u64 100, .int .u64 1000, .int .u64 1000, .int .i64 5, .int .u64 10000, .slice none 0 0, .int .i64 0, .int .i64 0] 33))
  have hO := ((Old.refl w).alloc _).up hd2
  clear hd2
  go_wp2_with fail
  refine (H2.out _ _ _).mono ?_; rintro e w3 ⟨A3, c3', rfl, _, hd3⟩
  have bj3 := ((Old.refl w3).alloc (.cells #[.int .i64 2, .int .i64 1, .int .i64 0, .int .u64 0, .slice A3 0 c3', .int .u64 0, .bool false, .int .i64 0, .bool false, .bool false] 48)).block (hd3.block bj)
  have b2 := heap_alloc_new w3 (.cells #[.int .i64 2, .int .i64 1, .int .i64 0, .int .u64 0, .slice A3 0 c3', .int .u64 0, .bool false, .int .i64 0, .bool false, .bool false] 48)
  have hO3 := (hO.up hd3).alloc (.cells #[.int .i64 2, .int .i64 1, .int .i64 0, .int .u64 0, .slice A3 0 c3', .int .u64 0, .bool false, .int .i64 0, .bool false, .bool false] 48)
  clear hd3 hO bj
  obtain ⟨⟨e0, e1, e2, e3, e4, e5, e6, e7, e8, e9, e10, e11, e12, e13, e14⟩, _⟩ := row15 (bj3)
  go_wp2_with fail
  refine (H3.out _ _ _).mono ?_; rintro e w4 ⟨A4, c4', rfl, _, hd4⟩
  have bj4 := hd4.block bj3
  have b4 := hd4.block b2
  have hO4 := hO3.up hd4
  have hlt : w.heap.size ≠ w3.heap.size := fun e => by rw [e] at bj3; rw [bj3] at b2; simp at b2
  have hle : w.heap.size ≤ w3.heap.size := by have := lt_of_block bj3; simp at this; omega
  clear hd4 bj3 b2 hO3 e0 e1 e2 e3 e4 e5 e6 e7 e8 e9 e10 e11 e12 e13 e14
  obtain ⟨⟨c0, c1, c2, c3, c4, c5, c6, c7, c8, c9⟩, f0, f1, f2, f3, f4, f5, f6, f7, f8, f9⟩ := row10 (b4)
  obtain ⟨⟨e0, e1, e2, e3, e4, e5, e6, e7, e8, e9, e10, e11, e12, e13, e14⟩, _⟩ := row15 (bj4)
  go_upto_region 4 with fail
  rw [show ((((((((((w4.setCell ⟨w3.heap.size, 0, none⟩ (.int .i64 3)).setCell ⟨w3.heap.size, 1, none⟩ (.int .i64 1)).setCell ⟨w3.heap.size, 2, none⟩ (.int .i64 0)).setCell ⟨w3.heap.size, 3, none⟩ (.int .u64 0)).setCell ⟨w3.heap.size, 4, none⟩ (.slice A4 0 c4')).setCell ⟨w3.heap.size, 5, none⟩ (.int .u64 0)).setCell ⟨w3.heap.size, 6, none⟩ (.bool false)).setCell ⟨w3.heap.size, 7, none⟩ (.int .i64 0)).setCell ⟨w3.heap.size, 8, none⟩ (.bool false)).setCell ⟨w3.heap.size, 9, none⟩ (.bool false)) = put10 w4 (w3.heap.size) (.int .i64 3) (.int .i64 1) (.int .i64 0) (.int .u64 0) (.slice A4 0 c4') (.int .u64 0) (.bool false) (.int .i64 0) (.bool false) (.bool false) from rfl]
  have b4' := put10_row (w := w4) (k := w3.heap.size) (v0 := .int .i64 3) (v1 := .int .i64 1) (v2 := .int .i64 0) (v3 := .int .u64 0) (v4 := .slice A4 0 c4') (v5 := .int .u64 0) (v6 := .bool false) (v7 := .int .i64 0) (v8 := .bool false) (v9 := .bool false) b4
  have bj4' := (put10_other (w := w4) (k := w3.heap.size) (v0 := .int .i64 3) (v1 := .int .i64 1) (v2 := .int .i64 0) (v3 := .int .u64 0) (v4 := .slice A4 0 c4') (v5 := .int .u64 0) (v6 := .bool false) (v7 := .int .i64 0) (v8 := .bool false) (v9 := .bool false) (hlt)).trans bj4
  have hO4' := put10_old (w := w4) (k := w3.heap.size) (v0 := .int .i64 3) (v1 := .int .i64 1) (v2 := .int .i64 0) (v3 := .int .u64 0) (v4 := .slice A4 0 c4') (v5 := .int .u64 0) (v6 := .bool false) (v7 := .int .i64 0) (v8 := .bool false) (v9 := .bool false) hO4 (by omega)
  generalize put10 w4 (w3.heap.size) (.int .i64 3) (.int .i64 1) (.int .i64 0) (.int .u64 0) (.slice A4 0 c4') (.int .u64 0) (.bool false) (.int .i64 0) (.bool false) (.bool false) = w5 at *
  clear c0 c1 c2 c3 c4 c5 c6 c7 c8 c9 f0 f1 f2 f3 f4 f5 f6 f7 f8 f9 e0 e1 e2 e3 e4 e5 e6 e7 e8 e9 e10 e11 e12 e13 e14
  clear b4 bj4 hO4
  obtain ⟨⟨c0, c1, c2, c3, c4, c5, c6, c7, c8, c9⟩, f0, f1, f2, f3, f4, f5, f6, f7, f8, f9⟩ := row10 (b4')
  obtain ⟨⟨e0, e1, e2, e3, e4, e5, e6, e7, e8, e9, e10, e11, e12, e13, e14⟩, _⟩ := row15 (bj4')
  go_wp2_with fail
  refine (H4.out _ _ _).mono ?_; rintro e w6 ⟨A6, c6', rfl, _, hd6⟩
  have b6 := hd6.block b4'
  have hO6 := hO4'.up hd6
  clear hd6 b4' bj4' hO4' c0 c1 c2 c3 c4 c5 c6 c7 c8 c9 f0 f1 f2 f3 f4 f5 f6 f7 f8 f9 e0 e1 e2 e3 e4 e5 e6 e7 e8 e9 e10 e11 e12 e13 e14
  obtain ⟨⟨c0, c1, c2, c3, c4, c5, c6, c7, c8, c9⟩, f0, f1, f2, f3, f4, f5, f6, f7, f8, f9⟩ := row10 (b6)
  go_upto_region 5 with fail
  rw [show ((((((((((w6.setCell ⟨w3.heap.size, 0, none⟩ (.int .i64 5)).setCell ⟨w3.heap.size, 1, none⟩ (.int .i64 1)).setCell ⟨w3.heap.size, 2, none⟩ (.int .i64 1)).setCell ⟨w3.heap.size, 3, none⟩ (.int .u64 0)).setCell ⟨w3.heap.size, 4, none⟩ (.slice A6 1 c6')).setCell ⟨w3.heap.size, 5, none⟩ (.int .u64 150)).setCell ⟨w3.heap.size, 6, none⟩ (.bool false)).setCell ⟨w3.heap.size, 7, none⟩ (.int .i64 0)).setCell ⟨w3.heap.size, 8, none⟩ (.bool false)).setCell ⟨w3.heap.size, 9, none⟩ (.bool false)) = put10 w6 (w3.heap.size) (.int .i64 5) (.int .i64 1) (.int .i64 1) (.int .u64 0) (.slice A6 1 c6') (.int .u64 150) (.bool false) (.int .i64 0) (.bool false) (.bool false) from rfl]
  have b6' := put10_row (w := w6) (k := w3.heap.size) (v0 := .int .i64 5) (v1 := .int .i64 1) (v2 := .int .i64 1) (v3 := .int .u64 0) (v4 := .slice A6 1 c6') (v5 := .int .u64 150) (v6 := .bool false) (v7 := .int .i64 0) (v8 := .bool false) (v9 := .bool false) b6
  have hO6' := put10_old (w := w6) (k := w3.heap.size) (v0 := .int .i64 5) (v1 := .int .i64 1) (v2 := .int .i64 1) (v3 := .int .u64 0) (v4 := .slice A6 1 c6') (v5 := .int .u64 150) (v6 := .bool false) (v7 := .int .i64 0) (v8 := .bool false) (v9 := .bool false) hO6 (by omega)
  generalize put10 w6 (w3.heap.size) (.int .i64 5) (.int .i64 1) (.int .i64 1) (.int .u64 0) (.slice A6 1 c6') (.int .u64 150) (.bool false) (.int .i64 0) (.bool false) (.bool false) = w7 at *
  clear c0 c1 c2 c3 c4 c5 c6 c7 c8 c9 f0 f1 f2 f3 f4 f5 f6 f7 f8 f9
  obtain ⟨⟨c0, c1, c2, c3, c4, c5, c6, c7, c8, c9⟩, f0, f1, f2, f3, f4, f5, f6, f7, f8, f9⟩ := row10 (b6')
  clear b6 b6' hO6 H1 H2 H3 H4
  go_wp2_with fail
  go_ret
  exact ⟨rfl, hO6'⟩
end Go.Proofs.Ytpknglclcdgfbaa
