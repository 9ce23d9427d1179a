/-
  The walk of the statement LifeClimbs.
-/
import Derived.Test.YtpknglclcdgfbaaLvH
namespace Go.Proofs.Ytpknglclcdgfbaa
open Go.RowKit Go.Shelf
set_option linter.unusedVariables false

def CbRel (w : World) (j : Jd) (kj k6 : Nat) (nw : Int) (As : Option Addr) (s8 s46 : Value) (wr : World) : Prop :=
  ∃ (i : Nat) (A : Option Addr) (c : Nat) (s : Int), i ≤ j.j.lad.length + 1 ∧ s46 = .int .i64 i ∧ s8 = .int .i64 s ∧ (i ≤ j.j.lad.length → s = Lf.sig j.j.lad nw i) ∧ (i = j.j.lad.length + 1 → s = 0) ∧
    Hid (wr.heap[k6]? = some (lfO (Lf.clim j.j.lad nw (min i j.j.lad.length)) A c)) ∧ Hid (wr.heap[kj]? = some (jdO j)) ∧ Hid (JdOk wr j) ∧ Hid (Old w wr) ∧ Hid (Ts wr 65 As (shots (Ld.steps j.j.lad nw)))
set_option maxHeartbeats 4000000 in
set_option maxRecDepth 100000 in
theorem lclimbs_any (A : Option Addr) (c : Nat) (l : List Int) (now : Int) (w : World) (hr : Rs w A (ints l)) (hm : l.length ≤ maxLen) (hn : Tk.U now) :
    Calls Try.prog 6 #[.slice A l.length c, .int .u64 now] w fun e w' => e = .returned (.bool true) ∧ Old w w' := by
  have HS := Lib.hid (lvsaneC w)
  have HR := Lib.hid hr
  have HM := Lib.hid hm
  clear hr hm
  go_enter Try.func6, Try.ntmps6
  go_wp2_with fail
  refine (HS.out).mono ?_; rintro e w1 ⟨rfl, hd1⟩
  have HN := Lib.hid (newDeck A c l w1 (HR.out.up hd1) HM.out)
  go_wp2_with fail
  refine (HN.out).mono ?_; rintro e w2 ⟨rfl, hdk, hd2⟩
  have hj := jobC w1.heap.size w1.heap.size l ⟨#[97]⟩ none 0 [] w2 hdk (Or.inl rfl) (by decide)
  unfold JobPost jdA at hj
  simp only [List.length_nil] at hj
  have HJ := Lib.hid hj
  clear hj HN HS
  go_wp2_with fail
  refine (HJ.out).mono ?_; rintro e w3 ⟨j, l', rfl, hbd, _, h1, h3, hw, hmem, hdk3, hg3⟩
  have HO3 : Hid (Old w w3) := Lib.hid (hd1.up (Dk.old hd2 hg3 (Nat.le_refl _)))
  have HOK := Lib.hid (JdMem.ok (m := 0) hbd h3 hw hmem)
  have HL3 := Lib.hid h3
  clear hbd hw hmem hdk3 hg3 hdk hd2 hd1 HJ h1 h3
  have hnw : Tk.U (now.tmod 1099511627776) := ⟨Int.tmod_nonneg _ hn.1, by have := Int.tmod_lt_of_pos now (show (0 : Int) < 1099511627776 by decide); omega⟩
  have bj := heap_alloc_new w3 (.cells #[.string j.nm, .string j.run, .slice j.eA j.env.length j.ec, .slice j.nA j.needs.length j.nc, .bool j.hasR, .string j.ready, .int .i64 j.restart, .int .u64 j.base, .int .u64 j.cap, .int .u64 j.stable, .int .i64 j.burst, .int .u64 j.win, .slice j.lA j.lad.length j.lc, .int .i64 j.line, .int .i64 j.col] 33)
  have hO4 : Old w (w3.alloc (.cells #[.string j.nm, .string j.run, .slice j.eA j.env.length j.ec, .slice j.nA j.needs.length j.nc, .bool j.hasR, .string j.ready, .int .i64 j.restart, .int .u64 j.base, .int .u64 j.cap, .int .u64 j.stable, .int .i64 j.burst, .int .u64 j.win, .slice j.lA j.lad.length j.lc, .int .i64 j.line, .int .i64 j.col] 33)) := HO3.out.alloc _
  have HOK4 := Lib.hid (HOK.out.up ((Old.refl w3).alloc (.cells #[.string j.nm, .string j.run, .slice j.eA j.env.length j.ec, .slice j.nA j.needs.length j.nc, .bool j.hasR, .string j.ready, .int .i64 j.restart, .int .u64 j.base, .int .u64 j.cap, .int .u64 j.stable, .int .i64 j.burst, .int .u64 j.win, .slice j.lA j.lad.length j.lc, .int .i64 j.line, .int .i64 j.col] 33)))
  have h1' := fun W => lnewC W
  have h2' := fun (W : World) (A : Option Addr) (c : Nat) => lspawnC ⟨1, 0, 0, 0, [], 0, false, 0, false, false⟩ A c W (Or.inl rfl) (by decide)
  rw [show Lf.spawn ⟨1, 0, 0, 0, [], 0, false, 0, false, false⟩ = (⟨2, 1, 0, 0, [], 0, false, 0, false, false⟩, true) from by kernel_rfl] at h2'
  unfold LfP lfA Lf.new at h1'
  unfold LfPb lfA at h2'
  simp only [List.length_nil] at h1' h2'
  have H1 := Lib.hid h1'
  have H2 := Lib.hid h2'
  clear h1' h2' HOK
  go_upto_region 5 with fail
  generalize now.tmod 1099511627776 = nw at *
  generalize w3.alloc (.cells #[.string j.nm, .string j.run, .slice j.eA j.env.length j.ec, .slice j.nA j.needs.length j.nc, .bool j.hasR, .string j.ready, .int .i64 j.restart, .int .u64 j.base, .int .u64 j.cap, .int .u64 j.stable, .int .i64 j.burst, .int .u64 j.win, .slice j.lA j.lad.length j.lc, .int .i64 j.line, .int .i64 j.col] 33) = w4 at *
  generalize w3.heap.size = kj at *
  go_wp2_with fail
  refine (H1.out _).mono ?_; rintro e w5 ⟨A5, q5, rfl, _, hd5⟩
  go_wp2_with fail
  refine (H2.out _ _ _).mono ?_; rintro e w6 ⟨A6, q6, rfl, _, hd6⟩
  have hd56 := hd5.up hd6
  have bj7 := ((Old.refl w6).alloc (.cells #[.int .i64 2, .int .i64 1, .int .i64 0, .int .u64 0, .slice A6 0 q6, .int .u64 0, .bool false, .int .i64 0, .bool false, .bool false] 48)).block (hd56.block bj)
  have b7 := heap_alloc_new w6 (.cells #[.int .i64 2, .int .i64 1, .int .i64 0, .int .u64 0, .slice A6 0 q6, .int .u64 0, .bool false, .int .i64 0, .bool false, .bool false] 48)
  have HOK7 := Lib.hid ((HOK4.out.up hd56).up ((Old.refl w6).alloc (.cells #[.int .i64 2, .int .i64 1, .int .i64 0, .int .u64 0, .slice A6 0 q6, .int .u64 0, .bool false, .int .i64 0, .bool false, .bool false] 48)))
  have hO7 := (hO4.up hd56).alloc (.cells #[.int .i64 2, .int .i64 1, .int .i64 0, .int .u64 0, .slice A6 0 q6, .int .u64 0, .bool false, .int .i64 0, .bool false, .bool false] 48)
  have hlj : kj ≠ w6.heap.size := by have := lt_of_block (hd56.block bj); omega
  have hkle : w.heap.size ≤ w6.heap.size := (hO4.up hd56).size
  clear hd5 hd6 hd56 bj HOK4 hO4 H1 H2
  go_upto_region 6 with fail
  generalize w6.alloc (.cells #[.int .i64 2, .int .i64 1, .int .i64 0, .int .u64 0, .slice A6 0 q6, .int .u64 0, .bool false, .int .i64 0, .bool false, .bool false] 48) = w7 at *
  generalize w6.heap.size = k6 at *
  have h3' := fun (W : World) (ho : Old w7 W) (A : Option Addr) (c : Nat) => lspawnedC j ⟨2, 1, 0, 0, [], 0, false, 0, false, false⟩ A c true true nw 0 W (HOK7.out.up ho) hnw Lf.U0 ⟨Lf.U0, Lf.U0, fun t h => by cases h⟩ (Or.inl rfl) (by decide)
  rw [show Lf.spawned j.j ⟨2, 1, 0, 0, [], 0, false, 0, false, false⟩ true true nw 0 = (⟨4, 1, 0, nw, [], 0, false, 0, false, false⟩, 0, false) from rfl] at h3'
  unfold LfPib lfA jdA at h3'
  simp only [List.length_nil] at h3'
  have H3 := Lib.hid h3'
  clear h3'
  obtain ⟨⟨e0, e1, e2, e3, e4, e5, e6, e7, e8, e9, e10, e11, e12, e13, e14⟩, _⟩ := row15 (bj7)
  obtain ⟨⟨c0, c1, c2, c3, c4, c5, c6, c7, c8, c9⟩, f0, f1, f2, f3, f4, f5, f6, f7, f8, f9⟩ := row10 (b7)
  go_wp2_with fail
  refine (H3.out _ (Old.refl _) _ _).mono ?_; rintro e w8 ⟨A8, q8, rfl, _, hd8⟩
  have bj8 := hd8.block bj7
  have b8 := hd8.block b7
  have hO8 := hO7.up hd8
  have HOK8 := Lib.hid (HOK7.out.up hd8)
  clear c0 c1 c2 c3 c4 c5 c6 c7 c8 c9 f0 f1 f2 f3 f4 f5 f6 f7 f8 f9 e0 e1 e2 e3 e4 e5 e6 e7 e8 e9 e10 e11 e12 e13 e14
  clear hd8 bj7 b7 HOK7 hO7 H3
  obtain ⟨⟨c0, c1, c2, c3, c4, c5, c6, c7, c8, c9⟩, f0, f1, f2, f3, f4, f5, f6, f7, f8, f9⟩ := row10 (b8)
  go_upto_region 7 with fail
  rw [show ((((((((((w8.setCell ⟨k6, 0, none⟩ (.int .i64 4)).setCell ⟨k6, 1, none⟩ (.int .i64 1)).setCell ⟨k6, 2, none⟩ (.int .i64 0)).setCell ⟨k6, 3, none⟩ (.int .u64 nw)).setCell ⟨k6, 4, none⟩ (.slice A8 0 q8)).setCell ⟨k6, 5, none⟩ (.int .u64 0)).setCell ⟨k6, 6, none⟩ (.bool false)).setCell ⟨k6, 7, none⟩ (.int .i64 0)).setCell ⟨k6, 8, none⟩ (.bool false)).setCell ⟨k6, 9, none⟩ (.bool false)) = put10 w8 k6 (.int .i64 4) (.int .i64 1) (.int .i64 0) (.int .u64 nw) (.slice A8 0 q8) (.int .u64 0) (.bool false) (.int .i64 0) (.bool false) (.bool false) from rfl]
  have b8' := put10_row (w := w8) (k := k6) (v0 := .int .i64 4) (v1 := .int .i64 1) (v2 := .int .i64 0) (v3 := .int .u64 nw) (v4 := .slice A8 0 q8) (v5 := .int .u64 0) (v6 := .bool false) (v7 := .int .i64 0) (v8 := .bool false) (v9 := .bool false) b8
  have bj8' := (put10_other (w := w8) (k := k6) (v0 := .int .i64 4) (v1 := .int .i64 1) (v2 := .int .i64 0) (v3 := .int .u64 nw) (v4 := .slice A8 0 q8) (v5 := .int .u64 0) (v6 := .bool false) (v7 := .int .i64 0) (v8 := .bool false) (v9 := .bool false) (hlj)).trans bj8
  have hO8' := put10_old (w := w8) (k := k6) (v0 := .int .i64 4) (v1 := .int .i64 1) (v2 := .int .i64 0) (v3 := .int .u64 nw) (v4 := .slice A8 0 q8) (v5 := .int .u64 0) (v6 := .bool false) (v7 := .int .i64 0) (v8 := .bool false) (v9 := .bool false) hO8 (by omega)
  have HOK9 := Lib.hid (JdOk.put10 (w := w8) (k := k6) (v0 := .int .i64 4) (v1 := .int .i64 1) (v2 := .int .i64 0) (v3 := .int .u64 nw) (v4 := .slice A8 0 q8) (v5 := .int .u64 0) (v6 := .bool false) (v7 := .int .i64 0) (v8 := .bool false) (v9 := .bool false) HOK8.out b8 (by decide))
  generalize put10 w8 k6 (.int .i64 4) (.int .i64 1) (.int .i64 0) (.int .u64 nw) (.slice A8 0 q8) (.int .u64 0) (.bool false) (.int .i64 0) (.bool false) (.bool false) = w9 at *
  clear HOK8 b8 bj8 hO8
  clear c0 c1 c2 c3 c4 c5 c6 c7 c8 c9 f0 f1 f2 f3 f4 f5 f6 f7 f8 f9
  have h4' := fun (W : World) (ho : Old w9 W) (A : Option Addr) (c : Nat) => lstopC j ⟨4, 1, 0, nw, [], 0, false, 0, false, false⟩ A c nw W (HOK9.out.up ho) hnw (Or.inl rfl) (Nat.zero_le _)
  rw [Lf.clim_zero j.j nw (by have := HL3.out; show j.lad.length ≤ 1000; omega)] at h4'
  unfold LfPi lfA jdA Lf.clim at h4'
  simp only [List.length_nil] at h4'
  rw [show ((0 : Nat) : Int) + 1 = 1 from rfl] at h4'
  generalize hdu0 : (Ld.upTo j.j.lad nw (0 + 1)).2 = du0 at h4'
  generalize har0 : decide (((0 : Nat) : Int) < (j.j.lad.length : Int)) = ar0 at h4'
  generalize hsg0 : Lf.sig j.j.lad nw 0 = sg0 at h4'
  have HDU := Lib.hid hdu0
  have HAR := Lib.hid har0
  have HSG := Lib.hid hsg0
  clear hdu0 har0 hsg0
  have H4 := Lib.hid h4'
  clear h4'
  obtain ⟨⟨e0, e1, e2, e3, e4, e5, e6, e7, e8, e9, e10, e11, e12, e13, e14⟩, _⟩ := row15 (bj8')
  obtain ⟨⟨c0, c1, c2, c3, c4, c5, c6, c7, c8, c9⟩, f0, f1, f2, f3, f4, f5, f6, f7, f8, f9⟩ := row10 (b8')
  go_wp2_with fail
  refine (H4.out _ (Old.refl _) _ _).mono ?_; rintro e w10 ⟨A10, q10, rfl, _, hd10⟩
  have bj10 := hd10.block bj8'
  have b10 := hd10.block b8'
  have hO10 := hO8'.up hd10
  have HOK10 := Lib.hid (HOK9.out.up hd10)
  clear c0 c1 c2 c3 c4 c5 c6 c7 c8 c9 f0 f1 f2 f3 f4 f5 f6 f7 f8 f9 e0 e1 e2 e3 e4 e5 e6 e7 e8 e9 e10 e11 e12 e13 e14
  clear hd10 bj8' b8' HOK9 hO8' H4
  obtain ⟨⟨c0, c1, c2, c3, c4, c5, c6, c7, c8, c9⟩, f0, f1, f2, f3, f4, f5, f6, f7, f8, f9⟩ := row10 (b10)
  go_upto_region 8 with fail
  rw [show ((((((((((w10.setCell ⟨k6, 0, none⟩ (.int .i64 6)).setCell ⟨k6, 1, none⟩ (.int .i64 1)).setCell ⟨k6, 2, none⟩ (.int .i64 0)).setCell ⟨k6, 3, none⟩ (.int .u64 nw)).setCell ⟨k6, 4, none⟩ (.slice A10 0 q10)).setCell ⟨k6, 5, none⟩ (.int .u64 du0)).setCell ⟨k6, 6, none⟩ (.bool ar0)).setCell ⟨k6, 7, none⟩ (.int .i64 1)).setCell ⟨k6, 8, none⟩ (.bool false)).setCell ⟨k6, 9, none⟩ (.bool false)) = put10 w10 k6 (.int .i64 6) (.int .i64 1) (.int .i64 0) (.int .u64 nw) (.slice A10 0 q10) (.int .u64 du0) (.bool ar0) (.int .i64 1) (.bool false) (.bool false) from rfl]
  have b10' := put10_row (w := w10) (k := k6) (v0 := .int .i64 6) (v1 := .int .i64 1) (v2 := .int .i64 0) (v3 := .int .u64 nw) (v4 := .slice A10 0 q10) (v5 := .int .u64 du0) (v6 := .bool ar0) (v7 := .int .i64 1) (v8 := .bool false) (v9 := .bool false) b10
  have bj10' := (put10_other (w := w10) (k := k6) (v0 := .int .i64 6) (v1 := .int .i64 1) (v2 := .int .i64 0) (v3 := .int .u64 nw) (v4 := .slice A10 0 q10) (v5 := .int .u64 du0) (v6 := .bool ar0) (v7 := .int .i64 1) (v8 := .bool false) (v9 := .bool false) (hlj)).trans bj10
  have hO10' := put10_old (w := w10) (k := k6) (v0 := .int .i64 6) (v1 := .int .i64 1) (v2 := .int .i64 0) (v3 := .int .u64 nw) (v4 := .slice A10 0 q10) (v5 := .int .u64 du0) (v6 := .bool ar0) (v7 := .int .i64 1) (v8 := .bool false) (v9 := .bool false) hO10 (by omega)
  have HOK11 := Lib.hid (JdOk.put10 (w := w10) (k := k6) (v0 := .int .i64 6) (v1 := .int .i64 1) (v2 := .int .i64 0) (v3 := .int .u64 nw) (v4 := .slice A10 0 q10) (v5 := .int .u64 du0) (v6 := .bool ar0) (v7 := .int .i64 1) (v8 := .bool false) (v9 := .bool false) HOK10.out b10 (by decide))
  generalize put10 w10 k6 (.int .i64 6) (.int .i64 1) (.int .i64 0) (.int .u64 nw) (.slice A10 0 q10) (.int .u64 du0) (.bool ar0) (.int .i64 1) (.bool false) (.bool false) = w11 at *
  clear HOK10 b10 bj10 hO10
  clear c0 c1 c2 c3 c4 c5 c6 c7 c8 c9 f0 f1 f2 f3 f4 f5 f6 f7 f8 f9
  have h5' := fun (W : World) (ho : Old w11 W) => rStepsC j.lA j.lc j.lad nw W (HOK11.out.up ho).lad.rs (by have := HL3.out; omega) HOK11.out.ok hnw
  unfold Made at h5'
  have H5 := Lib.hid h5'
  clear h5'
  obtain ⟨⟨e0, e1, e2, e3, e4, e5, e6, e7, e8, e9, e10, e11, e12, e13, e14⟩, _⟩ := row15 (bj10')
  go_wp2_with fail
  refine (H5.out _ (Old.refl _)).mono ?_; rintro e w12 ⟨vs, rfl, hown, hd12⟩
  obtain ⟨As, cs, rfl, hts, _, _⟩ := hown.shape
  have bj12 := hd12.block bj10'
  have b12 := hd12.block b10'
  have hO12 := hO10'.up hd12
  have HOK12 := Lib.hid (HOK11.out.up hd12)
  clear e0 e1 e2 e3 e4 e5 e6 e7 e8 e9 e10 e11 e12 e13 e14
  clear hd12 bj10' b10' HOK11 hO10' H5 hown
  obtain ⟨bS, oS, rfl, _, _⟩ := hts.rs.at_ (by rw [shots_length, Ld.steps_len]; omega)
  have HREL : Hid (CbRel w j kj k6 nw (some ⟨bS, oS, none⟩) (.int .i64 sg0) (.int .i64 0) w12) := Lib.hid ⟨0, A10, q10, sg0, Nat.zero_le _, rfl, rfl, fun _ => HSG.out.symm, fun h => by omega, Lib.hid (by rw [Nat.zero_min]; have e1 := HDU.out; have e2 := HAR.out; subst e1; subst e2; exact b12), Lib.hid bj12, HOK12, Lib.hid hO12, Lib.hid hts⟩
  clear bj12 b12 hO12 HOK12 hts HSG HDU HAR
  have hn1 : j.lad.length + 1 ≤ 4 := by have := HL3.out; omega
  go_wp2_with fail
  go_loopw [8, 46] (fun s8 s46 wr => CbRel w j kj k6 nw (some ⟨bS, oS, none⟩) s8 s46 wr) (fun _ s46 _ => j.j.lad.length + 1 - (intOf s46).toNat)
  case atStart => exact HREL.out
  case round =>
    obtain ⟨i, A, c, s, hi, rfl, rfl, hs, he, HB, HBJ, HOKI, HOW, HSH⟩ := hrel
    rw [show j.j.lad = j.lad from rfl] at *
    clear HREL
    by_cases hle : i ≤ j.lad.length
    · have hst := Ld.steps_get j.lad nw i hle
      obtain ⟨g1, g2⟩ := shots_get (Ld.steps j.lad nw) i (by rw [Ld.steps_len]; omega)
      rw [hst] at g1 g2
      have hc1 := HSH.out.rs.cellAt g1
      have hc2 := HSH.out.rs.cellAt g2
      have hss := hs hle
      rw [← Nat.add_assoc, show (Ld.next j.lad i (Ld.upTo j.lad nw i).2).1 = s from hss.symm] at hc2
      have HSS := Lib.hid hss
      clear hst g1 g2 hs he hss
      generalize (Ld.upTo j.lad nw i).2 = a0 at hc1
      have bx := heap_alloc_new wr (.cells #[.int .u64 a0, .int .i64 s] 65 (0, 0))
      have b1 := ((Old.refl wr).alloc (.cells #[.int .u64 a0, .int .i64 s] 65 (0, 0))).block HB.out
      have bj1 := ((Old.refl wr).alloc (.cells #[.int .u64 a0, .int .i64 s] 65 (0, 0))).block HBJ.out
      have HOKX := Lib.hid (HOKI.out.up ((Old.refl wr).alloc (.cells #[.int .u64 a0, .int .i64 s] 65 (0, 0))))
      have hOX := HOW.out.alloc (.cells #[.int .u64 a0, .int .i64 s] 65 (0, 0))
      have HSHX := Lib.hid (HSH.out.up ((Old.refl wr).alloc (.cells #[.int .u64 a0, .int .i64 s] 65 (0, 0))))
      rw [Nat.min_eq_left hle] at b1
      go_upto_region 12 with fail
      generalize wr.alloc (.cells #[.int .u64 a0, .int .i64 s] 65 (0, 0)) = wx at *
      generalize wr.heap.size = kx at *
      clear HB HBJ HOKI HOW HSH hc1 hc2
      have x0 := (cell_of_row wx kx 0 _ _ _ bx).trans rfl
      have x1 := (cell_of_row wx kx 1 _ _ _ bx).trans rfl
      unfold lfO Lf.clim at b1
      unfold jdO at bj1
      simp only [List.length_nil] at b1
      obtain ⟨⟨e0, e1, e2, e3, e4, e5, e6, e7, e8, e9, e10, e11, e12, e13, e14⟩, _⟩ := row15 bj1
      obtain ⟨⟨c0, c1, c2, c3, c4, c5, c6, c7, c8, c9⟩, f0, f1, f2, f3, f4, f5, f6, f7, f8, f9⟩ := row10 b1
      by_cases hlt : i < j.lad.length
      · have har : decide ((i : Int) < j.lad.length) = true := by simpa using hlt
        obtain ⟨g3, _⟩ := shots_get (Ld.steps j.lad nw) (i + 1) (by rw [Ld.steps_len]; omega)
        rw [Ld.steps_get j.lad nw (i + 1) hlt] at g3
        have hc3 := HSHX.out.rs.cellAt g3
        clear g3
        have hFI := fun (W : World) (ho : Old wx W) (A : Option Addr) (c : Nat) => lfireC j (Lf.clim j.lad nw i) A c W (HOKX.out.up ho) ⟨hnw, Ld.U_upTo HOKX.out.ok hnw _, fun t h => by cases h⟩ (Or.inl rfl) (Nat.zero_le _)
        have ecs : Lf.fire j.j (Lf.clim j.lad nw i) = (Lf.clim j.lad nw (i + 1), Lf.sig j.lad nw (i + 1)) := Lf.clim_succ j.j nw i (by show j.lad.length ≤ 1000; omega) hlt
        rw [ecs] at hFI
        clear ecs
        unfold LfPi lfA jdA Lf.clim at hFI
        simp only [List.length_nil] at hFI
        rw [har] at hFI b1 c6
        generalize (Ld.upTo j.lad nw (i + 1)).2 = du at *
        have hNX : (⟨6, 1, 0, nw, [], (Ld.upTo j.lad nw (i + 1 + 1)).2, decide (((i + 1 : Nat) : Int) < (j.lad.length : Int)), ((i + 1 : Nat) : Int) + 1, false, false⟩ : Lf.T) = Lf.clim j.lad nw (min (i + 1) j.lad.length) ∧ (i + 1 ≤ j.lad.length → Lf.sig j.lad nw (i + 1) = Lf.sig j.lad nw (i + 1)) ∧ (i + 1 = j.lad.length + 1 → Lf.sig j.lad nw (i + 1) = 0) :=
          ⟨by rw [Nat.min_eq_left hlt]; rfl, fun _ => rfl, fun h => by omega⟩
        generalize (Ld.upTo j.lad nw (i + 1 + 1)).2 = du2 at hNX hFI
        generalize decide (((i + 1 : Nat) : Int) < (j.lad.length : Int)) = ar2 at hNX hFI
        generalize ((i + 1 : Nat) : Int) + 1 = rg2 at hNX hFI
        have hNX' : ∃ sg2, sg2 = Lf.sig j.lad nw (i + 1) := ⟨_, rfl⟩
        obtain ⟨sg2, hsg2⟩ := hNX'
        rw [← hsg2] at hFI
        have HSG2 := Lib.hid hsg2
        have HNX := Lib.hid hNX
        have HFI := Lib.hid hFI
        clear hFI hNX hsg2
        have hii : ((i : Int) + 1).toNat = i + 1 := by omega
        go_quiet (fail)
        have b1n : (wx.drewN nq).heap[k6]? = some (.cells #[.int .i64 6, .int .i64 1, .int .i64 0, .int .u64 nw, .slice A 0 c, .int .u64 du, .bool true, .int .i64 ((i : Int) + 1), .bool false, .bool false] 48 (0, 0)) := b1
        have bjn : (wx.drewN nq).heap[kj]? = _ := bj1
        have HOKN := Lib.hid (HOKX.out.drewN nq)
        have hON := hOX.drewN nq
        have HSHN := Lib.hid (HSHX.out.drewN nq)
        have hxn := (Old.refl wx).drewN nq
        clear b1 bj1 HOKX hOX HSHX bx x0 x1
        clear c0 c1 c2 c3 c4 c5 c6 c7 c8 c9 f0 f1 f2 f3 f4 f5 f6 f7 f8 f9 e0 e1 e2 e3 e4 e5 e6 e7 e8 e9 e10 e11 e12 e13 e14
        generalize wx.drewN nq = wn at *
        obtain ⟨⟨e0, e1, e2, e3, e4, e5, e6, e7, e8, e9, e10, e11, e12, e13, e14⟩, _⟩ := row15 bjn
        obtain ⟨⟨c0, c1, c2, c3, c4, c5, c6, c7, c8, c9⟩, f0, f1, f2, f3, f4, f5, f6, f7, f8, f9⟩ := row10 b1n
        go_wp2_with fail
        refine (HFI.out _ hxn _ _).mono ?_; rintro e wy ⟨Ay, qy, rfl, _, hdy⟩
        have b1z := hdy.block b1n
        have bj1z := hdy.block bjn
        have hOZ := hON.up hdy
        have HOKY := Lib.hid (HOKN.out.up hdy)
        have HSHY := Lib.hid (HSHN.out.up hdy)
        clear c0 c1 c2 c3 c4 c5 c6 c7 c8 c9 f0 f1 f2 f3 f4 f5 f6 f7 f8 f9 e0 e1 e2 e3 e4 e5 e6 e7 e8 e9 e10 e11 e12 e13 e14
        clear hdy b1n bjn hON HOKN HSHN HFI hxn
        obtain ⟨⟨c0, c1, c2, c3, c4, c5, c6, c7, c8, c9⟩, f0, f1, f2, f3, f4, f5, f6, f7, f8, f9⟩ := row10 (b1z)
        go_upto_region 15 with fail
        rw [show ((((((((((wy.setCell ⟨k6, 0, none⟩ (.int .i64 6)).setCell ⟨k6, 1, none⟩ (.int .i64 1)).setCell ⟨k6, 2, none⟩ (.int .i64 0)).setCell ⟨k6, 3, none⟩ (.int .u64 nw)).setCell ⟨k6, 4, none⟩ (.slice Ay 0 qy)).setCell ⟨k6, 5, none⟩ (.int .u64 du2)).setCell ⟨k6, 6, none⟩ (.bool ar2)).setCell ⟨k6, 7, none⟩ (.int .i64 rg2)).setCell ⟨k6, 8, none⟩ (.bool false)).setCell ⟨k6, 9, none⟩ (.bool false)) = put10 wy k6 (.int .i64 6) (.int .i64 1) (.int .i64 0) (.int .u64 nw) (.slice Ay 0 qy) (.int .u64 du2) (.bool ar2) (.int .i64 rg2) (.bool false) (.bool false) from rfl]
        have b1z' := put10_row (w := wy) (k := k6) (v0 := .int .i64 6) (v1 := .int .i64 1) (v2 := .int .i64 0) (v3 := .int .u64 nw) (v4 := .slice Ay 0 qy) (v5 := .int .u64 du2) (v6 := .bool ar2) (v7 := .int .i64 rg2) (v8 := .bool false) (v9 := .bool false) b1z
        have bj1z' := (put10_other (w := wy) (k := k6) (v0 := .int .i64 6) (v1 := .int .i64 1) (v2 := .int .i64 0) (v3 := .int .u64 nw) (v4 := .slice Ay 0 qy) (v5 := .int .u64 du2) (v6 := .bool ar2) (v7 := .int .i64 rg2) (v8 := .bool false) (v9 := .bool false) (hlj)).trans bj1z
        have hOZ' := put10_old (w := wy) (k := k6) (v0 := .int .i64 6) (v1 := .int .i64 1) (v2 := .int .i64 0) (v3 := .int .u64 nw) (v4 := .slice Ay 0 qy) (v5 := .int .u64 du2) (v6 := .bool ar2) (v7 := .int .i64 rg2) (v8 := .bool false) (v9 := .bool false) hOZ (by omega)
        have HOKZ := Lib.hid (JdOk.put10 (w := wy) (k := k6) (v0 := .int .i64 6) (v1 := .int .i64 1) (v2 := .int .i64 0) (v3 := .int .u64 nw) (v4 := .slice Ay 0 qy) (v5 := .int .u64 du2) (v6 := .bool ar2) (v7 := .int .i64 rg2) (v8 := .bool false) (v9 := .bool false) HOKY.out b1z (by decide))
        have HSHZ' := Lib.hid ((put10_tn (w := wy) (k := k6) (v0 := .int .i64 6) (v1 := .int .i64 1) (v2 := .int .i64 0) (v3 := .int .u64 nw) (v4 := .slice Ay 0 qy) (v5 := .int .u64 du2) (v6 := .bool ar2) (v7 := .int .i64 rg2) (v8 := .bool false) (v9 := .bool false) (HSHY.out.tn2 b1z (by decide) b1z (by decide)) (by simp)).ts)
        generalize put10 wy k6 (.int .i64 6) (.int .i64 1) (.int .i64 0) (.int .u64 nw) (.slice Ay 0 qy) (.int .u64 du2) (.bool ar2) (.int .i64 rg2) (.bool false) (.bool false) = wz at *
        clear HOKY HSHY b1z bj1z hOZ hc3
        go_wp2_with fail
        go_roundw
        case rel => exact ⟨i + 1, Ay, qy, sg2, by show i + 1 ≤ j.lad.length + 1; omega, by go_num, rfl, fun h => HSG2.out, fun h => absurd h (by show ¬ (i + 1 = j.lad.length + 1); omega), Lib.hid (by have e := HNX.out.1; show wz.heap[k6]? = some (lfO (Lf.clim j.lad nw (min (i + 1) j.lad.length)) Ay qy); rw [← e]; exact b1z'), Lib.hid bj1z', HOKZ, Lib.hid hOZ', Lib.hid HSHZ'.out⟩
        case measure => simp [intOf]; omega
      · obtain rfl : i = j.lad.length := by omega
        have har : decide ((j.lad.length : Int) < j.lad.length) = false := by simp
        have hFI := fun (W : World) (ho : Old wx W) (A : Option Addr) (c : Nat) => lfireC j (Lf.clim j.lad nw j.lad.length) A c W (HOKX.out.up ho) ⟨hnw, Ld.U_upTo HOKX.out.ok hnw _, fun t h => by cases h⟩ (Or.inl rfl) (Nat.zero_le _)
        have ecs : Lf.fire j.j (Lf.clim j.lad nw j.lad.length) = (Lf.clim j.lad nw j.lad.length, 0) := Lf.clim_end j.j nw
        rw [ecs] at hFI
        clear ecs
        unfold LfPi lfA jdA Lf.clim at hFI
        simp only [List.length_nil] at hFI
        rw [har] at hFI b1 c6
        have hNX : (⟨6, 1, 0, nw, [], (Ld.upTo j.lad nw (j.lad.length + 1)).2, false, ((j.lad.length : Nat) : Int) + 1, false, false⟩ : Lf.T) = Lf.clim j.lad nw j.lad.length := by unfold Lf.clim; rw [har]
        generalize (Ld.upTo j.lad nw (j.lad.length + 1)).2 = du2 at *
        have hrg2 : ∃ g : Int, g = ((j.lad.length : Nat) : Int) + 1 := ⟨_, rfl⟩
        obtain ⟨rg2, hrg2⟩ := hrg2
        rw [← hrg2] at hFI hNX c7 b1
        have HNX := Lib.hid hNX
        have HFI := Lib.hid hFI
        clear hFI hNX hrg2
        go_quiet (fail)
        have b1n : (wx.drewN nq).heap[k6]? = some (.cells #[.int .i64 6, .int .i64 1, .int .i64 0, .int .u64 nw, .slice A 0 c, .int .u64 du2, .bool false, .int .i64 rg2, .bool false, .bool false] 48 (0, 0)) := b1
        have bjn : (wx.drewN nq).heap[kj]? = _ := bj1
        have HOKN := Lib.hid (HOKX.out.drewN nq)
        have hON := hOX.drewN nq
        have HSHN := Lib.hid (HSHX.out.drewN nq)
        have hxn := (Old.refl wx).drewN nq
        clear b1 bj1 HOKX hOX HSHX bx x0 x1
        clear c0 c1 c2 c3 c4 c5 c6 c7 c8 c9 f0 f1 f2 f3 f4 f5 f6 f7 f8 f9 e0 e1 e2 e3 e4 e5 e6 e7 e8 e9 e10 e11 e12 e13 e14
        generalize wx.drewN nq = wn at *
        obtain ⟨⟨e0, e1, e2, e3, e4, e5, e6, e7, e8, e9, e10, e11, e12, e13, e14⟩, _⟩ := row15 bjn
        obtain ⟨⟨c0, c1, c2, c3, c4, c5, c6, c7, c8, c9⟩, f0, f1, f2, f3, f4, f5, f6, f7, f8, f9⟩ := row10 b1n
        go_wp2_with fail
        refine (HFI.out _ hxn _ _).mono ?_; rintro e wy ⟨Ay, qy, rfl, _, hdy⟩
        have b1z := hdy.block b1n
        have bj1z := hdy.block bjn
        have hOZ := hON.up hdy
        have HOKY := Lib.hid (HOKN.out.up hdy)
        have HSHY := Lib.hid (HSHN.out.up hdy)
        clear c0 c1 c2 c3 c4 c5 c6 c7 c8 c9 f0 f1 f2 f3 f4 f5 f6 f7 f8 f9 e0 e1 e2 e3 e4 e5 e6 e7 e8 e9 e10 e11 e12 e13 e14
        clear hdy b1n bjn hON HOKN HSHN HFI hxn
        obtain ⟨⟨c0, c1, c2, c3, c4, c5, c6, c7, c8, c9⟩, f0, f1, f2, f3, f4, f5, f6, f7, f8, f9⟩ := row10 (b1z)
        go_upto_region 15 with fail
        rw [show ((((((((((wy.setCell ⟨k6, 0, none⟩ (.int .i64 6)).setCell ⟨k6, 1, none⟩ (.int .i64 1)).setCell ⟨k6, 2, none⟩ (.int .i64 0)).setCell ⟨k6, 3, none⟩ (.int .u64 nw)).setCell ⟨k6, 4, none⟩ (.slice Ay 0 qy)).setCell ⟨k6, 5, none⟩ (.int .u64 du2)).setCell ⟨k6, 6, none⟩ (.bool false)).setCell ⟨k6, 7, none⟩ (.int .i64 rg2)).setCell ⟨k6, 8, none⟩ (.bool false)).setCell ⟨k6, 9, none⟩ (.bool false)) = put10 wy k6 (.int .i64 6) (.int .i64 1) (.int .i64 0) (.int .u64 nw) (.slice Ay 0 qy) (.int .u64 du2) (.bool false) (.int .i64 rg2) (.bool false) (.bool false) from rfl]
        have b1z' := put10_row (w := wy) (k := k6) (v0 := .int .i64 6) (v1 := .int .i64 1) (v2 := .int .i64 0) (v3 := .int .u64 nw) (v4 := .slice Ay 0 qy) (v5 := .int .u64 du2) (v6 := .bool false) (v7 := .int .i64 rg2) (v8 := .bool false) (v9 := .bool false) b1z
        have bj1z' := (put10_other (w := wy) (k := k6) (v0 := .int .i64 6) (v1 := .int .i64 1) (v2 := .int .i64 0) (v3 := .int .u64 nw) (v4 := .slice Ay 0 qy) (v5 := .int .u64 du2) (v6 := .bool false) (v7 := .int .i64 rg2) (v8 := .bool false) (v9 := .bool false) (hlj)).trans bj1z
        have hOZ' := put10_old (w := wy) (k := k6) (v0 := .int .i64 6) (v1 := .int .i64 1) (v2 := .int .i64 0) (v3 := .int .u64 nw) (v4 := .slice Ay 0 qy) (v5 := .int .u64 du2) (v6 := .bool false) (v7 := .int .i64 rg2) (v8 := .bool false) (v9 := .bool false) hOZ (by omega)
        have HOKZ := Lib.hid (JdOk.put10 (w := wy) (k := k6) (v0 := .int .i64 6) (v1 := .int .i64 1) (v2 := .int .i64 0) (v3 := .int .u64 nw) (v4 := .slice Ay 0 qy) (v5 := .int .u64 du2) (v6 := .bool false) (v7 := .int .i64 rg2) (v8 := .bool false) (v9 := .bool false) HOKY.out b1z (by decide))
        have HSHZ' := Lib.hid ((put10_tn (w := wy) (k := k6) (v0 := .int .i64 6) (v1 := .int .i64 1) (v2 := .int .i64 0) (v3 := .int .u64 nw) (v4 := .slice Ay 0 qy) (v5 := .int .u64 du2) (v6 := .bool false) (v7 := .int .i64 rg2) (v8 := .bool false) (v9 := .bool false) (HSHY.out.tn2 b1z (by decide) b1z (by decide)) (by simp)).ts)
        generalize put10 wy k6 (.int .i64 6) (.int .i64 1) (.int .i64 0) (.int .u64 nw) (.slice Ay 0 qy) (.int .u64 du2) (.bool false) (.int .i64 rg2) (.bool false) (.bool false) = wz at *
        clear HOKY HSHY b1z bj1z hOZ c0
        go_wp2_with fail
        go_roundw
        case rel => exact ⟨j.lad.length + 1, Ay, qy, 0, Nat.le_refl _, by go_num, rfl, fun h => absurd h (by show ¬ (j.lad.length + 1 ≤ j.lad.length); omega), fun _ => rfl, Lib.hid (by have e := HNX.out; show wz.heap[k6]? = some (lfO (Lf.clim j.lad nw (min (j.lad.length + 1) j.lad.length)) Ay qy); rw [Nat.min_eq_right (by omega), ← e]; exact b1z'), Lib.hid bj1z', HOKZ, Lib.hid hOZ', Lib.hid HSHZ'.out⟩
        case measure => simp [intOf] <;> omega
    · obtain rfl : i = j.lad.length + 1 := by have : i ≤ j.lad.length + 1 := hi; omega
      have hs0 := he rfl
      subst hs0
      clear hs he
      have hb := HB.out
      rw [Nat.min_eq_right (by omega)] at hb
      have hEX := fun (W : World) (ho : Old wr W) (A : Option Addr) (c : Nat) => lexitC j (Lf.clim j.lad nw j.lad.length) A c 0 nw 0 W (HOKI.out.up ho) hnw Lf.U0 ⟨hnw, Ld.U_upTo HOKI.out.ok hnw _, fun t h => by cases h⟩ (Or.inl rfl) (Nat.zero_le _)
      have ecs : Lf.exit j.j (Lf.clim j.lad nw j.lad.length) 0 nw 0 = (⟨9, 1, 0, nw, [], 0, false, 0, false, false⟩, false) := Lf.clim_exit j.j nw _
      rw [ecs] at hEX
      clear ecs
      have hLV := fun (W : World) (A : Option Addr) (c : Nat) => lliveC ⟨9, 1, 0, nw, [], 0, false, 0, false, false⟩ A c W
      rw [show Lf.live ⟨9, 1, 0, nw, [], 0, false, 0, false, false⟩ = false from rfl] at hLV
      unfold lfO Lf.clim at hb
      unfold LfPb lfA jdA Lf.clim at hEX
      unfold lfA at hLV
      simp only [List.length_nil] at hb hEX hLV
      generalize (Ld.upTo j.lad nw (j.lad.length + 1)).2 = du2 at *
      generalize decide ((j.lad.length : Int) < (j.lad.length : Int)) = ar2 at *
      have hrg2 : ∃ g : Int, g = ((j.lad.length : Nat) : Int) + 1 := ⟨_, rfl⟩
      obtain ⟨rg2, hrg2⟩ := hrg2
      rw [← hrg2] at hEX hb
      have HEX := Lib.hid hEX
      have HLV := Lib.hid hLV
      have bj1 := HBJ.out
      have hOW := HOW.out
      clear hEX hLV hrg2 HB HBJ HOW HSH HL3
      unfold jdO at bj1
      obtain ⟨⟨e0, e1, e2, e3, e4, e5, e6, e7, e8, e9, e10, e11, e12, e13, e14⟩, _⟩ := row15 bj1
      obtain ⟨⟨c0, c1, c2, c3, c4, c5, c6, c7, c8, c9⟩, f0, f1, f2, f3, f4, f5, f6, f7, f8, f9⟩ := row10 hb
      go_wp2_with fail
      refine (HEX.out _ (Old.refl _) _ _).mono ?_; rintro e wy ⟨Ay, qy, rfl, _, hdy⟩
      have by_ := hdy.block hb
      have hOY := hOW.up hdy
      clear c0 c1 c2 c3 c4 c5 c6 c7 c8 c9 f0 f1 f2 f3 f4 f5 f6 f7 f8 f9 e0 e1 e2 e3 e4 e5 e6 e7 e8 e9 e10 e11 e12 e13 e14
      clear hdy hb bj1 hOW HEX HOKI
      obtain ⟨⟨c0, c1, c2, c3, c4, c5, c6, c7, c8, c9⟩, f0, f1, f2, f3, f4, f5, f6, f7, f8, f9⟩ := row10 (by_)
      go_upto_region 19 with fail
      rw [show ((((((((((wy.setCell ⟨k6, 0, none⟩ (.int .i64 9)).setCell ⟨k6, 1, none⟩ (.int .i64 1)).setCell ⟨k6, 2, none⟩ (.int .i64 0)).setCell ⟨k6, 3, none⟩ (.int .u64 nw)).setCell ⟨k6, 4, none⟩ (.slice Ay 0 qy)).setCell ⟨k6, 5, none⟩ (.int .u64 0)).setCell ⟨k6, 6, none⟩ (.bool false)).setCell ⟨k6, 7, none⟩ (.int .i64 0)).setCell ⟨k6, 8, none⟩ (.bool false)).setCell ⟨k6, 9, none⟩ (.bool false)) = put10 wy k6 (.int .i64 9) (.int .i64 1) (.int .i64 0) (.int .u64 nw) (.slice Ay 0 qy) (.int .u64 0) (.bool false) (.int .i64 0) (.bool false) (.bool false) from rfl]
      have by_' := put10_row (w := wy) (k := k6) (v0 := .int .i64 9) (v1 := .int .i64 1) (v2 := .int .i64 0) (v3 := .int .u64 nw) (v4 := .slice Ay 0 qy) (v5 := .int .u64 0) (v6 := .bool false) (v7 := .int .i64 0) (v8 := .bool false) (v9 := .bool false) by_
      have hOY' := put10_old (w := wy) (k := k6) (v0 := .int .i64 9) (v1 := .int .i64 1) (v2 := .int .i64 0) (v3 := .int .u64 nw) (v4 := .slice Ay 0 qy) (v5 := .int .u64 0) (v6 := .bool false) (v7 := .int .i64 0) (v8 := .bool false) (v9 := .bool false) hOY (by omega)
      generalize put10 wy k6 (.int .i64 9) (.int .i64 1) (.int .i64 0) (.int .u64 nw) (.slice Ay 0 qy) (.int .u64 0) (.bool false) (.int .i64 0) (.bool false) (.bool false) = wz at *
      clear c0 c1 c2 c3 c4 c5 c6 c7 c8 c9 f0 f1 f2 f3 f4 f5 f6 f7 f8 f9
      clear by_ hOY
      obtain ⟨⟨c0, c1, c2, c3, c4, c5, c6, c7, c8, c9⟩, f0, f1, f2, f3, f4, f5, f6, f7, f8, f9⟩ := row10 (by_')
      go_wp2_with fail
      refine (HLV.out _ _ _).mono ?_; rintro e wv ⟨rfl, hdv⟩
      have hOV := hOY'.up hdv
      clear hdv
      go_wp2_with fail
      go_ret
      exact ⟨rfl, hOV⟩
end Go.Proofs.Ytpknglclcdgfbaa
