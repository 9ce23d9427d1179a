/-
  The walk of the statement LifeHalts. UNDER WAY.
-/
import Derived.Test.YtpknglclcdgfbaaLvS
import Derived.Test.YtpknglclcdgfbaaLfZ
import Derived.Test.YtpknglclcdgfbaaJbW
namespace Go.Proofs.Ytpknglclcdgfbaa
open Go.RowKit Go.Shelf
set_option linter.unusedVariables false

/-- A made job is one that lives can have. -/
theorem JdMem.ok {B m : Nat} {w : World} {nm : ByteArray} {j : Jd} (hb : JdBd nm j) (h3 : j.lad.length ≤ 3) (hw : ∀ r ∈ j.lad, 0 ≤ r.2 ∧ r.2 < 9) (hm : JdMem B w j) : JdOk w j :=
  ⟨hm.lad, by omega, Ld.ok_of (fun r hr => ⟨(hw r hr).1, by have := (hw r hr).2; omega⟩), ⟨hb.b.1, by have := hb.b.2; omega⟩, ⟨by have := hb.b.1; have := hb.cp.1; omega, by have := hb.b.2; have := hb.cp.2; omega⟩, ⟨hb.st.1, by have := hb.st.2; omega⟩, ⟨by have := hb.wi.1; omega, by have := hb.wi.2; omega⟩⟩
theorem halt_first (j : Lf.J) (x : Lf.T) (nw jit : Int) (ready : Bool) (h2 : x.ph = 2) (hh : x.halt = true) (hl : 1 ≤ j.lad.length) :
    Lf.spawned j x true ready nw jit = (⟨6, x.inc, x.runs, nw, x.times, Tk.add nw (j.lad.getD 0 (0, 0)).2, true, 1, x.halt, x.again⟩, (j.lad.getD 0 (0, 0)).1, false) := by
  unfold Lf.spawned
  rw [if_neg (by simp [h2]), if_neg (by decide), if_pos hh]
  unfold Lf.halt_ Lf.climb
  have e := Ld.next_in (l := j.lad) (sent := 0) (at_ := nw) (by decide) (by omega)
  simp only
  rw [e, show wrap64 (0 + 1) = 1 from (by unfold wrap64; omega)]
  rfl
set_option maxHeartbeats 4000000 in
set_option maxRecDepth 100000 in
theorem lhalts_any (A : Option Addr) (c : Nat) (l : List Int) (again ok : Bool) (now : Int) (w : World) (hr : Rs w A (ints l)) (hm : l.length ≤ maxLen) (hn : Tk.U now) :
    Calls Try.prog 8 #[.slice A l.length c, .bool again, .bool ok, .int .u64 now] w fun e w' => e = .returned (.bool true) ∧ Old w w' := by
  have HS := Lib.hid (lvsaneC w)
  have HR := Lib.hid hr
  have HM := Lib.hid hm
  clear hr hm
  go_enter Try.func8, Try.ntmps8
  go_wp2_with fail
  refine (HS.out).mono ?_; rintro e w1 ⟨rfl, hd1⟩
  have HN := Lib.hid (newDeck A c l w1 (HR.out.up hd1) HM.out)
  go_wp2_with fail
  refine (HN.out).mono ?_; rintro e w2 ⟨rfl, hdk, hd2⟩
  have hj := jobC w1.heap.size w1.heap.size l ⟨#[97]⟩ none 0 [] w2 hdk (Or.inl rfl) (by decide)
  unfold JobPost jdA at hj
  simp only [List.length_nil] at hj
  have HJ := Lib.hid hj
  clear hj HN HS
  go_wp2_with fail
  refine (HJ.out).mono ?_; rintro e w3 ⟨j, l', rfl, hbd, _, h1, h3, hw, hmem, hdk3, hg3⟩
  have HO3 : Hid (Old w w3) := Lib.hid (hd1.up (Dk.old hd2 hg3 (Nat.le_refl _)))
  have HOK := Lib.hid (JdMem.ok (m := 0) hbd h3 hw hmem)
  have HBD := Lib.hid hbd
  clear hbd hw hmem hdk3 hg3 hdk hd2 hd1 HJ
  have hnw : Tk.U (now.tmod 1099511627776) := ⟨Int.tmod_nonneg _ hn.1, by have := Int.tmod_lt_of_pos now (show (0 : Int) < 1099511627776 by decide); omega⟩
  have bj := heap_alloc_new w3 (.cells #[.string j.nm, .string j.run, .slice j.eA j.env.length j.ec, .slice j.nA j.needs.length j.nc, .bool j.hasR, .string j.ready, .int .i64 j.restart, .int .u64 j.base, .int .u64 j.cap, .int .u64 j.stable, .int .i64 j.burst, .int .u64 j.win, .slice j.lA j.lad.length j.lc, .int .i64 j.line, .int .i64 j.col] 33)
  have hO4 : Old w (w3.alloc (.cells #[.string j.nm, .string j.run, .slice j.eA j.env.length j.ec, .slice j.nA j.needs.length j.nc, .bool j.hasR, .string j.ready, .int .i64 j.restart, .int .u64 j.base, .int .u64 j.cap, .int .u64 j.stable, .int .i64 j.burst, .int .u64 j.win, .slice j.lA j.lad.length j.lc, .int .i64 j.line, .int .i64 j.col] 33)) := HO3.out.alloc _
  have HOK4 := Lib.hid (HOK.out.up ((Old.refl w3).alloc (.cells #[.string j.nm, .string j.run, .slice j.eA j.env.length j.ec, .slice j.nA j.needs.length j.nc, .bool j.hasR, .string j.ready, .int .i64 j.restart, .int .u64 j.base, .int .u64 j.cap, .int .u64 j.stable, .int .i64 j.burst, .int .u64 j.win, .slice j.lA j.lad.length j.lc, .int .i64 j.line, .int .i64 j.col] 33)))
  have h1' := fun W => lnewC W
  have h2' := fun (W : World) (A : Option Addr) (c : Nat) => lspawnC ⟨1, 0, 0, 0, [], 0, false, 0, false, false⟩ A c W (Or.inl rfl) (by decide)
  rw [show Lf.spawn ⟨1, 0, 0, 0, [], 0, false, 0, false, false⟩ = (⟨2, 1, 0, 0, [], 0, false, 0, false, false⟩, true) from by kernel_rfl] at h2'
  unfold LfP lfA Lf.new at h1'
  unfold LfPb lfA at h2'
  simp only [List.length_nil] at h1' h2'
  have H1 := Lib.hid h1'
  have H2 := Lib.hid h2'
  clear h1' h2' HOK
  go_upto_region 5 with fail
  generalize now.tmod 1099511627776 = nw at *
  generalize w3.alloc (.cells #[.string j.nm, .string j.run, .slice j.eA j.env.length j.ec, .slice j.nA j.needs.length j.nc, .bool j.hasR, .string j.ready, .int .i64 j.restart, .int .u64 j.base, .int .u64 j.cap, .int .u64 j.stable, .int .i64 j.burst, .int .u64 j.win, .slice j.lA j.lad.length j.lc, .int .i64 j.line, .int .i64 j.col] 33) = w4 at *
  generalize w3.heap.size = kj at *
  go_wp2_with fail
  refine (H1.out _).mono ?_; rintro e w5 ⟨A5, q5, rfl, _, hd5⟩
  go_wp2_with fail
  refine (H2.out _ _ _).mono ?_; rintro e w6 ⟨A6, q6, rfl, _, hd6⟩
  have hd56 := hd5.up hd6
  have bj7 := ((Old.refl w6).alloc (.cells #[.int .i64 2, .int .i64 1, .int .i64 0, .int .u64 0, .slice A6 0 q6, .int .u64 0, .bool false, .int .i64 0, .bool false, .bool false] 48)).block (hd56.block bj)
  have b7 := heap_alloc_new w6 (.cells #[.int .i64 2, .int .i64 1, .int .i64 0, .int .u64 0, .slice A6 0 q6, .int .u64 0, .bool false, .int .i64 0, .bool false, .bool false] 48)
  have HOK7 := Lib.hid ((HOK4.out.up hd56).up ((Old.refl w6).alloc (.cells #[.int .i64 2, .int .i64 1, .int .i64 0, .int .u64 0, .slice A6 0 q6, .int .u64 0, .bool false, .int .i64 0, .bool false, .bool false] 48)))
  have hO7 := (hO4.up hd56).alloc (.cells #[.int .i64 2, .int .i64 1, .int .i64 0, .int .u64 0, .slice A6 0 q6, .int .u64 0, .bool false, .int .i64 0, .bool false, .bool false] 48)
  clear hd5 hd6 hd56 bj HOK4 hO4 H1 H2
  go_upto_region 6 with fail
  generalize w6.alloc (.cells #[.int .i64 2, .int .i64 1, .int .i64 0, .int .u64 0, .slice A6 0 q6, .int .u64 0, .bool false, .int .i64 0, .bool false, .bool false] 48) = w7 at *
  generalize w6.heap.size = k10 at *
  have h3' := fun (W : World) (ho : Old w7 W) (A : Option Addr) (c : Nat) => lstopC j ⟨2, 1, 0, 0, [], 0, false, 0, false, false⟩ A c nw W (HOK7.out.up ho) hnw (Or.inl rfl) (by decide)
  rw [show Lf.stop j.j ⟨2, 1, 0, 0, [], 0, false, 0, false, false⟩ nw = (⟨2, 1, 0, 0, [], 0, false, 0, true, false⟩, 0) from rfl] at h3'
  unfold LfPi lfA jdA at h3'
  simp only [List.length_nil] at h3'
  have H3 := Lib.hid h3'
  clear h3'
  obtain ⟨⟨e0, e1, e2, e3, e4, e5, e6, e7, e8, e9, e10, e11, e12, e13, e14⟩, _⟩ := row15 (bj7)
  obtain ⟨⟨c0, c1, c2, c3, c4, c5, c6, c7, c8, c9⟩, f0, f1, f2, f3, f4, f5, f6, f7, f8, f9⟩ := row10 (b7)
  go_wp2_with fail
  refine (H3.out _ (Old.refl _) _ _).mono ?_; rintro e w8 ⟨A8, q8, rfl, _, hd8⟩
  have bj9 := ((Old.refl w8).alloc (.cells #[.int .i64 2, .int .i64 1, .int .i64 0, .int .u64 0, .slice A8 0 q8, .int .u64 0, .bool false, .int .i64 0, .bool true, .bool false] 48)).block (hd8.block bj7)
  have b9 := ((Old.refl w8).alloc (.cells #[.int .i64 2, .int .i64 1, .int .i64 0, .int .u64 0, .slice A8 0 q8, .int .u64 0, .bool false, .int .i64 0, .bool true, .bool false] 48)).block (hd8.block b7)
  have b12 := heap_alloc_new w8 (.cells #[.int .i64 2, .int .i64 1, .int .i64 0, .int .u64 0, .slice A8 0 q8, .int .u64 0, .bool false, .int .i64 0, .bool true, .bool false] 48)
  have HOK9 := Lib.hid ((HOK7.out.up hd8).up ((Old.refl w8).alloc (.cells #[.int .i64 2, .int .i64 1, .int .i64 0, .int .u64 0, .slice A8 0 q8, .int .u64 0, .bool false, .int .i64 0, .bool true, .bool false] 48)))
  have hO9 := (hO7.up hd8).alloc (.cells #[.int .i64 2, .int .i64 1, .int .i64 0, .int .u64 0, .slice A8 0 q8, .int .u64 0, .bool false, .int .i64 0, .bool true, .bool false] 48)
  have hlt : k10 ≠ w8.heap.size := by have := lt_of_block (hd8.block b7); omega
  have hlj : kj ≠ w8.heap.size := by have := lt_of_block (hd8.block bj7); omega
  have hkle : w.heap.size ≤ w8.heap.size := (hO7.up hd8).size
  clear c0 c1 c2 c3 c4 c5 c6 c7 c8 c9 f0 f1 f2 f3 f4 f5 f6 f7 f8 f9 e0 e1 e2 e3 e4 e5 e6 e7 e8 e9 e10 e11 e12 e13 e14
  clear hd8 bj7 b7 HOK7 hO7 H3
  go_upto_region 7 with fail
  generalize w8.alloc (.cells #[.int .i64 2, .int .i64 1, .int .i64 0, .int .u64 0, .slice A8 0 q8, .int .u64 0, .bool false, .int .i64 0, .bool true, .bool false] 48) = w9 at *
  generalize w8.heap.size = k12 at *
  cases again with
  | true =>
    have h4' := fun (W : World) (ho : Old w9 W) (A : Option Addr) (c : Nat) => lrestartC j ⟨2, 1, 0, 0, [], 0, false, 0, false, false⟩ A c nw W (HOK9.out.up ho) hnw (Or.inl rfl) (by decide)
    rw [show Lf.restart j.j ⟨2, 1, 0, 0, [], 0, false, 0, false, false⟩ nw = (⟨2, 1, 0, 0, [], 0, false, 0, true, true⟩, 0) from rfl] at h4'
    unfold LfPi lfA jdA at h4'
    simp only [List.length_nil] at h4'
    have H4 := Lib.hid h4'
    clear h4'
    obtain ⟨⟨e0, e1, e2, e3, e4, e5, e6, e7, e8, e9, e10, e11, e12, e13, e14⟩, _⟩ := row15 (bj9)
    obtain ⟨⟨c0, c1, c2, c3, c4, c5, c6, c7, c8, c9⟩, f0, f1, f2, f3, f4, f5, f6, f7, f8, f9⟩ := row10 (b9)
    go_wp2_with fail
    refine (H4.out _ (Old.refl _) _ _).mono ?_; rintro e w10 ⟨A10, q10, rfl, _, hd10⟩
    have bj10 := hd10.block bj9
    have b10 := hd10.block b12
    have hO10 := hO9.up hd10
    have HOK10 := Lib.hid (HOK9.out.up hd10)
    clear c0 c1 c2 c3 c4 c5 c6 c7 c8 c9 f0 f1 f2 f3 f4 f5 f6 f7 f8 f9 e0 e1 e2 e3 e4 e5 e6 e7 e8 e9 e10 e11 e12 e13 e14
    clear hd10 bj9 b9 b12 HOK9 hO9 H4
    obtain ⟨⟨c0, c1, c2, c3, c4, c5, c6, c7, c8, c9⟩, f0, f1, f2, f3, f4, f5, f6, f7, f8, f9⟩ := row10 (b10)
    go_upto_region 9 with fail
    rw [show ((((((((((w10.setCell ⟨k12, 0, none⟩ (.int .i64 2)).setCell ⟨k12, 1, none⟩ (.int .i64 1)).setCell ⟨k12, 2, none⟩ (.int .i64 0)).setCell ⟨k12, 3, none⟩ (.int .u64 0)).setCell ⟨k12, 4, none⟩ (.slice A10 0 q10)).setCell ⟨k12, 5, none⟩ (.int .u64 0)).setCell ⟨k12, 6, none⟩ (.bool false)).setCell ⟨k12, 7, none⟩ (.int .i64 0)).setCell ⟨k12, 8, none⟩ (.bool true)).setCell ⟨k12, 9, none⟩ (.bool true)) = put10 w10 k12 (.int .i64 2) (.int .i64 1) (.int .i64 0) (.int .u64 0) (.slice A10 0 q10) (.int .u64 0) (.bool false) (.int .i64 0) (.bool true) (.bool true) from rfl]
    have b10' := put10_row (w := w10) (k := k12) (v0 := .int .i64 2) (v1 := .int .i64 1) (v2 := .int .i64 0) (v3 := .int .u64 0) (v4 := .slice A10 0 q10) (v5 := .int .u64 0) (v6 := .bool false) (v7 := .int .i64 0) (v8 := .bool true) (v9 := .bool true) b10
    have bj10' := (put10_other (w := w10) (k := k12) (v0 := .int .i64 2) (v1 := .int .i64 1) (v2 := .int .i64 0) (v3 := .int .u64 0) (v4 := .slice A10 0 q10) (v5 := .int .u64 0) (v6 := .bool false) (v7 := .int .i64 0) (v8 := .bool true) (v9 := .bool true) (hlj)).trans bj10
    have hO10' := put10_old (w := w10) (k := k12) (v0 := .int .i64 2) (v1 := .int .i64 1) (v2 := .int .i64 0) (v3 := .int .u64 0) (v4 := .slice A10 0 q10) (v5 := .int .u64 0) (v6 := .bool false) (v7 := .int .i64 0) (v8 := .bool true) (v9 := .bool true) hO10 (by omega)
    have HOKX := Lib.hid (JdOk.put10 (w := w10) (k := k12) (v0 := .int .i64 2) (v1 := .int .i64 1) (v2 := .int .i64 0) (v3 := .int .u64 0) (v4 := .slice A10 0 q10) (v5 := .int .u64 0) (v6 := .bool false) (v7 := .int .i64 0) (v8 := .bool true) (v9 := .bool true) HOK10.out b10 (by decide))
    generalize put10 w10 k12 (.int .i64 2) (.int .i64 1) (.int .i64 0) (.int .u64 0) (.slice A10 0 q10) (.int .u64 0) (.bool false) (.int .i64 0) (.bool true) (.bool true) = w11 at *
    clear HOK10 b10 bj10 hO10 c0 c1
    obtain ⟨⟨c0, c1, c2, c3, c4, c5, c6, c7, c8, c9⟩, f0, f1, f2, f3, f4, f5, f6, f7, f8, f9⟩ := row10 (b10')
    obtain ⟨⟨e0, e1, e2, e3, e4, e5, e6, e7, e8, e9, e10, e11, e12, e13, e14⟩, _⟩ := row15 (bj10')
    cases ok with
    | false =>
      have h5' := fun (W' : World) (ho : Old w11 W') (A : Option Addr) (c : Nat) => lspawnedC j ⟨2, 1, 0, 0, [], 0, false, 0, true, true⟩ A c false true nw 3 W' (HOKX.out.up ho) hnw ⟨by decide, by decide⟩ ⟨Lf.U0, Lf.U0, fun t h => by cases h⟩ (Or.inl rfl) (by decide)
      rw [show Lf.spawned j.j ⟨2, 1, 0, 0, [], 0, false, 0, true, true⟩ false true nw 3 = (⟨1, 1, 0, 0, [], 0, false, 0, false, false⟩, 0, false) from rfl] at h5'
      unfold LfPib lfA jdA at h5'
      simp only [List.length_nil] at h5'
      have H5 := Lib.hid h5'
      clear h5'
      go_wp2_with fail
      refine (H5.out _ (Old.refl _) _ _).mono ?_; rintro e w13 ⟨A13, q13, rfl, _, hd13⟩
      have b14 := heap_alloc_new w13 (.cells #[.int .i64 1, .int .i64 1, .int .i64 0, .int .u64 0, .slice A13 0 q13, .int .u64 0, .bool false, .int .i64 0, .bool false, .bool false] 48)
      have hO14 := (hO10'.up hd13).alloc (.cells #[.int .i64 1, .int .i64 1, .int .i64 0, .int .u64 0, .slice A13 0 q13, .int .u64 0, .bool false, .int .i64 0, .bool false, .bool false] 48)
      clear c0 c1 c2 c3 c4 c5 c6 c7 c8 c9 f0 f1 f2 f3 f4 f5 f6 f7 f8 f9 e0 e1 e2 e3 e4 e5 e6 e7 e8 e9 e10 e11 e12 e13 e14
      clear hd13 hO10' HOKX H5 bj10' b10'
      go_upto_region 12 with fail
      generalize w13.alloc (.cells #[.int .i64 1, .int .i64 1, .int .i64 0, .int .u64 0, .slice A13 0 q13, .int .u64 0, .bool false, .int .i64 0, .bool false, .bool false] 48) = w14 at *
      generalize w13.heap.size = k14 at *
      obtain ⟨⟨c0, c1, c2, c3, c4, c5, c6, c7, c8, c9⟩, f0, f1, f2, f3, f4, f5, f6, f7, f8, f9⟩ := row10 (b14)
      go_wp2_with fail
      go_ret
      exact ⟨rfl, hO14⟩
    | true =>
      have h5' := fun (W' : World) (ho : Old w11 W') (A : Option Addr) (c : Nat) => lspawnedC j ⟨2, 1, 0, 0, [], 0, false, 0, true, true⟩ A c true true nw 3 W' (HOKX.out.up ho) hnw ⟨by decide, by decide⟩ ⟨Lf.U0, Lf.U0, fun t h => by cases h⟩ (Or.inl rfl) (by decide)
      rw [halt_first j.j ⟨2, 1, 0, 0, [], 0, false, 0, true, true⟩ nw 3 true rfl rfl h1] at h5'
      have hdu : Tk.U (Tk.add nw (j.j.lad.getD 0 (0, 0)).2) := Tk.U_add hnw (HOKX.out.ok 0)
      obtain ⟨lb, lo, hlA, _, hlc⟩ := HOKX.out.lad.rs.at_ (by rw [rungs_length]; omega)
      obtain ⟨e0', _⟩ := rungs_get j.lad 0 (by omega)
      have hlc0 := hlc _ _ e0'
      have HLA := Lib.hid hlA
      clear hlc e0' hlA
      generalize Tk.add nw (j.j.lad.getD 0 (0, 0)).2 = du at *
      rw [show (j.j.lad.getD 0 (0, 0)).1 = (j.lad.getD 0 (0, 0)).1 from rfl] at h5'
      generalize (j.lad.getD 0 (0, 0)).1 = s0 at *
      unfold LfPib lfA jdA at h5'
      simp only [List.length_nil] at h5'
      have H5 := Lib.hid h5'
      clear h5'
      go_wp2_with fail
      refine (H5.out _ (Old.refl _) _ _).mono ?_; rintro e w13 ⟨A13, q13, rfl, _, hd13⟩
      have bj14 := ((Old.refl w13).alloc (.cells #[.int .i64 6, .int .i64 1, .int .i64 0, .int .u64 nw, .slice A13 0 q13, .int .u64 du, .bool true, .int .i64 1, .bool true, .bool true] 48)).block (hd13.block bj10')
      have b14 := heap_alloc_new w13 (.cells #[.int .i64 6, .int .i64 1, .int .i64 0, .int .u64 nw, .slice A13 0 q13, .int .u64 du, .bool true, .int .i64 1, .bool true, .bool true] 48)
      have HOK14 := Lib.hid ((HOKX.out.up hd13).up ((Old.refl w13).alloc (.cells #[.int .i64 6, .int .i64 1, .int .i64 0, .int .u64 nw, .slice A13 0 q13, .int .u64 du, .bool true, .int .i64 1, .bool true, .bool true] 48)))
      have hO14 := (hO10'.up hd13).alloc (.cells #[.int .i64 6, .int .i64 1, .int .i64 0, .int .u64 nw, .slice A13 0 q13, .int .u64 du, .bool true, .int .i64 1, .bool true, .bool true] 48)
      have hlc14 := ((Old.refl w13).alloc (.cells #[.int .i64 6, .int .i64 1, .int .i64 0, .int .u64 nw, .slice A13 0 q13, .int .u64 du, .bool true, .int .i64 1, .bool true, .bool true] 48)).cell (hd13.cell hlc0)
      clear c0 c1 c2 c3 c4 c5 c6 c7 c8 c9 f0 f1 f2 f3 f4 f5 f6 f7 f8 f9 e0 e1 e2 e3 e4 e5 e6 e7 e8 e9 e10 e11 e12 e13 e14
      clear hd13 hO10' HOKX H5 bj10' b10' hlc0
      go_upto_region 12 with fail
      generalize w13.alloc (.cells #[.int .i64 6, .int .i64 1, .int .i64 0, .int .u64 nw, .slice A13 0 q13, .int .u64 du, .bool true, .int .i64 1, .bool true, .bool true] 48) = w14 at *
      generalize w13.heap.size = k14 at *
      obtain ⟨⟨e0, e1, e2, e3, e4, e5, e6, e7, e8, e9, e10, e11, e12, e13, e14⟩, _⟩ := row15 (bj14)
      obtain ⟨⟨c0, c1, c2, c3, c4, c5, c6, c7, c8, c9⟩, f0, f1, f2, f3, f4, f5, f6, f7, f8, f9⟩ := row10 (b14)
      have h6' := fun (W' : World) (ho : Old w14 W') (A : Option Addr) (c : Nat) => lexitC j ⟨6, 1, 0, nw, [], du, true, 1, true, true⟩ A c 1 nw 3 W' (HOK14.out.up ho) hnw ⟨by decide, by decide⟩ ⟨hnw, hdu, fun t h => by cases h⟩ (Or.inl rfl) (Nat.zero_le _)
      rw [show Lf.exit j.j ⟨6, 1, 0, nw, [], du, true, 1, true, true⟩ 1 nw 3 = (⟨1, 1, 0, nw, [], 0, false, 0, false, false⟩, false) from rfl] at h6'
      unfold LfPb lfA jdA at h6'
      simp only [List.length_nil] at h6'
      have H6 := Lib.hid h6'
      clear h6'
      go_wp2_with fail
      refine (H6.out _ (Old.refl _) _ _).mono ?_; rintro e w15 ⟨A15, q15, rfl, _, hd15⟩
      have bj17 := ((Old.refl w15).alloc (.cells #[.int .i64 1, .int .i64 1, .int .i64 0, .int .u64 nw, .slice A15 0 q15, .int .u64 0, .bool false, .int .i64 0, .bool false, .bool false] 48)).block (hd15.block bj14)
      have b1417 := ((Old.refl w15).alloc (.cells #[.int .i64 1, .int .i64 1, .int .i64 0, .int .u64 nw, .slice A15 0 q15, .int .u64 0, .bool false, .int .i64 0, .bool false, .bool false] 48)).block (hd15.block b14)
      have b17 := heap_alloc_new w15 (.cells #[.int .i64 1, .int .i64 1, .int .i64 0, .int .u64 nw, .slice A15 0 q15, .int .u64 0, .bool false, .int .i64 0, .bool false, .bool false] 48)
      have hO17 := (hO14.up hd15).alloc (.cells #[.int .i64 1, .int .i64 1, .int .i64 0, .int .u64 nw, .slice A15 0 q15, .int .u64 0, .bool false, .int .i64 0, .bool false, .bool false] 48)
      have hlc17 := ((Old.refl w15).alloc (.cells #[.int .i64 1, .int .i64 1, .int .i64 0, .int .u64 nw, .slice A15 0 q15, .int .u64 0, .bool false, .int .i64 0, .bool false, .bool false] 48)).cell (hd15.cell hlc14)
      clear c0 c1 c2 c3 c4 c5 c6 c7 c8 c9 f0 f1 f2 f3 f4 f5 f6 f7 f8 f9 e0 e1 e2 e3 e4 e5 e6 e7 e8 e9 e10 e11 e12 e13 e14
      clear hd15 hO14 HOK14 H6 bj14 b14 hlc14
      go_upto_region 18 with fail
      generalize w15.alloc (.cells #[.int .i64 1, .int .i64 1, .int .i64 0, .int .u64 nw, .slice A15 0 q15, .int .u64 0, .bool false, .int .i64 0, .bool false, .bool false] 48) = w17 at *
      generalize w15.heap.size = k17 at *
      obtain ⟨⟨e0, e1, e2, e3, e4, e5, e6, e7, e8, e9, e10, e11, e12, e13, e14⟩, _⟩ := row15 (bj17)
      obtain ⟨⟨c0, c1, c2, c3, c4, c5, c6, c7, c8, c9⟩, f0, f1, f2, f3, f4, f5, f6, f7, f8, f9⟩ := row10 (b1417)
      obtain ⟨⟨d0, d1, d2, d3, d4, d5, d6, d7, d8, d9⟩, _⟩ := row10 (b17)
      rw [HLA.out] at e12
      simp only [Nat.zero_mul, Nat.add_zero] at hlc17
      go_wp2_with fail
      go_ret
      exact ⟨rfl, hO17⟩
  | false =>
    clear b9
    obtain ⟨⟨c0, c1, c2, c3, c4, c5, c6, c7, c8, c9⟩, f0, f1, f2, f3, f4, f5, f6, f7, f8, f9⟩ := row10 (b12)
    obtain ⟨⟨e0, e1, e2, e3, e4, e5, e6, e7, e8, e9, e10, e11, e12, e13, e14⟩, _⟩ := row15 (bj9)
    cases ok with
    | false =>
      have h5' := fun (W' : World) (ho : Old w9 W') (A : Option Addr) (c : Nat) => lspawnedC j ⟨2, 1, 0, 0, [], 0, false, 0, true, false⟩ A c false true nw 3 W' (HOK9.out.up ho) hnw ⟨by decide, by decide⟩ ⟨Lf.U0, Lf.U0, fun t h => by cases h⟩ (Or.inl rfl) (by decide)
      rw [show Lf.spawned j.j ⟨2, 1, 0, 0, [], 0, false, 0, true, false⟩ false true nw 3 = (⟨9, 1, 0, 0, [], 0, false, 0, false, false⟩, 0, false) from rfl] at h5'
      unfold LfPib lfA jdA at h5'
      simp only [List.length_nil] at h5'
      have H5 := Lib.hid h5'
      clear h5'
      go_wp2_with fail
      refine (H5.out _ (Old.refl _) _ _).mono ?_; rintro e w13 ⟨A13, q13, rfl, _, hd13⟩
      have b14 := heap_alloc_new w13 (.cells #[.int .i64 9, .int .i64 1, .int .i64 0, .int .u64 0, .slice A13 0 q13, .int .u64 0, .bool false, .int .i64 0, .bool false, .bool false] 48)
      have hO14 := (hO9.up hd13).alloc (.cells #[.int .i64 9, .int .i64 1, .int .i64 0, .int .u64 0, .slice A13 0 q13, .int .u64 0, .bool false, .int .i64 0, .bool false, .bool false] 48)
      clear c0 c1 c2 c3 c4 c5 c6 c7 c8 c9 f0 f1 f2 f3 f4 f5 f6 f7 f8 f9 e0 e1 e2 e3 e4 e5 e6 e7 e8 e9 e10 e11 e12 e13 e14
      clear hd13 hO9 HOK9 H5 bj9 b12
      go_upto_region 12 with fail
      generalize w13.alloc (.cells #[.int .i64 9, .int .i64 1, .int .i64 0, .int .u64 0, .slice A13 0 q13, .int .u64 0, .bool false, .int .i64 0, .bool false, .bool false] 48) = w14 at *
      generalize w13.heap.size = k14 at *
      obtain ⟨⟨c0, c1, c2, c3, c4, c5, c6, c7, c8, c9⟩, f0, f1, f2, f3, f4, f5, f6, f7, f8, f9⟩ := row10 (b14)
      go_wp2_with fail
      go_ret
      exact ⟨rfl, hO14⟩
    | true =>
      have h5' := fun (W' : World) (ho : Old w9 W') (A : Option Addr) (c : Nat) => lspawnedC j ⟨2, 1, 0, 0, [], 0, false, 0, true, false⟩ A c true true nw 3 W' (HOK9.out.up ho) hnw ⟨by decide, by decide⟩ ⟨Lf.U0, Lf.U0, fun t h => by cases h⟩ (Or.inl rfl) (by decide)
      rw [halt_first j.j ⟨2, 1, 0, 0, [], 0, false, 0, true, false⟩ nw 3 true rfl rfl h1] at h5'
      have hdu : Tk.U (Tk.add nw (j.j.lad.getD 0 (0, 0)).2) := Tk.U_add hnw (HOK9.out.ok 0)
      obtain ⟨lb, lo, hlA, _, hlc⟩ := HOK9.out.lad.rs.at_ (by rw [rungs_length]; omega)
      obtain ⟨e0', _⟩ := rungs_get j.lad 0 (by omega)
      have hlc0 := hlc _ _ e0'
      have HLA := Lib.hid hlA
      clear hlc e0' hlA
      generalize Tk.add nw (j.j.lad.getD 0 (0, 0)).2 = du at *
      rw [show (j.j.lad.getD 0 (0, 0)).1 = (j.lad.getD 0 (0, 0)).1 from rfl] at h5'
      generalize (j.lad.getD 0 (0, 0)).1 = s0 at *
      unfold LfPib lfA jdA at h5'
      simp only [List.length_nil] at h5'
      have H5 := Lib.hid h5'
      clear h5'
      go_wp2_with fail
      refine (H5.out _ (Old.refl _) _ _).mono ?_; rintro e w13 ⟨A13, q13, rfl, _, hd13⟩
      have bj14 := ((Old.refl w13).alloc (.cells #[.int .i64 6, .int .i64 1, .int .i64 0, .int .u64 nw, .slice A13 0 q13, .int .u64 du, .bool true, .int .i64 1, .bool true, .bool false] 48)).block (hd13.block bj9)
      have b14 := heap_alloc_new w13 (.cells #[.int .i64 6, .int .i64 1, .int .i64 0, .int .u64 nw, .slice A13 0 q13, .int .u64 du, .bool true, .int .i64 1, .bool true, .bool false] 48)
      have HOK14 := Lib.hid ((HOK9.out.up hd13).up ((Old.refl w13).alloc (.cells #[.int .i64 6, .int .i64 1, .int .i64 0, .int .u64 nw, .slice A13 0 q13, .int .u64 du, .bool true, .int .i64 1, .bool true, .bool false] 48)))
      have hO14 := (hO9.up hd13).alloc (.cells #[.int .i64 6, .int .i64 1, .int .i64 0, .int .u64 nw, .slice A13 0 q13, .int .u64 du, .bool true, .int .i64 1, .bool true, .bool false] 48)
      have hlc14 := ((Old.refl w13).alloc (.cells #[.int .i64 6, .int .i64 1, .int .i64 0, .int .u64 nw, .slice A13 0 q13, .int .u64 du, .bool true, .int .i64 1, .bool true, .bool false] 48)).cell (hd13.cell hlc0)
      clear c0 c1 c2 c3 c4 c5 c6 c7 c8 c9 f0 f1 f2 f3 f4 f5 f6 f7 f8 f9 e0 e1 e2 e3 e4 e5 e6 e7 e8 e9 e10 e11 e12 e13 e14
      clear hd13 hO9 HOK9 H5 bj9 b12 hlc0
      go_upto_region 12 with fail
      generalize w13.alloc (.cells #[.int .i64 6, .int .i64 1, .int .i64 0, .int .u64 nw, .slice A13 0 q13, .int .u64 du, .bool true, .int .i64 1, .bool true, .bool false] 48) = w14 at *
      generalize w13.heap.size = k14 at *
      obtain ⟨⟨e0, e1, e2, e3, e4, e5, e6, e7, e8, e9, e10, e11, e12, e13, e14⟩, _⟩ := row15 (bj14)
      obtain ⟨⟨c0, c1, c2, c3, c4, c5, c6, c7, c8, c9⟩, f0, f1, f2, f3, f4, f5, f6, f7, f8, f9⟩ := row10 (b14)
      have h6' := fun (W' : World) (ho : Old w14 W') (A : Option Addr) (c : Nat) => lexitC j ⟨6, 1, 0, nw, [], du, true, 1, true, false⟩ A c 1 nw 3 W' (HOK14.out.up ho) hnw ⟨by decide, by decide⟩ ⟨hnw, hdu, fun t h => by cases h⟩ (Or.inl rfl) (Nat.zero_le _)
      rw [show Lf.exit j.j ⟨6, 1, 0, nw, [], du, true, 1, true, false⟩ 1 nw 3 = (⟨9, 1, 0, nw, [], 0, false, 0, false, false⟩, false) from rfl] at h6'
      unfold LfPb lfA jdA at h6'
      simp only [List.length_nil] at h6'
      have H6 := Lib.hid h6'
      clear h6'
      go_wp2_with fail
      refine (H6.out _ (Old.refl _) _ _).mono ?_; rintro e w15 ⟨A15, q15, rfl, _, hd15⟩
      have bj17 := ((Old.refl w15).alloc (.cells #[.int .i64 9, .int .i64 1, .int .i64 0, .int .u64 nw, .slice A15 0 q15, .int .u64 0, .bool false, .int .i64 0, .bool false, .bool false] 48)).block (hd15.block bj14)
      have b1417 := ((Old.refl w15).alloc (.cells #[.int .i64 9, .int .i64 1, .int .i64 0, .int .u64 nw, .slice A15 0 q15, .int .u64 0, .bool false, .int .i64 0, .bool false, .bool false] 48)).block (hd15.block b14)
      have b17 := heap_alloc_new w15 (.cells #[.int .i64 9, .int .i64 1, .int .i64 0, .int .u64 nw, .slice A15 0 q15, .int .u64 0, .bool false, .int .i64 0, .bool false, .bool false] 48)
      have hO17 := (hO14.up hd15).alloc (.cells #[.int .i64 9, .int .i64 1, .int .i64 0, .int .u64 nw, .slice A15 0 q15, .int .u64 0, .bool false, .int .i64 0, .bool false, .bool false] 48)
      have hlc17 := ((Old.refl w15).alloc (.cells #[.int .i64 9, .int .i64 1, .int .i64 0, .int .u64 nw, .slice A15 0 q15, .int .u64 0, .bool false, .int .i64 0, .bool false, .bool false] 48)).cell (hd15.cell hlc14)
      clear c0 c1 c2 c3 c4 c5 c6 c7 c8 c9 f0 f1 f2 f3 f4 f5 f6 f7 f8 f9 e0 e1 e2 e3 e4 e5 e6 e7 e8 e9 e10 e11 e12 e13 e14
      clear hd15 hO14 HOK14 H6 bj14 b14 hlc14
      go_upto_region 18 with fail
      generalize w15.alloc (.cells #[.int .i64 9, .int .i64 1, .int .i64 0, .int .u64 nw, .slice A15 0 q15, .int .u64 0, .bool false, .int .i64 0, .bool false, .bool false] 48) = w17 at *
      generalize w15.heap.size = k17 at *
      obtain ⟨⟨e0, e1, e2, e3, e4, e5, e6, e7, e8, e9, e10, e11, e12, e13, e14⟩, _⟩ := row15 (bj17)
      obtain ⟨⟨c0, c1, c2, c3, c4, c5, c6, c7, c8, c9⟩, f0, f1, f2, f3, f4, f5, f6, f7, f8, f9⟩ := row10 (b1417)
      obtain ⟨⟨d0, d1, d2, d3, d4, d5, d6, d7, d8, d9⟩, _⟩ := row10 (b17)
      rw [HLA.out] at e12
      simp only [Nat.zero_mul, Nat.add_zero] at hlc17
      go_wp2_with fail
      go_ret
      exact ⟨rfl, hO17⟩
end Go.Proofs.Ytpknglclcdgfbaa
