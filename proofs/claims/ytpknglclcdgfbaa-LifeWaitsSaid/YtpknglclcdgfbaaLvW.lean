/-
  The walk of the statement LifeWaits.
-/
import Derived.Test.YtpknglclcdgfbaaLvV
namespace Go.Proofs.Ytpknglclcdgfbaa
open Go.RowKit Go.Shelf
set_option linter.unusedVariables false

/-- What LifeWaits knows of the job. -/
structure WJ (jw : Jd) : Prop where
  r : jw.restart = 3
  st : jw.stable = 1099511627776
  b : 0 ≤ jw.base ∧ jw.base ≤ 5
  cp : 0 ≤ jw.cap ∧ jw.cap ≤ 24
def WtRel (w : World) (jw : Jd) (B g kj k7 : Nat) (s8 s9 s10 : Value) (wr : World) : Prop :=
  ∃ (k : Nat) (now since : Int) (times back dl : List Int) (A : Option Addr) (c : Nat), s10 = .int .i64 k ∧ s8 = .int .u64 now ∧ k ≤ 8 ∧ 0 ≤ now ∧ now ≤ 44 * k ∧ times.length ≤ k ∧ back.length = k ∧
    Hid (∀ t ∈ times, Tk.U t) ∧ Hid (∀ t ∈ back, 0 ≤ t ∧ t ≤ now) ∧ Hid (Lf.Keeps times back now jw.win) ∧ Hid (Tk.U since) ∧ Hid (Ts wr 30 A (u64s times)) ∧
    Hid (WS w jw B g kj k7 (Lf.wt k since times) A c s9 back dl wr)
def CtRel (back : List Int) (now win : Int) (W : World) (s15 s75 : Value) (wr : World) : Prop :=
  ∃ i : Nat, i ≤ back.length ∧ s75 = .int .i64 i ∧ s15 = .int .i64 ((Bu.trim (back.take i) now win).length : Int) ∧ W = wr
theorem u64s_at (l : List Int) (i : Nat) (h : i < l.length) : (u64s l)[i]? = some (.int .u64 (l.getD i 0)) := by
  unfold u64s
  rw [List.getElem?_map, List.getD_eq_getElem?_getD, List.getElem?_eq_getElem h]
  rfl
theorem trim_step (l : List Int) (i : Nat) (h : i < l.length) (now win : Int) : ((Bu.trim (l.take (i + 1)) now win).length : Int) = (Bu.trim (l.take i) now win).length + (if Tk.sub now (l.getD i 0) < win then 1 else 0) := by
  rw [Bu.take_snoc l i h, Lf.trim_app]
  unfold Bu.trim
  by_cases hs : Tk.sub now (l.getD i 0) < win
  · rw [if_pos hs, List.filter_cons, if_pos (by simpa using hs)]; simp
  · rw [if_neg hs, List.filter_cons, if_neg (by simpa using hs)]; simp
set_option maxHeartbeats 8000000 in
set_option maxRecDepth 100000 in
theorem lwaits_any (A : Option Addr) (c : Nat) (l : List Int) (jitter : Int) (w : World) (hr : Rs w A (ints l)) (hm : l.length ≤ maxLen) (hn : Tk.U jitter) :
    Calls Try.prog 5 #[.slice A l.length c, .int .u64 jitter] w fun e w' => e = .returned (.bool true) ∧ Old w w' := by
  have HS := Lib.hid (lvsaneC w)
  have HR := Lib.hid hr
  have HM := Lib.hid hm
  clear hr hm
  go_enter Try.func5, Try.ntmps5
  go_wp2_with fail
  refine (HS.out).mono ?_; rintro e w1 ⟨rfl, hd1⟩
  have HN := Lib.hid (newDeck A c l w1 (HR.out.up hd1) HM.out)
  go_wp2_with fail
  refine (HN.out).mono ?_; rintro e w2 ⟨rfl, hdk, hd2⟩
  have hj := jobC w1.heap.size w1.heap.size l ⟨#[97]⟩ none 0 [] w2 hdk (Or.inl rfl) (by decide)
  unfold JobPost jdA at hj
  simp only [List.length_nil] at hj
  have HJ := Lib.hid hj
  clear hj HN HS
  go_wp2_with fail
  refine (HJ.out).mono ?_; rintro e w3 ⟨j, l', rfl, hbd, _, h1, h3, hw, hmem, hdk3, hg3⟩
  have HO3 : Hid (Old w w3) := Lib.hid (hd1.up (Dk.old hd2 hg3 (Nat.le_refl _)))
  have hok := JdMem.ok (m := 0) hbd h3 hw hmem
  have HOK : Hid (JdOk w3 j.wt) := Lib.hid ⟨hok.lad, hok.few, hok.ok, hok.base, hok.cap, (show Tk.U 1099511627776 from ⟨by decide, by decide⟩), hok.win⟩
  have HWJ : Hid (WJ j.wt) := Lib.hid ⟨rfl, rfl, hbd.b, ⟨by have := hbd.b; have := hbd.cp; show 0 ≤ j.cap; omega, by have := hbd.b; have := hbd.cp; show j.cap ≤ 24; omega⟩⟩
  have HDK := Lib.hid hdk3
  have HGL : Hid (w.heap.size ≤ w1.heap.size) := Lib.hid hd1.size
  clear hbd hw hmem hdk3 hg3 hdk hd2 hd1 HJ h1 h3 hok
  have ho5 : Old w3 (w3.alloc (.cells #[.string j.nm, .string j.run, .slice j.eA j.env.length j.ec, .slice j.nA j.needs.length j.nc, .bool j.hasR, .string j.ready, .int .i64 3, .int .u64 j.base, .int .u64 j.cap, .int .u64 1099511627776, .int .i64 j.burst, .int .u64 j.win, .slice j.lA j.lad.length j.lc, .int .i64 j.line, .int .i64 j.col] 33)) := (Old.refl w3).alloc _
  have bj : (w3.alloc (.cells #[.string j.nm, .string j.run, .slice j.eA j.env.length j.ec, .slice j.nA j.needs.length j.nc, .bool j.hasR, .string j.ready, .int .i64 3, .int .u64 j.base, .int .u64 j.cap, .int .u64 1099511627776, .int .i64 j.burst, .int .u64 j.win, .slice j.lA j.lad.length j.lc, .int .i64 j.line, .int .i64 j.col] 33)).heap[w3.heap.size]? = some (jdO j.wt) := heap_alloc_new w3 (.cells #[.string j.nm, .string j.run, .slice j.eA j.env.length j.ec, .slice j.nA j.needs.length j.nc, .bool j.hasR, .string j.ready, .int .i64 3, .int .u64 j.base, .int .u64 j.cap, .int .u64 1099511627776, .int .i64 j.burst, .int .u64 j.win, .slice j.lA j.lad.length j.lc, .int .i64 j.line, .int .i64 j.col] 33)
  go_upto_region 6 with fail
  have HOK5 := Lib.hid (HOK.out.up ho5)
  have HDK5 := Lib.hid (HDK.out.up ho5)
  have HO5 := Lib.hid (HO3.out.up ho5)
  have hls5 := ho5.size
  clear HOK HDK HO3 ho5
  generalize w3.alloc (.cells #[.string j.nm, .string j.run, .slice j.eA j.env.length j.ec, .slice j.nA j.needs.length j.nc, .bool j.hasR, .string j.ready, .int .i64 3, .int .u64 j.base, .int .u64 j.cap, .int .u64 1099511627776, .int .i64 j.burst, .int .u64 j.win, .slice j.lA j.lad.length j.lc, .int .i64 j.line, .int .i64 j.col] 33) = w5 at *
  generalize w3.heap.size = kj at *
  generalize j.wt = jw at *
  have h1' := fun W => lnewC W
  unfold LfP lfA Lf.new at h1'
  simp only [List.length_nil] at h1'
  have H1 := Lib.hid h1'
  clear h1'
  go_wp2_with fail
  refine (H1.out _).mono ?_; rintro e w6 ⟨A6, q6, rfl, ht6, hd6⟩
  have HWS : Hid (WS w jw w1.heap.size w1.heap.size kj w6.heap.size (Lf.wt 0 0 []) A6 q6 (.slice none 0 0) [] l' (w6.alloc (.cells #[.int .i64 1, .int .i64 0, .int .i64 0, .int .u64 0, .slice A6 0 q6, .int .u64 0, .bool false, .int .i64 0, .bool false, .bool false] 48))) := Lib.hid ⟨heap_alloc_new w6 _, ((Old.refl w6).alloc _).block (hd6.block bj), (HOK5.out.up hd6).up ((Old.refl w6).alloc _), (HDK5.out.up hd6).up ((Old.refl w6).alloc _), Own.nil_ _ _ _ _, (HO5.out.up hd6).alloc _, HGL.out, (HO5.out.up hd6).size, Nat.le_of_lt (Nat.lt_of_lt_of_le HDK5.out.lt hd6.size)⟩
  have HREL : Hid (WtRel w jw w1.heap.size w1.heap.size kj w6.heap.size (.int .u64 0) (.slice none 0 0) (.int .i64 0) (w6.alloc (.cells #[.int .i64 1, .int .i64 0, .int .i64 0, .int .u64 0, .slice A6 0 q6, .int .u64 0, .bool false, .int .i64 0, .bool false, .bool false] 48))) := Lib.hid ⟨0, 0, 0, [], [], l', A6, q6, rfl, rfl, Nat.zero_le _, Int.le_refl _, Int.le_refl _, Nat.le_refl _, rfl, Lib.hid (fun t h => by cases h), Lib.hid (fun t h => by cases h), Lib.hid (fun t h => rfl), Lib.hid Lf.U0, Lib.hid (Or.inl rfl), HWS⟩
  clear hd6 ht6 HOK5 HDK5 HO5 HGL H1 bj HWS hls5
  go_upto_region 7 with fail
  generalize w6.alloc (.cells #[.int .i64 1, .int .i64 0, .int .i64 0, .int .u64 0, .slice A6 0 q6, .int .u64 0, .bool false, .int .i64 0, .bool false, .bool false] 48) = w7 at *
  generalize w6.heap.size = k7 at *
  generalize w1.heap.size = g at *
  have hjit : 0 ≤ jitter.tmod 9 ∧ jitter.tmod 9 ≤ 8 := ⟨Int.tmod_nonneg _ hn.1, by have := Int.tmod_lt_of_pos jitter (show (0 : Int) < 9 by decide); omega⟩
  go_wp2_with fail
  go_loopw [8, 9, 10] (fun s8 s9 s10 wr => WtRel w jw g g kj k7 s8 s9 s10 wr) (fun _ _ s10 _ => 8 - (intOf s10).toNat)
  case atStart => exact HREL.out
  case round =>
    obtain ⟨k, now, since, times, back, dl, A, c, rfl, rfl, hk, hn0, hn1, htl, hbl, HTU, HBU, HKP, HSU, HTS, HWS⟩ := hrel
    clear HREL
    by_cases h8 : k < 8
    · have hk8 : (k : Int) < 8 := by omega
      have hUn : Tk.U now := ⟨hn0, by omega⟩
      have h1' := fun W (ho : Old wr W) => lspawnC (Lf.wt k since times) A c W (HTS.out.up ho) (show times.length ≤ _ by omega)
      rw [Lf.wt_spawn (by omega) since times] at h1'
      unfold LfPb lfA Lf.wt at h1'
      simp only at h1'
      have H1 := Lib.hid h1'
      clear h1'
      have b7 : wr.heap[k7]? = some (Obj.cells #[.int .i64 1, .int .i64 ((k : Int)), .int .i64 ((k : Int)), .int .u64 since, .slice A (times.length) c, .int .u64 0, .bool false, .int .i64 0, .bool false, .bool false] 48 (0, 0)) := HWS.out.b7
      obtain ⟨⟨d0, d1, d2, d3, d4, d5, d6, d7, d8, d9⟩, _⟩ := row10 (b7)
      go_wp2_with fail
      refine (H1.out _ (Old.refl _)).mono ?_; rintro e w1 ⟨A1, q1, rfl, ht1, hd1⟩
      have HWS2 := Lib.hid (HWS.out.up (hd1.alloc (.cells #[.int .i64 2, .int .i64 (((k : Int) + 1)), .int .i64 ((k : Int)), .int .u64 since, .slice A1 (times.length) q1, .int .u64 0, .bool false, .int .i64 0, .bool false, .bool false] 48)))
      have HT2 := Lib.hid (ht1.up ((Old.refl w1).alloc (.cells #[.int .i64 2, .int .i64 (((k : Int) + 1)), .int .i64 ((k : Int)), .int .u64 since, .slice A1 (times.length) q1, .int .u64 0, .bool false, .int .i64 0, .bool false, .bool false] 48)))
      have b11 := heap_alloc_new w1 (.cells #[.int .i64 2, .int .i64 (((k : Int) + 1)), .int .i64 ((k : Int)), .int .u64 since, .slice A1 (times.length) q1, .int .u64 0, .bool false, .int .i64 0, .bool false, .bool false] 48)
      have ho2 : Old wr (w1.alloc (.cells #[.int .i64 2, .int .i64 (((k : Int) + 1)), .int .i64 ((k : Int)), .int .u64 since, .slice A1 (times.length) q1, .int .u64 0, .bool false, .int .i64 0, .bool false, .bool false] 48)) := hd1.alloc (.cells #[.int .i64 2, .int .i64 (((k : Int) + 1)), .int .i64 ((k : Int)), .int .u64 since, .slice A1 (times.length) q1, .int .u64 0, .bool false, .int .i64 0, .bool false, .bool false] 48)
      have hk711 : k7 ≠ w1.heap.size := by have := lt_of_block (hd1.block b7); omega
      have hk7l : k7 ≤ w1.heap.size := by have := lt_of_block (hd1.block b7); omega
      have hkl : wr.heap.size ≤ w1.heap.size := hd1.size
      clear d0 d1 d2 d3 d4 d5 d6 d7 d8 d9
      clear ht1 hd1 H1 HTS b7
      go_upto_region 13 with fail
      generalize w1.alloc (.cells #[.int .i64 2, .int .i64 (((k : Int) + 1)), .int .i64 ((k : Int)), .int .u64 since, .slice A1 (times.length) q1, .int .u64 0, .bool false, .int .i64 0, .bool false, .bool false] 48) = w2 at *
      generalize w1.heap.size = k11 at *
      obtain ⟨⟨c0, c1, c2, c3, c4, c5, c6, c7, c8, c9⟩, f0, f1, f2, f3, f4, f5, f6, f7, f8, f9⟩ := row10 (b11)
      obtain ⟨⟨e0, e1, e2, e3, e4, e5, e6, e7, e8, e9, e10, e11, e12, e13, e14⟩, _⟩ := row15 (show _ = some (Obj.cells #[.string jw.nm, .string jw.run, .slice jw.eA jw.env.length jw.ec, .slice jw.nA jw.needs.length jw.nc, .bool jw.hasR, .string jw.ready, .int .i64 jw.restart, .int .u64 jw.base, .int .u64 jw.cap, .int .u64 jw.stable, .int .i64 jw.burst, .int .u64 jw.win, .slice jw.lA jw.lad.length jw.lc, .int .i64 jw.line, .int .i64 jw.col] 33 (0, 0)) from HWS2.out.bj)
      have h2' := fun W (ho : Old w2 W) (A : Option Addr) (c : Nat) (ht : Ts W 30 A (u64s times)) => lspawnedC jw ⟨2, ((k : Int) + 1), (k : Int), since, times, 0, false, 0, false, false⟩ A c true true now 0 W (HWS2.out.ok.up ho) hUn Lf.U0 ⟨HSU.out, Lf.U0, HTU.out⟩ ht (show times.length ≤ _ by omega)
      rw [show Lf.spawned jw.j ⟨2, ((k : Int) + 1), (k : Int), since, times, 0, false, 0, false, false⟩ true true now 0 = (⟨4, ((k : Int) + 1), (k : Int), now, times, 0, false, 0, false, false⟩, 0, false) from Lf.wt_spawned jw.j k since times now] at h2'
      unfold LfPib lfA jdA at h2'
      simp only at h2'
      have H2 := Lib.hid h2'
      clear h2'
      go_wp2_with fail
      refine (H2.out _ (Old.refl _) _ _ HT2.out).mono ?_; rintro e w3 ⟨A3, q3, rfl, ht3, hd3⟩
      have b113 := hd3.block b11
      have ho3 : Old wr w3 := ho2.up hd3
      clear e0 e1 e2 e3 e4 e5 e6 e7 e8 e9 e10 e11 e12 e13 e14
      clear c0 c1 c2 c3 c4 c5 c6 c7 c8 c9 f0 f1 f2 f3 f4 f5 f6 f7 f8 f9
      clear hd3 b11 ho2 H2 HT2 HWS2
      obtain ⟨⟨c0, c1, c2, c3, c4, c5, c6, c7, c8, c9⟩, f0, f1, f2, f3, f4, f5, f6, f7, f8, f9⟩ := row10 (b113)
      go_upto_region 16 with fail
      rw [show ((((((((((w3.setCell ⟨k11, 0, none⟩ (.int .i64 4)).setCell ⟨k11, 1, none⟩ (.int .i64 (((k : Int) + 1)))).setCell ⟨k11, 2, none⟩ (.int .i64 ((k : Int)))).setCell ⟨k11, 3, none⟩ (.int .u64 now)).setCell ⟨k11, 4, none⟩ (.slice A3 (times.length) q3)).setCell ⟨k11, 5, none⟩ (.int .u64 0)).setCell ⟨k11, 6, none⟩ (.bool false)).setCell ⟨k11, 7, none⟩ (.int .i64 0)).setCell ⟨k11, 8, none⟩ (.bool false)).setCell ⟨k11, 9, none⟩ (.bool false)) = put10 w3 k11 (.int .i64 4) (.int .i64 (((k : Int) + 1))) (.int .i64 ((k : Int))) (.int .u64 now) (.slice A3 (times.length) q3) (.int .u64 0) (.bool false) (.int .i64 0) (.bool false) (.bool false) from rfl]
      have b113' := put10_row (w := w3) (k := k11) (v0 := .int .i64 4) (v1 := .int .i64 (((k : Int) + 1))) (v2 := .int .i64 ((k : Int))) (v3 := .int .u64 now) (v4 := .slice A3 (times.length) q3) (v5 := .int .u64 0) (v6 := .bool false) (v7 := .int .i64 0) (v8 := .bool false) (v9 := .bool false) b113
      have ho3' := put10_old (w := w3) (k := k11) (v0 := .int .i64 4) (v1 := .int .i64 (((k : Int) + 1))) (v2 := .int .i64 ((k : Int))) (v3 := .int .u64 now) (v4 := .slice A3 (times.length) q3) (v5 := .int .u64 0) (v6 := .bool false) (v7 := .int .i64 0) (v8 := .bool false) (v9 := .bool false) ho3 (by omega)
      have HT4 := Lib.hid ((put10_tn (w := w3) (k := k11) (v0 := .int .i64 4) (v1 := .int .i64 (((k : Int) + 1))) (v2 := .int .i64 ((k : Int))) (v3 := .int .u64 now) (v4 := .slice A3 (times.length) q3) (v5 := .int .u64 0) (v6 := .bool false) (v7 := .int .i64 0) (v8 := .bool false) (v9 := .bool false) (ht3.tn2 b113 (by decide) b113 (by decide)) (by simp)).ts)
      generalize put10 w3 k11 (.int .i64 4) (.int .i64 (((k : Int) + 1))) (.int .i64 ((k : Int))) (.int .u64 now) (.slice A3 (times.length) q3) (.int .u64 0) (.bool false) (.int .i64 0) (.bool false) (.bool false) = w4 at *
      have HWS4 := Lib.hid (HWS.out.up ho3')
      clear c0 c1 c2 c3 c4 c5 c6 c7 c8 c9 f0 f1 f2 f3 f4 f5 f6 f7 f8 f9
      clear ht3 ho3 ho3' b113 HWS
      have hx0 := nx_bd dl (show (1 : Int) ≤ 12 by decide)
      have hN := nextDeck g g dl 12 w4 HWS4.out.dk (by decide) (by decide)
      unfold NextPost at hN
      have HN := Lib.hid hN
      clear hN
      generalize (nx dl 12).1 = x at *
      generalize (nx dl 12).2 = dl2 at *
      go_wp2_with fail
      refine (HN.out).mono ?_; rintro e w5 ⟨rfl, hdk5, hg5⟩
      have HWS5 := Lib.hid (HWS4.out.turn hdk5 hg5)
      have HT5 := Lib.hid (HWS4.out.dk.ts hg5 HT4.out (by decide))
      have b115 := row_turn HWS4.out.dk hg5 b113' (by decide)
      clear hdk5 hg5 HN HWS4 HT4 b113'
      go_upto_region 17 with fail
      have hb2 : now ≤ now + x ∧ now + x ≤ now + 11 := ⟨by omega, by omega⟩
      clear hx0
      generalize now + x = now2 at *
      have hU2 : Tk.U now2 := ⟨by omega, by omega⟩
      have hUj : Tk.U (jitter.tmod 9) := ⟨hjit.1, by omega⟩
      have hex := Lf.wt_exit (j := jw.j) (k := k) (by omega) (now := now) (now' := now2) (jit := jitter.tmod 9) (l := times) HWJ.out.r HWJ.out.st hb2.1 (by omega)
      rw [show jw.j.win = jw.win from rfl, show jw.j.burst = jw.burst from rfl, show jw.j.base = jw.base from rfl, show jw.j.cap = jw.cap from rfl] at hex
      have h3' := fun W (ho : Old w5 W) (A : Option Addr) (c : Nat) (ht : Ts W 30 A (u64s times)) => lexit4C jw ⟨4, ((k : Int) + 1), (k : Int), now, times, 0, false, 0, false, false⟩ A c 1 now2 (jitter.tmod 9) W (HWS5.out.ok.up ho) hU2 hUj ⟨hUn, Lf.U0, HTU.out⟩ ht (show times.length ≤ _ by omega) rfl HWJ.out.r
      rw [hex] at h3'
      clear hex
      have hall := Bu.allow_U HTU.out (most := jw.burst) (win := jw.win) hU2
      have hal0 : (Bu.trim times now2 jw.win).length ≤ k := Nat.le_trans (Bu.trim_le _ _ _) htl
      obtain ⟨⟨c0, c1, c2, c3, c4, c5, c6, c7, c8, c9⟩, f0, f1, f2, f3, f4, f5, f6, f7, f8, f9⟩ := row10 (b115)
      obtain ⟨⟨e0, e1, e2, e3, e4, e5, e6, e7, e8, e9, e10, e11, e12, e13, e14⟩, _⟩ := row15 (show _ = some (Obj.cells #[.string jw.nm, .string jw.run, .slice jw.eA jw.env.length jw.ec, .slice jw.nA jw.needs.length jw.nc, .bool jw.hasR, .string jw.ready, .int .i64 jw.restart, .int .u64 jw.base, .int .u64 jw.cap, .int .u64 jw.stable, .int .i64 jw.burst, .int .u64 jw.win, .slice jw.lA jw.lad.length jw.lc, .int .i64 jw.line, .int .i64 jw.col] 33 (0, 0)) from HWS5.out.bj)
      by_cases hal : ((Bu.trim times now2 jw.win).length : Int) < jw.burst
      · rw [Bu.allow_yes hal] at h3'
        rw [Bu.allow_yes hal] at hall
        rw [if_pos (by rfl)] at h3'
        have htl2 : (Bu.trim times now2 jw.win ++ [now2]).length ≤ k + 1 := by rw [List.length_append]; simp; exact hal0
        have hkp2 := HKP.out.next hb2.1
        generalize Bu.trim times now2 jw.win ++ [now2] = times2 at *
        have hdu := Lf.due_bd (now := now2) (n := (k : Int)) (jit := jitter.tmod 9) HWJ.out.b HWJ.out.cp hjit ⟨by omega, by omega⟩
        have hD := fun W => rDelay jw.base jw.cap (k : Int) (jitter.tmod 9) HWS5.out.ok.base HWS5.out.ok.cap hUj (by omega) W
        have hUD := Tk.U_delay (k : Int) HWS5.out.ok.base HWS5.out.ok.cap hUj
        have hA := fun W => rAdd now2 (Tk.delay jw.base jw.cap (k : Int) (jitter.tmod 9)) hU2 hUD W
        generalize Tk.delay jw.base jw.cap (k : Int) (jitter.tmod 9) = dy at *
        generalize Tk.add now2 dy = due at *
        unfold LfPbF lfA jdA at h3'
        simp only at h3'
        have H3 := Lib.hid h3'
        have HD := Lib.hid (fun (W : World) (n : Nat) => quiet_same (hD (W.drewN n)))
        have HA := Lib.hid (fun (W : World) (n : Nat) => quiet_same (hA (W.drewN n)))
        have HKP2 := Lib.hid hkp2
        have HALL := Lib.hid hall
        have HTL2 := Lib.hid htl2
        have HDU := Lib.hid hdu
        clear h3' hD hA hUD hkp2 hall htl2 hdu hal0
        go_wp2_with fail
        refine (H3.out _ (Old.refl _) _ _ HT5.out).mono ?_; rintro e w6 ⟨A6', q6', rfl, ht6, hd6, hfr6⟩
        have b116 := hd6.block b115
        have HWS6 := Lib.hid (HWS5.out.up hd6)
        have HFR := Lib.hid hfr6
        have HOWN5 := Lib.hid HWS5.out.own
        clear e0 e1 e2 e3 e4 e5 e6 e7 e8 e9 e10 e11 e12 e13 e14
        clear c0 c1 c2 c3 c4 c5 c6 c7 c8 c9 f0 f1 f2 f3 f4 f5 f6 f7 f8 f9
        clear hd6 hfr6 b115 H3 HT5 HWS5
        obtain ⟨⟨c0, c1, c2, c3, c4, c5, c6, c7, c8, c9⟩, f0, f1, f2, f3, f4, f5, f6, f7, f8, f9⟩ := row10 (b116)
        go_upto_region 19 with fail
        rw [show ((((((((((w6.setCell ⟨k11, 0, none⟩ (.int .i64 5)).setCell ⟨k11, 1, none⟩ (.int .i64 (((k : Int) + 1)))).setCell ⟨k11, 2, none⟩ (.int .i64 (((k : Int) + 1)))).setCell ⟨k11, 3, none⟩ (.int .u64 now)).setCell ⟨k11, 4, none⟩ (.slice A6' (times2.length) q6')).setCell ⟨k11, 5, none⟩ (.int .u64 due)).setCell ⟨k11, 6, none⟩ (.bool false)).setCell ⟨k11, 7, none⟩ (.int .i64 0)).setCell ⟨k11, 8, none⟩ (.bool false)).setCell ⟨k11, 9, none⟩ (.bool false)) = put10 w6 k11 (.int .i64 5) (.int .i64 (((k : Int) + 1))) (.int .i64 (((k : Int) + 1))) (.int .u64 now) (.slice A6' (times2.length) q6') (.int .u64 due) (.bool false) (.int .i64 0) (.bool false) (.bool false) from rfl]
        have b116' := put10_row (w := w6) (k := k11) (v0 := .int .i64 5) (v1 := .int .i64 (((k : Int) + 1))) (v2 := .int .i64 (((k : Int) + 1))) (v3 := .int .u64 now) (v4 := .slice A6' (times2.length) q6') (v5 := .int .u64 due) (v6 := .bool false) (v7 := .int .i64 0) (v8 := .bool false) (v9 := .bool false) b116
        have HT7 := Lib.hid ((put10_tn (w := w6) (k := k11) (v0 := .int .i64 5) (v1 := .int .i64 (((k : Int) + 1))) (v2 := .int .i64 (((k : Int) + 1))) (v3 := .int .u64 now) (v4 := .slice A6' (times2.length) q6') (v5 := .int .u64 due) (v6 := .bool false) (v7 := .int .i64 0) (v8 := .bool false) (v9 := .bool false) (ht6.tn2 b116 (by decide) b116 (by decide)) (by simp)).ts)
        have HWS7 := Lib.hid (WS.put (wr := w6) (k := k11) (v0 := .int .i64 5) (v1 := .int .i64 (((k : Int) + 1))) (v2 := .int .i64 (((k : Int) + 1))) (v3 := .int .u64 now) (v4 := .slice A6' (times2.length) q6') (v5 := .int .u64 due) (v6 := .bool false) (v7 := .int .i64 0) (v8 := .bool false) (v9 := .bool false) HWS6.out b116 hk711 hk7l)
        generalize put10 w6 k11 (.int .i64 5) (.int .i64 (((k : Int) + 1))) (.int .i64 (((k : Int) + 1))) (.int .u64 now) (.slice A6' (times2.length) q6') (.int .u64 due) (.bool false) (.int .i64 0) (.bool false) (.bool false) = w7 at *
        clear HWS6 b116 ht6
        clear c0 c1 c2 c3 c4 c5 c6 c7 c8 c9 f0 f1 f2 f3 f4 f5 f6 f7 f8 f9
        have hsz7 : k7 ≤ w7.heap.size := by have := lt_of_block HWS7.out.b7; omega
        have hon7 := HWS7.out.own
        go_wp2_with (at_builtin; refine wpList_push (wr := w7) rfl _ _ 46 rfl _ 30 (.int .u64 0) 1 8 Try.underlying46 info_u64 rfl (by decide) (by decide) _ _ _ rfl hon7 1 1 [.int .u64 now2] rfl rfl rfl rfl ?pn1 hsz7 ?_)
        case pn1 => omega
        intro v2 w8 ho8 hg8 hd8
        rw [← hbl] at ho8
        have HWS8 := Lib.hid (HWS7.out.push ho8 hg8)
        have b118 := hon7.keeps hg8 b116' (by decide)
        have HT8 := Lib.hid (Ts.grown_far HT7.out HOWN5.out (fun g off e h => HFR.out g off e (by rw [u64s_len] at h; exact h)) hg8)
        clear hsz7 hon7 ho8 hg8 hd8 HWS7 b116' HT7 HOWN5 HFR
        obtain ⟨⟨c0, c1, c2, c3, c4, c5, c6, c7, c8, c9⟩, f0, f1, f2, f3, f4, f5, f6, f7, f8, f9⟩ := row10 (b118)
        obtain ⟨⟨e0, e1, e2, e3, e4, e5, e6, e7, e8, e9, e10, e11, e12, e13, e14⟩, _⟩ := row15 (show _ = some (Obj.cells #[.string jw.nm, .string jw.run, .slice jw.eA jw.env.length jw.ec, .slice jw.nA jw.needs.length jw.nc, .bool jw.hasR, .string jw.ready, .int .i64 jw.restart, .int .u64 jw.base, .int .u64 jw.cap, .int .u64 jw.stable, .int .i64 jw.burst, .int .u64 jw.win, .slice jw.lA jw.lad.length jw.lc, .int .i64 jw.line, .int .i64 jw.col] 33 (0, 0)) from HWS8.out.bj)
        go_upto_region 29 with fail
        go_quiet (first | (go_at_call 27; exact HD.out _ _) | (go_at_call 26; exact HA.out _ _))
        have b119 : (w8.drewN nq).heap[k11]? = some (Obj.cells #[.int .i64 5, .int .i64 (((k : Int) + 1)), .int .i64 (((k : Int) + 1)), .int .u64 now, .slice A6' (times2.length) q6', .int .u64 due, .bool false, .int .i64 0, .bool false, .bool false] 48 (0, 0)) := b118
        have HWS9 := Lib.hid (HWS8.out.up ((Old.refl w8).drewN nq))
        have HT9 := Lib.hid (HT8.out.drewN nq)
        clear e0 e1 e2 e3 e4 e5 e6 e7 e8 e9 e10 e11 e12 e13 e14
        clear c0 c1 c2 c3 c4 c5 c6 c7 c8 c9 f0 f1 f2 f3 f4 f5 f6 f7 f8 f9
        clear b118 HWS8 HT8 HD HA
        generalize w8.drewN nq = w9 at *
        obtain ⟨⟨c0, c1, c2, c3, c4, c5, c6, c7, c8, c9⟩, f0, f1, f2, f3, f4, f5, f6, f7, f8, f9⟩ := row10 (b119)
        have h4' := fun W (ho : Old w9 W) => lspawnC ⟨5, ((k : Int) + 1), ((k : Int) + 1), now, times2, due, false, 0, false, false⟩ A6' q6' W (HT9.out.up ho) (show times2.length ≤ _ by have := HTL2.out; omega)
        rw [show Lf.spawn ⟨5, ((k : Int) + 1), ((k : Int) + 1), now, times2, due, false, 0, false, false⟩ = (⟨5, ((k : Int) + 1), ((k : Int) + 1), now, times2, due, false, 0, false, false⟩, false) from rfl] at h4'
        unfold LfPb lfA at h4'
        simp only at h4'
        have H4 := Lib.hid h4'
        clear h4'
        go_wp2_with fail
        refine (H4.out _ (Old.refl _)).mono ?_; rintro e w10 ⟨A10, q10, rfl, _, hd10⟩
        have b1111 := ((Old.refl w10).alloc (.cells #[.int .i64 5, .int .i64 (((k : Int) + 1)), .int .i64 (((k : Int) + 1)), .int .u64 now, .slice A10 (times2.length) q10, .int .u64 due, .bool false, .int .i64 0, .bool false, .bool false] 48)).block (hd10.block b119)
        have HWS11 := Lib.hid ((HWS9.out.up hd10).up ((Old.refl w10).alloc (.cells #[.int .i64 5, .int .i64 (((k : Int) + 1)), .int .i64 (((k : Int) + 1)), .int .u64 now, .slice A10 (times2.length) q10, .int .u64 due, .bool false, .int .i64 0, .bool false, .bool false] 48)))
        have HT11 := Lib.hid ((HT9.out.up hd10).up ((Old.refl w10).alloc (.cells #[.int .i64 5, .int .i64 (((k : Int) + 1)), .int .i64 (((k : Int) + 1)), .int .u64 now, .slice A10 (times2.length) q10, .int .u64 due, .bool false, .int .i64 0, .bool false, .bool false] 48)))
        clear c0 c1 c2 c3 c4 c5 c6 c7 c8 c9 f0 f1 f2 f3 f4 f5 f6 f7 f8 f9
        clear hd10 b119 HWS9 HT9 H4
        go_upto_region 32 with fail
        generalize w10.alloc (.cells #[.int .i64 5, .int .i64 (((k : Int) + 1)), .int .i64 (((k : Int) + 1)), .int .u64 now, .slice A10 (times2.length) q10, .int .u64 due, .bool false, .int .i64 0, .bool false, .bool false] 48) = w11 at *
        generalize w10.heap.size = k18 at *
        obtain ⟨⟨c0, c1, c2, c3, c4, c5, c6, c7, c8, c9⟩, f0, f1, f2, f3, f4, f5, f6, f7, f8, f9⟩ := row10 (b1111)
        obtain ⟨⟨e0, e1, e2, e3, e4, e5, e6, e7, e8, e9, e10, e11, e12, e13, e14⟩, _⟩ := row15 (show _ = some (Obj.cells #[.string jw.nm, .string jw.run, .slice jw.eA jw.env.length jw.ec, .slice jw.nA jw.needs.length jw.nc, .bool jw.hasR, .string jw.ready, .int .i64 jw.restart, .int .u64 jw.base, .int .u64 jw.cap, .int .u64 jw.stable, .int .i64 jw.burst, .int .u64 jw.win, .slice jw.lA jw.lad.length jw.lc, .int .i64 jw.line, .int .i64 jw.col] 33 (0, 0)) from HWS11.out.bj)
        have h5' := fun W (ho : Old w11 W) => lfireC jw ⟨5, ((k : Int) + 1), ((k : Int) + 1), now, times2, due, false, 0, false, false⟩ A6' q6' W (HWS11.out.ok.up ho) ⟨hUn, (show Tk.U due from ⟨by have := HDU.out; omega, by have := HDU.out; omega⟩), HALL.out⟩ (HT11.out.up ho) (show times2.length ≤ _ by have := HTL2.out; omega)
        rw [show Lf.fire jw.j ⟨5, ((k : Int) + 1), ((k : Int) + 1), now, times2, due, false, 0, false, false⟩ = (Lf.wt (k + 1) now times2, 0) from Lf.wt_fire jw.j k now times2 due] at h5'
        unfold LfPi lfA jdA Lf.wt at h5'
        simp only at h5'
        rw [show ((k + 1 : Nat) : Int) = (k : Int) + 1 from rfl] at h5'
        have H5 := Lib.hid h5'
        clear h5'
        go_wp2_with fail
        refine (H5.out _ (Old.refl _)).mono ?_; rintro e w12 ⟨A12, q12, rfl, ht12, hd12⟩
        have HWS12 := Lib.hid (HWS11.out.up hd12)
        have b712 : w12.heap[k7]? = some (Obj.cells #[.int .i64 1, .int .i64 ((k : Int)), .int .i64 ((k : Int)), .int .u64 since, .slice A (times.length) c, .int .u64 0, .bool false, .int .i64 0, .bool false, .bool false] 48 (0, 0)) := HWS12.out.b7
        clear e0 e1 e2 e3 e4 e5 e6 e7 e8 e9 e10 e11 e12 e13 e14
        clear c0 c1 c2 c3 c4 c5 c6 c7 c8 c9 f0 f1 f2 f3 f4 f5 f6 f7 f8 f9
        clear hd12 HWS11 b1111 HT11 H5
        obtain ⟨⟨c0, c1, c2, c3, c4, c5, c6, c7, c8, c9⟩, f0, f1, f2, f3, f4, f5, f6, f7, f8, f9⟩ := row10 (b712)
        go_upto_region 11 with fail
        rw [show ((((((((((w12.setCell ⟨k7, 0, none⟩ (.int .i64 1)).setCell ⟨k7, 1, none⟩ (.int .i64 (((k : Int) + 1)))).setCell ⟨k7, 2, none⟩ (.int .i64 (((k : Int) + 1)))).setCell ⟨k7, 3, none⟩ (.int .u64 now)).setCell ⟨k7, 4, none⟩ (.slice A12 (times2.length) q12)).setCell ⟨k7, 5, none⟩ (.int .u64 0)).setCell ⟨k7, 6, none⟩ (.bool false)).setCell ⟨k7, 7, none⟩ (.int .i64 0)).setCell ⟨k7, 8, none⟩ (.bool false)).setCell ⟨k7, 9, none⟩ (.bool false)) = put10 w12 k7 (.int .i64 1) (.int .i64 (((k : Int) + 1))) (.int .i64 (((k : Int) + 1))) (.int .u64 now) (.slice A12 (times2.length) q12) (.int .u64 0) (.bool false) (.int .i64 0) (.bool false) (.bool false) from rfl]
        have b712' := put10_row (w := w12) (k := k7) (v0 := .int .i64 1) (v1 := .int .i64 (((k : Int) + 1))) (v2 := .int .i64 (((k : Int) + 1))) (v3 := .int .u64 now) (v4 := .slice A12 (times2.length) q12) (v5 := .int .u64 0) (v6 := .bool false) (v7 := .int .i64 0) (v8 := .bool false) (v9 := .bool false) b712
        have HT13 := Lib.hid ((put10_tn (w := w12) (k := k7) (v0 := .int .i64 1) (v1 := .int .i64 (((k : Int) + 1))) (v2 := .int .i64 (((k : Int) + 1))) (v3 := .int .u64 now) (v4 := .slice A12 (times2.length) q12) (v5 := .int .u64 0) (v6 := .bool false) (v7 := .int .i64 0) (v8 := .bool false) (v9 := .bool false) (ht12.tn2 b712 (by decide) b712 (by decide)) (by simp)).ts)
        have HWS13 : Hid (WS w jw g g kj k7 (Lf.wt (k + 1) now times2) A12 q12 v2 (back ++ [now2]) dl2 (put10 w12 k7 (.int .i64 1) (.int .i64 (((k : Int) + 1))) (.int .i64 (((k : Int) + 1))) (.int .u64 now) (.slice A12 (times2.length) q12) (.int .u64 0) (.bool false) (.int .i64 0) (.bool false) (.bool false))) := Lib.hid (WS.put7 (y := Lf.wt (k + 1) now times2) HWS12.out)
        generalize put10 w12 k7 (.int .i64 1) (.int .i64 (((k : Int) + 1))) (.int .i64 (((k : Int) + 1))) (.int .u64 now) (.slice A12 (times2.length) q12) (.int .u64 0) (.bool false) (.int .i64 0) (.bool false) (.bool false) = w13 at *
        clear c0 c1 c2 c3 c4 c5 c6 c7 c8 c9 f0 f1 f2 f3 f4 f5 f6 f7 f8 f9
        clear HWS12 b712 ht12
        have HBU2 : Hid (∀ t ∈ back ++ [now2], 0 ≤ t ∧ t ≤ due) := Lib.hid (by
          have := HDU.out
          intro t ht
          rw [List.mem_append] at ht
          rcases ht with ht | ht
          · have := HBU.out t ht; omega
          · simp at ht; omega)
        go_wp2_with fail
        go_roundw
        case rel => exact ⟨k + 1, due, now, times2, back ++ [now2], dl2, A12, q12, by go_num, rfl, by omega, by have := HDU.out; omega, by have := HDU.out; omega, HTL2.out, by rw [List.length_append, hbl]; rfl, HALL, HBU2, Lib.hid (HKP2.out.mono (by have := HDU.out; omega)), Lib.hid hUn, HT13, HWS13⟩
        case measure => simp [intOf]; omega
      · rw [Bu.allow_no hal] at h3'
        rw [if_neg (by simp)] at h3'
        have hkeep : Bu.trim times now2 jw.win = Bu.trim back now2 jw.win := HKP.out now2 hb2.1
        have HGE : Hid (jw.burst ≤ ((Bu.trim back now2 jw.win).length : Int)) := Lib.hid (by rw [← hkeep]; omega)
        clear hall hal0 hal hkeep
        generalize Bu.trim times now2 jw.win = times2 at *
        unfold LfPbF lfA jdA at h3'
        simp only at h3'
        have H3 := Lib.hid h3'
        clear h3'
        go_wp2_with fail
        refine (H3.out _ (Old.refl _) _ _ HT5.out).mono ?_; rintro e w6 ⟨A6', q6', rfl, ht6, hd6, _⟩
        have b116 := hd6.block b115
        have HWS6 := Lib.hid (HWS5.out.up hd6)
        clear e0 e1 e2 e3 e4 e5 e6 e7 e8 e9 e10 e11 e12 e13 e14
        clear c0 c1 c2 c3 c4 c5 c6 c7 c8 c9 f0 f1 f2 f3 f4 f5 f6 f7 f8 f9
        clear hd6 b115 H3 HT5 HWS5
        obtain ⟨⟨c0, c1, c2, c3, c4, c5, c6, c7, c8, c9⟩, f0, f1, f2, f3, f4, f5, f6, f7, f8, f9⟩ := row10 (b116)
        go_upto_region 19 with fail
        rw [show ((((((((((w6.setCell ⟨k11, 0, none⟩ (.int .i64 8)).setCell ⟨k11, 1, none⟩ (.int .i64 (((k : Int) + 1)))).setCell ⟨k11, 2, none⟩ (.int .i64 ((k : Int)))).setCell ⟨k11, 3, none⟩ (.int .u64 now)).setCell ⟨k11, 4, none⟩ (.slice A6' (times2.length) q6')).setCell ⟨k11, 5, none⟩ (.int .u64 0)).setCell ⟨k11, 6, none⟩ (.bool false)).setCell ⟨k11, 7, none⟩ (.int .i64 0)).setCell ⟨k11, 8, none⟩ (.bool false)).setCell ⟨k11, 9, none⟩ (.bool false)) = put10 w6 k11 (.int .i64 8) (.int .i64 (((k : Int) + 1))) (.int .i64 ((k : Int))) (.int .u64 now) (.slice A6' (times2.length) q6') (.int .u64 0) (.bool false) (.int .i64 0) (.bool false) (.bool false) from rfl]
        have b116' := put10_row (w := w6) (k := k11) (v0 := .int .i64 8) (v1 := .int .i64 (((k : Int) + 1))) (v2 := .int .i64 ((k : Int))) (v3 := .int .u64 now) (v4 := .slice A6' (times2.length) q6') (v5 := .int .u64 0) (v6 := .bool false) (v7 := .int .i64 0) (v8 := .bool false) (v9 := .bool false) b116
        have HT7 := Lib.hid ((put10_tn (w := w6) (k := k11) (v0 := .int .i64 8) (v1 := .int .i64 (((k : Int) + 1))) (v2 := .int .i64 ((k : Int))) (v3 := .int .u64 now) (v4 := .slice A6' (times2.length) q6') (v5 := .int .u64 0) (v6 := .bool false) (v7 := .int .i64 0) (v8 := .bool false) (v9 := .bool false) (ht6.tn2 b116 (by decide) b116 (by decide)) (by simp)).ts)
        have HWS7 := Lib.hid (WS.put (wr := w6) (k := k11) (v0 := .int .i64 8) (v1 := .int .i64 (((k : Int) + 1))) (v2 := .int .i64 ((k : Int))) (v3 := .int .u64 now) (v4 := .slice A6' (times2.length) q6') (v5 := .int .u64 0) (v6 := .bool false) (v7 := .int .i64 0) (v8 := .bool false) (v9 := .bool false) HWS6.out b116 hk711 hk7l)
        generalize put10 w6 k11 (.int .i64 8) (.int .i64 (((k : Int) + 1))) (.int .i64 ((k : Int))) (.int .u64 now) (.slice A6' (times2.length) q6') (.int .u64 0) (.bool false) (.int .i64 0) (.bool false) (.bool false) = w7 at *
        clear HWS6 b116 ht6 HT7
        clear c0 c1 c2 c3 c4 c5 c6 c7 c8 c9 f0 f1 f2 f3 f4 f5 f6 f7 f8 f9
        obtain ⟨Ab, cb, rfl, htb, _, _⟩ := HWS7.out.own.shape
        have HTB := Lib.hid htb
        clear htb
        obtain ⟨⟨c0, c1, c2, c3, c4, c5, c6, c7, c8, c9⟩, f0, f1, f2, f3, f4, f5, f6, f7, f8, f9⟩ := row10 (b116')
        obtain ⟨⟨e0, e1, e2, e3, e4, e5, e6, e7, e8, e9, e10, e11, e12, e13, e14⟩, _⟩ := row15 (show _ = some (Obj.cells #[.string jw.nm, .string jw.run, .slice jw.eA jw.env.length jw.ec, .slice jw.nA jw.needs.length jw.nc, .bool jw.hasR, .string jw.ready, .int .i64 jw.restart, .int .u64 jw.base, .int .u64 jw.cap, .int .u64 jw.stable, .int .i64 jw.burst, .int .u64 jw.win, .slice jw.lA jw.lad.length jw.lc, .int .i64 jw.line, .int .i64 jw.col] 33 (0, 0)) from HWS7.out.bj)
        go_wp2_with fail
        go_loopw [15, 75] (fun s15 s75 wr2 => CtRel back now2 jw.win w7 s15 s75 wr2) (fun _ s75 _ => back.length - (intOf s75).toNat)
        case atStart => exact ⟨0, Nat.zero_le _, rfl, rfl, rfl⟩
        case round =>
          obtain ⟨i, hi, rfl, rfl, rfl⟩ := hrel
          by_cases hlt : i < back.length
          · have HX := Lib.hid (trim_step back i hlt now2 jw.win)
            have hcl : (Bu.trim (back.take i) now2 jw.win).length ≤ 8 := Nat.le_trans (Bu.trim_le _ _ _) (by rw [List.length_take]; omega)
            obtain ⟨bb, ob, rfl, _, hcc⟩ := HTB.out.rs.at_ (by rw [u64s_len]; omega)
            have hci := hcc i _ (u64s_at back i hlt)
            have hti := HBU.out (back.getD i 0) (by rw [List.getD_eq_getElem?_getD, List.getElem?_eq_getElem hlt]; exact List.getElem_mem hlt)
            have HSB : Hid (Tk.sub now2 (back.getD i 0) = now2 - back.getD i 0) := Lib.hid (by unfold Tk.sub; rw [if_neg (by omega)])
            clear hcc
            have HY : Hid (∀ m : Int, m = ((Bu.trim (back.take i) now2 jw.win).length : Int) + (if now2 - back.getD i 0 < jw.win then 1 else 0) → CtRel back now2 jw.win w7 (.int .i64 m) (.int .i64 ((i + 1 : Nat) : Int)) w7) := Lib.hid (fun m hm => ⟨i + 1, hlt, rfl, by rw [HX.out, HSB.out, hm], rfl⟩)
            clear HX HSB
            generalize back.getD i 0 = ti at *
            generalize (Bu.trim (back.take i) now2 jw.win).length = n0 at *
            by_cases hs : now2 - ti < jw.win
            · have HY1 := Lib.hid (HY.out ((n0 : Int) + 1) (by rw [if_pos hs]))
              clear HY
              go_wp2_with fail
              go_roundw
              case rel => exact HY1.out
              case measure => simp [intOf]; omega
            · have HY1 := Lib.hid (HY.out (n0 : Int) (by rw [if_neg hs]; omega))
              clear HY
              go_wp2_with fail
              go_roundw
              case rel => exact HY1.out
              case measure => simp [intOf]; omega
          · obtain rfl : i = back.length := by omega
            rw [List.take_length]
            have hge := HGE.out
            have hcl : (Bu.trim back now2 jw.win).length ≤ 8 := Nat.le_trans (Bu.trim_le _ _ _) (by omega)
            have hO := HWS7.out.old
            generalize (Bu.trim back now2 jw.win).length = n0 at *
            clear HGE HWS7 HTB
            go_wp2_with fail
            go_ret
            exact ⟨rfl, hO⟩
    · obtain rfl : k = 8 := by omega
      have hO := HWS.out.old
      clear HWS HTS HKP HBU HTU
      go_wp2_with fail
      go_ret
      exact ⟨rfl, hO⟩
end Go.Proofs.Ytpknglclcdgfbaa
