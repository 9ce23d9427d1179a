/-
  The walk of the statement ReloadPlans.
-/
import Derived.Test.YtpknglclcdgfbaaRlA
import Derived.Test.YtpknglclcdgfbaaRlB
import Derived.Test.YtpknglclcdgfbaaMlL
import Derived.Test.YtpknglclcdgfbaaMod
namespace Go.Proofs.Ytpknglclcdgfbaa
open Go.RowKit Go.Shelf
set_option linter.unusedVariables false

/-- mill.Loose over a new deck: jobs of the call's own. -/
def LOld (w1 : World) (e : Ending) (w' : World) : Prop := ∃ (A : Option Addr) (c : Nat) (js : List Jd), e = .returned (.slice A js.length c) ∧ JL w' A js ∧ 1 ≤ js.length ∧ js.length ≤ 4 ∧ Old w1 w'
theorem looseO (l : List Int) (w1 w2 : World) (hdk : Dk w2 w1.heap.size w1.heap.size l) (hd : Old w1 w2) :
    Calls Try.prog 10 #[.pointer (some ⟨w1.heap.size, 0, none⟩)] w2 (LOld w1) := by
  refine (looseC _ _ l w2 hdk).mono ?_
  rintro e w' ⟨gb, n, c, js, rfl, h1, h4, hl⟩
  have hn := hl.len
  subst hn
  obtain ⟨A, c2, e, ht, _, _⟩ := hl.own.shape
  injection e with e1 e2 e3
  refine ⟨some ⟨gb, 0, none⟩, c, js, rfl, ⟨?_, fun j hj => ?_, by omega⟩, h1, h4, Dk.old hd hl.gr (Nat.le_refl _)⟩
  · rw [e1]; exact ht.rs
  · have hm := hl.mem j hj
    have hb := hl.bd j hj
    exact ⟨hm.env.rs, hm.needs.rs, hm.lad.rs, by have := hb.1; omega, by have := hb.2.1; omega, by have := hb.2.2; omega⟩
theorem JCells.up {w w' : World} {b o : Nat} {j : Jd} (h : JCells w b o j) (ho : Old w w') : JCells w' b o j := by
  obtain ⟨c0, c1, c2, c3, c4, c5, c6, c7, c8, c9, c10, c11, c12, c13, c14⟩ := h
  exact ⟨ho.cell c0, ho.cell c1, ho.cell c2, ho.cell c3, ho.cell c4, ho.cell c5, ho.cell c6, ho.cell c7, ho.cell c8, ho.cell c9, ho.cell c10, ho.cell c11, ho.cell c12, ho.cell c13, ho.cell c14⟩
/-- While two plans are compared. -/
def PI (w0 : World) (pln : List (ByteArray × Int)) (bs br : Bool) (vs vr : Value) (ww : World) : Prop :=
  Old w0 ww ∧ (bs = true → ∃ A c, vs = .slice A pln.length c ∧ Rs ww A (chgV pln)) ∧ (br = true → ∃ A c, vr = .slice A pln.length c ∧ Rs ww A (chgV pln))
section
variable {w0 ww w' : World} {pln : List (ByteArray × Int)} {bs br : Bool} {vs vr : Value} {A : Option Addr} {c : Nat}
theorem PI.start (w0 : World) (pln : List (ByteArray × Int)) {vs vr : Value} : PI w0 pln false false vs vr { w0 with drawn := w0.drawn + 1 } := ⟨(Old.refl w0).drew, (fun e => by cases e), (fun e => by cases e)⟩
theorem PI.up (h : PI w0 pln bs br vs vr ww) (ho : Old ww w') : PI w0 pln bs br vs vr w' :=
  ⟨h.1.up ho, fun e => (by obtain ⟨A, c, h1, h2⟩ := h.2.1 e; exact ⟨A, c, h1, h2.up ho⟩), fun e => (by obtain ⟨A, c, h1, h2⟩ := h.2.2 e; exact ⟨A, c, h1, h2.up ho⟩)⟩
theorem PI.setS (h : PI w0 pln false br vs vr ww) (hr : Rs w' A (chgV pln)) (ho : Old ww w') : PI w0 pln true br (.slice A pln.length c) vr w' :=
  ⟨h.1.up ho, fun _ => ⟨A, c, rfl, hr⟩, fun e => (by obtain ⟨A, c, h1, h2⟩ := h.2.2 e; exact ⟨A, c, h1, h2.up ho⟩)⟩
theorem PI.setR (h : PI w0 pln bs false vs vr ww) (hr : Rs w' A (chgV pln)) (ho : Old ww w') : PI w0 pln bs true vs (.slice A pln.length c) w' :=
  ⟨h.1.up ho, fun e => (by obtain ⟨A, c, h1, h2⟩ := h.2.1 e; exact ⟨A, c, h1, h2.up ho⟩), fun _ => ⟨A, c, rfl, hr⟩⟩
end
def P11 (w0 : World) (A0 A1 : Option Addr) (l0 l1 : List Jd) (c0 c1 k11 : Nat) (pln : List (ByteArray × Int)) (p0 p1 p2 p3 p4 p5 p6 p7 p8 p9 p10 p12 p13 p14 p15 p16 p17 p18 p19 p20 p21 p22 p23 p24 p25 p26 p27 p28 p29 p30 p31 p32 p33 p34 p35 p36 p37 p38 p39 p40 p41 p42 p43 p44 p45 p46 p47 p48 p49 p50 p51 p52 p53 p54 p55 p56 p57 p58 p59 p60 p61 p62 p63 p64 p65 p66 p67 p68 p69 p70 p71 p72 p73 p74 p75 p76 p77 p78 p79 p80 p81 p82 p83 p84 p85 p86 p87 p88 p89 p90 p91 p92 p93 p94 p95 p96 p97 p98 p99 p100 p101 p102 : Value) (listed : Array Bool) (a : Act) (ww : World) : Prop :=
  ∃ (b0 b1 b2 b3 b4 b5 b6 b7 b8 b9 b10 b11 : Bool) (dummy : Nat) (vp vr : Value), listed = #[b0, b1, b2, b3, b4, b5, b6, b7, b8, b9, b10, b11] ∧
    a = { tmps := #[p0, p1, p2, p3, p4, p5, p6, p7, p8, p9, p10, .pointer (some ⟨k11, 0, none⟩), p12, p13, p14, p15, p16, p17, p18, p19, p20, p21, p22, p23, p24, p25, p26, p27, p28, p29, p30, p31, p32, p33, p34, p35, p36, p37, p38, p39, p40, p41, p42, p43, p44, p45, p46, p47, p48, p49, p50, p51, p52, cond b0 (.pointer (some ⟨k11, 0, none⟩)) (p53), cond b1 (.slice A0 l0.length c0) (p54), cond b2 (.pointer (some ⟨k11, 1, none⟩)) (p55), cond b3 (.slice A1 l1.length c1) (p56), cond b4 (vp) (p57), cond b5 (.pointer (some ⟨k11, 0, none⟩)) (p58), cond b6 (.slice A0 l0.length c0) (p59), cond b7 (.pointer (some ⟨k11, 1, none⟩)) (p60), cond b8 (.slice A1 l1.length c1) (p61), cond b9 (vr) (p62), cond b10 (.bool true) (p63), cond b11 (.bool false) (p64), p65, p66, p67, p68, p69, p70, p71, p72, p73, p74, p75, p76, p77, p78, p79, p80, p81, p82, p83, p84, p85, p86, p87, p88, p89, p90, p91, p92, p93, p94, p95, p96, p97, p98, p99, p100, p101, p102], defers := [] } ∧ PI w0 pln b4 b9 vp vr ww
def P16 (w0 : World) (bq0 o0 n0 c0 bq1 o1 n1 c1 k11 k : Nat) (x y : Jd) (p0 p1 p2 p3 p4 p5 p6 p7 p8 p9 p10 p13 p14 p15 p16 p17 p18 p19 p20 p21 p22 p23 p24 p25 p26 p27 p28 p29 p30 p31 p32 p33 p34 p35 p36 p37 p38 p39 p40 p41 p42 p43 p44 p45 p46 p47 p48 p49 p50 p51 p52 p53 p54 p55 p56 p57 p58 p59 p60 p61 p62 p63 p64 p65 p66 p67 p68 p69 p70 p71 p72 p73 p74 p75 p76 p77 p78 p79 p80 p81 p82 p83 p84 p85 p86 p87 p88 p89 p90 p91 p92 p93 p94 p95 p96 p97 p98 p99 p100 p101 p102 : Value) (listed : Array Bool) (a : Act) (ww : World) : Prop :=
  ∃ (b0 b1 b2 b3 b4 b5 b6 b7 b8 b9 b10 b11 b12 b13 b14 b15 b16 b17 b18 b19 b20 b21 b22 : Bool) (dummy : Nat) (nov : Value), listed = #[b0, b1, b2, b3, b4, b5, b6, b7, b8, b9, b10, b11, b12, b13, b14, b15, b16, b17, b18, b19, b20, b21, b22] ∧
    a = { tmps := #[p0, p1, p2, p3, p4, p5, p6, p7, p8, p9, p10, .pointer (some ⟨k11, 0, none⟩), .int .i64 (k : Int), p13, p14, p15, p16, p17, p18, p19, p20, p21, p22, p23, p24, p25, p26, p27, p28, p29, p30, p31, p32, p33, p34, p35, p36, p37, p38, p39, p40, p41, p42, p43, p44, p45, p46, p47, p48, p49, p50, p51, p52, p53, p54, p55, p56, p57, p58, p59, p60, p61, p62, p63, p64, p65, p66, p67, p68, p69, p70, p71, p72, p73, p74, p75, p76, p77, p78, cond b0 (.pointer (some ⟨k11, 0, none⟩)) (p79), cond b1 (.slice (some ⟨bq0, o0, none⟩) n0 c0) (p80), cond b2 (.int .i64 (k : Int)) (p81), cond b3 (.pointer (some ⟨bq0, o0 + k * 15, none⟩)) (p82), cond b4 (.agg #[.string x.nm, .string x.run, .slice x.eA x.env.length x.ec, .slice x.nA x.needs.length x.nc, .bool x.hasR, .string x.ready, .int .i64 x.restart, .int .u64 x.base, .int .u64 x.cap, .int .u64 x.stable, .int .i64 x.burst, .int .u64 x.win, .slice x.lA x.lad.length x.lc, .int .i64 x.line, .int .i64 x.col]) (p83), cond b5 (.pointer (some ⟨k11, 1, none⟩)) (p84), cond b6 (.slice (some ⟨bq1, o1, none⟩) n1 c1) (p85), cond b7 (.int .i64 (k : Int)) (p86), cond b8 (.pointer (some ⟨bq1, o1 + k * 15, none⟩)) (p87), cond b9 (.agg #[.string y.nm, .string y.run, .slice y.eA y.env.length y.ec, .slice y.nA y.needs.length y.nc, .bool y.hasR, .string y.ready, .int .i64 y.restart, .int .u64 y.base, .int .u64 y.cap, .int .u64 y.stable, .int .i64 y.burst, .int .u64 y.win, .slice y.lA y.lad.length y.lc, .int .i64 y.line, .int .i64 y.col]) (p88), cond b10 (.bool (sameJ x y)) (p89), cond b11 (.pointer (some ⟨k11, 0, none⟩)) (p90), cond b12 (.slice (some ⟨bq0, o0, none⟩) n0 c0) (p91), cond b13 (.int .i64 (k : Int)) (p92), cond b14 (.pointer (some ⟨bq0, o0 + k * 15, none⟩)) (p93), cond b15 (.agg #[.string x.nm, .string x.run, .slice x.eA x.env.length x.ec, .slice x.nA x.needs.length x.nc, .bool x.hasR, .string x.ready, .int .i64 x.restart, .int .u64 x.base, .int .u64 x.cap, .int .u64 x.stable, .int .i64 x.burst, .int .u64 x.win, .slice x.lA x.lad.length x.lc, .int .i64 x.line, .int .i64 x.col]) (p94), cond b16 (.pointer (some ⟨k11, 1, none⟩)) (p95), cond b17 (.slice (some ⟨bq1, o1, none⟩) n1 c1) (p96), cond b18 (.int .i64 (k : Int)) (p97), cond b19 (.pointer (some ⟨bq1, o1 + k * 15, none⟩)) (p98), cond b20 (.agg #[.string y.nm, .string y.run, .slice y.eA y.env.length y.ec, .slice y.nA y.needs.length y.nc, .bool y.hasR, .string y.ready, .int .i64 y.restart, .int .u64 y.base, .int .u64 y.cap, .int .u64 y.stable, .int .i64 y.burst, .int .u64 y.win, .slice y.lA y.lad.length y.lc, .int .i64 y.line, .int .i64 y.col]) (p99), cond b21 (.bool (sameJ x y)) (p100), cond b22 (.bool false) (p101), p102], defers := [] } ∧ Old w0 ww

/-- The two lists that a round compares. -/
def PCut (wz : World) (s11 : Value) (wx : World) : Prop := ∃ (A0 A1 : Option Addr) (c0 c1 k11 : Nat) (l0 l1 : List Jd), s11 = .pointer (some ⟨k11, 0, none⟩) ∧ wx.heap[k11]? = some (.cells #[.slice A0 l0.length c0, .slice A1 l1.length c1] 35 (0, 0)) ∧ JL wx A0 l0 ∧ JL wx A1 l1 ∧ l0.length ≤ 8 ∧ l1.length ≤ 8 ∧ Old wz wx
set_option maxHeartbeats 8000000 in
set_option maxRecDepth 100000 in
theorem rplans_any (A A' Aw : Option Addr) (c c' cw : Nat) (l m : List Int) (raw : List Jd) (w : World) (hr : Rs w A (ints l)) (hm : l.length ≤ maxLen) (hr' : Rs w A' (ints m)) (hm' : m.length ≤ maxLen) (hw : Rs w Aw (jdsV raw)) (hwm : ∀ j ∈ raw, JM w j) (hwl : raw.length ≤ maxLen) :
    Calls Try.prog 3 #[.slice A l.length c, .slice A' m.length c', .slice Aw raw.length cw] w fun e w' => e = .returned (.bool true) ∧ Old w w' := by
  have HS := Lib.hid (rlsaneC w)
  have HR := Lib.hid hr
  have HR' := Lib.hid hr'
  have HM := Lib.hid hm
  have HM' := Lib.hid hm'
  have HW := Lib.hid hw
  have HWM := Lib.hid hwm
  unfold maxLen at hwl
  clear hr hr' hm hw hwm
  unfold maxLen at hm'
  go_enter Try.func3, Try.ntmps3
  go_wp2_with fail
  refine (HS.out).mono ?_; rintro e w1 ⟨rfl, hd1⟩
  have HD1 := Lib.hid hd1
  clear hd1 HS
  by_cases h8 : 8 < raw.length
  · have h8' : decide ((8 : Int) < (raw.length : Int)) = true := by rw [decide_eq_true_eq]; omega
    clear hm'
    go_wp2_with fail
    go_ret
    exact ⟨rfl, HD1.out⟩
  have h8' : decide ((8 : Int) < (raw.length : Int)) = false := by rw [decide_eq_false_iff_not]; omega
  have hrw : raw.length ≤ 8 := by omega
  have HJW : Hid (JL w Aw raw) := Lib.hid ⟨HW.out, HWM.out, by omega⟩
  have HN := Lib.hid (newDeck A c l w1 (HR.out.up HD1.out) HM.out)
  clear h8 HW HWM
  go_wp2_with fail
  refine (HN.out).mono ?_; rintro e w2 ⟨rfl, hdk, hd2⟩
  clear h8'
  have HJ := Lib.hid (looseO l w1 w2 hdk hd2)
  clear hdk hd2 HN
  go_wp2_with fail
  refine (HJ.out).mono ?_; rintro e w3 ⟨Ax, cx, x, rfl, hjx, hx1, hx4, hd3⟩
  have HX := Lib.hid hjx
  have HD3 := Lib.hid (HD1.out.up hd3)
  have HN := Lib.hid (newDeck A' c' m w3 (HR'.out.up HD3.out) HM'.out)
  clear hjx hd3 HD1 HJ
  go_wp2_with fail
  refine (HN.out).mono ?_; rintro e w4 ⟨rfl, hdk, hd4⟩
  have HJ := Lib.hid (looseO m w3 w4 hdk hd4)
  clear hdk hd4 HN
  go_wp2_with fail
  refine (HJ.out).mono ?_; rintro e w5 ⟨Ay, cy, y, rfl, hjy, hy1, hy4, hd5⟩
  have HY := Lib.hid hjy
  have HX5 := Lib.hid (HX.out.up hd5)
  have HD5 := Lib.hid (HD3.out.up hd5)
  clear hjy hd5 HD3 HX HJ HR HR' HM HM'
  have hoe := (Old.refl w5).alloc (.cells #[] 33)
  have hown0 : Own (w5.alloc (.cells #[] 33)) w5.heap.size 33 15 (.slice (some ⟨w5.heap.size, 0, none⟩) 0 0) 0 [] := own_new w5 #[] 0 15 33 (Nat.zero_le _) rfl
  have hsz := hoe.size
  have HXE := Lib.hid (HX5.out.cells.up hoe)
  have HON := Lib.hid hown0
  have HOE := Lib.hid hoe
  clear hown0 hoe
  go_wp2_with (at_builtin; refine wpList_pushAll rfl _ _ 23 rfl _ 33 (.agg #[.string ⟨#[]⟩, .string ⟨#[]⟩, .slice none 0 0, .slice none 0 0, .bool false, .string ⟨#[]⟩, .int .i64 0, .int .u64 0, .int .u64 0, .int .u64 0, .int .i64 0, .int .u64 0, .slice none 0 0, .int .i64 0, .int .i64 0]) 15 192 Try.underlying23 info_job rfl (by decide) (by decide) _ _ _ (by rfl) HON.out _ _ _ _ (by rfl) HXE.out (by rw [jdsV_length, Nat.mul_comm]) (jdsV_one x) ?pn1 hsz ?_)
  case pn1 => omega
  intro v6 w6 ho6 hg6 hd6
  have HD6 := Lib.hid (hd6 w5 HOE.out (Nat.le_refl _))
  obtain ⟨gz, cz, rfl, hgz, _, _, _⟩ := ho6.form (by omega)
  have HO6 := Lib.hid ho6
  clear ho6 hg6 hd6 HON HXE HOE hsz
  have hmod := mod_any (m.length : Int) (x.length : Int) (by omega) (by omega) w6
  have hi0 := Int.emod_nonneg (m.length : Int) (show (x.length : Int) ≠ 0 by omega)
  have hi1 := Int.emod_lt_of_pos (m.length : Int) (show (0 : Int) < (x.length : Int) by omega)
  generalize (m.length : Int) % (x.length : Int) = ii at *
  obtain ⟨i, rfl⟩ := Int.eq_ofNat_of_zero_le hi0
  have hi : i < x.length := by omega
  have HMD := Lib.hid hmod
  clear hmod hi0 hi1
  go_wp2_with fail
  refine (HMD.out).mono ?_; rintro e w7 ⟨rfl, rfl⟩
  obtain ⟨cl, fz⟩ := HO6.out.cellAt (jdsV_get x i 1 (.string (x.getD i jd0).run) hi rfl)
  have hz := (HO6.out.set_ (i * 15 + 1) (.string ⟨#[111, 116, 104, 101, 114]⟩)).1
  rw [jdsV_set x i 1 _ { x.getD i jd0 with run := ⟨#[111, 116, 104, 101, 114]⟩ } hi (by decide) rfl] at hz
  have hdz := HD6.out.setCell (p := ⟨gz, i * 15 + 1, none⟩) hgz (.string ⟨#[111, 116, 104, 101, 114]⟩)
  go_upto_region 8 with fail
  generalize w6.setCell ⟨gz, i * 15 + 1, none⟩ (.string ⟨#[111, 116, 104, 101, 114]⟩) = w7 at *
  clear cl fz HMD HO6 HD6
  obtain ⟨z, hzz⟩ : ∃ z, z = x.set i { x.getD i jd0 with run := ⟨#[111, 116, 104, 101, 114]⟩ } := ⟨_, rfl⟩
  have hzl : z.length = x.length := by rw [hzz, List.length_set]
  have hzm : ∀ j ∈ z, JM w7 j := fun j hj => by
    rw [hzz] at hj
    rcases List.mem_or_eq_of_mem_set hj with hj | rfl
    · exact (HX5.out.mem j hj).up hdz
    · have hk := (HX5.out.at_ hi).up hdz
      exact ⟨hk.env, hk.needs, hk.lad, hk.eb, hk.nb, hk.lb⟩
  rw [← hzz] at hz
  obtain ⟨A2, c2, e2, htz, _, _⟩ := hz.shape
  injection e2 with e3 e4 e5
  have hjz : JL w7 (some ⟨gz, 0, none⟩) z := ⟨by rw [e3]; exact htz.rs, hzm, by rw [hzl]; omega⟩
  have hz4 : z.length ≤ 4 := by rw [hzl]; exact hx4
  have HZL := Lib.hid hzl
  clear hzz hzm hz e3 e4 e5 htz hzl hi hgz
  generalize (some ⟨gz, 0, none⟩ : Option Addr) = Az at *
  go_upto_block 0 with fail
  have bk := heap_alloc_new w7 (.cells #[.slice Ax x.length cx, .slice Ay y.length cy, .slice Ax x.length cx, .slice Az x.length cz, .slice Ax x.length cx, .slice Aw raw.length cw, .slice Aw raw.length cw, .slice Ay y.length cy] 35)
  have hoz := hdz.alloc (.cells #[.slice Ax x.length cx, .slice Ay y.length cy, .slice Ax x.length cx, .slice Az x.length cz, .slice Ax x.length cx, .slice Aw raw.length cw, .slice Aw raw.length cw, .slice Ay y.length cy] 35)
  have hoz7 := (Old.refl w7).alloc (.cells #[.slice Ax x.length cx, .slice Ay y.length cy, .slice Ax x.length cx, .slice Az x.length cz, .slice Ax x.length cx, .slice Aw raw.length cw, .slice Aw raw.length cw, .slice Ay y.length cy] 35)
  generalize w7.alloc (.cells #[.slice Ax x.length cx, .slice Ay y.length cy, .slice Ax x.length cx, .slice Az x.length cz, .slice Ax x.length cx, .slice Aw raw.length cw, .slice Aw raw.length cw, .slice Ay y.length cy] 35) = wz at *
  have BK := Lib.hid bk
  have HJX := Lib.hid (HX5.out.up hoz)
  have HJY := Lib.hid (HY.out.up hoz)
  have HJZ := Lib.hid (hjz.up hoz7)
  have HJR := Lib.hid (HJW.out.up (HD5.out.up hoz))
  have HOZ := Lib.hid (HD5.out.up hoz)
  clear bk hoz hoz7 hjz hdz HX5 HY HJW HD5
  generalize w7.heap.size = kb at *
  go_wp2_with fail
  go_loopw [49] (fun s49 wr => ∃ i : Nat, i ≤ 4 ∧ s49 = .int .i64 (i : Int) ∧ Old wz wr) (fun s49 _ => 4 - (intOf s49).toNat)
  case atStart => exact ⟨0, Nat.zero_le _, rfl, Old.refl _⟩
  case round =>
    obtain ⟨i, hi, rfl, hor⟩ := hrel
    by_cases h2 : i < 4
    · have h2' : (i : Int) < 4 := by omega
      have HOR := Lib.hid hor
      clear hor
      go_upto_region 10 with fail
      go_cut [11] (fun s11 wx => PCut wz s11 wx)
      case first =>
        have HMK : Hid (∀ (A0 A1 : Option Addr) (c0 c1 : Nat) (l0 l1 : List Jd) (wx : World), JL wx A0 l0 → JL wx A1 l1 → l0.length ≤ 8 → l1.length ≤ 8 → Old wz wx → PCut wz (.pointer (some ⟨wx.heap.size, 0, none⟩)) (wx.alloc (.cells #[.slice A0 l0.length c0, .slice A1 l1.length c1] 35))) := Lib.hid (fun A0 A1 c0 c1 l0 l1 wx h0 h1 h2 h3 h4 => ⟨A0, A1, c0, c1, wx.heap.size, l0, l1, rfl, heap_alloc_new wx _, h0.up ((Old.refl wx).alloc _), h1.up ((Old.refl wx).alloc _), h2, h3, h4.alloc _⟩)
        have hi4 : i = 0 ∨ i = 1 ∨ i = 2 ∨ i = 3 := by omega
        rcases hi4 with rfl | rfl | rfl | rfl
        · have HM := Lib.hid (HMK.out Ax Ay cx cy x y wr (HJX.out.up HOR.out) (HJY.out.up HOR.out) (by omega) (by omega) HOR.out)
          have bk := HOR.out.block BK.out
          have q0 : wr.cell? ⟨kb, 0, none⟩ = some (.slice Ax x.length cx) := (cell_of_row wr kb 0 _ _ _ bk).trans rfl
          have q1 : wr.cell? ⟨kb, 1, none⟩ = some (.slice Ay y.length cy) := (cell_of_row wr kb 1 _ _ _ bk).trans rfl
          clear bk HMK
          go_wp2_with fail
          go_meet
          case rel => exact HM.out
        · have HM0 := HMK.out Ax Az cx cz x z wr (HJX.out.up HOR.out) (HJZ.out.up HOR.out) (by omega) (by omega) HOR.out
          rw [HZL.out] at HM0
          have HM := Lib.hid HM0
          have bk := HOR.out.block BK.out
          have q0 : wr.cell? ⟨kb, 2, none⟩ = some (.slice Ax x.length cx) := (cell_of_row wr kb 2 _ _ _ bk).trans rfl
          have q1 : wr.cell? ⟨kb, 3, none⟩ = some (.slice Az x.length cz) := (cell_of_row wr kb 3 _ _ _ bk).trans rfl
          clear bk HMK HM0
          go_wp2_with fail
          go_meet
          case rel => exact HM.out
        · have HM := Lib.hid (HMK.out Ax Aw cx cw x raw wr (HJX.out.up HOR.out) (HJR.out.up HOR.out) (by omega) (by omega) HOR.out)
          have bk := HOR.out.block BK.out
          have q0 : wr.cell? ⟨kb, 4, none⟩ = some (.slice Ax x.length cx) := (cell_of_row wr kb 4 _ _ _ bk).trans rfl
          have q1 : wr.cell? ⟨kb, 5, none⟩ = some (.slice Aw raw.length cw) := (cell_of_row wr kb 5 _ _ _ bk).trans rfl
          clear bk HMK
          go_wp2_with fail
          go_meet
          case rel => exact HM.out
        · have HM := Lib.hid (HMK.out Aw Ay cw cy raw y wr (HJR.out.up HOR.out) (HJY.out.up HOR.out) (by omega) (by omega) HOR.out)
          have bk := HOR.out.block BK.out
          have q0 : wr.cell? ⟨kb, 6, none⟩ = some (.slice Aw raw.length cw) := (cell_of_row wr kb 6 _ _ _ bk).trans rfl
          have q1 : wr.cell? ⟨kb, 7, none⟩ = some (.slice Ay y.length cy) := (cell_of_row wr kb 7 _ _ _ bk).trans rfl
          clear bk HMK
          go_wp2_with fail
          go_meet
          case rel => exact HM.out
      case rest =>
        obtain ⟨A0, A1, c0, c1, k11, l0, l1, rfl, b11, hj0, hj1, hn0, hn1, hox⟩ := hcut
        have HB := Lib.hid b11
        have HJ0 := Lib.hid hj0
        have HJ1 := Lib.hid hj1
        have HOX := Lib.hid hox
        clear b11 hj0 hj1 hox HOR
        have HPL := Lib.hid (fun W (h : Old wc W) => planC A0 A1 c0 c1 l0 l1 W (HJ0.out.up h) (HJ1.out.up h) (by omega) (by omega))
        have HPR := Lib.hid (fun W (h : Old wc W) => rplanC A0 A1 c0 c1 l0 l1 W (HJ0.out.up h) (HJ1.out.up h) (by omega) (by omega))
        have HLN : Hid ((planM l0 l1).length ≤ 68719476736) := Lib.hid (by
          rw [← pNew_all]
          have := pNew_len l0 l1 l1.length (Nat.le_refl _)
          omega)
        generalize planM l0 l1 = pln at *
        go_upto_region 11 with fail
        refine wp_region_steps2 (by kernel_rfl) (by kernel_rfl) (P11 wc A0 A1 l0 l1 c0 c1 k11 pln _ _ _ _ _ _ _ _ _ _ _ _ _ _ _ _ _ _ _ _ _ _ _ _ _ _ _ _ _ _ _ _ _ _ _ _ _ _ _ _ _ _ _ _ _ _ _ _ _ _ _ _ _ _ _ _ _ _ _ _ _ _ _ _ _ _ _ _ _ _ _ _ _ _ _ _ _ _ _ _ _ _ _ _ _ _ _ _ _ _ _ _ _ _ _ _ _ _ _ _ _ _) (⟨false, false, false, false, false, false, false, false, false, false, false, false, 0, undef, undef, rfl, rfl, PI.start wc pln⟩) ?_ ⟨?_, ?_, ?_, ?_, ?_, ?_, ?_, ?_, ?_, ?_, ?_, ?_, trivial⟩
        · rintro a w1 ⟨b0, b1, b2, b3, b4, b5, b6, b7, b8, b9, b10, b11, dummy, vp, vr, hl, rfl, hF⟩
          have hl' := congrArg Array.toList hl
          simp at hl'
          obtain ⟨rfl, rfl, rfl, rfl, rfl, rfl, rfl, rfl, rfl, rfl, rfl, rfl⟩ := hl'
          clear hl
          have HO := Lib.hid hF.1
          clear hF
          clear HPL HPR HLN
          go_wp2_with fail
          go_loopw [12] (fun s12 wr => ∃ k : Nat, k ≤ l0.length ∧ k ≤ l1.length ∧ s12 = .int .i64 (k : Int) ∧ Old wc wr) (fun s12 _ => l0.length - (intOf s12).toNat)
          case atStart => exact ⟨0, Nat.zero_le _, Nat.zero_le _, rfl, HO.out⟩
          case round =>
            clear HO
            obtain ⟨k, hk0, hk1, rfl, hor⟩ := hrel
            have bb := hor.block HB.out
            have q0 : wr.cell? ⟨k11, 0, none⟩ = some (.slice A0 l0.length c0) := (cell_of_row wr k11 0 _ _ _ bb).trans rfl
            have q1 : wr.cell? ⟨k11, 1, none⟩ = some (.slice A1 l1.length c1) := (cell_of_row wr k11 1 _ _ _ bb).trans rfl
            have HBr := Lib.hid bb
            have HOr := Lib.hid hor
            clear bb
            by_cases ha : k < l0.length
            · by_cases hb : k < l1.length
              · obtain ⟨bq0, o0, rfl, _, hrow0⟩ := (HJ0.out.up hor).row (by omega)
                obtain ⟨bq1, o1, rfl, _, hrow1⟩ := (HJ1.out.up hor).row (by omega)
                have hr0 := hrow0 k ha
                have hr1 := hrow1 k hb
                have hm0 := (HJ0.out.up hor).at_ ha
                have hm1 := (HJ1.out.up hor).at_ hb
                clear hrow0 hrow1 hor
                generalize l0.getD k jd0 = x at *
                generalize l1.getD k jd0 = y at *
                have HRX : Hid (∀ W, Old wr W → JCells W bq0 (o0 + k * 15) x) := Lib.hid (fun W h => hr0.up h)
                have HRY : Hid (∀ W, Old wr W → JCells W bq1 (o1 + k * 15) y) := Lib.hid (fun W h => hr1.up h)
                have hsl := fun W (h : Old wr W) => lsameJ x y W (hm0.up h) (hm1.up h)
                have hsr := fun W (h : Old wr W) => rsameJ x y W (hm0.up h) (hm1.up h)
                unfold jdA at hsl hsr
                have HSL := Lib.hid hsl
                have HSR := Lib.hid hsr
                have HB := HBr
                clear hr0 hr1 hm0 hm1 hsl hsr HBr
                go_upto_region 16 with fail
                clear q0 q1
                refine wp_region_steps2 (by kernel_rfl) (by kernel_rfl) (P16 wr bq0 o0 l0.length c0 bq1 o1 l1.length c1 k11 k x y _ _ _ _ _ _ _ _ _ _ _ _ _ _ _ _ _ _ _ _ _ _ _ _ _ _ _ _ _ _ _ _ _ _ _ _ _ _ _ _ _ _ _ _ _ _ _ _ _ _ _ _ _ _ _ _ _ _ _ _ _ _ _ _ _ _ _ _ _ _ _ _ _ _ _ _ _ _ _ _ _ _ _ _ _ _ _ _ _ _ _ _ _ _ _ _ _ _ _ _ _) (⟨false, false, false, false, false, false, false, false, false, false, false, false, false, false, false, false, false, false, false, false, false, false, false, 0, undef, rfl, rfl, (Old.refl wr).drew⟩) ?_ ⟨?_, ?_, ?_, ?_, ?_, ?_, ?_, ?_, ?_, ?_, ?_, ?_, ?_, ?_, ?_, ?_, ?_, ?_, ?_, ?_, ?_, ?_, ?_, trivial⟩
                · rintro a w1 ⟨b0, b1, b2, b3, b4, b5, b6, b7, b8, b9, b10, b11, b12, b13, b14, b15, b16, b17, b18, b19, b20, b21, b22, dummy, nov, hl, rfl, hF⟩
                  have hl' := congrArg Array.toList hl
                  simp at hl'
                  obtain ⟨rfl, rfl, rfl, rfl, rfl, rfl, rfl, rfl, rfl, rfl, rfl, rfl, rfl, rfl, rfl, rfl, rfl, rfl, rfl, rfl, rfl, rfl, rfl⟩ := hl'
                  clear hl
                  have HO2 := Lib.hid (HOr.out.up hF)
                  clear hF
                  go_wp2_with fail
                  go_roundw
                  case rel => exact ⟨k + 1, by omega, by omega, by go_num, HO2.out⟩
                  case measure => simp [intOf]; omega
                · intro listed a w1 K hs hcl hf hall hI hK
                  obtain ⟨b0, b1, b2, b3, b4, b5, b6, b7, b8, b9, b10, b11, b12, b13, b14, b15, b16, b17, b18, b19, b20, b21, b22, dummy, nov, rfl, rfl, hF⟩ := hI
                  have hf' : b0 = false := hf
                  subst hf'
                  have hb1 : b1 = false := by
                    cases b1
                    · rfl
                    · exact absurd (show false = true from hcl 1 _ rfl rfl ⟨0, .data⟩ (by first | exact .head _ | simp) rfl) (by decide)
                  subst hb1
                  have hb3 : b3 = false := by
                    cases b3
                    · rfl
                    · exact absurd (show false = true from hcl 3 _ rfl rfl ⟨1, .data⟩ (by first | exact .head _ | simp) rfl) (by decide)
                  subst hb3
                  have hb4 : b4 = false := by
                    cases b4
                    · rfl
                    · exact absurd (show false = true from hcl 4 _ rfl rfl ⟨3, .data⟩ (by first | exact .head _ | simp) rfl) (by decide)
                  subst hb4
                  have hb10 : b10 = false := by
                    cases b10
                    · rfl
                    · exact absurd (show false = true from hcl 10 _ rfl rfl ⟨4, .data⟩ (by first | exact .head _ | simp) rfl) (by decide)
                  subst hb10
                  have hb21 : b21 = false := by
                    cases b21
                    · rfl
                    · exact absurd (show false = true from hcl 21 _ rfl rfl ⟨10, .chain⟩ (by first | exact .head _ | simp) rfl) (by decide)
                  subst hb21
                  have hb22 : b22 = false := by
                    cases b22
                    · rfl
                    · exact absurd (show false = true from hcl 22 _ rfl rfl ⟨10, .data⟩ (by first | exact .head _ | simp) rfl) (by decide)
                  subst hb22
                  clear hall hcl hs hf
                  go_simp
                  exact hK _ _ ⟨true, false, b2, false, false, b5, b6, b7, b8, b9, false, b11, b12, b13, b14, b15, b16, b17, b18, b19, b20, false, false, dummy, nov, rfl, rfl, hF⟩
                · intro listed a w1 K hs hcl hf hall hI hK
                  obtain ⟨b0, b1, b2, b3, b4, b5, b6, b7, b8, b9, b10, b11, b12, b13, b14, b15, b16, b17, b18, b19, b20, b21, b22, dummy, nov, rfl, rfl, hF⟩ := hI
                  have hf' : b1 = false := hf
                  subst hf'
                  have hq0 : b0 = true := hall ⟨0, .data⟩ (by first | exact .head _ | simp) rfl
                  subst hq0
                  have hb3 : b3 = false := by
                    cases b3
                    · rfl
                    · exact absurd (show false = true from hcl 3 _ rfl rfl ⟨1, .data⟩ (by first | exact .head _ | simp) rfl) (by decide)
                  subst hb3
                  have hb4 : b4 = false := by
                    cases b4
                    · rfl
                    · exact absurd (show false = true from hcl 4 _ rfl rfl ⟨3, .data⟩ (by first | exact .head _ | simp) rfl) (by decide)
                  subst hb4
                  have hb10 : b10 = false := by
                    cases b10
                    · rfl
                    · exact absurd (show false = true from hcl 10 _ rfl rfl ⟨4, .data⟩ (by first | exact .head _ | simp) rfl) (by decide)
                  subst hb10
                  have hb21 : b21 = false := by
                    cases b21
                    · rfl
                    · exact absurd (show false = true from hcl 21 _ rfl rfl ⟨10, .chain⟩ (by first | exact .head _ | simp) rfl) (by decide)
                  subst hb21
                  have hb22 : b22 = false := by
                    cases b22
                    · rfl
                    · exact absurd (show false = true from hcl 22 _ rfl rfl ⟨10, .data⟩ (by first | exact .head _ | simp) rfl) (by decide)
                  subst hb22
                  clear hall hcl hs hf
                  have bb := hF.block HB.out
                  have q : w1.cell? ⟨k11, 0, none⟩ = some (.slice (some ⟨bq0, o0, none⟩) l0.length c0) := (cell_of_row w1 k11 0 _ _ _ bb).trans rfl
                  clear bb
                  go_simp
                  exact hK _ _ ⟨true, true, b2, false, false, b5, b6, b7, b8, b9, false, b11, b12, b13, b14, b15, b16, b17, b18, b19, b20, false, false, dummy, nov, rfl, rfl, hF⟩
                · intro listed a w1 K hs hcl hf hall hI hK
                  obtain ⟨b0, b1, b2, b3, b4, b5, b6, b7, b8, b9, b10, b11, b12, b13, b14, b15, b16, b17, b18, b19, b20, b21, b22, dummy, nov, rfl, rfl, hF⟩ := hI
                  have hf' : b2 = false := hf
                  subst hf'
                  clear hall hcl hs hf
                  go_simp
                  exact hK _ _ ⟨b0, b1, true, b3, b4, b5, b6, b7, b8, b9, b10, b11, b12, b13, b14, b15, b16, b17, b18, b19, b20, b21, b22, dummy, nov, rfl, rfl, hF⟩
                · intro listed a w1 K hs hcl hf hall hI hK
                  obtain ⟨b0, b1, b2, b3, b4, b5, b6, b7, b8, b9, b10, b11, b12, b13, b14, b15, b16, b17, b18, b19, b20, b21, b22, dummy, nov, rfl, rfl, hF⟩ := hI
                  have hf' : b3 = false := hf
                  subst hf'
                  have hq1 : b1 = true := hall ⟨1, .data⟩ (by first | exact .head _ | simp) rfl
                  subst hq1
                  have hq2 : b2 = true := hall ⟨2, .data⟩ (by first | exact .head _ | simp) rfl
                  subst hq2
                  have hq0 : b0 = true := hcl 1 _ rfl rfl ⟨0, .data⟩ (by first | exact .head _ | simp) rfl
                  subst hq0
                  have hb4 : b4 = false := by
                    cases b4
                    · rfl
                    · exact absurd (show false = true from hcl 4 _ rfl rfl ⟨3, .data⟩ (by first | exact .head _ | simp) rfl) (by decide)
                  subst hb4
                  have hb10 : b10 = false := by
                    cases b10
                    · rfl
                    · exact absurd (show false = true from hcl 10 _ rfl rfl ⟨4, .data⟩ (by first | exact .head _ | simp) rfl) (by decide)
                  subst hb10
                  have hb21 : b21 = false := by
                    cases b21
                    · rfl
                    · exact absurd (show false = true from hcl 21 _ rfl rfl ⟨10, .chain⟩ (by first | exact .head _ | simp) rfl) (by decide)
                  subst hb21
                  have hb22 : b22 = false := by
                    cases b22
                    · rfl
                    · exact absurd (show false = true from hcl 22 _ rfl rfl ⟨10, .data⟩ (by first | exact .head _ | simp) rfl) (by decide)
                  subst hb22
                  clear hall hcl hs hf
                  go_simp
                  exact hK _ _ ⟨true, true, true, true, false, b5, b6, b7, b8, b9, false, b11, b12, b13, b14, b15, b16, b17, b18, b19, b20, false, false, dummy, nov, rfl, rfl, hF⟩
                · intro listed a w1 K hs hcl hf hall hI hK
                  obtain ⟨b0, b1, b2, b3, b4, b5, b6, b7, b8, b9, b10, b11, b12, b13, b14, b15, b16, b17, b18, b19, b20, b21, b22, dummy, nov, rfl, rfl, hF⟩ := hI
                  have hf' : b4 = false := hf
                  subst hf'
                  have hq3 : b3 = true := hall ⟨3, .data⟩ (by first | exact .head _ | simp) rfl
                  subst hq3
                  have hq1 : b1 = true := hcl 3 _ rfl rfl ⟨1, .data⟩ (by first | exact .head _ | simp) rfl
                  subst hq1
                  have hq2 : b2 = true := hcl 3 _ rfl rfl ⟨2, .data⟩ (by first | exact .head _ | simp) rfl
                  subst hq2
                  have hq0 : b0 = true := hcl 1 _ rfl rfl ⟨0, .data⟩ (by first | exact .head _ | simp) rfl
                  subst hq0
                  have hb10 : b10 = false := by
                    cases b10
                    · rfl
                    · exact absurd (show false = true from hcl 10 _ rfl rfl ⟨4, .data⟩ (by first | exact .head _ | simp) rfl) (by decide)
                  subst hb10
                  have hb21 : b21 = false := by
                    cases b21
                    · rfl
                    · exact absurd (show false = true from hcl 21 _ rfl rfl ⟨10, .chain⟩ (by first | exact .head _ | simp) rfl) (by decide)
                  subst hb21
                  have hb22 : b22 = false := by
                    cases b22
                    · rfl
                    · exact absurd (show false = true from hcl 22 _ rfl rfl ⟨10, .data⟩ (by first | exact .head _ | simp) rfl) (by decide)
                  subst hb22
                  clear hall hcl hs hf
                  obtain ⟨e0, e1, e2, e3, e4, e5, e6, e7, e8, e9, e10, e11, e12, e13, e14⟩ := HRX.out w1 hF
                  go_simp
                  exact hK _ _ ⟨true, true, true, true, true, b5, b6, b7, b8, b9, false, b11, b12, b13, b14, b15, b16, b17, b18, b19, b20, false, false, dummy, nov, rfl, rfl, hF⟩
                · intro listed a w1 K hs hcl hf hall hI hK
                  obtain ⟨b0, b1, b2, b3, b4, b5, b6, b7, b8, b9, b10, b11, b12, b13, b14, b15, b16, b17, b18, b19, b20, b21, b22, dummy, nov, rfl, rfl, hF⟩ := hI
                  have hf' : b5 = false := hf
                  subst hf'
                  have hb6 : b6 = false := by
                    cases b6
                    · rfl
                    · exact absurd (show false = true from hcl 6 _ rfl rfl ⟨5, .data⟩ (by first | exact .head _ | simp) rfl) (by decide)
                  subst hb6
                  have hb8 : b8 = false := by
                    cases b8
                    · rfl
                    · exact absurd (show false = true from hcl 8 _ rfl rfl ⟨6, .data⟩ (by first | exact .head _ | simp) rfl) (by decide)
                  subst hb8
                  have hb9 : b9 = false := by
                    cases b9
                    · rfl
                    · exact absurd (show false = true from hcl 9 _ rfl rfl ⟨8, .data⟩ (by first | exact .head _ | simp) rfl) (by decide)
                  subst hb9
                  have hb10 : b10 = false := by
                    cases b10
                    · rfl
                    · exact absurd (show false = true from hcl 10 _ rfl rfl ⟨9, .data⟩ (by first | exact .head _ | simp) rfl) (by decide)
                  subst hb10
                  have hb21 : b21 = false := by
                    cases b21
                    · rfl
                    · exact absurd (show false = true from hcl 21 _ rfl rfl ⟨10, .chain⟩ (by first | exact .head _ | simp) rfl) (by decide)
                  subst hb21
                  have hb22 : b22 = false := by
                    cases b22
                    · rfl
                    · exact absurd (show false = true from hcl 22 _ rfl rfl ⟨10, .data⟩ (by first | exact .head _ | simp) rfl) (by decide)
                  subst hb22
                  clear hall hcl hs hf
                  go_simp
                  exact hK _ _ ⟨b0, b1, b2, b3, b4, true, false, b7, false, false, false, b11, b12, b13, b14, b15, b16, b17, b18, b19, b20, false, false, dummy, nov, rfl, rfl, hF⟩
                · intro listed a w1 K hs hcl hf hall hI hK
                  obtain ⟨b0, b1, b2, b3, b4, b5, b6, b7, b8, b9, b10, b11, b12, b13, b14, b15, b16, b17, b18, b19, b20, b21, b22, dummy, nov, rfl, rfl, hF⟩ := hI
                  have hf' : b6 = false := hf
                  subst hf'
                  have hq5 : b5 = true := hall ⟨5, .data⟩ (by first | exact .head _ | simp) rfl
                  subst hq5
                  have hb8 : b8 = false := by
                    cases b8
                    · rfl
                    · exact absurd (show false = true from hcl 8 _ rfl rfl ⟨6, .data⟩ (by first | exact .head _ | simp) rfl) (by decide)
                  subst hb8
                  have hb9 : b9 = false := by
                    cases b9
                    · rfl
                    · exact absurd (show false = true from hcl 9 _ rfl rfl ⟨8, .data⟩ (by first | exact .head _ | simp) rfl) (by decide)
                  subst hb9
                  have hb10 : b10 = false := by
                    cases b10
                    · rfl
                    · exact absurd (show false = true from hcl 10 _ rfl rfl ⟨9, .data⟩ (by first | exact .head _ | simp) rfl) (by decide)
                  subst hb10
                  have hb21 : b21 = false := by
                    cases b21
                    · rfl
                    · exact absurd (show false = true from hcl 21 _ rfl rfl ⟨10, .chain⟩ (by first | exact .head _ | simp) rfl) (by decide)
                  subst hb21
                  have hb22 : b22 = false := by
                    cases b22
                    · rfl
                    · exact absurd (show false = true from hcl 22 _ rfl rfl ⟨10, .data⟩ (by first | exact .head _ | simp) rfl) (by decide)
                  subst hb22
                  clear hall hcl hs hf
                  have bb := hF.block HB.out
                  have q : w1.cell? ⟨k11, 1, none⟩ = some (.slice (some ⟨bq1, o1, none⟩) l1.length c1) := (cell_of_row w1 k11 1 _ _ _ bb).trans rfl
                  clear bb
                  go_simp
                  exact hK _ _ ⟨b0, b1, b2, b3, b4, true, true, b7, false, false, false, b11, b12, b13, b14, b15, b16, b17, b18, b19, b20, false, false, dummy, nov, rfl, rfl, hF⟩
                · intro listed a w1 K hs hcl hf hall hI hK
                  obtain ⟨b0, b1, b2, b3, b4, b5, b6, b7, b8, b9, b10, b11, b12, b13, b14, b15, b16, b17, b18, b19, b20, b21, b22, dummy, nov, rfl, rfl, hF⟩ := hI
                  have hf' : b7 = false := hf
                  subst hf'
                  clear hall hcl hs hf
                  go_simp
                  exact hK _ _ ⟨b0, b1, b2, b3, b4, b5, b6, true, b8, b9, b10, b11, b12, b13, b14, b15, b16, b17, b18, b19, b20, b21, b22, dummy, nov, rfl, rfl, hF⟩
                · intro listed a w1 K hs hcl hf hall hI hK
                  obtain ⟨b0, b1, b2, b3, b4, b5, b6, b7, b8, b9, b10, b11, b12, b13, b14, b15, b16, b17, b18, b19, b20, b21, b22, dummy, nov, rfl, rfl, hF⟩ := hI
                  have hf' : b8 = false := hf
                  subst hf'
                  have hq6 : b6 = true := hall ⟨6, .data⟩ (by first | exact .head _ | simp) rfl
                  subst hq6
                  have hq7 : b7 = true := hall ⟨7, .data⟩ (by first | exact .head _ | simp) rfl
                  subst hq7
                  have hq5 : b5 = true := hcl 6 _ rfl rfl ⟨5, .data⟩ (by first | exact .head _ | simp) rfl
                  subst hq5
                  have hb9 : b9 = false := by
                    cases b9
                    · rfl
                    · exact absurd (show false = true from hcl 9 _ rfl rfl ⟨8, .data⟩ (by first | exact .head _ | simp) rfl) (by decide)
                  subst hb9
                  have hb10 : b10 = false := by
                    cases b10
                    · rfl
                    · exact absurd (show false = true from hcl 10 _ rfl rfl ⟨9, .data⟩ (by first | exact .head _ | simp) rfl) (by decide)
                  subst hb10
                  have hb21 : b21 = false := by
                    cases b21
                    · rfl
                    · exact absurd (show false = true from hcl 21 _ rfl rfl ⟨10, .chain⟩ (by first | exact .head _ | simp) rfl) (by decide)
                  subst hb21
                  have hb22 : b22 = false := by
                    cases b22
                    · rfl
                    · exact absurd (show false = true from hcl 22 _ rfl rfl ⟨10, .data⟩ (by first | exact .head _ | simp) rfl) (by decide)
                  subst hb22
                  clear hall hcl hs hf
                  go_simp
                  exact hK _ _ ⟨b0, b1, b2, b3, b4, true, true, true, true, false, false, b11, b12, b13, b14, b15, b16, b17, b18, b19, b20, false, false, dummy, nov, rfl, rfl, hF⟩
                · intro listed a w1 K hs hcl hf hall hI hK
                  obtain ⟨b0, b1, b2, b3, b4, b5, b6, b7, b8, b9, b10, b11, b12, b13, b14, b15, b16, b17, b18, b19, b20, b21, b22, dummy, nov, rfl, rfl, hF⟩ := hI
                  have hf' : b9 = false := hf
                  subst hf'
                  have hq8 : b8 = true := hall ⟨8, .data⟩ (by first | exact .head _ | simp) rfl
                  subst hq8
                  have hq6 : b6 = true := hcl 8 _ rfl rfl ⟨6, .data⟩ (by first | exact .head _ | simp) rfl
                  subst hq6
                  have hq7 : b7 = true := hcl 8 _ rfl rfl ⟨7, .data⟩ (by first | exact .head _ | simp) rfl
                  subst hq7
                  have hq5 : b5 = true := hcl 6 _ rfl rfl ⟨5, .data⟩ (by first | exact .head _ | simp) rfl
                  subst hq5
                  have hb10 : b10 = false := by
                    cases b10
                    · rfl
                    · exact absurd (show false = true from hcl 10 _ rfl rfl ⟨9, .data⟩ (by first | exact .head _ | simp) rfl) (by decide)
                  subst hb10
                  have hb21 : b21 = false := by
                    cases b21
                    · rfl
                    · exact absurd (show false = true from hcl 21 _ rfl rfl ⟨10, .chain⟩ (by first | exact .head _ | simp) rfl) (by decide)
                  subst hb21
                  have hb22 : b22 = false := by
                    cases b22
                    · rfl
                    · exact absurd (show false = true from hcl 22 _ rfl rfl ⟨10, .data⟩ (by first | exact .head _ | simp) rfl) (by decide)
                  subst hb22
                  clear hall hcl hs hf
                  obtain ⟨e0, e1, e2, e3, e4, e5, e6, e7, e8, e9, e10, e11, e12, e13, e14⟩ := HRY.out w1 hF
                  go_simp
                  exact hK _ _ ⟨b0, b1, b2, b3, b4, true, true, true, true, true, false, b11, b12, b13, b14, b15, b16, b17, b18, b19, b20, false, false, dummy, nov, rfl, rfl, hF⟩
                · intro listed a w1 K hs hcl hf hall hI hK
                  obtain ⟨b0, b1, b2, b3, b4, b5, b6, b7, b8, b9, b10, b11, b12, b13, b14, b15, b16, b17, b18, b19, b20, b21, b22, dummy, nov, rfl, rfl, hF⟩ := hI
                  have hf' : b10 = false := hf
                  subst hf'
                  have hq4 : b4 = true := hall ⟨4, .data⟩ (by first | exact .head _ | simp) rfl
                  subst hq4
                  have hq9 : b9 = true := hall ⟨9, .data⟩ (by first | exact .head _ | simp) rfl
                  subst hq9
                  have hq3 : b3 = true := hcl 4 _ rfl rfl ⟨3, .data⟩ (by first | exact .head _ | simp) rfl
                  subst hq3
                  have hq8 : b8 = true := hcl 9 _ rfl rfl ⟨8, .data⟩ (by first | exact .head _ | simp) rfl
                  subst hq8
                  have hq1 : b1 = true := hcl 3 _ rfl rfl ⟨1, .data⟩ (by first | exact .head _ | simp) rfl
                  subst hq1
                  have hq2 : b2 = true := hcl 3 _ rfl rfl ⟨2, .data⟩ (by first | exact .head _ | simp) rfl
                  subst hq2
                  have hq6 : b6 = true := hcl 8 _ rfl rfl ⟨6, .data⟩ (by first | exact .head _ | simp) rfl
                  subst hq6
                  have hq7 : b7 = true := hcl 8 _ rfl rfl ⟨7, .data⟩ (by first | exact .head _ | simp) rfl
                  subst hq7
                  have hq0 : b0 = true := hcl 1 _ rfl rfl ⟨0, .data⟩ (by first | exact .head _ | simp) rfl
                  subst hq0
                  have hq5 : b5 = true := hcl 6 _ rfl rfl ⟨5, .data⟩ (by first | exact .head _ | simp) rfl
                  subst hq5
                  have hb21 : b21 = false := by
                    cases b21
                    · rfl
                    · exact absurd (show false = true from hcl 21 _ rfl rfl ⟨10, .chain⟩ (by first | exact .head _ | simp) rfl) (by decide)
                  subst hb21
                  have hb22 : b22 = false := by
                    cases b22
                    · rfl
                    · exact absurd (show false = true from hcl 22 _ rfl rfl ⟨10, .data⟩ (by first | exact .head _ | simp) rfl) (by decide)
                  subst hb22
                  clear hall hcl hs hf
                  have hp := HSL.out w1 hF
                  go_simp
                  refine hp.mono ?_
                  rintro e w2 ⟨rfl, hd⟩
                  exact hK _ _ ⟨true, true, true, true, true, true, true, true, true, true, true, b11, b12, b13, b14, b15, b16, b17, b18, b19, b20, false, false, dummy, nov, rfl, rfl, hF.up hd⟩
                · intro listed a w1 K hs hcl hf hall hI hK
                  obtain ⟨b0, b1, b2, b3, b4, b5, b6, b7, b8, b9, b10, b11, b12, b13, b14, b15, b16, b17, b18, b19, b20, b21, b22, dummy, nov, rfl, rfl, hF⟩ := hI
                  have hf' : b11 = false := hf
                  subst hf'
                  have hb12 : b12 = false := by
                    cases b12
                    · rfl
                    · exact absurd (show false = true from hcl 12 _ rfl rfl ⟨11, .data⟩ (by first | exact .head _ | simp) rfl) (by decide)
                  subst hb12
                  have hb14 : b14 = false := by
                    cases b14
                    · rfl
                    · exact absurd (show false = true from hcl 14 _ rfl rfl ⟨12, .data⟩ (by first | exact .head _ | simp) rfl) (by decide)
                  subst hb14
                  have hb15 : b15 = false := by
                    cases b15
                    · rfl
                    · exact absurd (show false = true from hcl 15 _ rfl rfl ⟨14, .data⟩ (by first | exact .head _ | simp) rfl) (by decide)
                  subst hb15
                  have hb21 : b21 = false := by
                    cases b21
                    · rfl
                    · exact absurd (show false = true from hcl 21 _ rfl rfl ⟨15, .data⟩ (by first | exact .head _ | simp) rfl) (by decide)
                  subst hb21
                  have hb22 : b22 = false := by
                    cases b22
                    · rfl
                    · exact absurd (show false = true from hcl 22 _ rfl rfl ⟨21, .data⟩ (by first | exact .head _ | simp) rfl) (by decide)
                  subst hb22
                  clear hall hcl hs hf
                  go_simp
                  exact hK _ _ ⟨b0, b1, b2, b3, b4, b5, b6, b7, b8, b9, b10, true, false, b13, false, false, b16, b17, b18, b19, b20, false, false, dummy, nov, rfl, rfl, hF⟩
                · intro listed a w1 K hs hcl hf hall hI hK
                  obtain ⟨b0, b1, b2, b3, b4, b5, b6, b7, b8, b9, b10, b11, b12, b13, b14, b15, b16, b17, b18, b19, b20, b21, b22, dummy, nov, rfl, rfl, hF⟩ := hI
                  have hf' : b12 = false := hf
                  subst hf'
                  have hq11 : b11 = true := hall ⟨11, .data⟩ (by first | exact .head _ | simp) rfl
                  subst hq11
                  have hb14 : b14 = false := by
                    cases b14
                    · rfl
                    · exact absurd (show false = true from hcl 14 _ rfl rfl ⟨12, .data⟩ (by first | exact .head _ | simp) rfl) (by decide)
                  subst hb14
                  have hb15 : b15 = false := by
                    cases b15
                    · rfl
                    · exact absurd (show false = true from hcl 15 _ rfl rfl ⟨14, .data⟩ (by first | exact .head _ | simp) rfl) (by decide)
                  subst hb15
                  have hb21 : b21 = false := by
                    cases b21
                    · rfl
                    · exact absurd (show false = true from hcl 21 _ rfl rfl ⟨15, .data⟩ (by first | exact .head _ | simp) rfl) (by decide)
                  subst hb21
                  have hb22 : b22 = false := by
                    cases b22
                    · rfl
                    · exact absurd (show false = true from hcl 22 _ rfl rfl ⟨21, .data⟩ (by first | exact .head _ | simp) rfl) (by decide)
                  subst hb22
                  clear hall hcl hs hf
                  have bb := hF.block HB.out
                  have q : w1.cell? ⟨k11, 0, none⟩ = some (.slice (some ⟨bq0, o0, none⟩) l0.length c0) := (cell_of_row w1 k11 0 _ _ _ bb).trans rfl
                  clear bb
                  go_simp
                  exact hK _ _ ⟨b0, b1, b2, b3, b4, b5, b6, b7, b8, b9, b10, true, true, b13, false, false, b16, b17, b18, b19, b20, false, false, dummy, nov, rfl, rfl, hF⟩
                · intro listed a w1 K hs hcl hf hall hI hK
                  obtain ⟨b0, b1, b2, b3, b4, b5, b6, b7, b8, b9, b10, b11, b12, b13, b14, b15, b16, b17, b18, b19, b20, b21, b22, dummy, nov, rfl, rfl, hF⟩ := hI
                  have hf' : b13 = false := hf
                  subst hf'
                  clear hall hcl hs hf
                  go_simp
                  exact hK _ _ ⟨b0, b1, b2, b3, b4, b5, b6, b7, b8, b9, b10, b11, b12, true, b14, b15, b16, b17, b18, b19, b20, b21, b22, dummy, nov, rfl, rfl, hF⟩
                · intro listed a w1 K hs hcl hf hall hI hK
                  obtain ⟨b0, b1, b2, b3, b4, b5, b6, b7, b8, b9, b10, b11, b12, b13, b14, b15, b16, b17, b18, b19, b20, b21, b22, dummy, nov, rfl, rfl, hF⟩ := hI
                  have hf' : b14 = false := hf
                  subst hf'
                  have hq12 : b12 = true := hall ⟨12, .data⟩ (by first | exact .head _ | simp) rfl
                  subst hq12
                  have hq13 : b13 = true := hall ⟨13, .data⟩ (by first | exact .head _ | simp) rfl
                  subst hq13
                  have hq11 : b11 = true := hcl 12 _ rfl rfl ⟨11, .data⟩ (by first | exact .head _ | simp) rfl
                  subst hq11
                  have hb15 : b15 = false := by
                    cases b15
                    · rfl
                    · exact absurd (show false = true from hcl 15 _ rfl rfl ⟨14, .data⟩ (by first | exact .head _ | simp) rfl) (by decide)
                  subst hb15
                  have hb21 : b21 = false := by
                    cases b21
                    · rfl
                    · exact absurd (show false = true from hcl 21 _ rfl rfl ⟨15, .data⟩ (by first | exact .head _ | simp) rfl) (by decide)
                  subst hb21
                  have hb22 : b22 = false := by
                    cases b22
                    · rfl
                    · exact absurd (show false = true from hcl 22 _ rfl rfl ⟨21, .data⟩ (by first | exact .head _ | simp) rfl) (by decide)
                  subst hb22
                  clear hall hcl hs hf
                  go_simp
                  exact hK _ _ ⟨b0, b1, b2, b3, b4, b5, b6, b7, b8, b9, b10, true, true, true, true, false, b16, b17, b18, b19, b20, false, false, dummy, nov, rfl, rfl, hF⟩
                · intro listed a w1 K hs hcl hf hall hI hK
                  obtain ⟨b0, b1, b2, b3, b4, b5, b6, b7, b8, b9, b10, b11, b12, b13, b14, b15, b16, b17, b18, b19, b20, b21, b22, dummy, nov, rfl, rfl, hF⟩ := hI
                  have hf' : b15 = false := hf
                  subst hf'
                  have hq14 : b14 = true := hall ⟨14, .data⟩ (by first | exact .head _ | simp) rfl
                  subst hq14
                  have hq12 : b12 = true := hcl 14 _ rfl rfl ⟨12, .data⟩ (by first | exact .head _ | simp) rfl
                  subst hq12
                  have hq13 : b13 = true := hcl 14 _ rfl rfl ⟨13, .data⟩ (by first | exact .head _ | simp) rfl
                  subst hq13
                  have hq11 : b11 = true := hcl 12 _ rfl rfl ⟨11, .data⟩ (by first | exact .head _ | simp) rfl
                  subst hq11
                  have hb21 : b21 = false := by
                    cases b21
                    · rfl
                    · exact absurd (show false = true from hcl 21 _ rfl rfl ⟨15, .data⟩ (by first | exact .head _ | simp) rfl) (by decide)
                  subst hb21
                  have hb22 : b22 = false := by
                    cases b22
                    · rfl
                    · exact absurd (show false = true from hcl 22 _ rfl rfl ⟨21, .data⟩ (by first | exact .head _ | simp) rfl) (by decide)
                  subst hb22
                  clear hall hcl hs hf
                  obtain ⟨e0, e1, e2, e3, e4, e5, e6, e7, e8, e9, e10, e11, e12, e13, e14⟩ := HRX.out w1 hF
                  go_simp
                  exact hK _ _ ⟨b0, b1, b2, b3, b4, b5, b6, b7, b8, b9, b10, true, true, true, true, true, b16, b17, b18, b19, b20, false, false, dummy, nov, rfl, rfl, hF⟩
                · intro listed a w1 K hs hcl hf hall hI hK
                  obtain ⟨b0, b1, b2, b3, b4, b5, b6, b7, b8, b9, b10, b11, b12, b13, b14, b15, b16, b17, b18, b19, b20, b21, b22, dummy, nov, rfl, rfl, hF⟩ := hI
                  have hf' : b16 = false := hf
                  subst hf'
                  have hb17 : b17 = false := by
                    cases b17
                    · rfl
                    · exact absurd (show false = true from hcl 17 _ rfl rfl ⟨16, .data⟩ (by first | exact .head _ | simp) rfl) (by decide)
                  subst hb17
                  have hb19 : b19 = false := by
                    cases b19
                    · rfl
                    · exact absurd (show false = true from hcl 19 _ rfl rfl ⟨17, .data⟩ (by first | exact .head _ | simp) rfl) (by decide)
                  subst hb19
                  have hb20 : b20 = false := by
                    cases b20
                    · rfl
                    · exact absurd (show false = true from hcl 20 _ rfl rfl ⟨19, .data⟩ (by first | exact .head _ | simp) rfl) (by decide)
                  subst hb20
                  have hb21 : b21 = false := by
                    cases b21
                    · rfl
                    · exact absurd (show false = true from hcl 21 _ rfl rfl ⟨20, .data⟩ (by first | exact .head _ | simp) rfl) (by decide)
                  subst hb21
                  have hb22 : b22 = false := by
                    cases b22
                    · rfl
                    · exact absurd (show false = true from hcl 22 _ rfl rfl ⟨21, .data⟩ (by first | exact .head _ | simp) rfl) (by decide)
                  subst hb22
                  clear hall hcl hs hf
                  go_simp
                  exact hK _ _ ⟨b0, b1, b2, b3, b4, b5, b6, b7, b8, b9, b10, b11, b12, b13, b14, b15, true, false, b18, false, false, false, false, dummy, nov, rfl, rfl, hF⟩
                · intro listed a w1 K hs hcl hf hall hI hK
                  obtain ⟨b0, b1, b2, b3, b4, b5, b6, b7, b8, b9, b10, b11, b12, b13, b14, b15, b16, b17, b18, b19, b20, b21, b22, dummy, nov, rfl, rfl, hF⟩ := hI
                  have hf' : b17 = false := hf
                  subst hf'
                  have hq16 : b16 = true := hall ⟨16, .data⟩ (by first | exact .head _ | simp) rfl
                  subst hq16
                  have hb19 : b19 = false := by
                    cases b19
                    · rfl
                    · exact absurd (show false = true from hcl 19 _ rfl rfl ⟨17, .data⟩ (by first | exact .head _ | simp) rfl) (by decide)
                  subst hb19
                  have hb20 : b20 = false := by
                    cases b20
                    · rfl
                    · exact absurd (show false = true from hcl 20 _ rfl rfl ⟨19, .data⟩ (by first | exact .head _ | simp) rfl) (by decide)
                  subst hb20
                  have hb21 : b21 = false := by
                    cases b21
                    · rfl
                    · exact absurd (show false = true from hcl 21 _ rfl rfl ⟨20, .data⟩ (by first | exact .head _ | simp) rfl) (by decide)
                  subst hb21
                  have hb22 : b22 = false := by
                    cases b22
                    · rfl
                    · exact absurd (show false = true from hcl 22 _ rfl rfl ⟨21, .data⟩ (by first | exact .head _ | simp) rfl) (by decide)
                  subst hb22
                  clear hall hcl hs hf
                  have bb := hF.block HB.out
                  have q : w1.cell? ⟨k11, 1, none⟩ = some (.slice (some ⟨bq1, o1, none⟩) l1.length c1) := (cell_of_row w1 k11 1 _ _ _ bb).trans rfl
                  clear bb
                  go_simp
                  exact hK _ _ ⟨b0, b1, b2, b3, b4, b5, b6, b7, b8, b9, b10, b11, b12, b13, b14, b15, true, true, b18, false, false, false, false, dummy, nov, rfl, rfl, hF⟩
                · intro listed a w1 K hs hcl hf hall hI hK
                  obtain ⟨b0, b1, b2, b3, b4, b5, b6, b7, b8, b9, b10, b11, b12, b13, b14, b15, b16, b17, b18, b19, b20, b21, b22, dummy, nov, rfl, rfl, hF⟩ := hI
                  have hf' : b18 = false := hf
                  subst hf'
                  clear hall hcl hs hf
                  go_simp
                  exact hK _ _ ⟨b0, b1, b2, b3, b4, b5, b6, b7, b8, b9, b10, b11, b12, b13, b14, b15, b16, b17, true, b19, b20, b21, b22, dummy, nov, rfl, rfl, hF⟩
                · intro listed a w1 K hs hcl hf hall hI hK
                  obtain ⟨b0, b1, b2, b3, b4, b5, b6, b7, b8, b9, b10, b11, b12, b13, b14, b15, b16, b17, b18, b19, b20, b21, b22, dummy, nov, rfl, rfl, hF⟩ := hI
                  have hf' : b19 = false := hf
                  subst hf'
                  have hq17 : b17 = true := hall ⟨17, .data⟩ (by first | exact .head _ | simp) rfl
                  subst hq17
                  have hq18 : b18 = true := hall ⟨18, .data⟩ (by first | exact .head _ | simp) rfl
                  subst hq18
                  have hq16 : b16 = true := hcl 17 _ rfl rfl ⟨16, .data⟩ (by first | exact .head _ | simp) rfl
                  subst hq16
                  have hb20 : b20 = false := by
                    cases b20
                    · rfl
                    · exact absurd (show false = true from hcl 20 _ rfl rfl ⟨19, .data⟩ (by first | exact .head _ | simp) rfl) (by decide)
                  subst hb20
                  have hb21 : b21 = false := by
                    cases b21
                    · rfl
                    · exact absurd (show false = true from hcl 21 _ rfl rfl ⟨20, .data⟩ (by first | exact .head _ | simp) rfl) (by decide)
                  subst hb21
                  have hb22 : b22 = false := by
                    cases b22
                    · rfl
                    · exact absurd (show false = true from hcl 22 _ rfl rfl ⟨21, .data⟩ (by first | exact .head _ | simp) rfl) (by decide)
                  subst hb22
                  clear hall hcl hs hf
                  go_simp
                  exact hK _ _ ⟨b0, b1, b2, b3, b4, b5, b6, b7, b8, b9, b10, b11, b12, b13, b14, b15, true, true, true, true, false, false, false, dummy, nov, rfl, rfl, hF⟩
                · intro listed a w1 K hs hcl hf hall hI hK
                  obtain ⟨b0, b1, b2, b3, b4, b5, b6, b7, b8, b9, b10, b11, b12, b13, b14, b15, b16, b17, b18, b19, b20, b21, b22, dummy, nov, rfl, rfl, hF⟩ := hI
                  have hf' : b20 = false := hf
                  subst hf'
                  have hq19 : b19 = true := hall ⟨19, .data⟩ (by first | exact .head _ | simp) rfl
                  subst hq19
                  have hq17 : b17 = true := hcl 19 _ rfl rfl ⟨17, .data⟩ (by first | exact .head _ | simp) rfl
                  subst hq17
                  have hq18 : b18 = true := hcl 19 _ rfl rfl ⟨18, .data⟩ (by first | exact .head _ | simp) rfl
                  subst hq18
                  have hq16 : b16 = true := hcl 17 _ rfl rfl ⟨16, .data⟩ (by first | exact .head _ | simp) rfl
                  subst hq16
                  have hb21 : b21 = false := by
                    cases b21
                    · rfl
                    · exact absurd (show false = true from hcl 21 _ rfl rfl ⟨20, .data⟩ (by first | exact .head _ | simp) rfl) (by decide)
                  subst hb21
                  have hb22 : b22 = false := by
                    cases b22
                    · rfl
                    · exact absurd (show false = true from hcl 22 _ rfl rfl ⟨21, .data⟩ (by first | exact .head _ | simp) rfl) (by decide)
                  subst hb22
                  clear hall hcl hs hf
                  obtain ⟨e0, e1, e2, e3, e4, e5, e6, e7, e8, e9, e10, e11, e12, e13, e14⟩ := HRY.out w1 hF
                  go_simp
                  exact hK _ _ ⟨b0, b1, b2, b3, b4, b5, b6, b7, b8, b9, b10, b11, b12, b13, b14, b15, true, true, true, true, true, false, false, dummy, nov, rfl, rfl, hF⟩
                · intro listed a w1 K hs hcl hf hall hI hK
                  obtain ⟨b0, b1, b2, b3, b4, b5, b6, b7, b8, b9, b10, b11, b12, b13, b14, b15, b16, b17, b18, b19, b20, b21, b22, dummy, nov, rfl, rfl, hF⟩ := hI
                  have hf' : b21 = false := hf
                  subst hf'
                  have hq15 : b15 = true := hall ⟨15, .data⟩ (by first | exact .head _ | simp) rfl
                  subst hq15
                  have hq20 : b20 = true := hall ⟨20, .data⟩ (by first | exact .head _ | simp) rfl
                  subst hq20
                  have hq10 : b10 = true := hall ⟨10, .chain⟩ (by first | exact .head _ | simp) rfl
                  subst hq10
                  have hq14 : b14 = true := hcl 15 _ rfl rfl ⟨14, .data⟩ (by first | exact .head _ | simp) rfl
                  subst hq14
                  have hq19 : b19 = true := hcl 20 _ rfl rfl ⟨19, .data⟩ (by first | exact .head _ | simp) rfl
                  subst hq19
                  have hq4 : b4 = true := hcl 10 _ rfl rfl ⟨4, .data⟩ (by first | exact .head _ | simp) rfl
                  subst hq4
                  have hq9 : b9 = true := hcl 10 _ rfl rfl ⟨9, .data⟩ (by first | exact .head _ | simp) rfl
                  subst hq9
                  have hq12 : b12 = true := hcl 14 _ rfl rfl ⟨12, .data⟩ (by first | exact .head _ | simp) rfl
                  subst hq12
                  have hq13 : b13 = true := hcl 14 _ rfl rfl ⟨13, .data⟩ (by first | exact .head _ | simp) rfl
                  subst hq13
                  have hq17 : b17 = true := hcl 19 _ rfl rfl ⟨17, .data⟩ (by first | exact .head _ | simp) rfl
                  subst hq17
                  have hq18 : b18 = true := hcl 19 _ rfl rfl ⟨18, .data⟩ (by first | exact .head _ | simp) rfl
                  subst hq18
                  have hq3 : b3 = true := hcl 4 _ rfl rfl ⟨3, .data⟩ (by first | exact .head _ | simp) rfl
                  subst hq3
                  have hq8 : b8 = true := hcl 9 _ rfl rfl ⟨8, .data⟩ (by first | exact .head _ | simp) rfl
                  subst hq8
                  have hq11 : b11 = true := hcl 12 _ rfl rfl ⟨11, .data⟩ (by first | exact .head _ | simp) rfl
                  subst hq11
                  have hq16 : b16 = true := hcl 17 _ rfl rfl ⟨16, .data⟩ (by first | exact .head _ | simp) rfl
                  subst hq16
                  have hq1 : b1 = true := hcl 3 _ rfl rfl ⟨1, .data⟩ (by first | exact .head _ | simp) rfl
                  subst hq1
                  have hq2 : b2 = true := hcl 3 _ rfl rfl ⟨2, .data⟩ (by first | exact .head _ | simp) rfl
                  subst hq2
                  have hq6 : b6 = true := hcl 8 _ rfl rfl ⟨6, .data⟩ (by first | exact .head _ | simp) rfl
                  subst hq6
                  have hq7 : b7 = true := hcl 8 _ rfl rfl ⟨7, .data⟩ (by first | exact .head _ | simp) rfl
                  subst hq7
                  have hq0 : b0 = true := hcl 1 _ rfl rfl ⟨0, .data⟩ (by first | exact .head _ | simp) rfl
                  subst hq0
                  have hq5 : b5 = true := hcl 6 _ rfl rfl ⟨5, .data⟩ (by first | exact .head _ | simp) rfl
                  subst hq5
                  have hb22 : b22 = false := by
                    cases b22
                    · rfl
                    · exact absurd (show false = true from hcl 22 _ rfl rfl ⟨21, .data⟩ (by first | exact .head _ | simp) rfl) (by decide)
                  subst hb22
                  clear hall hcl hs hf
                  have hp := HSR.out w1 hF
                  go_simp
                  refine hp.mono ?_
                  rintro e w2 ⟨rfl, hd⟩
                  exact hK _ _ ⟨true, true, true, true, true, true, true, true, true, true, true, true, true, true, true, true, true, true, true, true, true, true, false, dummy, nov, rfl, rfl, hF.up hd⟩
                · intro listed a w1 K hs hcl hf hall hI hK
                  obtain ⟨b0, b1, b2, b3, b4, b5, b6, b7, b8, b9, b10, b11, b12, b13, b14, b15, b16, b17, b18, b19, b20, b21, b22, dummy, nov, rfl, rfl, hF⟩ := hI
                  have hf' : b22 = false := hf
                  subst hf'
                  have hq10 : b10 = true := hall ⟨10, .data⟩ (by first | exact .head _ | simp) rfl
                  subst hq10
                  have hq21 : b21 = true := hall ⟨21, .data⟩ (by first | exact .head _ | simp) rfl
                  subst hq21
                  have hq4 : b4 = true := hcl 10 _ rfl rfl ⟨4, .data⟩ (by first | exact .head _ | simp) rfl
                  subst hq4
                  have hq9 : b9 = true := hcl 10 _ rfl rfl ⟨9, .data⟩ (by first | exact .head _ | simp) rfl
                  subst hq9
                  have hq15 : b15 = true := hcl 21 _ rfl rfl ⟨15, .data⟩ (by first | exact .head _ | simp) rfl
                  subst hq15
                  have hq20 : b20 = true := hcl 21 _ rfl rfl ⟨20, .data⟩ (by first | exact .head _ | simp) rfl
                  subst hq20
                  have hq3 : b3 = true := hcl 4 _ rfl rfl ⟨3, .data⟩ (by first | exact .head _ | simp) rfl
                  subst hq3
                  have hq8 : b8 = true := hcl 9 _ rfl rfl ⟨8, .data⟩ (by first | exact .head _ | simp) rfl
                  subst hq8
                  have hq14 : b14 = true := hcl 15 _ rfl rfl ⟨14, .data⟩ (by first | exact .head _ | simp) rfl
                  subst hq14
                  have hq19 : b19 = true := hcl 20 _ rfl rfl ⟨19, .data⟩ (by first | exact .head _ | simp) rfl
                  subst hq19
                  have hq1 : b1 = true := hcl 3 _ rfl rfl ⟨1, .data⟩ (by first | exact .head _ | simp) rfl
                  subst hq1
                  have hq2 : b2 = true := hcl 3 _ rfl rfl ⟨2, .data⟩ (by first | exact .head _ | simp) rfl
                  subst hq2
                  have hq6 : b6 = true := hcl 8 _ rfl rfl ⟨6, .data⟩ (by first | exact .head _ | simp) rfl
                  subst hq6
                  have hq7 : b7 = true := hcl 8 _ rfl rfl ⟨7, .data⟩ (by first | exact .head _ | simp) rfl
                  subst hq7
                  have hq12 : b12 = true := hcl 14 _ rfl rfl ⟨12, .data⟩ (by first | exact .head _ | simp) rfl
                  subst hq12
                  have hq13 : b13 = true := hcl 14 _ rfl rfl ⟨13, .data⟩ (by first | exact .head _ | simp) rfl
                  subst hq13
                  have hq17 : b17 = true := hcl 19 _ rfl rfl ⟨17, .data⟩ (by first | exact .head _ | simp) rfl
                  subst hq17
                  have hq18 : b18 = true := hcl 19 _ rfl rfl ⟨18, .data⟩ (by first | exact .head _ | simp) rfl
                  subst hq18
                  have hq0 : b0 = true := hcl 1 _ rfl rfl ⟨0, .data⟩ (by first | exact .head _ | simp) rfl
                  subst hq0
                  have hq5 : b5 = true := hcl 6 _ rfl rfl ⟨5, .data⟩ (by first | exact .head _ | simp) rfl
                  subst hq5
                  have hq11 : b11 = true := hcl 12 _ rfl rfl ⟨11, .data⟩ (by first | exact .head _ | simp) rfl
                  subst hq11
                  have hq16 : b16 = true := hcl 17 _ rfl rfl ⟨16, .data⟩ (by first | exact .head _ | simp) rfl
                  subst hq16
                  clear hall hcl hs hf
                  go_simp
                  try rw [bne_self_eq_false]
                  exact hK _ _ ⟨true, true, true, true, true, true, true, true, true, true, true, true, true, true, true, true, true, true, true, true, true, true, true, dummy, nov, rfl, rfl, hF⟩
              · have hb' : decide (k < l1.length) = false := by rw [decide_eq_false_iff_not]; omega
                have HO3 := Lib.hid (HOX.out.up hor)
                clear hor hb
                go_wp2_with fail
                go_roundw
                case rel => exact ⟨i + 1, by omega, by go_num, HO3.out⟩
                case measure => simp [intOf]; omega
            · have ha' : decide (k < l0.length) = false := by rw [decide_eq_false_iff_not]; omega
              have HO3 := Lib.hid (HOX.out.up hor)
              clear hor ha
              go_wp2_with fail
              go_roundw
              case rel => exact ⟨i + 1, by omega, by go_num, HO3.out⟩
              case measure => simp [intOf]; omega
        · intro listed a w1 K hs hcl hf hall hI hK
          obtain ⟨b0, b1, b2, b3, b4, b5, b6, b7, b8, b9, b10, b11, dummy, vp, vr, rfl, rfl, hF⟩ := hI
          have hf' : b0 = false := hf
          subst hf'
          have hb1 : b1 = false := by
            cases b1
            · rfl
            · exact absurd (show false = true from hcl 1 _ rfl rfl ⟨0, .data⟩ (by first | exact .head _ | simp) rfl) (by decide)
          subst hb1
          have hb4 : b4 = false := by
            cases b4
            · rfl
            · exact absurd (show false = true from hcl 4 _ rfl rfl ⟨1, .data⟩ (by first | exact .head _ | simp) rfl) (by decide)
          subst hb4
          have hb9 : b9 = false := by
            cases b9
            · rfl
            · exact absurd (show false = true from hcl 9 _ rfl rfl ⟨4, .chain⟩ (by first | exact .head _ | simp) rfl) (by decide)
          subst hb9
          have hb10 : b10 = false := by
            cases b10
            · rfl
            · exact absurd (show false = true from hcl 10 _ rfl rfl ⟨4, .data⟩ (by first | exact .head _ | simp) rfl) (by decide)
          subst hb10
          have hb11 : b11 = false := by
            cases b11
            · rfl
            · exact absurd (show false = true from hcl 11 _ rfl rfl ⟨10, .data⟩ (by first | exact .head _ | simp) rfl) (by decide)
          subst hb11
          clear hall hcl hs hf
          go_simp
          exact hK _ _ ⟨true, false, b2, b3, false, b5, b6, b7, b8, false, false, false, dummy, vp, vr, rfl, rfl, hF⟩
        · intro listed a w1 K hs hcl hf hall hI hK
          obtain ⟨b0, b1, b2, b3, b4, b5, b6, b7, b8, b9, b10, b11, dummy, vp, vr, rfl, rfl, hF⟩ := hI
          have hf' : b1 = false := hf
          subst hf'
          have hq0 : b0 = true := hall ⟨0, .data⟩ (by first | exact .head _ | simp) rfl
          subst hq0
          have hb4 : b4 = false := by
            cases b4
            · rfl
            · exact absurd (show false = true from hcl 4 _ rfl rfl ⟨1, .data⟩ (by first | exact .head _ | simp) rfl) (by decide)
          subst hb4
          have hb9 : b9 = false := by
            cases b9
            · rfl
            · exact absurd (show false = true from hcl 9 _ rfl rfl ⟨4, .chain⟩ (by first | exact .head _ | simp) rfl) (by decide)
          subst hb9
          have hb10 : b10 = false := by
            cases b10
            · rfl
            · exact absurd (show false = true from hcl 10 _ rfl rfl ⟨4, .data⟩ (by first | exact .head _ | simp) rfl) (by decide)
          subst hb10
          have hb11 : b11 = false := by
            cases b11
            · rfl
            · exact absurd (show false = true from hcl 11 _ rfl rfl ⟨10, .data⟩ (by first | exact .head _ | simp) rfl) (by decide)
          subst hb11
          clear hall hcl hs hf
          have bb := (hF.1).block HB.out
          have q : w1.cell? ⟨k11, 0, none⟩ = some (.slice A0 l0.length c0) := (cell_of_row w1 k11 0 _ _ _ bb).trans rfl
          clear bb
          go_simp
          exact hK _ _ ⟨true, true, b2, b3, false, b5, b6, b7, b8, false, false, false, dummy, vp, vr, rfl, rfl, hF⟩
        · intro listed a w1 K hs hcl hf hall hI hK
          obtain ⟨b0, b1, b2, b3, b4, b5, b6, b7, b8, b9, b10, b11, dummy, vp, vr, rfl, rfl, hF⟩ := hI
          have hf' : b2 = false := hf
          subst hf'
          have hb3 : b3 = false := by
            cases b3
            · rfl
            · exact absurd (show false = true from hcl 3 _ rfl rfl ⟨2, .data⟩ (by first | exact .head _ | simp) rfl) (by decide)
          subst hb3
          have hb4 : b4 = false := by
            cases b4
            · rfl
            · exact absurd (show false = true from hcl 4 _ rfl rfl ⟨3, .data⟩ (by first | exact .head _ | simp) rfl) (by decide)
          subst hb4
          have hb9 : b9 = false := by
            cases b9
            · rfl
            · exact absurd (show false = true from hcl 9 _ rfl rfl ⟨4, .chain⟩ (by first | exact .head _ | simp) rfl) (by decide)
          subst hb9
          have hb10 : b10 = false := by
            cases b10
            · rfl
            · exact absurd (show false = true from hcl 10 _ rfl rfl ⟨4, .data⟩ (by first | exact .head _ | simp) rfl) (by decide)
          subst hb10
          have hb11 : b11 = false := by
            cases b11
            · rfl
            · exact absurd (show false = true from hcl 11 _ rfl rfl ⟨10, .data⟩ (by first | exact .head _ | simp) rfl) (by decide)
          subst hb11
          clear hall hcl hs hf
          go_simp
          exact hK _ _ ⟨b0, b1, true, false, false, b5, b6, b7, b8, false, false, false, dummy, vp, vr, rfl, rfl, hF⟩
        · intro listed a w1 K hs hcl hf hall hI hK
          obtain ⟨b0, b1, b2, b3, b4, b5, b6, b7, b8, b9, b10, b11, dummy, vp, vr, rfl, rfl, hF⟩ := hI
          have hf' : b3 = false := hf
          subst hf'
          have hq2 : b2 = true := hall ⟨2, .data⟩ (by first | exact .head _ | simp) rfl
          subst hq2
          have hb4 : b4 = false := by
            cases b4
            · rfl
            · exact absurd (show false = true from hcl 4 _ rfl rfl ⟨3, .data⟩ (by first | exact .head _ | simp) rfl) (by decide)
          subst hb4
          have hb9 : b9 = false := by
            cases b9
            · rfl
            · exact absurd (show false = true from hcl 9 _ rfl rfl ⟨4, .chain⟩ (by first | exact .head _ | simp) rfl) (by decide)
          subst hb9
          have hb10 : b10 = false := by
            cases b10
            · rfl
            · exact absurd (show false = true from hcl 10 _ rfl rfl ⟨4, .data⟩ (by first | exact .head _ | simp) rfl) (by decide)
          subst hb10
          have hb11 : b11 = false := by
            cases b11
            · rfl
            · exact absurd (show false = true from hcl 11 _ rfl rfl ⟨10, .data⟩ (by first | exact .head _ | simp) rfl) (by decide)
          subst hb11
          clear hall hcl hs hf
          have bb := (hF.1).block HB.out
          have q : w1.cell? ⟨k11, 1, none⟩ = some (.slice A1 l1.length c1) := (cell_of_row w1 k11 1 _ _ _ bb).trans rfl
          clear bb
          go_simp
          exact hK _ _ ⟨b0, b1, true, true, false, b5, b6, b7, b8, false, false, false, dummy, vp, vr, rfl, rfl, hF⟩
        · intro listed a w1 K hs hcl hf hall hI hK
          obtain ⟨b0, b1, b2, b3, b4, b5, b6, b7, b8, b9, b10, b11, dummy, vp, vr, rfl, rfl, hF⟩ := hI
          have hf' : b4 = false := hf
          subst hf'
          have hq1 : b1 = true := hall ⟨1, .data⟩ (by first | exact .head _ | simp) rfl
          subst hq1
          have hq3 : b3 = true := hall ⟨3, .data⟩ (by first | exact .head _ | simp) rfl
          subst hq3
          have hq0 : b0 = true := hcl 1 _ rfl rfl ⟨0, .data⟩ (by first | exact .head _ | simp) rfl
          subst hq0
          have hq2 : b2 = true := hcl 3 _ rfl rfl ⟨2, .data⟩ (by first | exact .head _ | simp) rfl
          subst hq2
          have hb9 : b9 = false := by
            cases b9
            · rfl
            · exact absurd (show false = true from hcl 9 _ rfl rfl ⟨4, .chain⟩ (by first | exact .head _ | simp) rfl) (by decide)
          subst hb9
          have hb10 : b10 = false := by
            cases b10
            · rfl
            · exact absurd (show false = true from hcl 10 _ rfl rfl ⟨4, .data⟩ (by first | exact .head _ | simp) rfl) (by decide)
          subst hb10
          have hb11 : b11 = false := by
            cases b11
            · rfl
            · exact absurd (show false = true from hcl 11 _ rfl rfl ⟨10, .data⟩ (by first | exact .head _ | simp) rfl) (by decide)
          subst hb11
          clear hall hcl hs hf
          have hp := HPL.out w1 hF.1
          go_simp
          refine hp.mono ?_
          rintro e w2 ⟨v9, rfl, hown, hd⟩
          obtain ⟨A9, c9, rfl, ht, _, _⟩ := hown.shape
          exact hK _ _ ⟨true, true, true, true, true, b5, b6, b7, b8, false, false, false, dummy, .slice A9 pln.length c9, vr, rfl, rfl, hF.setS ht.rs hd⟩
        · intro listed a w1 K hs hcl hf hall hI hK
          obtain ⟨b0, b1, b2, b3, b4, b5, b6, b7, b8, b9, b10, b11, dummy, vp, vr, rfl, rfl, hF⟩ := hI
          have hf' : b5 = false := hf
          subst hf'
          have hb6 : b6 = false := by
            cases b6
            · rfl
            · exact absurd (show false = true from hcl 6 _ rfl rfl ⟨5, .data⟩ (by first | exact .head _ | simp) rfl) (by decide)
          subst hb6
          have hb9 : b9 = false := by
            cases b9
            · rfl
            · exact absurd (show false = true from hcl 9 _ rfl rfl ⟨6, .data⟩ (by first | exact .head _ | simp) rfl) (by decide)
          subst hb9
          have hb10 : b10 = false := by
            cases b10
            · rfl
            · exact absurd (show false = true from hcl 10 _ rfl rfl ⟨9, .data⟩ (by first | exact .head _ | simp) rfl) (by decide)
          subst hb10
          have hb11 : b11 = false := by
            cases b11
            · rfl
            · exact absurd (show false = true from hcl 11 _ rfl rfl ⟨10, .data⟩ (by first | exact .head _ | simp) rfl) (by decide)
          subst hb11
          clear hall hcl hs hf
          go_simp
          exact hK _ _ ⟨b0, b1, b2, b3, b4, true, false, b7, b8, false, false, false, dummy, vp, vr, rfl, rfl, hF⟩
        · intro listed a w1 K hs hcl hf hall hI hK
          obtain ⟨b0, b1, b2, b3, b4, b5, b6, b7, b8, b9, b10, b11, dummy, vp, vr, rfl, rfl, hF⟩ := hI
          have hf' : b6 = false := hf
          subst hf'
          have hq5 : b5 = true := hall ⟨5, .data⟩ (by first | exact .head _ | simp) rfl
          subst hq5
          have hb9 : b9 = false := by
            cases b9
            · rfl
            · exact absurd (show false = true from hcl 9 _ rfl rfl ⟨6, .data⟩ (by first | exact .head _ | simp) rfl) (by decide)
          subst hb9
          have hb10 : b10 = false := by
            cases b10
            · rfl
            · exact absurd (show false = true from hcl 10 _ rfl rfl ⟨9, .data⟩ (by first | exact .head _ | simp) rfl) (by decide)
          subst hb10
          have hb11 : b11 = false := by
            cases b11
            · rfl
            · exact absurd (show false = true from hcl 11 _ rfl rfl ⟨10, .data⟩ (by first | exact .head _ | simp) rfl) (by decide)
          subst hb11
          clear hall hcl hs hf
          have bb := (hF.1).block HB.out
          have q : w1.cell? ⟨k11, 0, none⟩ = some (.slice A0 l0.length c0) := (cell_of_row w1 k11 0 _ _ _ bb).trans rfl
          clear bb
          go_simp
          exact hK _ _ ⟨b0, b1, b2, b3, b4, true, true, b7, b8, false, false, false, dummy, vp, vr, rfl, rfl, hF⟩
        · intro listed a w1 K hs hcl hf hall hI hK
          obtain ⟨b0, b1, b2, b3, b4, b5, b6, b7, b8, b9, b10, b11, dummy, vp, vr, rfl, rfl, hF⟩ := hI
          have hf' : b7 = false := hf
          subst hf'
          have hb8 : b8 = false := by
            cases b8
            · rfl
            · exact absurd (show false = true from hcl 8 _ rfl rfl ⟨7, .data⟩ (by first | exact .head _ | simp) rfl) (by decide)
          subst hb8
          have hb9 : b9 = false := by
            cases b9
            · rfl
            · exact absurd (show false = true from hcl 9 _ rfl rfl ⟨8, .data⟩ (by first | exact .head _ | simp) rfl) (by decide)
          subst hb9
          have hb10 : b10 = false := by
            cases b10
            · rfl
            · exact absurd (show false = true from hcl 10 _ rfl rfl ⟨9, .data⟩ (by first | exact .head _ | simp) rfl) (by decide)
          subst hb10
          have hb11 : b11 = false := by
            cases b11
            · rfl
            · exact absurd (show false = true from hcl 11 _ rfl rfl ⟨10, .data⟩ (by first | exact .head _ | simp) rfl) (by decide)
          subst hb11
          clear hall hcl hs hf
          go_simp
          exact hK _ _ ⟨b0, b1, b2, b3, b4, b5, b6, true, false, false, false, false, dummy, vp, vr, rfl, rfl, hF⟩
        · intro listed a w1 K hs hcl hf hall hI hK
          obtain ⟨b0, b1, b2, b3, b4, b5, b6, b7, b8, b9, b10, b11, dummy, vp, vr, rfl, rfl, hF⟩ := hI
          have hf' : b8 = false := hf
          subst hf'
          have hq7 : b7 = true := hall ⟨7, .data⟩ (by first | exact .head _ | simp) rfl
          subst hq7
          have hb9 : b9 = false := by
            cases b9
            · rfl
            · exact absurd (show false = true from hcl 9 _ rfl rfl ⟨8, .data⟩ (by first | exact .head _ | simp) rfl) (by decide)
          subst hb9
          have hb10 : b10 = false := by
            cases b10
            · rfl
            · exact absurd (show false = true from hcl 10 _ rfl rfl ⟨9, .data⟩ (by first | exact .head _ | simp) rfl) (by decide)
          subst hb10
          have hb11 : b11 = false := by
            cases b11
            · rfl
            · exact absurd (show false = true from hcl 11 _ rfl rfl ⟨10, .data⟩ (by first | exact .head _ | simp) rfl) (by decide)
          subst hb11
          clear hall hcl hs hf
          have bb := (hF.1).block HB.out
          have q : w1.cell? ⟨k11, 1, none⟩ = some (.slice A1 l1.length c1) := (cell_of_row w1 k11 1 _ _ _ bb).trans rfl
          clear bb
          go_simp
          exact hK _ _ ⟨b0, b1, b2, b3, b4, b5, b6, true, true, false, false, false, dummy, vp, vr, rfl, rfl, hF⟩
        · intro listed a w1 K hs hcl hf hall hI hK
          obtain ⟨b0, b1, b2, b3, b4, b5, b6, b7, b8, b9, b10, b11, dummy, vp, vr, rfl, rfl, hF⟩ := hI
          have hf' : b9 = false := hf
          subst hf'
          have hq6 : b6 = true := hall ⟨6, .data⟩ (by first | exact .head _ | simp) rfl
          subst hq6
          have hq8 : b8 = true := hall ⟨8, .data⟩ (by first | exact .head _ | simp) rfl
          subst hq8
          have hq4 : b4 = true := hall ⟨4, .chain⟩ (by first | exact .head _ | simp) rfl
          subst hq4
          have hq5 : b5 = true := hcl 6 _ rfl rfl ⟨5, .data⟩ (by first | exact .head _ | simp) rfl
          subst hq5
          have hq7 : b7 = true := hcl 8 _ rfl rfl ⟨7, .data⟩ (by first | exact .head _ | simp) rfl
          subst hq7
          have hq1 : b1 = true := hcl 4 _ rfl rfl ⟨1, .data⟩ (by first | exact .head _ | simp) rfl
          subst hq1
          have hq3 : b3 = true := hcl 4 _ rfl rfl ⟨3, .data⟩ (by first | exact .head _ | simp) rfl
          subst hq3
          have hq0 : b0 = true := hcl 1 _ rfl rfl ⟨0, .data⟩ (by first | exact .head _ | simp) rfl
          subst hq0
          have hq2 : b2 = true := hcl 3 _ rfl rfl ⟨2, .data⟩ (by first | exact .head _ | simp) rfl
          subst hq2
          have hb10 : b10 = false := by
            cases b10
            · rfl
            · exact absurd (show false = true from hcl 10 _ rfl rfl ⟨9, .data⟩ (by first | exact .head _ | simp) rfl) (by decide)
          subst hb10
          have hb11 : b11 = false := by
            cases b11
            · rfl
            · exact absurd (show false = true from hcl 11 _ rfl rfl ⟨10, .data⟩ (by first | exact .head _ | simp) rfl) (by decide)
          subst hb11
          clear hall hcl hs hf
          have hp := HPR.out w1 hF.1
          go_simp
          refine hp.mono ?_
          rintro e w2 ⟨v9, rfl, hown, hd⟩
          obtain ⟨A9, c9, rfl, ht, _, _⟩ := hown.shape
          exact hK _ _ ⟨true, true, true, true, true, true, true, true, true, true, false, false, dummy, vp, .slice A9 pln.length c9, rfl, rfl, hF.setR ht.rs hd⟩
        · intro listed a w1 K hs hcl hf hall hI hK
          obtain ⟨b0, b1, b2, b3, b4, b5, b6, b7, b8, b9, b10, b11, dummy, vp, vr, rfl, rfl, hF⟩ := hI
          have hf' : b10 = false := hf
          subst hf'
          have hq4 : b4 = true := hall ⟨4, .data⟩ (by first | exact .head _ | simp) rfl
          subst hq4
          have hq9 : b9 = true := hall ⟨9, .data⟩ (by first | exact .head _ | simp) rfl
          subst hq9
          have hq1 : b1 = true := hcl 4 _ rfl rfl ⟨1, .data⟩ (by first | exact .head _ | simp) rfl
          subst hq1
          have hq3 : b3 = true := hcl 4 _ rfl rfl ⟨3, .data⟩ (by first | exact .head _ | simp) rfl
          subst hq3
          have hq6 : b6 = true := hcl 9 _ rfl rfl ⟨6, .data⟩ (by first | exact .head _ | simp) rfl
          subst hq6
          have hq8 : b8 = true := hcl 9 _ rfl rfl ⟨8, .data⟩ (by first | exact .head _ | simp) rfl
          subst hq8
          have hq0 : b0 = true := hcl 1 _ rfl rfl ⟨0, .data⟩ (by first | exact .head _ | simp) rfl
          subst hq0
          have hq2 : b2 = true := hcl 3 _ rfl rfl ⟨2, .data⟩ (by first | exact .head _ | simp) rfl
          subst hq2
          have hq5 : b5 = true := hcl 6 _ rfl rfl ⟨5, .data⟩ (by first | exact .head _ | simp) rfl
          subst hq5
          have hq7 : b7 = true := hcl 8 _ rfl rfl ⟨7, .data⟩ (by first | exact .head _ | simp) rfl
          subst hq7
          have hb11 : b11 = false := by
            cases b11
            · rfl
            · exact absurd (show false = true from hcl 11 _ rfl rfl ⟨10, .data⟩ (by first | exact .head _ | simp) rfl) (by decide)
          subst hb11
          clear hall hcl hs hf
          obtain ⟨A5, q5, hv5, hr5⟩ := hF.2.1 rfl
          obtain ⟨A6, q6, hv6, hr6⟩ := hF.2.2 rfl
          subst hv5
          subst hv6
          have hp := samePlanC A5 A6 q5 q6 pln w1 hr5 hr6 HLN.out
          go_simp
          refine hp.mono ?_
          rintro e w2 ⟨rfl, hd⟩
          exact hK _ _ ⟨true, true, true, true, true, true, true, true, true, true, true, false, dummy, .slice A5 pln.length q5, .slice A6 pln.length q6, rfl, rfl, hF.up hd⟩
        · intro listed a w1 K hs hcl hf hall hI hK
          obtain ⟨b0, b1, b2, b3, b4, b5, b6, b7, b8, b9, b10, b11, dummy, vp, vr, rfl, rfl, hF⟩ := hI
          have hf' : b11 = false := hf
          subst hf'
          have hq10 : b10 = true := hall ⟨10, .data⟩ (by first | exact .head _ | simp) rfl
          subst hq10
          clear hall hcl hs hf
          go_simp
          exact hK _ _ ⟨b0, b1, b2, b3, b4, b5, b6, b7, b8, b9, true, true, dummy, vp, vr, rfl, rfl, hF⟩
    · obtain rfl : i = 4 := by omega
      have HOW := Lib.hid (HOZ.out.up hor)
      clear hor
      go_wp2_with fail
      go_ret
      exact ⟨rfl, HOW.out⟩
end Go.Proofs.Ytpknglclcdgfbaa
