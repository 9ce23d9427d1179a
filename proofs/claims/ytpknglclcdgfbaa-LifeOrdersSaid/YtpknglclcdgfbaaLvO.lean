/-
  The walk of the statement LifeOrders.
-/
import Derived.Test.YtpknglclcdgfbaaLoM
import Derived.Test.YtpknglclcdgfbaaLoQ
import Derived.Test.YtpknglclcdgfbaaLoR
import Derived.Test.YtpknglclcdgfbaaLfT
import Derived.Test.YtpknglclcdgfbaaLvS
namespace Go.Proofs.Ytpknglclcdgfbaa
open Go.RowKit Go.Shelf
set_option linter.unusedVariables false

theorem times_start (x : Lf.T) : (Lf.start x).times = x.times ∨ (Lf.start x).times = [] := by
  unfold Lf.start
  split
  · exact Or.inr rfl
  · exact Or.inl rfl
theorem times_restart (j : Lf.J) (x : Lf.T) (now : Int) : (Lf.restart j x now).1.times = x.times ∨ (Lf.restart j x now).1.times = [] := by
  unfold Lf.restart
  split <;> (try split) <;> (try split) <;> (try split) <;> first | exact Or.inl rfl | exact times_start x | exact Or.inr rfl
theorem rs_of {w : World} {A0 A : Option Addr} {xs zs : List Int} (ht : Tq A0 A (u64s zs)) (h : zs = xs ∨ zs = []) (hr : Rs w A0 (u64s xs)) : Rs w A (u64s zs) := by
  rcases h with rfl | rfl
  · exact ht.rs hr
  · exact Rs.nil_
/-- While the lives are compared. -/
def OI (w0 : World) (ts : List Int) (bs br : Bool) (vs vr : Value) (ww : World) : Prop :=
  Old w0 ww ∧ (bs = true → ∃ A c, vs = .slice A ts.length c ∧ Rs ww A (u64s ts)) ∧ (br = true → ∃ A c, vr = .slice A ts.length c ∧ Rs ww A (u64s ts))
section
variable {w0 ww w' : World} {ts : List Int} {bs br : Bool} {vs vr : Value} {A : Option Addr} {c : Nat}
theorem OI.start (w0 : World) (ts : List Int) {vs vr : Value} : OI w0 ts false false vs vr { w0 with drawn := w0.drawn + 1 } := ⟨(Old.refl w0).drew, (fun e => by cases e), (fun e => by cases e)⟩
theorem OI.up (h : OI w0 ts bs br vs vr ww) (ho : Old ww w') : OI w0 ts bs br vs vr w' :=
  ⟨h.1.up ho, fun e => (by obtain ⟨A, c, h1, h2⟩ := h.2.1 e; exact ⟨A, c, h1, h2.up ho⟩), fun e => (by obtain ⟨A, c, h1, h2⟩ := h.2.2 e; exact ⟨A, c, h1, h2.up ho⟩)⟩
theorem OI.setS (h : OI w0 ts false br vs vr ww) (hr : Rs w' A (u64s ts)) (ho : Old ww w') : OI w0 ts true br (.slice A ts.length c) vr w' :=
  ⟨h.1.up ho, fun _ => ⟨A, c, rfl, hr⟩, fun e => (by obtain ⟨A, c, h1, h2⟩ := h.2.2 e; exact ⟨A, c, h1, h2.up ho⟩)⟩
theorem OI.setR (h : OI w0 ts bs false vs vr ww) (hr : Rs w' A (u64s ts)) (ho : Old ww w') : OI w0 ts bs true vs (.slice A ts.length c) w' :=
  ⟨h.1.up ho, fun e => (by obtain ⟨A, c, h1, h2⟩ := h.2.1 e; exact ⟨A, c, h1, h2.up ho⟩), fun _ => ⟨A, c, rfl, hr⟩⟩
end
def O16 (w0 : World) (x z1 z2 z3 : Lf.T) (s1 s2 : Int) (Ax A0 A1 A2 A3 : Option Addr) (cx q0 q1 q2 q3 k11 k0 k1 k2 k3 : Nat) (p0 p1 p2 p3 p4 p5 p6 p7 p8 p9 p10 p12 p13 p22 p23 p24 p25 p26 p27 p28 p29 p30 p31 p32 p33 p34 p35 p36 p37 p38 p39 p40 p41 p42 p43 p44 p45 p46 p47 p48 p49 p50 p51 p52 p53 p54 p55 p56 p57 p58 p59 p60 p61 p62 p63 p64 p65 p66 p67 p68 p69 p70 p71 p72 p73 p74 p75 p76 p77 p78 p79 p80 p81 p82 p83 p84 p85 p86 p87 p88 p89 p90 p91 p92 p93 p94 p95 p96 p97 p98 p99 p100 p101 p102 p103 p104 p105 p106 p107 p108 : Value) (listed : Array Bool) (a : Act) (ww : World) : Prop :=
  ∃ (b0 b1 b2 b3 b4 b5 b6 b7 b8 b9 b10 b11 b12 b13 b14 b15 b16 b17 b18 b19 b20 b21 b22 b23 b24 b25 b26 b27 : Bool) (dummy : Nat) (vs vr : Value), listed = #[b0, b1, b2, b3, b4, b5, b6, b7, b8, b9, b10, b11, b12, b13, b14, b15, b16, b17, b18, b19, b20, b21, b22, b23, b24, b25, b26, b27] ∧
    a = { tmps := #[p0, p1, p2, p3, p4, p5, p6, p7, p8, p9, p10, .pointer (some ⟨k11, 0, none⟩), p12, p13, .pointer (some ⟨k0, 0, none⟩), .int .i64 s1, .pointer (some ⟨k1, 0, none⟩), .int .i64 s1, .pointer (some ⟨k2, 0, none⟩), .int .i64 s2, .pointer (some ⟨k3, 0, none⟩), .int .i64 s2, p22, p23, p24, p25, p26, p27, p28, p29, p30, p31, p32, p33, p34, p35, p36, p37, p38, p39, p40, p41, p42, p43, p44, p45, p46, p47, p48, p49, p50, p51, p52, p53, p54, p55, p56, p57, p58, p59, p60, p61, p62, p63, p64, p65, p66, p67, p68, p69, p70, p71, p72, p73, p74, p75, p76, p77, p78, cond b0 (.agg #[.int .i64 z1.ph, .int .i64 z1.inc, .int .i64 z1.runs, .int .u64 z1.since, .slice A0 z1.times.length q0, .int .u64 z1.due, .bool z1.armed, .int .i64 z1.rung, .bool z1.halt, .bool z1.again]) (p79), cond b1 (.agg #[.int .i64 z1.ph, .int .i64 z1.inc, .int .i64 z1.runs, .int .u64 z1.since, .slice A1 z1.times.length q1, .int .u64 z1.due, .bool z1.armed, .int .i64 z1.rung, .bool z1.halt, .bool z1.again]) (p80), cond b2 (.bool true) (p81), cond b3 (.bool false) (p82), cond b4 (.bool false) (p83), cond b5 (.int .i64 s1) (p84), cond b6 (.int .i64 s1) (p85), cond b7 (.bool false) (p86), cond b8 (.bool false) (p87), cond b9 (.bool false) (p88), cond b10 (.agg #[.int .i64 z2.ph, .int .i64 z2.inc, .int .i64 z2.runs, .int .u64 z2.since, .slice A2 z2.times.length q2, .int .u64 z2.due, .bool z2.armed, .int .i64 z2.rung, .bool z2.halt, .bool z2.again]) (p89), cond b11 (.agg #[.int .i64 z2.ph, .int .i64 z2.inc, .int .i64 z2.runs, .int .u64 z2.since, .slice A3 z2.times.length q3, .int .u64 z2.due, .bool z2.armed, .int .i64 z2.rung, .bool z2.halt, .bool z2.again]) (p90), cond b12 (.bool true) (p91), cond b13 (.bool false) (p92), cond b14 (.bool false) (p93), cond b15 (.bool false) (p94), cond b16 (.int .i64 s2) (p95), cond b17 (.int .i64 s2) (p96), cond b18 (.bool false) (p97), cond b19 (.bool false) (p98), cond b20 (.bool false) (p99), cond b21 (.agg #[.int .i64 x.ph, .int .i64 x.inc, .int .i64 x.runs, .int .u64 x.since, .slice Ax x.times.length cx, .int .u64 x.due, .bool x.armed, .int .i64 x.rung, .bool x.halt, .bool x.again]) (p100), cond b22 (.agg #[.int .i64 z3.ph, .int .i64 z3.inc, .int .i64 z3.runs, .int .u64 z3.since, vs, .int .u64 z3.due, .bool z3.armed, .int .i64 z3.rung, .bool z3.halt, .bool z3.again]) (p101), cond b23 (.agg #[.int .i64 x.ph, .int .i64 x.inc, .int .i64 x.runs, .int .u64 x.since, .slice Ax x.times.length cx, .int .u64 x.due, .bool x.armed, .int .i64 x.rung, .bool x.halt, .bool x.again]) (p102), cond b24 (.agg #[.int .i64 z3.ph, .int .i64 z3.inc, .int .i64 z3.runs, .int .u64 z3.since, vr, .int .u64 z3.due, .bool z3.armed, .int .i64 z3.rung, .bool z3.halt, .bool z3.again]) (p103), cond b25 (.bool true) (p104), cond b26 (.bool false) (p105), cond b27 (.bool false) (p106), p107, p108], defers := [] } ∧ OI w0 z3.times b22 b24 vs vr ww

/-- The life that a round looks at. -/
def OCut (wz : World) (s11 : Value) (wx : World) : Prop := ∃ (x : Lf.T) (Ax : Option Addr) (cx k11 : Nat), s11 = .pointer (some ⟨k11, 0, none⟩) ∧ wx.heap[k11]? = some (lfO x Ax cx) ∧ Rs wx Ax (u64s x.times) ∧ x.times.length ≤ 30 ∧ Old wz wx
set_option maxHeartbeats 8000000 in
set_option maxRecDepth 100000 in
theorem lorders_any (A : Option Addr) (c : Nat) (l : List Int) (r : Lf.T) (Ar : Option Addr) (cr : Nat) (now : Int) (w : World) (hr : Rs w A (ints l)) (hm : l.length ≤ maxLen) (hrr : Rs w Ar (u64s r.times)) (hn : Tk.U now) :
    Calls Try.prog 7 #[.slice A l.length c, lfA r Ar cr, .int .u64 now] w fun e w' => e = .returned (.bool true) ∧ Old w w' := by
  have HS := Lib.hid (fun W => lvsaneC W)
  have HR := Lib.hid hr
  have HM := Lib.hid hm
  have HRR := Lib.hid hrr
  clear hr hm hrr
  unfold lfA
  go_enter Try.func7, Try.ntmps7
  go_wp2_with fail
  refine (HS.out _).mono ?_; rintro e w1 ⟨rfl, hd1⟩
  have ho1 : Old w w1 := ((Old.refl w).alloc _).up hd1
  have b4 : w1.heap[w.heap.size]? = some (.cells #[.int .i64 r.ph, .int .i64 r.inc, .int .i64 r.runs, .int .u64 r.since, .slice Ar r.times.length cr, .int .u64 r.due, .bool r.armed, .int .i64 r.rung, .bool r.halt, .bool r.again] 48 (0, 0)) := hd1.block (heap_alloc_new w _)
  clear hd1 HS
  obtain ⟨⟨c0, c1, c2, c3, c4, c5, c6, c7, c8, c9⟩, _⟩ := row10 b4
  by_cases h30 : 30 < r.times.length
  · have h30' : decide ((30 : Int) < (r.times.length : Int)) = true := by rw [decide_eq_true_eq]; omega
    clear b4
    go_wp2_with fail
    go_ret
    exact ⟨rfl, ho1⟩
  have h30' : decide ((30 : Int) < (r.times.length : Int)) = false := by rw [decide_eq_false_iff_not]; omega
  have HRL : Hid (r.times.length ≤ 30) := Lib.hid (by omega)
  clear h30
  have HN := Lib.hid (newDeck A c l w1 (HR.out.up ho1) HM.out)
  have HO1 := Lib.hid ho1
  have B4 := Lib.hid b4
  clear ho1 b4
  go_wp2_with fail
  refine (HN.out).mono ?_; rintro e w2 ⟨rfl, hdk, hd2⟩
  clear h30' c0 c1 c2 c3 c4 c5 c6 c7 c8 c9
  have hmd := madeC w1.heap.size w1.heap.size l w2 hdk
  unfold MadePost jdA lfA at hmd
  have HMD := Lib.hid hmd
  clear hmd HN
  go_wp2_with fail
  refine (HMD.out).mono ?_; rintro e w3 ⟨j, y, Ay, cy, nw, rfl, hok, hlb, hnw, hty, hg3⟩
  have HO13 : Hid (Old w1 w3) := Lib.hid (Dk.old hd2 hg3 (Nat.le_refl _))
  have HOK := Lib.hid hok
  have HTY := Lib.hid hty
  have HYL : Hid (y.times.length ≤ 12) := Lib.hid hlb.2.2
  clear hok hlb hty hg3 hd2 hdk HMD HR HM
  go_upto_region 6 with fail
  obtain ⟨b7, b8, ho5⟩ := two_ (Old.refl ((w3.alloc (.cells #[.string j.nm, .string j.run, .slice j.eA j.env.length j.ec, .slice j.nA j.needs.length j.nc, .bool j.hasR, .string j.ready, .int .i64 j.restart, .int .u64 j.base, .int .u64 j.cap, .int .u64 j.stable, .int .i64 j.burst, .int .u64 j.win, .slice j.lA j.lad.length j.lc, .int .i64 j.line, .int .i64 j.col] 33)).alloc (.cells #[.int .i64 y.ph, .int .i64 y.inc, .int .i64 y.runs, .int .u64 y.since, .slice Ay y.times.length cy, .int .u64 y.due, .bool y.armed, .int .i64 y.rung, .bool y.halt, .bool y.again] 48)))
  generalize (w3.alloc (.cells #[.string j.nm, .string j.run, .slice j.eA j.env.length j.ec, .slice j.nA j.needs.length j.nc, .bool j.hasR, .string j.ready, .int .i64 j.restart, .int .u64 j.base, .int .u64 j.cap, .int .u64 j.stable, .int .i64 j.burst, .int .u64 j.win, .slice j.lA j.lad.length j.lc, .int .i64 j.line, .int .i64 j.col] 33)).alloc (.cells #[.int .i64 y.ph, .int .i64 y.inc, .int .i64 y.runs, .int .u64 y.since, .slice Ay y.times.length cy, .int .u64 y.due, .bool y.armed, .int .i64 y.rung, .bool y.halt, .bool y.again] 48) = w5 at *
  obtain ⟨⟨c0, c1, c2, c3, c4, c5, c6, c7, c8, c9⟩, _⟩ := row10 (ho5.block (HO13.out.block B4.out))
  obtain ⟨⟨d0, d1, d2, d3, d4, d5, d6, d7, d8, d9⟩, _⟩ := row10 b8
  have HB7 := Lib.hid b7
  have HO5 : Hid (Old w w5) := Lib.hid ((HO1.out.up HO13.out).up ho5)
  have HOK5 := Lib.hid (HOK.out.up ho5)
  have HTY5 := Lib.hid (HTY.out.up ho5)
  have HRR5 := Lib.hid (HRR.out.up HO5.out)
  clear b7 b8 ho5 HOK HTY HRR HO13 HO1 B4
  go_upto_block 0 with fail
  have bk := heap_alloc_new w5 (.cells #[.int .i64 y.ph, .int .i64 y.inc, .int .i64 y.runs, .int .u64 y.since, .slice Ay y.times.length cy, .int .u64 y.due, .bool y.armed, .int .i64 y.rung, .bool y.halt, .bool y.again, .int .i64 r.ph, .int .i64 r.inc, .int .i64 r.runs, .int .u64 r.since, .slice Ar r.times.length cr, .int .u64 r.due, .bool r.armed, .int .i64 r.rung, .bool r.halt, .bool r.again] 48)
  have hoz := (Old.refl w5).alloc (.cells #[.int .i64 y.ph, .int .i64 y.inc, .int .i64 y.runs, .int .u64 y.since, .slice Ay y.times.length cy, .int .u64 y.due, .bool y.armed, .int .i64 y.rung, .bool y.halt, .bool y.again, .int .i64 r.ph, .int .i64 r.inc, .int .i64 r.runs, .int .u64 r.since, .slice Ar r.times.length cr, .int .u64 r.due, .bool r.armed, .int .i64 r.rung, .bool r.halt, .bool r.again] 48)
  generalize w5.alloc (.cells #[.int .i64 y.ph, .int .i64 y.inc, .int .i64 y.runs, .int .u64 y.since, .slice Ay y.times.length cy, .int .u64 y.due, .bool y.armed, .int .i64 y.rung, .bool y.halt, .bool y.again, .int .i64 r.ph, .int .i64 r.inc, .int .i64 r.runs, .int .u64 r.since, .slice Ar r.times.length cr, .int .u64 r.due, .bool r.armed, .int .i64 r.rung, .bool r.halt, .bool r.again] 48) = wz at *
  have BK := Lib.hid bk
  have B7 := Lib.hid (hoz.block HB7.out)
  have HOZ := Lib.hid (HO5.out.up hoz)
  have HOK := Lib.hid (HOK5.out.up hoz)
  have HTY := Lib.hid (HTY5.out.rs.up hoz)
  have HRR := Lib.hid (HRR5.out.up hoz)
  clear bk hoz HB7 HO5 HOK5 HTY5 HRR5 c0 c1 c2 c3 c4 c5 c6 c7 c8 c9 d0 d1 d2 d3 d4 d5 d6 d7 d8 d9
  generalize w5.heap.size = kb at *
  generalize w3.heap.size = k7 at *
  go_wp2_with fail
  go_loopw [39] (fun s39 wr => ∃ i : Nat, i ≤ 2 ∧ s39 = .int .i64 (i : Int) ∧ Old wz wr) (fun s39 _ => 2 - (intOf s39).toNat)
  case atStart => exact ⟨0, Nat.zero_le _, rfl, Old.refl _⟩
  case round =>
    obtain ⟨i, hi, rfl, hor⟩ := hrel
    by_cases h2 : i < 2
    · have h2' : (i : Int) < 2 := by omega
      have HOR := Lib.hid hor
      clear hor
      go_upto_region 8 with fail
      go_cut [11] (fun s11 wx => OCut wz s11 wx)
      case first =>
        have HMK : Hid (∀ (x : Lf.T) (Ax : Option Addr) (cx : Nat) (wx : World), x.times.length ≤ 30 → Rs wz Ax (u64s x.times) → Old wz wx → OCut wz (.pointer (some ⟨wx.heap.size, 0, none⟩)) (wx.alloc (.cells #[.int .i64 x.ph, .int .i64 x.inc, .int .i64 x.runs, .int .u64 x.since, .slice Ax x.times.length cx, .int .u64 x.due, .bool x.armed, .int .i64 x.rung, .bool x.halt, .bool x.again] 48))) := Lib.hid (fun x Ax cx wx h1 h2 h3 => ⟨x, Ax, cx, wx.heap.size, rfl, heap_alloc_new wx _, h2.up (h3.alloc _), h1, h3.alloc _⟩)
        have hi01 : i = 0 ∨ i = 1 := by omega
        rcases hi01 with rfl | rfl
        · have HM := Lib.hid (HMK.out y Ay cy wr (by have := HYL.out; omega) HTY.out HOR.out)
          have bk := HOR.out.block BK.out
          have q0 : wr.cell? ⟨kb, 0, none⟩ = some (.int .i64 y.ph) := (cell_of_row wr kb 0 _ _ _ bk).trans rfl
          have q1 : wr.cell? ⟨kb, 1, none⟩ = some (.int .i64 y.inc) := (cell_of_row wr kb 1 _ _ _ bk).trans rfl
          have q2 : wr.cell? ⟨kb, 2, none⟩ = some (.int .i64 y.runs) := (cell_of_row wr kb 2 _ _ _ bk).trans rfl
          have q3 : wr.cell? ⟨kb, 3, none⟩ = some (.int .u64 y.since) := (cell_of_row wr kb 3 _ _ _ bk).trans rfl
          have q4 : wr.cell? ⟨kb, 4, none⟩ = some (.slice Ay y.times.length cy) := (cell_of_row wr kb 4 _ _ _ bk).trans rfl
          have q5 : wr.cell? ⟨kb, 5, none⟩ = some (.int .u64 y.due) := (cell_of_row wr kb 5 _ _ _ bk).trans rfl
          have q6 : wr.cell? ⟨kb, 6, none⟩ = some (.bool y.armed) := (cell_of_row wr kb 6 _ _ _ bk).trans rfl
          have q7 : wr.cell? ⟨kb, 7, none⟩ = some (.int .i64 y.rung) := (cell_of_row wr kb 7 _ _ _ bk).trans rfl
          have q8 : wr.cell? ⟨kb, 8, none⟩ = some (.bool y.halt) := (cell_of_row wr kb 8 _ _ _ bk).trans rfl
          have q9 : wr.cell? ⟨kb, 9, none⟩ = some (.bool y.again) := (cell_of_row wr kb 9 _ _ _ bk).trans rfl
          clear bk HMK
          go_wp2_with fail
          go_meet
          case rel => exact HM.out
        · have HM := Lib.hid (HMK.out r Ar cr wr HRL.out HRR.out HOR.out)
          have bk := HOR.out.block BK.out
          have q0 : wr.cell? ⟨kb, 10, none⟩ = some (.int .i64 r.ph) := (cell_of_row wr kb 10 _ _ _ bk).trans rfl
          have q1 : wr.cell? ⟨kb, 11, none⟩ = some (.int .i64 r.inc) := (cell_of_row wr kb 11 _ _ _ bk).trans rfl
          have q2 : wr.cell? ⟨kb, 12, none⟩ = some (.int .i64 r.runs) := (cell_of_row wr kb 12 _ _ _ bk).trans rfl
          have q3 : wr.cell? ⟨kb, 13, none⟩ = some (.int .u64 r.since) := (cell_of_row wr kb 13 _ _ _ bk).trans rfl
          have q4 : wr.cell? ⟨kb, 14, none⟩ = some (.slice Ar r.times.length cr) := (cell_of_row wr kb 14 _ _ _ bk).trans rfl
          have q5 : wr.cell? ⟨kb, 15, none⟩ = some (.int .u64 r.due) := (cell_of_row wr kb 15 _ _ _ bk).trans rfl
          have q6 : wr.cell? ⟨kb, 16, none⟩ = some (.bool r.armed) := (cell_of_row wr kb 16 _ _ _ bk).trans rfl
          have q7 : wr.cell? ⟨kb, 17, none⟩ = some (.int .i64 r.rung) := (cell_of_row wr kb 17 _ _ _ bk).trans rfl
          have q8 : wr.cell? ⟨kb, 18, none⟩ = some (.bool r.halt) := (cell_of_row wr kb 18 _ _ _ bk).trans rfl
          have q9 : wr.cell? ⟨kb, 19, none⟩ = some (.bool r.again) := (cell_of_row wr kb 19 _ _ _ bk).trans rfl
          clear bk HMK
          go_wp2_with fail
          go_meet
          case rel => exact HM.out
      case rest =>
        obtain ⟨x, Ax, cx, k11, rfl, b11, hxr, hxl, hox⟩ := hcut
        have B11 := Lib.hid b11
        have HXR := Lib.hid hxr
        have HOX := Lib.hid hox
        clear b11 hxr hox HOR
        go_upto_block 2 with fail
        have bt := heap_alloc_new wc (.cells #[.int .u64 now, .int .u64 nw] 30)
        have hoy := (Old.refl wc).alloc (.cells #[.int .u64 now, .int .u64 nw] 30)
        generalize wc.alloc (.cells #[.int .u64 now, .int .u64 nw] 30) = wy at *
        have BT := Lib.hid bt
        have B11y := Lib.hid (hoy.block B11.out)
        have B7y := Lib.hid ((HOX.out.up hoy).block B7.out)
        have HXRy := Lib.hid (HXR.out.up hoy)
        have HOKy := Lib.hid (HOK.out.up (HOX.out.up hoy))
        have HOY := Lib.hid (HOX.out.up hoy)
        clear bt hoy HOX HXR B11
        generalize wc.heap.size = kt at *
        go_wp2_with fail
        go_loopw [47] (fun s47 wr => ∃ m : Nat, m ≤ 2 ∧ s47 = .int .i64 (m : Int) ∧ Old wy wr) (fun s47 _ => 2 - (intOf s47).toNat)
        case atStart => exact ⟨0, Nat.zero_le _, rfl, Old.refl _⟩
        case round =>
          obtain ⟨m, hm, rfl, hor⟩ := hrel
          have HOR := Lib.hid hor
          clear hor
          by_cases h2 : m < 2
          · have h2' : (m : Int) < 2 := by omega
            go_upto_region 11 with fail
            go_cut [13] (fun s13 wx2 => (∃ tm : Int, s13 = .int .u64 tm ∧ Tk.U tm) ∧ wr = wx2)
            case first =>
              have bk := HOR.out.block BT.out
              have hm01 : m = 0 ∨ m = 1 := by omega
              rcases hm01 with rfl | rfl
              · have q0 : wr.cell? ⟨kt, 0, none⟩ = some (.int .u64 now) := (cell_of_row wr kt 0 _ _ _ bk).trans rfl
                have HM : Hid (∃ tm : Int, Value.int .u64 now = .int .u64 tm ∧ Tk.U tm) := Lib.hid ⟨now, rfl, hn⟩
                clear bk
                go_wp2_with fail
                go_meet
                case rel => exact ⟨HM.out, rfl⟩
              · have q0 : wr.cell? ⟨kt, 1, none⟩ = some (.int .u64 nw) := (cell_of_row wr kt 1 _ _ _ bk).trans rfl
                have HM : Hid (∃ tm : Int, Value.int .u64 nw = .int .u64 tm ∧ Tk.U tm) := Lib.hid ⟨nw, rfl, hnw⟩
                clear bk
                go_wp2_with fail
                go_meet
                case rel => exact ⟨HM.out, rfl⟩
            case rest =>
              obtain ⟨⟨tm, rfl, hU⟩, rfl⟩ := hcut
              have hs1 := fun W (h : Old wy W) => lstopR j x Ax cx tm W (HOKy.out.up h) hU (HXRy.out.up h) (by omega)
              have hs2 := fun W (h : Old wy W) => rstopQ j x Ax cx tm W (HOKy.out.up h) hU
              have hs3 := fun W (h : Old wy W) => lrestartR j x Ax cx tm W (HOKy.out.up h) hU (HXRy.out.up h) (by omega)
              have hs4 := fun W (h : Old wy W) => rrestartQ j x Ax cx tm W (HOKy.out.up h) hU
              have hl1 : (Lf.stop j.j x tm).1.times.length ≤ 30 := by rw [Lf.len_stop]; exact hxl
              have hl2 : (Lf.restart j.j x tm).1.times.length ≤ 30 := Nat.le_trans (Lf.len_restart _ _ _) hxl
              have ht1 : (Lf.stop j.j x tm).1.times = x.times ∨ (Lf.stop j.j x tm).1.times = [] := Or.inl (Lf.len_stop _ _ _)
              have ht2 := times_restart j.j x tm
              generalize Lf.stop j.j x tm = q1 at *
              generalize Lf.restart j.j x tm = q2 at *
              obtain ⟨z1, s1⟩ := q1
              obtain ⟨z2, s2⟩ := q2
              unfold LfPi lfA jdA at hs1 hs3
              unfold LqPi lfA jdA at hs2 hs4
              simp only at hs1 hs2 hs3 hs4 hl1 hl2 ht1 ht2
              have HS1 := Lib.hid hs1
              have HS2 := Lib.hid hs2
              have HS3 := Lib.hid hs3
              have HS4 := Lib.hid hs4
              clear hs1 hs2 hs3 hs4
              have HL1 := Lib.hid hl1
              have HL2 := Lib.hid hl2
              have HZ1 := Lib.hid ht1
              have HZ2 := Lib.hid ht2
              clear hl1 hl2 ht1 ht2
              have HOp := HOR
              obtain ⟨⟨c0, c1, c2, c3, c4, c5, c6, c7, c8, c9⟩, _⟩ := row10 (show _ = some (Obj.cells #[.int .i64 x.ph, .int .i64 x.inc, .int .i64 x.runs, .int .u64 x.since, .slice Ax x.times.length cx, .int .u64 x.due, .bool x.armed, .int .i64 x.rung, .bool x.halt, .bool x.again] 48 (0, 0)) from HOp.out.block B11y.out)
              obtain ⟨⟨e0, e1, e2, e3, e4, e5, e6, e7, e8, e9, e10, e11, e12, e13, e14⟩, _⟩ := row15 (HOp.out.block B7y.out)
              go_wp2_with fail
              refine (HS1.out _ HOp.out).mono ?_; rintro e v0 ⟨A0, q0, rfl, ht, hd⟩
              have b := heap_alloc_new v0 (.cells #[.int .i64 z1.ph, .int .i64 z1.inc, .int .i64 z1.runs, .int .u64 z1.since, .slice A0 z1.times.length q0, .int .u64 z1.due, .bool z1.armed, .int .i64 z1.rung, .bool z1.halt, .bool z1.again] 48)
              have HOq := Lib.hid ((HOp.out.up hd).alloc (.cells #[.int .i64 z1.ph, .int .i64 z1.inc, .int .i64 z1.runs, .int .u64 z1.since, .slice A0 z1.times.length q0, .int .u64 z1.due, .bool z1.armed, .int .i64 z1.rung, .bool z1.halt, .bool z1.again] 48))
              clear HOp
              have HOp := HOq
              clear HOq c0 c1 c2 c3 c4 c5 c6 c7 c8 c9 e0 e1 e2 e3 e4 e5 e6 e7 e8 e9 e10 e11 e12 e13 e14
              have HT0 := Lib.hid (ht.rs.up ((Old.refl v0).alloc (.cells #[.int .i64 z1.ph, .int .i64 z1.inc, .int .i64 z1.runs, .int .u64 z1.since, .slice A0 z1.times.length q0, .int .u64 z1.due, .bool z1.armed, .int .i64 z1.rung, .bool z1.halt, .bool z1.again] 48)))
              have HB0 := Lib.hid b
              clear ht hd b
              go_upto_region 13 with fail
              generalize v0.alloc (.cells #[.int .i64 z1.ph, .int .i64 z1.inc, .int .i64 z1.runs, .int .u64 z1.since, .slice A0 z1.times.length q0, .int .u64 z1.due, .bool z1.armed, .int .i64 z1.rung, .bool z1.halt, .bool z1.again] 48) = wq0 at *
              generalize v0.heap.size = k0 at *
              obtain ⟨⟨c0, c1, c2, c3, c4, c5, c6, c7, c8, c9⟩, _⟩ := row10 (show _ = some (Obj.cells #[.int .i64 x.ph, .int .i64 x.inc, .int .i64 x.runs, .int .u64 x.since, .slice Ax x.times.length cx, .int .u64 x.due, .bool x.armed, .int .i64 x.rung, .bool x.halt, .bool x.again] 48 (0, 0)) from HOp.out.block B11y.out)
              obtain ⟨⟨e0, e1, e2, e3, e4, e5, e6, e7, e8, e9, e10, e11, e12, e13, e14⟩, _⟩ := row15 (HOp.out.block B7y.out)
              go_wp2_with fail
              refine (HS2.out _ HOp.out).mono ?_; rintro e v1 ⟨A1, q1, rfl, ht, hd⟩
              have b := heap_alloc_new v1 (.cells #[.int .i64 z1.ph, .int .i64 z1.inc, .int .i64 z1.runs, .int .u64 z1.since, .slice A1 z1.times.length q1, .int .u64 z1.due, .bool z1.armed, .int .i64 z1.rung, .bool z1.halt, .bool z1.again] 48)
              have HOq := Lib.hid ((HOp.out.up hd).alloc (.cells #[.int .i64 z1.ph, .int .i64 z1.inc, .int .i64 z1.runs, .int .u64 z1.since, .slice A1 z1.times.length q1, .int .u64 z1.due, .bool z1.armed, .int .i64 z1.rung, .bool z1.halt, .bool z1.again] 48))
              clear HOp
              have HOp := HOq
              clear HOq c0 c1 c2 c3 c4 c5 c6 c7 c8 c9 e0 e1 e2 e3 e4 e5 e6 e7 e8 e9 e10 e11 e12 e13 e14
              have HT1 := Lib.hid (rs_of ht HZ1.out (HXRy.out.up HOp.out))
              have HT0' := Lib.hid (HT0.out.up (hd.alloc (.cells #[.int .i64 z1.ph, .int .i64 z1.inc, .int .i64 z1.runs, .int .u64 z1.since, .slice A1 z1.times.length q1, .int .u64 z1.due, .bool z1.armed, .int .i64 z1.rung, .bool z1.halt, .bool z1.again] 48)))
              clear HT0
              have HT0 := HT0'
              clear HT0'
              have HB0' := Lib.hid ((hd.alloc (.cells #[.int .i64 z1.ph, .int .i64 z1.inc, .int .i64 z1.runs, .int .u64 z1.since, .slice A1 z1.times.length q1, .int .u64 z1.due, .bool z1.armed, .int .i64 z1.rung, .bool z1.halt, .bool z1.again] 48)).block HB0.out)
              clear HB0
              have HB0 := HB0'
              clear HB0'
              have HB1 := Lib.hid b
              clear ht hd b
              go_upto_region 14 with fail
              generalize v1.alloc (.cells #[.int .i64 z1.ph, .int .i64 z1.inc, .int .i64 z1.runs, .int .u64 z1.since, .slice A1 z1.times.length q1, .int .u64 z1.due, .bool z1.armed, .int .i64 z1.rung, .bool z1.halt, .bool z1.again] 48) = wq1 at *
              generalize v1.heap.size = k1 at *
              obtain ⟨⟨c0, c1, c2, c3, c4, c5, c6, c7, c8, c9⟩, _⟩ := row10 (show _ = some (Obj.cells #[.int .i64 x.ph, .int .i64 x.inc, .int .i64 x.runs, .int .u64 x.since, .slice Ax x.times.length cx, .int .u64 x.due, .bool x.armed, .int .i64 x.rung, .bool x.halt, .bool x.again] 48 (0, 0)) from HOp.out.block B11y.out)
              obtain ⟨⟨e0, e1, e2, e3, e4, e5, e6, e7, e8, e9, e10, e11, e12, e13, e14⟩, _⟩ := row15 (HOp.out.block B7y.out)
              go_wp2_with fail
              refine (HS3.out _ HOp.out).mono ?_; rintro e v2 ⟨A2, q2, rfl, ht, hd⟩
              have b := heap_alloc_new v2 (.cells #[.int .i64 z2.ph, .int .i64 z2.inc, .int .i64 z2.runs, .int .u64 z2.since, .slice A2 z2.times.length q2, .int .u64 z2.due, .bool z2.armed, .int .i64 z2.rung, .bool z2.halt, .bool z2.again] 48)
              have HOq := Lib.hid ((HOp.out.up hd).alloc (.cells #[.int .i64 z2.ph, .int .i64 z2.inc, .int .i64 z2.runs, .int .u64 z2.since, .slice A2 z2.times.length q2, .int .u64 z2.due, .bool z2.armed, .int .i64 z2.rung, .bool z2.halt, .bool z2.again] 48))
              clear HOp
              have HOp := HOq
              clear HOq c0 c1 c2 c3 c4 c5 c6 c7 c8 c9 e0 e1 e2 e3 e4 e5 e6 e7 e8 e9 e10 e11 e12 e13 e14
              have HT2 := Lib.hid (ht.rs.up ((Old.refl v2).alloc (.cells #[.int .i64 z2.ph, .int .i64 z2.inc, .int .i64 z2.runs, .int .u64 z2.since, .slice A2 z2.times.length q2, .int .u64 z2.due, .bool z2.armed, .int .i64 z2.rung, .bool z2.halt, .bool z2.again] 48)))
              have HT0' := Lib.hid (HT0.out.up (hd.alloc (.cells #[.int .i64 z2.ph, .int .i64 z2.inc, .int .i64 z2.runs, .int .u64 z2.since, .slice A2 z2.times.length q2, .int .u64 z2.due, .bool z2.armed, .int .i64 z2.rung, .bool z2.halt, .bool z2.again] 48)))
              clear HT0
              have HT0 := HT0'
              clear HT0'
              have HB0' := Lib.hid ((hd.alloc (.cells #[.int .i64 z2.ph, .int .i64 z2.inc, .int .i64 z2.runs, .int .u64 z2.since, .slice A2 z2.times.length q2, .int .u64 z2.due, .bool z2.armed, .int .i64 z2.rung, .bool z2.halt, .bool z2.again] 48)).block HB0.out)
              clear HB0
              have HB0 := HB0'
              clear HB0'
              have HT1' := Lib.hid (HT1.out.up (hd.alloc (.cells #[.int .i64 z2.ph, .int .i64 z2.inc, .int .i64 z2.runs, .int .u64 z2.since, .slice A2 z2.times.length q2, .int .u64 z2.due, .bool z2.armed, .int .i64 z2.rung, .bool z2.halt, .bool z2.again] 48)))
              clear HT1
              have HT1 := HT1'
              clear HT1'
              have HB1' := Lib.hid ((hd.alloc (.cells #[.int .i64 z2.ph, .int .i64 z2.inc, .int .i64 z2.runs, .int .u64 z2.since, .slice A2 z2.times.length q2, .int .u64 z2.due, .bool z2.armed, .int .i64 z2.rung, .bool z2.halt, .bool z2.again] 48)).block HB1.out)
              clear HB1
              have HB1 := HB1'
              clear HB1'
              have HB2 := Lib.hid b
              clear ht hd b
              go_upto_region 15 with fail
              generalize v2.alloc (.cells #[.int .i64 z2.ph, .int .i64 z2.inc, .int .i64 z2.runs, .int .u64 z2.since, .slice A2 z2.times.length q2, .int .u64 z2.due, .bool z2.armed, .int .i64 z2.rung, .bool z2.halt, .bool z2.again] 48) = wq2 at *
              generalize v2.heap.size = k2 at *
              obtain ⟨⟨c0, c1, c2, c3, c4, c5, c6, c7, c8, c9⟩, _⟩ := row10 (show _ = some (Obj.cells #[.int .i64 x.ph, .int .i64 x.inc, .int .i64 x.runs, .int .u64 x.since, .slice Ax x.times.length cx, .int .u64 x.due, .bool x.armed, .int .i64 x.rung, .bool x.halt, .bool x.again] 48 (0, 0)) from HOp.out.block B11y.out)
              obtain ⟨⟨e0, e1, e2, e3, e4, e5, e6, e7, e8, e9, e10, e11, e12, e13, e14⟩, _⟩ := row15 (HOp.out.block B7y.out)
              go_wp2_with fail
              refine (HS4.out _ HOp.out).mono ?_; rintro e v3 ⟨A3, q3, rfl, ht, hd⟩
              have b := heap_alloc_new v3 (.cells #[.int .i64 z2.ph, .int .i64 z2.inc, .int .i64 z2.runs, .int .u64 z2.since, .slice A3 z2.times.length q3, .int .u64 z2.due, .bool z2.armed, .int .i64 z2.rung, .bool z2.halt, .bool z2.again] 48)
              have HOq := Lib.hid ((HOp.out.up hd).alloc (.cells #[.int .i64 z2.ph, .int .i64 z2.inc, .int .i64 z2.runs, .int .u64 z2.since, .slice A3 z2.times.length q3, .int .u64 z2.due, .bool z2.armed, .int .i64 z2.rung, .bool z2.halt, .bool z2.again] 48))
              clear HOp
              have HOp := HOq
              clear HOq c0 c1 c2 c3 c4 c5 c6 c7 c8 c9 e0 e1 e2 e3 e4 e5 e6 e7 e8 e9 e10 e11 e12 e13 e14
              have HT3 := Lib.hid (rs_of ht HZ2.out (HXRy.out.up HOp.out))
              have HT0' := Lib.hid (HT0.out.up (hd.alloc (.cells #[.int .i64 z2.ph, .int .i64 z2.inc, .int .i64 z2.runs, .int .u64 z2.since, .slice A3 z2.times.length q3, .int .u64 z2.due, .bool z2.armed, .int .i64 z2.rung, .bool z2.halt, .bool z2.again] 48)))
              clear HT0
              have HT0 := HT0'
              clear HT0'
              have HB0' := Lib.hid ((hd.alloc (.cells #[.int .i64 z2.ph, .int .i64 z2.inc, .int .i64 z2.runs, .int .u64 z2.since, .slice A3 z2.times.length q3, .int .u64 z2.due, .bool z2.armed, .int .i64 z2.rung, .bool z2.halt, .bool z2.again] 48)).block HB0.out)
              clear HB0
              have HB0 := HB0'
              clear HB0'
              have HT1' := Lib.hid (HT1.out.up (hd.alloc (.cells #[.int .i64 z2.ph, .int .i64 z2.inc, .int .i64 z2.runs, .int .u64 z2.since, .slice A3 z2.times.length q3, .int .u64 z2.due, .bool z2.armed, .int .i64 z2.rung, .bool z2.halt, .bool z2.again] 48)))
              clear HT1
              have HT1 := HT1'
              clear HT1'
              have HB1' := Lib.hid ((hd.alloc (.cells #[.int .i64 z2.ph, .int .i64 z2.inc, .int .i64 z2.runs, .int .u64 z2.since, .slice A3 z2.times.length q3, .int .u64 z2.due, .bool z2.armed, .int .i64 z2.rung, .bool z2.halt, .bool z2.again] 48)).block HB1.out)
              clear HB1
              have HB1 := HB1'
              clear HB1'
              have HT2' := Lib.hid (HT2.out.up (hd.alloc (.cells #[.int .i64 z2.ph, .int .i64 z2.inc, .int .i64 z2.runs, .int .u64 z2.since, .slice A3 z2.times.length q3, .int .u64 z2.due, .bool z2.armed, .int .i64 z2.rung, .bool z2.halt, .bool z2.again] 48)))
              clear HT2
              have HT2 := HT2'
              clear HT2'
              have HB2' := Lib.hid ((hd.alloc (.cells #[.int .i64 z2.ph, .int .i64 z2.inc, .int .i64 z2.runs, .int .u64 z2.since, .slice A3 z2.times.length q3, .int .u64 z2.due, .bool z2.armed, .int .i64 z2.rung, .bool z2.halt, .bool z2.again] 48)).block HB2.out)
              clear HB2
              have HB2 := HB2'
              clear HB2'
              have HB3 := Lib.hid b
              clear ht hd b
              go_upto_region 16 with fail
              generalize v3.alloc (.cells #[.int .i64 z2.ph, .int .i64 z2.inc, .int .i64 z2.runs, .int .u64 z2.since, .slice A3 z2.times.length q3, .int .u64 z2.due, .bool z2.armed, .int .i64 z2.rung, .bool z2.halt, .bool z2.again] 48) = wq3 at *
              generalize v3.heap.size = k3 at *
              have HB11 := Lib.hid (HOp.out.block B11y.out)
              have HXR := Lib.hid (HXRy.out.up HOp.out)
              have hsa := fun W (h : Old wq3 W) => rsameC z1 A0 A1 q0 q1 W (HT0.out.up h) (HT1.out.up h) (by have := HL1.out; omega)
              have hsb := fun W (h : Old wq3 W) => rsameC z2 A2 A3 q2 q3 W (HT2.out.up h) (HT3.out.up h) (by have := HL2.out; omega)
              have hsl := fun W (h : Old wq3 W) => lstartR x Ax cx W (HXR.out.up h) (by omega)
              have hsr := fun W (h : Old wq3 W) => rstartQ x Ax cx W
              have ht3 := times_start x
              have hl3 : (Lf.start x).times.length ≤ 68719476736 := Nat.le_trans (Lf.len_start _) (by omega)
              generalize Lf.start x = z3 at *
              unfold lfA at hsa hsb
              unfold LfP lfA at hsl
              unfold LqP lfA at hsr
              have HSA := Lib.hid hsa
              have HSB := Lib.hid hsb
              have HSL := Lib.hid hsl
              have HSR := Lib.hid hsr
              have HZ3 := Lib.hid ht3
              have HL3 := Lib.hid hl3
              clear hsa hsb hsl hsr ht3 hl3 HZ1 HZ2 HT0 HT1 HT2 HT3 HL1 HL2 HS1 HS2 HS3 HS4 B11y B7y HXRy HOKy BT HOR
              refine wp_region_steps2 (by kernel_rfl) (by kernel_rfl) (O16 wq3 x z1 z2 z3 s1 s2 Ax A0 A1 A2 A3 cx q0 q1 q2 q3 k11 k0 k1 k2 k3 _ _ _ _ _ _ _ _ _ _ _ _ _ _ _ _ _ _ _ _ _ _ _ _ _ _ _ _ _ _ _ _ _ _ _ _ _ _ _ _ _ _ _ _ _ _ _ _ _ _ _ _ _ _ _ _ _ _ _ _ _ _ _ _ _ _ _ _ _ _ _ _ _ _ _ _ _ _ _ _ _ _ _ _ _ _ _ _ _ _ _ _ _ _ _ _ _ _ _ _) (⟨false, false, false, false, false, false, false, false, false, false, false, false, false, false, false, false, false, false, false, false, false, false, false, false, false, false, false, false, 0, undef, undef, rfl, rfl, OI.start wq3 z3.times⟩) ?_ ⟨?_, ?_, ?_, ?_, ?_, ?_, ?_, ?_, ?_, ?_, ?_, ?_, ?_, ?_, ?_, ?_, ?_, ?_, ?_, ?_, ?_, ?_, ?_, ?_, ?_, ?_, ?_, ?_, trivial⟩
              · rintro a w1 ⟨b0, b1, b2, b3, b4, b5, b6, b7, b8, b9, b10, b11, b12, b13, b14, b15, b16, b17, b18, b19, b20, b21, b22, b23, b24, b25, b26, b27, dummy, vs, vr, hl, rfl, hF⟩
                have hl' := congrArg Array.toList hl
                simp at hl'
                obtain ⟨rfl, rfl, rfl, rfl, rfl, rfl, rfl, rfl, rfl, rfl, rfl, rfl, rfl, rfl, rfl, rfl, rfl, rfl, rfl, rfl, rfl, rfl, rfl, rfl, rfl, rfl, rfl, rfl⟩ := hl'
                clear hl
                have HM := Lib.hid (HOp.out.up hF.1)
                clear hF
                go_wp2_with fail
                go_roundw
                case rel => exact ⟨m + 1, by omega, by go_num, HM.out⟩
                case measure => simp [intOf]; omega
              · intro listed a w1 K hs hcl hf hall hI hK
                obtain ⟨b0, b1, b2, b3, b4, b5, b6, b7, b8, b9, b10, b11, b12, b13, b14, b15, b16, b17, b18, b19, b20, b21, b22, b23, b24, b25, b26, b27, dummy, vs, vr, rfl, rfl, hF⟩ := hI
                have hf' : b0 = false := hf
                subst hf'
                have hb2 : b2 = false := by
                  cases b2
                  · rfl
                  · exact absurd (show false = true from hcl 2 _ rfl rfl ⟨0, .data⟩ (by first | exact .head _ | simp) rfl) (by decide)
                subst hb2
                have hb3 : b3 = false := by
                  cases b3
                  · rfl
                  · exact absurd (show false = true from hcl 3 _ rfl rfl ⟨2, .data⟩ (by first | exact .head _ | simp) rfl) (by decide)
                subst hb3
                have hb4 : b4 = false := by
                  cases b4
                  · rfl
                  · exact absurd (show false = true from hcl 4 _ rfl rfl ⟨2, .chain⟩ (by first | exact .head _ | simp) rfl) (by decide)
                subst hb4
                have hb5 : b5 = false := by
                  cases b5
                  · rfl
                  · exact absurd (show false = true from hcl 5 _ rfl rfl ⟨4, .guard⟩ (by first | exact .head _ | simp) rfl) (by decide)
                subst hb5
                have hb6 : b6 = false := by
                  cases b6
                  · rfl
                  · exact absurd (show false = true from hcl 6 _ rfl rfl ⟨4, .guard⟩ (by first | exact .head _ | simp) rfl) (by decide)
                subst hb6
                have hb7 : b7 = false := by
                  cases b7
                  · rfl
                  · exact absurd (show false = true from hcl 7 _ rfl rfl ⟨4, .guard⟩ (by first | exact .head _ | simp) rfl) (by decide)
                subst hb7
                have hb8 : b8 = false := by
                  cases b8
                  · rfl
                  · exact absurd (show false = true from hcl 8 _ rfl rfl ⟨4, .data⟩ (by first | exact .head _ | simp) rfl) (by decide)
                subst hb8
                have hb9 : b9 = false := by
                  cases b9
                  · rfl
                  · exact absurd (show false = true from hcl 9 _ rfl rfl ⟨4, .chain⟩ (by first | exact .head _ | simp) rfl) (by decide)
                subst hb9
                have hb10 : b10 = false := by
                  cases b10
                  · rfl
                  · exact absurd (show false = true from hcl 10 _ rfl rfl ⟨9, .guard⟩ (by first | exact .head _ | simp) rfl) (by decide)
                subst hb10
                have hb11 : b11 = false := by
                  cases b11
                  · rfl
                  · exact absurd (show false = true from hcl 11 _ rfl rfl ⟨9, .guard⟩ (by first | exact .head _ | simp) rfl) (by decide)
                subst hb11
                have hb12 : b12 = false := by
                  cases b12
                  · rfl
                  · exact absurd (show false = true from hcl 12 _ rfl rfl ⟨9, .chain⟩ (by first | exact .head _ | simp) rfl) (by decide)
                subst hb12
                have hb13 : b13 = false := by
                  cases b13
                  · rfl
                  · exact absurd (show false = true from hcl 13 _ rfl rfl ⟨9, .guard⟩ (by first | exact .head _ | simp) rfl) (by decide)
                subst hb13
                have hb14 : b14 = false := by
                  cases b14
                  · rfl
                  · exact absurd (show false = true from hcl 14 _ rfl rfl ⟨9, .data⟩ (by first | exact .head _ | simp) rfl) (by decide)
                subst hb14
                have hb15 : b15 = false := by
                  cases b15
                  · rfl
                  · exact absurd (show false = true from hcl 15 _ rfl rfl ⟨12, .chain⟩ (by first | exact .head _ | simp) rfl) (by decide)
                subst hb15
                have hb16 : b16 = false := by
                  cases b16
                  · rfl
                  · exact absurd (show false = true from hcl 16 _ rfl rfl ⟨15, .guard⟩ (by first | exact .head _ | simp) rfl) (by decide)
                subst hb16
                have hb17 : b17 = false := by
                  cases b17
                  · rfl
                  · exact absurd (show false = true from hcl 17 _ rfl rfl ⟨15, .guard⟩ (by first | exact .head _ | simp) rfl) (by decide)
                subst hb17
                have hb18 : b18 = false := by
                  cases b18
                  · rfl
                  · exact absurd (show false = true from hcl 18 _ rfl rfl ⟨15, .guard⟩ (by first | exact .head _ | simp) rfl) (by decide)
                subst hb18
                have hb19 : b19 = false := by
                  cases b19
                  · rfl
                  · exact absurd (show false = true from hcl 19 _ rfl rfl ⟨15, .data⟩ (by first | exact .head _ | simp) rfl) (by decide)
                subst hb19
                have hb20 : b20 = false := by
                  cases b20
                  · rfl
                  · exact absurd (show false = true from hcl 20 _ rfl rfl ⟨15, .chain⟩ (by first | exact .head _ | simp) rfl) (by decide)
                subst hb20
                have hb21 : b21 = false := by
                  cases b21
                  · rfl
                  · exact absurd (show false = true from hcl 21 _ rfl rfl ⟨20, .guard⟩ (by first | exact .head _ | simp) rfl) (by decide)
                subst hb21
                have hb22 : b22 = false := by
                  cases b22
                  · rfl
                  · exact absurd (show false = true from hcl 22 _ rfl rfl ⟨20, .chain⟩ (by first | exact .head _ | simp) rfl) (by decide)
                subst hb22
                have hb23 : b23 = false := by
                  cases b23
                  · rfl
                  · exact absurd (show false = true from hcl 23 _ rfl rfl ⟨20, .guard⟩ (by first | exact .head _ | simp) rfl) (by decide)
                subst hb23
                have hb24 : b24 = false := by
                  cases b24
                  · rfl
                  · exact absurd (show false = true from hcl 24 _ rfl rfl ⟨20, .guard⟩ (by first | exact .head _ | simp) rfl) (by decide)
                subst hb24
                have hb25 : b25 = false := by
                  cases b25
                  · rfl
                  · exact absurd (show false = true from hcl 25 _ rfl rfl ⟨20, .guard⟩ (by first | exact .head _ | simp) rfl) (by decide)
                subst hb25
                have hb26 : b26 = false := by
                  cases b26
                  · rfl
                  · exact absurd (show false = true from hcl 26 _ rfl rfl ⟨20, .guard⟩ (by first | exact .head _ | simp) rfl) (by decide)
                subst hb26
                have hb27 : b27 = false := by
                  cases b27
                  · rfl
                  · exact absurd (show false = true from hcl 27 _ rfl rfl ⟨20, .data⟩ (by first | exact .head _ | simp) rfl) (by decide)
                subst hb27
                clear hall hcl hs hf
                obtain ⟨⟨c0, c1, c2, c3, c4, c5, c6, c7, c8, c9⟩, f0, f1, f2, f3, f4, f5, f6, f7, f8, f9⟩ := row10 (show _ = some (Obj.cells #[.int .i64 z1.ph, .int .i64 z1.inc, .int .i64 z1.runs, .int .u64 z1.since, .slice A0 z1.times.length q0, .int .u64 z1.due, .bool z1.armed, .int .i64 z1.rung, .bool z1.halt, .bool z1.again] 48 (0, 0)) from hF.1.block HB0.out)
                go_simp
                exact hK _ _ ⟨true, b1, false, false, false, false, false, false, false, false, false, false, false, false, false, false, false, false, false, false, false, false, false, false, false, false, false, false, dummy, vs, vr, rfl, rfl, hF⟩
              · intro listed a w1 K hs hcl hf hall hI hK
                obtain ⟨b0, b1, b2, b3, b4, b5, b6, b7, b8, b9, b10, b11, b12, b13, b14, b15, b16, b17, b18, b19, b20, b21, b22, b23, b24, b25, b26, b27, dummy, vs, vr, rfl, rfl, hF⟩ := hI
                have hf' : b1 = false := hf
                subst hf'
                have hb2 : b2 = false := by
                  cases b2
                  · rfl
                  · exact absurd (show false = true from hcl 2 _ rfl rfl ⟨1, .data⟩ (by first | exact .head _ | simp) rfl) (by decide)
                subst hb2
                have hb3 : b3 = false := by
                  cases b3
                  · rfl
                  · exact absurd (show false = true from hcl 3 _ rfl rfl ⟨2, .data⟩ (by first | exact .head _ | simp) rfl) (by decide)
                subst hb3
                have hb4 : b4 = false := by
                  cases b4
                  · rfl
                  · exact absurd (show false = true from hcl 4 _ rfl rfl ⟨2, .chain⟩ (by first | exact .head _ | simp) rfl) (by decide)
                subst hb4
                have hb5 : b5 = false := by
                  cases b5
                  · rfl
                  · exact absurd (show false = true from hcl 5 _ rfl rfl ⟨4, .guard⟩ (by first | exact .head _ | simp) rfl) (by decide)
                subst hb5
                have hb6 : b6 = false := by
                  cases b6
                  · rfl
                  · exact absurd (show false = true from hcl 6 _ rfl rfl ⟨4, .guard⟩ (by first | exact .head _ | simp) rfl) (by decide)
                subst hb6
                have hb7 : b7 = false := by
                  cases b7
                  · rfl
                  · exact absurd (show false = true from hcl 7 _ rfl rfl ⟨4, .guard⟩ (by first | exact .head _ | simp) rfl) (by decide)
                subst hb7
                have hb8 : b8 = false := by
                  cases b8
                  · rfl
                  · exact absurd (show false = true from hcl 8 _ rfl rfl ⟨4, .data⟩ (by first | exact .head _ | simp) rfl) (by decide)
                subst hb8
                have hb9 : b9 = false := by
                  cases b9
                  · rfl
                  · exact absurd (show false = true from hcl 9 _ rfl rfl ⟨4, .chain⟩ (by first | exact .head _ | simp) rfl) (by decide)
                subst hb9
                have hb10 : b10 = false := by
                  cases b10
                  · rfl
                  · exact absurd (show false = true from hcl 10 _ rfl rfl ⟨9, .guard⟩ (by first | exact .head _ | simp) rfl) (by decide)
                subst hb10
                have hb11 : b11 = false := by
                  cases b11
                  · rfl
                  · exact absurd (show false = true from hcl 11 _ rfl rfl ⟨9, .guard⟩ (by first | exact .head _ | simp) rfl) (by decide)
                subst hb11
                have hb12 : b12 = false := by
                  cases b12
                  · rfl
                  · exact absurd (show false = true from hcl 12 _ rfl rfl ⟨9, .chain⟩ (by first | exact .head _ | simp) rfl) (by decide)
                subst hb12
                have hb13 : b13 = false := by
                  cases b13
                  · rfl
                  · exact absurd (show false = true from hcl 13 _ rfl rfl ⟨9, .guard⟩ (by first | exact .head _ | simp) rfl) (by decide)
                subst hb13
                have hb14 : b14 = false := by
                  cases b14
                  · rfl
                  · exact absurd (show false = true from hcl 14 _ rfl rfl ⟨9, .data⟩ (by first | exact .head _ | simp) rfl) (by decide)
                subst hb14
                have hb15 : b15 = false := by
                  cases b15
                  · rfl
                  · exact absurd (show false = true from hcl 15 _ rfl rfl ⟨12, .chain⟩ (by first | exact .head _ | simp) rfl) (by decide)
                subst hb15
                have hb16 : b16 = false := by
                  cases b16
                  · rfl
                  · exact absurd (show false = true from hcl 16 _ rfl rfl ⟨15, .guard⟩ (by first | exact .head _ | simp) rfl) (by decide)
                subst hb16
                have hb17 : b17 = false := by
                  cases b17
                  · rfl
                  · exact absurd (show false = true from hcl 17 _ rfl rfl ⟨15, .guard⟩ (by first | exact .head _ | simp) rfl) (by decide)
                subst hb17
                have hb18 : b18 = false := by
                  cases b18
                  · rfl
                  · exact absurd (show false = true from hcl 18 _ rfl rfl ⟨15, .guard⟩ (by first | exact .head _ | simp) rfl) (by decide)
                subst hb18
                have hb19 : b19 = false := by
                  cases b19
                  · rfl
                  · exact absurd (show false = true from hcl 19 _ rfl rfl ⟨15, .data⟩ (by first | exact .head _ | simp) rfl) (by decide)
                subst hb19
                have hb20 : b20 = false := by
                  cases b20
                  · rfl
                  · exact absurd (show false = true from hcl 20 _ rfl rfl ⟨15, .chain⟩ (by first | exact .head _ | simp) rfl) (by decide)
                subst hb20
                have hb21 : b21 = false := by
                  cases b21
                  · rfl
                  · exact absurd (show false = true from hcl 21 _ rfl rfl ⟨20, .guard⟩ (by first | exact .head _ | simp) rfl) (by decide)
                subst hb21
                have hb22 : b22 = false := by
                  cases b22
                  · rfl
                  · exact absurd (show false = true from hcl 22 _ rfl rfl ⟨20, .chain⟩ (by first | exact .head _ | simp) rfl) (by decide)
                subst hb22
                have hb23 : b23 = false := by
                  cases b23
                  · rfl
                  · exact absurd (show false = true from hcl 23 _ rfl rfl ⟨20, .guard⟩ (by first | exact .head _ | simp) rfl) (by decide)
                subst hb23
                have hb24 : b24 = false := by
                  cases b24
                  · rfl
                  · exact absurd (show false = true from hcl 24 _ rfl rfl ⟨20, .guard⟩ (by first | exact .head _ | simp) rfl) (by decide)
                subst hb24
                have hb25 : b25 = false := by
                  cases b25
                  · rfl
                  · exact absurd (show false = true from hcl 25 _ rfl rfl ⟨20, .guard⟩ (by first | exact .head _ | simp) rfl) (by decide)
                subst hb25
                have hb26 : b26 = false := by
                  cases b26
                  · rfl
                  · exact absurd (show false = true from hcl 26 _ rfl rfl ⟨20, .guard⟩ (by first | exact .head _ | simp) rfl) (by decide)
                subst hb26
                have hb27 : b27 = false := by
                  cases b27
                  · rfl
                  · exact absurd (show false = true from hcl 27 _ rfl rfl ⟨20, .data⟩ (by first | exact .head _ | simp) rfl) (by decide)
                subst hb27
                clear hall hcl hs hf
                obtain ⟨⟨c0, c1, c2, c3, c4, c5, c6, c7, c8, c9⟩, f0, f1, f2, f3, f4, f5, f6, f7, f8, f9⟩ := row10 (show _ = some (Obj.cells #[.int .i64 z1.ph, .int .i64 z1.inc, .int .i64 z1.runs, .int .u64 z1.since, .slice A1 z1.times.length q1, .int .u64 z1.due, .bool z1.armed, .int .i64 z1.rung, .bool z1.halt, .bool z1.again] 48 (0, 0)) from hF.1.block HB1.out)
                go_simp
                exact hK _ _ ⟨b0, true, false, false, false, false, false, false, false, false, false, false, false, false, false, false, false, false, false, false, false, false, false, false, false, false, false, false, dummy, vs, vr, rfl, rfl, hF⟩
              · intro listed a w1 K hs hcl hf hall hI hK
                obtain ⟨b0, b1, b2, b3, b4, b5, b6, b7, b8, b9, b10, b11, b12, b13, b14, b15, b16, b17, b18, b19, b20, b21, b22, b23, b24, b25, b26, b27, dummy, vs, vr, rfl, rfl, hF⟩ := hI
                have hf' : b2 = false := hf
                subst hf'
                have hq0 : b0 = true := hall ⟨0, .data⟩ (by first | exact .head _ | simp) rfl
                subst hq0
                have hq1 : b1 = true := hall ⟨1, .data⟩ (by first | exact .head _ | simp) rfl
                subst hq1
                have hb3 : b3 = false := by
                  cases b3
                  · rfl
                  · exact absurd (show false = true from hcl 3 _ rfl rfl ⟨2, .data⟩ (by first | exact .head _ | simp) rfl) (by decide)
                subst hb3
                have hb4 : b4 = false := by
                  cases b4
                  · rfl
                  · exact absurd (show false = true from hcl 4 _ rfl rfl ⟨2, .chain⟩ (by first | exact .head _ | simp) rfl) (by decide)
                subst hb4
                have hb5 : b5 = false := by
                  cases b5
                  · rfl
                  · exact absurd (show false = true from hcl 5 _ rfl rfl ⟨4, .guard⟩ (by first | exact .head _ | simp) rfl) (by decide)
                subst hb5
                have hb6 : b6 = false := by
                  cases b6
                  · rfl
                  · exact absurd (show false = true from hcl 6 _ rfl rfl ⟨4, .guard⟩ (by first | exact .head _ | simp) rfl) (by decide)
                subst hb6
                have hb7 : b7 = false := by
                  cases b7
                  · rfl
                  · exact absurd (show false = true from hcl 7 _ rfl rfl ⟨4, .guard⟩ (by first | exact .head _ | simp) rfl) (by decide)
                subst hb7
                have hb8 : b8 = false := by
                  cases b8
                  · rfl
                  · exact absurd (show false = true from hcl 8 _ rfl rfl ⟨4, .data⟩ (by first | exact .head _ | simp) rfl) (by decide)
                subst hb8
                have hb9 : b9 = false := by
                  cases b9
                  · rfl
                  · exact absurd (show false = true from hcl 9 _ rfl rfl ⟨4, .chain⟩ (by first | exact .head _ | simp) rfl) (by decide)
                subst hb9
                have hb10 : b10 = false := by
                  cases b10
                  · rfl
                  · exact absurd (show false = true from hcl 10 _ rfl rfl ⟨9, .guard⟩ (by first | exact .head _ | simp) rfl) (by decide)
                subst hb10
                have hb11 : b11 = false := by
                  cases b11
                  · rfl
                  · exact absurd (show false = true from hcl 11 _ rfl rfl ⟨9, .guard⟩ (by first | exact .head _ | simp) rfl) (by decide)
                subst hb11
                have hb12 : b12 = false := by
                  cases b12
                  · rfl
                  · exact absurd (show false = true from hcl 12 _ rfl rfl ⟨9, .chain⟩ (by first | exact .head _ | simp) rfl) (by decide)
                subst hb12
                have hb13 : b13 = false := by
                  cases b13
                  · rfl
                  · exact absurd (show false = true from hcl 13 _ rfl rfl ⟨9, .guard⟩ (by first | exact .head _ | simp) rfl) (by decide)
                subst hb13
                have hb14 : b14 = false := by
                  cases b14
                  · rfl
                  · exact absurd (show false = true from hcl 14 _ rfl rfl ⟨9, .data⟩ (by first | exact .head _ | simp) rfl) (by decide)
                subst hb14
                have hb15 : b15 = false := by
                  cases b15
                  · rfl
                  · exact absurd (show false = true from hcl 15 _ rfl rfl ⟨12, .chain⟩ (by first | exact .head _ | simp) rfl) (by decide)
                subst hb15
                have hb16 : b16 = false := by
                  cases b16
                  · rfl
                  · exact absurd (show false = true from hcl 16 _ rfl rfl ⟨15, .guard⟩ (by first | exact .head _ | simp) rfl) (by decide)
                subst hb16
                have hb17 : b17 = false := by
                  cases b17
                  · rfl
                  · exact absurd (show false = true from hcl 17 _ rfl rfl ⟨15, .guard⟩ (by first | exact .head _ | simp) rfl) (by decide)
                subst hb17
                have hb18 : b18 = false := by
                  cases b18
                  · rfl
                  · exact absurd (show false = true from hcl 18 _ rfl rfl ⟨15, .guard⟩ (by first | exact .head _ | simp) rfl) (by decide)
                subst hb18
                have hb19 : b19 = false := by
                  cases b19
                  · rfl
                  · exact absurd (show false = true from hcl 19 _ rfl rfl ⟨15, .data⟩ (by first | exact .head _ | simp) rfl) (by decide)
                subst hb19
                have hb20 : b20 = false := by
                  cases b20
                  · rfl
                  · exact absurd (show false = true from hcl 20 _ rfl rfl ⟨15, .chain⟩ (by first | exact .head _ | simp) rfl) (by decide)
                subst hb20
                have hb21 : b21 = false := by
                  cases b21
                  · rfl
                  · exact absurd (show false = true from hcl 21 _ rfl rfl ⟨20, .guard⟩ (by first | exact .head _ | simp) rfl) (by decide)
                subst hb21
                have hb22 : b22 = false := by
                  cases b22
                  · rfl
                  · exact absurd (show false = true from hcl 22 _ rfl rfl ⟨20, .chain⟩ (by first | exact .head _ | simp) rfl) (by decide)
                subst hb22
                have hb23 : b23 = false := by
                  cases b23
                  · rfl
                  · exact absurd (show false = true from hcl 23 _ rfl rfl ⟨20, .guard⟩ (by first | exact .head _ | simp) rfl) (by decide)
                subst hb23
                have hb24 : b24 = false := by
                  cases b24
                  · rfl
                  · exact absurd (show false = true from hcl 24 _ rfl rfl ⟨20, .guard⟩ (by first | exact .head _ | simp) rfl) (by decide)
                subst hb24
                have hb25 : b25 = false := by
                  cases b25
                  · rfl
                  · exact absurd (show false = true from hcl 25 _ rfl rfl ⟨20, .guard⟩ (by first | exact .head _ | simp) rfl) (by decide)
                subst hb25
                have hb26 : b26 = false := by
                  cases b26
                  · rfl
                  · exact absurd (show false = true from hcl 26 _ rfl rfl ⟨20, .guard⟩ (by first | exact .head _ | simp) rfl) (by decide)
                subst hb26
                have hb27 : b27 = false := by
                  cases b27
                  · rfl
                  · exact absurd (show false = true from hcl 27 _ rfl rfl ⟨20, .data⟩ (by first | exact .head _ | simp) rfl) (by decide)
                subst hb27
                clear hall hcl hs hf
                have hp := HSA.out w1 hF.1
                go_simp
                refine hp.mono ?_
                rintro e w2 ⟨rfl, hd⟩
                exact hK _ _ ⟨true, true, true, false, false, false, false, false, false, false, false, false, false, false, false, false, false, false, false, false, false, false, false, false, false, false, false, false, dummy, vs, vr, rfl, rfl, hF.up hd⟩
              · intro listed a w1 K hs hcl hf hall hI hK
                obtain ⟨b0, b1, b2, b3, b4, b5, b6, b7, b8, b9, b10, b11, b12, b13, b14, b15, b16, b17, b18, b19, b20, b21, b22, b23, b24, b25, b26, b27, dummy, vs, vr, rfl, rfl, hF⟩ := hI
                have hf' : b3 = false := hf
                subst hf'
                have hq2 : b2 = true := hall ⟨2, .data⟩ (by first | exact .head _ | simp) rfl
                subst hq2
                clear hall hcl hs hf
                go_simp
                exact hK _ _ ⟨b0, b1, true, true, b4, b5, b6, b7, b8, b9, b10, b11, b12, b13, b14, b15, b16, b17, b18, b19, b20, b21, b22, b23, b24, b25, b26, b27, dummy, vs, vr, rfl, rfl, hF⟩
              · intro listed a w1 K hs hcl hf hall hI hK
                obtain ⟨b0, b1, b2, b3, b4, b5, b6, b7, b8, b9, b10, b11, b12, b13, b14, b15, b16, b17, b18, b19, b20, b21, b22, b23, b24, b25, b26, b27, dummy, vs, vr, rfl, rfl, hF⟩ := hI
                have hf' : b4 = false := hf
                subst hf'
                have hq3 : b3 = true := hall ⟨3, .data⟩ (by first | exact .head _ | simp) rfl
                subst hq3
                have hq2 : b2 = true := hall ⟨2, .chain⟩ (by first | exact .head _ | simp) rfl
                subst hq2
                clear hall hcl hs hf
                go_simp
                exact hK _ _ ⟨b0, b1, true, true, true, b5, b6, b7, b8, b9, b10, b11, b12, b13, b14, b15, b16, b17, b18, b19, b20, b21, b22, b23, b24, b25, b26, b27, dummy, vs, vr, rfl, rfl, hF⟩
              · intro listed a w1 K hs hcl hf hall hI hK
                obtain ⟨b0, b1, b2, b3, b4, b5, b6, b7, b8, b9, b10, b11, b12, b13, b14, b15, b16, b17, b18, b19, b20, b21, b22, b23, b24, b25, b26, b27, dummy, vs, vr, rfl, rfl, hF⟩ := hI
                have hf' : b5 = false := hf
                subst hf'
                have hq4 : b4 = true := hall ⟨4, .guard⟩ (by first | exact .head _ | simp) rfl
                subst hq4
                clear hall hcl hs hf
                go_simp
                exact hK _ _ ⟨b0, b1, b2, b3, true, true, b6, b7, b8, b9, b10, b11, b12, b13, b14, b15, b16, b17, b18, b19, b20, b21, b22, b23, b24, b25, b26, b27, dummy, vs, vr, rfl, rfl, hF⟩
              · intro listed a w1 K hs hcl hf hall hI hK
                obtain ⟨b0, b1, b2, b3, b4, b5, b6, b7, b8, b9, b10, b11, b12, b13, b14, b15, b16, b17, b18, b19, b20, b21, b22, b23, b24, b25, b26, b27, dummy, vs, vr, rfl, rfl, hF⟩ := hI
                have hf' : b6 = false := hf
                subst hf'
                have hq4 : b4 = true := hall ⟨4, .guard⟩ (by first | exact .head _ | simp) rfl
                subst hq4
                clear hall hcl hs hf
                go_simp
                exact hK _ _ ⟨b0, b1, b2, b3, true, b5, true, b7, b8, b9, b10, b11, b12, b13, b14, b15, b16, b17, b18, b19, b20, b21, b22, b23, b24, b25, b26, b27, dummy, vs, vr, rfl, rfl, hF⟩
              · intro listed a w1 K hs hcl hf hall hI hK
                obtain ⟨b0, b1, b2, b3, b4, b5, b6, b7, b8, b9, b10, b11, b12, b13, b14, b15, b16, b17, b18, b19, b20, b21, b22, b23, b24, b25, b26, b27, dummy, vs, vr, rfl, rfl, hF⟩ := hI
                have hf' : b7 = false := hf
                subst hf'
                have hq5 : b5 = true := hall ⟨5, .data⟩ (by first | exact .head _ | simp) rfl
                subst hq5
                have hq6 : b6 = true := hall ⟨6, .data⟩ (by first | exact .head _ | simp) rfl
                subst hq6
                have hq4 : b4 = true := hall ⟨4, .guard⟩ (by first | exact .head _ | simp) rfl
                subst hq4
                clear hall hcl hs hf
                go_simp
                exact hK _ _ ⟨b0, b1, b2, b3, true, true, true, true, b8, b9, b10, b11, b12, b13, b14, b15, b16, b17, b18, b19, b20, b21, b22, b23, b24, b25, b26, b27, dummy, vs, vr, rfl, rfl, hF⟩
              · intro listed a w1 K hs hcl hf hall hI hK
                obtain ⟨b0, b1, b2, b3, b4, b5, b6, b7, b8, b9, b10, b11, b12, b13, b14, b15, b16, b17, b18, b19, b20, b21, b22, b23, b24, b25, b26, b27, dummy, vs, vr, rfl, rfl, hF⟩ := hI
                have hf' : b8 = false := hf
                subst hf'
                have hq4 : b4 = true := hall ⟨4, .data⟩ (by first | exact .head _ | simp) rfl
                subst hq4
                have hq7 : b7 = true := hall ⟨7, .data⟩ (by first | exact .head _ | simp) rfl
                subst hq7
                clear hall hcl hs hf
                go_simp
                exact hK _ _ ⟨b0, b1, b2, b3, true, b5, b6, true, true, b9, b10, b11, b12, b13, b14, b15, b16, b17, b18, b19, b20, b21, b22, b23, b24, b25, b26, b27, dummy, vs, vr, rfl, rfl, hF⟩
              · intro listed a w1 K hs hcl hf hall hI hK
                obtain ⟨b0, b1, b2, b3, b4, b5, b6, b7, b8, b9, b10, b11, b12, b13, b14, b15, b16, b17, b18, b19, b20, b21, b22, b23, b24, b25, b26, b27, dummy, vs, vr, rfl, rfl, hF⟩ := hI
                have hf' : b9 = false := hf
                subst hf'
                have hq8 : b8 = true := hall ⟨8, .data⟩ (by first | exact .head _ | simp) rfl
                subst hq8
                have hq4 : b4 = true := hall ⟨4, .chain⟩ (by first | exact .head _ | simp) rfl
                subst hq4
                clear hall hcl hs hf
                go_simp
                exact hK _ _ ⟨b0, b1, b2, b3, true, b5, b6, b7, true, true, b10, b11, b12, b13, b14, b15, b16, b17, b18, b19, b20, b21, b22, b23, b24, b25, b26, b27, dummy, vs, vr, rfl, rfl, hF⟩
              · intro listed a w1 K hs hcl hf hall hI hK
                obtain ⟨b0, b1, b2, b3, b4, b5, b6, b7, b8, b9, b10, b11, b12, b13, b14, b15, b16, b17, b18, b19, b20, b21, b22, b23, b24, b25, b26, b27, dummy, vs, vr, rfl, rfl, hF⟩ := hI
                have hf' : b10 = false := hf
                subst hf'
                have hq9 : b9 = true := hall ⟨9, .guard⟩ (by first | exact .head _ | simp) rfl
                subst hq9
                have hq8 : b8 = true := hcl 9 _ rfl rfl ⟨8, .data⟩ (by first | exact .head _ | simp) rfl
                subst hq8
                have hq4 : b4 = true := hcl 9 _ rfl rfl ⟨4, .chain⟩ (by first | exact .head _ | simp) rfl
                subst hq4
                have hq7 : b7 = true := hcl 8 _ rfl rfl ⟨7, .data⟩ (by first | exact .head _ | simp) rfl
                subst hq7
                have hq3 : b3 = true := hcl 4 _ rfl rfl ⟨3, .data⟩ (by first | exact .head _ | simp) rfl
                subst hq3
                have hq2 : b2 = true := hcl 4 _ rfl rfl ⟨2, .chain⟩ (by first | exact .head _ | simp) rfl
                subst hq2
                have hq5 : b5 = true := hcl 7 _ rfl rfl ⟨5, .data⟩ (by first | exact .head _ | simp) rfl
                subst hq5
                have hq6 : b6 = true := hcl 7 _ rfl rfl ⟨6, .data⟩ (by first | exact .head _ | simp) rfl
                subst hq6
                have hq0 : b0 = true := hcl 2 _ rfl rfl ⟨0, .data⟩ (by first | exact .head _ | simp) rfl
                subst hq0
                have hq1 : b1 = true := hcl 2 _ rfl rfl ⟨1, .data⟩ (by first | exact .head _ | simp) rfl
                subst hq1
                have hb12 : b12 = false := by
                  cases b12
                  · rfl
                  · exact absurd (show false = true from hcl 12 _ rfl rfl ⟨10, .data⟩ (by first | exact .head _ | simp) rfl) (by decide)
                subst hb12
                have hb13 : b13 = false := by
                  cases b13
                  · rfl
                  · exact absurd (show false = true from hcl 13 _ rfl rfl ⟨12, .data⟩ (by first | exact .head _ | simp) rfl) (by decide)
                subst hb13
                have hb15 : b15 = false := by
                  cases b15
                  · rfl
                  · exact absurd (show false = true from hcl 15 _ rfl rfl ⟨12, .chain⟩ (by first | exact .head _ | simp) rfl) (by decide)
                subst hb15
                have hb14 : b14 = false := by
                  cases b14
                  · rfl
                  · exact absurd (show false = true from hcl 14 _ rfl rfl ⟨13, .data⟩ (by first | exact .head _ | simp) rfl) (by decide)
                subst hb14
                have hb16 : b16 = false := by
                  cases b16
                  · rfl
                  · exact absurd (show false = true from hcl 16 _ rfl rfl ⟨15, .guard⟩ (by first | exact .head _ | simp) rfl) (by decide)
                subst hb16
                have hb17 : b17 = false := by
                  cases b17
                  · rfl
                  · exact absurd (show false = true from hcl 17 _ rfl rfl ⟨15, .guard⟩ (by first | exact .head _ | simp) rfl) (by decide)
                subst hb17
                have hb18 : b18 = false := by
                  cases b18
                  · rfl
                  · exact absurd (show false = true from hcl 18 _ rfl rfl ⟨15, .guard⟩ (by first | exact .head _ | simp) rfl) (by decide)
                subst hb18
                have hb19 : b19 = false := by
                  cases b19
                  · rfl
                  · exact absurd (show false = true from hcl 19 _ rfl rfl ⟨15, .data⟩ (by first | exact .head _ | simp) rfl) (by decide)
                subst hb19
                have hb20 : b20 = false := by
                  cases b20
                  · rfl
                  · exact absurd (show false = true from hcl 20 _ rfl rfl ⟨15, .chain⟩ (by first | exact .head _ | simp) rfl) (by decide)
                subst hb20
                have hb21 : b21 = false := by
                  cases b21
                  · rfl
                  · exact absurd (show false = true from hcl 21 _ rfl rfl ⟨20, .guard⟩ (by first | exact .head _ | simp) rfl) (by decide)
                subst hb21
                have hb22 : b22 = false := by
                  cases b22
                  · rfl
                  · exact absurd (show false = true from hcl 22 _ rfl rfl ⟨20, .chain⟩ (by first | exact .head _ | simp) rfl) (by decide)
                subst hb22
                have hb23 : b23 = false := by
                  cases b23
                  · rfl
                  · exact absurd (show false = true from hcl 23 _ rfl rfl ⟨20, .guard⟩ (by first | exact .head _ | simp) rfl) (by decide)
                subst hb23
                have hb24 : b24 = false := by
                  cases b24
                  · rfl
                  · exact absurd (show false = true from hcl 24 _ rfl rfl ⟨20, .guard⟩ (by first | exact .head _ | simp) rfl) (by decide)
                subst hb24
                have hb25 : b25 = false := by
                  cases b25
                  · rfl
                  · exact absurd (show false = true from hcl 25 _ rfl rfl ⟨20, .guard⟩ (by first | exact .head _ | simp) rfl) (by decide)
                subst hb25
                have hb26 : b26 = false := by
                  cases b26
                  · rfl
                  · exact absurd (show false = true from hcl 26 _ rfl rfl ⟨20, .guard⟩ (by first | exact .head _ | simp) rfl) (by decide)
                subst hb26
                have hb27 : b27 = false := by
                  cases b27
                  · rfl
                  · exact absurd (show false = true from hcl 27 _ rfl rfl ⟨20, .data⟩ (by first | exact .head _ | simp) rfl) (by decide)
                subst hb27
                clear hall hcl hs hf
                obtain ⟨⟨c0, c1, c2, c3, c4, c5, c6, c7, c8, c9⟩, f0, f1, f2, f3, f4, f5, f6, f7, f8, f9⟩ := row10 (show _ = some (Obj.cells #[.int .i64 z2.ph, .int .i64 z2.inc, .int .i64 z2.runs, .int .u64 z2.since, .slice A2 z2.times.length q2, .int .u64 z2.due, .bool z2.armed, .int .i64 z2.rung, .bool z2.halt, .bool z2.again] 48 (0, 0)) from hF.1.block HB2.out)
                go_simp
                exact hK _ _ ⟨true, true, true, true, true, true, true, true, true, true, true, b11, false, false, false, false, false, false, false, false, false, false, false, false, false, false, false, false, dummy, vs, vr, rfl, rfl, hF⟩
              · intro listed a w1 K hs hcl hf hall hI hK
                obtain ⟨b0, b1, b2, b3, b4, b5, b6, b7, b8, b9, b10, b11, b12, b13, b14, b15, b16, b17, b18, b19, b20, b21, b22, b23, b24, b25, b26, b27, dummy, vs, vr, rfl, rfl, hF⟩ := hI
                have hf' : b11 = false := hf
                subst hf'
                have hq9 : b9 = true := hall ⟨9, .guard⟩ (by first | exact .head _ | simp) rfl
                subst hq9
                have hq8 : b8 = true := hcl 9 _ rfl rfl ⟨8, .data⟩ (by first | exact .head _ | simp) rfl
                subst hq8
                have hq4 : b4 = true := hcl 9 _ rfl rfl ⟨4, .chain⟩ (by first | exact .head _ | simp) rfl
                subst hq4
                have hq7 : b7 = true := hcl 8 _ rfl rfl ⟨7, .data⟩ (by first | exact .head _ | simp) rfl
                subst hq7
                have hq3 : b3 = true := hcl 4 _ rfl rfl ⟨3, .data⟩ (by first | exact .head _ | simp) rfl
                subst hq3
                have hq2 : b2 = true := hcl 4 _ rfl rfl ⟨2, .chain⟩ (by first | exact .head _ | simp) rfl
                subst hq2
                have hq5 : b5 = true := hcl 7 _ rfl rfl ⟨5, .data⟩ (by first | exact .head _ | simp) rfl
                subst hq5
                have hq6 : b6 = true := hcl 7 _ rfl rfl ⟨6, .data⟩ (by first | exact .head _ | simp) rfl
                subst hq6
                have hq0 : b0 = true := hcl 2 _ rfl rfl ⟨0, .data⟩ (by first | exact .head _ | simp) rfl
                subst hq0
                have hq1 : b1 = true := hcl 2 _ rfl rfl ⟨1, .data⟩ (by first | exact .head _ | simp) rfl
                subst hq1
                have hb12 : b12 = false := by
                  cases b12
                  · rfl
                  · exact absurd (show false = true from hcl 12 _ rfl rfl ⟨11, .data⟩ (by first | exact .head _ | simp) rfl) (by decide)
                subst hb12
                have hb13 : b13 = false := by
                  cases b13
                  · rfl
                  · exact absurd (show false = true from hcl 13 _ rfl rfl ⟨12, .data⟩ (by first | exact .head _ | simp) rfl) (by decide)
                subst hb13
                have hb15 : b15 = false := by
                  cases b15
                  · rfl
                  · exact absurd (show false = true from hcl 15 _ rfl rfl ⟨12, .chain⟩ (by first | exact .head _ | simp) rfl) (by decide)
                subst hb15
                have hb14 : b14 = false := by
                  cases b14
                  · rfl
                  · exact absurd (show false = true from hcl 14 _ rfl rfl ⟨13, .data⟩ (by first | exact .head _ | simp) rfl) (by decide)
                subst hb14
                have hb16 : b16 = false := by
                  cases b16
                  · rfl
                  · exact absurd (show false = true from hcl 16 _ rfl rfl ⟨15, .guard⟩ (by first | exact .head _ | simp) rfl) (by decide)
                subst hb16
                have hb17 : b17 = false := by
                  cases b17
                  · rfl
                  · exact absurd (show false = true from hcl 17 _ rfl rfl ⟨15, .guard⟩ (by first | exact .head _ | simp) rfl) (by decide)
                subst hb17
                have hb18 : b18 = false := by
                  cases b18
                  · rfl
                  · exact absurd (show false = true from hcl 18 _ rfl rfl ⟨15, .guard⟩ (by first | exact .head _ | simp) rfl) (by decide)
                subst hb18
                have hb19 : b19 = false := by
                  cases b19
                  · rfl
                  · exact absurd (show false = true from hcl 19 _ rfl rfl ⟨15, .data⟩ (by first | exact .head _ | simp) rfl) (by decide)
                subst hb19
                have hb20 : b20 = false := by
                  cases b20
                  · rfl
                  · exact absurd (show false = true from hcl 20 _ rfl rfl ⟨15, .chain⟩ (by first | exact .head _ | simp) rfl) (by decide)
                subst hb20
                have hb21 : b21 = false := by
                  cases b21
                  · rfl
                  · exact absurd (show false = true from hcl 21 _ rfl rfl ⟨20, .guard⟩ (by first | exact .head _ | simp) rfl) (by decide)
                subst hb21
                have hb22 : b22 = false := by
                  cases b22
                  · rfl
                  · exact absurd (show false = true from hcl 22 _ rfl rfl ⟨20, .chain⟩ (by first | exact .head _ | simp) rfl) (by decide)
                subst hb22
                have hb23 : b23 = false := by
                  cases b23
                  · rfl
                  · exact absurd (show false = true from hcl 23 _ rfl rfl ⟨20, .guard⟩ (by first | exact .head _ | simp) rfl) (by decide)
                subst hb23
                have hb24 : b24 = false := by
                  cases b24
                  · rfl
                  · exact absurd (show false = true from hcl 24 _ rfl rfl ⟨20, .guard⟩ (by first | exact .head _ | simp) rfl) (by decide)
                subst hb24
                have hb25 : b25 = false := by
                  cases b25
                  · rfl
                  · exact absurd (show false = true from hcl 25 _ rfl rfl ⟨20, .guard⟩ (by first | exact .head _ | simp) rfl) (by decide)
                subst hb25
                have hb26 : b26 = false := by
                  cases b26
                  · rfl
                  · exact absurd (show false = true from hcl 26 _ rfl rfl ⟨20, .guard⟩ (by first | exact .head _ | simp) rfl) (by decide)
                subst hb26
                have hb27 : b27 = false := by
                  cases b27
                  · rfl
                  · exact absurd (show false = true from hcl 27 _ rfl rfl ⟨20, .data⟩ (by first | exact .head _ | simp) rfl) (by decide)
                subst hb27
                clear hall hcl hs hf
                obtain ⟨⟨c0, c1, c2, c3, c4, c5, c6, c7, c8, c9⟩, f0, f1, f2, f3, f4, f5, f6, f7, f8, f9⟩ := row10 (show _ = some (Obj.cells #[.int .i64 z2.ph, .int .i64 z2.inc, .int .i64 z2.runs, .int .u64 z2.since, .slice A3 z2.times.length q3, .int .u64 z2.due, .bool z2.armed, .int .i64 z2.rung, .bool z2.halt, .bool z2.again] 48 (0, 0)) from hF.1.block HB3.out)
                go_simp
                exact hK _ _ ⟨true, true, true, true, true, true, true, true, true, true, b10, true, false, false, false, false, false, false, false, false, false, false, false, false, false, false, false, false, dummy, vs, vr, rfl, rfl, hF⟩
              · intro listed a w1 K hs hcl hf hall hI hK
                obtain ⟨b0, b1, b2, b3, b4, b5, b6, b7, b8, b9, b10, b11, b12, b13, b14, b15, b16, b17, b18, b19, b20, b21, b22, b23, b24, b25, b26, b27, dummy, vs, vr, rfl, rfl, hF⟩ := hI
                have hf' : b12 = false := hf
                subst hf'
                have hq10 : b10 = true := hall ⟨10, .data⟩ (by first | exact .head _ | simp) rfl
                subst hq10
                have hq11 : b11 = true := hall ⟨11, .data⟩ (by first | exact .head _ | simp) rfl
                subst hq11
                have hq9 : b9 = true := hall ⟨9, .chain⟩ (by first | exact .head _ | simp) rfl
                subst hq9
                have hq8 : b8 = true := hcl 9 _ rfl rfl ⟨8, .data⟩ (by first | exact .head _ | simp) rfl
                subst hq8
                have hq4 : b4 = true := hcl 9 _ rfl rfl ⟨4, .chain⟩ (by first | exact .head _ | simp) rfl
                subst hq4
                have hq7 : b7 = true := hcl 8 _ rfl rfl ⟨7, .data⟩ (by first | exact .head _ | simp) rfl
                subst hq7
                have hq3 : b3 = true := hcl 4 _ rfl rfl ⟨3, .data⟩ (by first | exact .head _ | simp) rfl
                subst hq3
                have hq2 : b2 = true := hcl 4 _ rfl rfl ⟨2, .chain⟩ (by first | exact .head _ | simp) rfl
                subst hq2
                have hq5 : b5 = true := hcl 7 _ rfl rfl ⟨5, .data⟩ (by first | exact .head _ | simp) rfl
                subst hq5
                have hq6 : b6 = true := hcl 7 _ rfl rfl ⟨6, .data⟩ (by first | exact .head _ | simp) rfl
                subst hq6
                have hq0 : b0 = true := hcl 2 _ rfl rfl ⟨0, .data⟩ (by first | exact .head _ | simp) rfl
                subst hq0
                have hq1 : b1 = true := hcl 2 _ rfl rfl ⟨1, .data⟩ (by first | exact .head _ | simp) rfl
                subst hq1
                have hb13 : b13 = false := by
                  cases b13
                  · rfl
                  · exact absurd (show false = true from hcl 13 _ rfl rfl ⟨12, .data⟩ (by first | exact .head _ | simp) rfl) (by decide)
                subst hb13
                have hb15 : b15 = false := by
                  cases b15
                  · rfl
                  · exact absurd (show false = true from hcl 15 _ rfl rfl ⟨12, .chain⟩ (by first | exact .head _ | simp) rfl) (by decide)
                subst hb15
                have hb14 : b14 = false := by
                  cases b14
                  · rfl
                  · exact absurd (show false = true from hcl 14 _ rfl rfl ⟨13, .data⟩ (by first | exact .head _ | simp) rfl) (by decide)
                subst hb14
                have hb16 : b16 = false := by
                  cases b16
                  · rfl
                  · exact absurd (show false = true from hcl 16 _ rfl rfl ⟨15, .guard⟩ (by first | exact .head _ | simp) rfl) (by decide)
                subst hb16
                have hb17 : b17 = false := by
                  cases b17
                  · rfl
                  · exact absurd (show false = true from hcl 17 _ rfl rfl ⟨15, .guard⟩ (by first | exact .head _ | simp) rfl) (by decide)
                subst hb17
                have hb18 : b18 = false := by
                  cases b18
                  · rfl
                  · exact absurd (show false = true from hcl 18 _ rfl rfl ⟨15, .guard⟩ (by first | exact .head _ | simp) rfl) (by decide)
                subst hb18
                have hb19 : b19 = false := by
                  cases b19
                  · rfl
                  · exact absurd (show false = true from hcl 19 _ rfl rfl ⟨15, .data⟩ (by first | exact .head _ | simp) rfl) (by decide)
                subst hb19
                have hb20 : b20 = false := by
                  cases b20
                  · rfl
                  · exact absurd (show false = true from hcl 20 _ rfl rfl ⟨15, .chain⟩ (by first | exact .head _ | simp) rfl) (by decide)
                subst hb20
                have hb21 : b21 = false := by
                  cases b21
                  · rfl
                  · exact absurd (show false = true from hcl 21 _ rfl rfl ⟨20, .guard⟩ (by first | exact .head _ | simp) rfl) (by decide)
                subst hb21
                have hb22 : b22 = false := by
                  cases b22
                  · rfl
                  · exact absurd (show false = true from hcl 22 _ rfl rfl ⟨20, .chain⟩ (by first | exact .head _ | simp) rfl) (by decide)
                subst hb22
                have hb23 : b23 = false := by
                  cases b23
                  · rfl
                  · exact absurd (show false = true from hcl 23 _ rfl rfl ⟨20, .guard⟩ (by first | exact .head _ | simp) rfl) (by decide)
                subst hb23
                have hb24 : b24 = false := by
                  cases b24
                  · rfl
                  · exact absurd (show false = true from hcl 24 _ rfl rfl ⟨20, .guard⟩ (by first | exact .head _ | simp) rfl) (by decide)
                subst hb24
                have hb25 : b25 = false := by
                  cases b25
                  · rfl
                  · exact absurd (show false = true from hcl 25 _ rfl rfl ⟨20, .guard⟩ (by first | exact .head _ | simp) rfl) (by decide)
                subst hb25
                have hb26 : b26 = false := by
                  cases b26
                  · rfl
                  · exact absurd (show false = true from hcl 26 _ rfl rfl ⟨20, .guard⟩ (by first | exact .head _ | simp) rfl) (by decide)
                subst hb26
                have hb27 : b27 = false := by
                  cases b27
                  · rfl
                  · exact absurd (show false = true from hcl 27 _ rfl rfl ⟨20, .data⟩ (by first | exact .head _ | simp) rfl) (by decide)
                subst hb27
                clear hall hcl hs hf
                have hp := HSB.out w1 hF.1
                go_simp
                refine hp.mono ?_
                rintro e w2 ⟨rfl, hd⟩
                exact hK _ _ ⟨true, true, true, true, true, true, true, true, true, true, true, true, true, false, false, false, false, false, false, false, false, false, false, false, false, false, false, false, dummy, vs, vr, rfl, rfl, hF.up hd⟩
              · intro listed a w1 K hs hcl hf hall hI hK
                obtain ⟨b0, b1, b2, b3, b4, b5, b6, b7, b8, b9, b10, b11, b12, b13, b14, b15, b16, b17, b18, b19, b20, b21, b22, b23, b24, b25, b26, b27, dummy, vs, vr, rfl, rfl, hF⟩ := hI
                have hf' : b13 = false := hf
                subst hf'
                have hq12 : b12 = true := hall ⟨12, .data⟩ (by first | exact .head _ | simp) rfl
                subst hq12
                have hq9 : b9 = true := hall ⟨9, .guard⟩ (by first | exact .head _ | simp) rfl
                subst hq9
                clear hall hcl hs hf
                go_simp
                exact hK _ _ ⟨b0, b1, b2, b3, b4, b5, b6, b7, b8, true, b10, b11, true, true, b14, b15, b16, b17, b18, b19, b20, b21, b22, b23, b24, b25, b26, b27, dummy, vs, vr, rfl, rfl, hF⟩
              · intro listed a w1 K hs hcl hf hall hI hK
                obtain ⟨b0, b1, b2, b3, b4, b5, b6, b7, b8, b9, b10, b11, b12, b13, b14, b15, b16, b17, b18, b19, b20, b21, b22, b23, b24, b25, b26, b27, dummy, vs, vr, rfl, rfl, hF⟩ := hI
                have hf' : b14 = false := hf
                subst hf'
                have hq9 : b9 = true := hall ⟨9, .data⟩ (by first | exact .head _ | simp) rfl
                subst hq9
                have hq13 : b13 = true := hall ⟨13, .data⟩ (by first | exact .head _ | simp) rfl
                subst hq13
                clear hall hcl hs hf
                go_simp
                exact hK _ _ ⟨b0, b1, b2, b3, b4, b5, b6, b7, b8, true, b10, b11, b12, true, true, b15, b16, b17, b18, b19, b20, b21, b22, b23, b24, b25, b26, b27, dummy, vs, vr, rfl, rfl, hF⟩
              · intro listed a w1 K hs hcl hf hall hI hK
                obtain ⟨b0, b1, b2, b3, b4, b5, b6, b7, b8, b9, b10, b11, b12, b13, b14, b15, b16, b17, b18, b19, b20, b21, b22, b23, b24, b25, b26, b27, dummy, vs, vr, rfl, rfl, hF⟩ := hI
                have hf' : b15 = false := hf
                subst hf'
                have hq14 : b14 = true := hall ⟨14, .data⟩ (by first | exact .head _ | simp) rfl
                subst hq14
                have hq12 : b12 = true := hall ⟨12, .chain⟩ (by first | exact .head _ | simp) rfl
                subst hq12
                clear hall hcl hs hf
                go_simp
                exact hK _ _ ⟨b0, b1, b2, b3, b4, b5, b6, b7, b8, b9, b10, b11, true, b13, true, true, b16, b17, b18, b19, b20, b21, b22, b23, b24, b25, b26, b27, dummy, vs, vr, rfl, rfl, hF⟩
              · intro listed a w1 K hs hcl hf hall hI hK
                obtain ⟨b0, b1, b2, b3, b4, b5, b6, b7, b8, b9, b10, b11, b12, b13, b14, b15, b16, b17, b18, b19, b20, b21, b22, b23, b24, b25, b26, b27, dummy, vs, vr, rfl, rfl, hF⟩ := hI
                have hf' : b16 = false := hf
                subst hf'
                have hq15 : b15 = true := hall ⟨15, .guard⟩ (by first | exact .head _ | simp) rfl
                subst hq15
                clear hall hcl hs hf
                go_simp
                exact hK _ _ ⟨b0, b1, b2, b3, b4, b5, b6, b7, b8, b9, b10, b11, b12, b13, b14, true, true, b17, b18, b19, b20, b21, b22, b23, b24, b25, b26, b27, dummy, vs, vr, rfl, rfl, hF⟩
              · intro listed a w1 K hs hcl hf hall hI hK
                obtain ⟨b0, b1, b2, b3, b4, b5, b6, b7, b8, b9, b10, b11, b12, b13, b14, b15, b16, b17, b18, b19, b20, b21, b22, b23, b24, b25, b26, b27, dummy, vs, vr, rfl, rfl, hF⟩ := hI
                have hf' : b17 = false := hf
                subst hf'
                have hq15 : b15 = true := hall ⟨15, .guard⟩ (by first | exact .head _ | simp) rfl
                subst hq15
                clear hall hcl hs hf
                go_simp
                exact hK _ _ ⟨b0, b1, b2, b3, b4, b5, b6, b7, b8, b9, b10, b11, b12, b13, b14, true, b16, true, b18, b19, b20, b21, b22, b23, b24, b25, b26, b27, dummy, vs, vr, rfl, rfl, hF⟩
              · intro listed a w1 K hs hcl hf hall hI hK
                obtain ⟨b0, b1, b2, b3, b4, b5, b6, b7, b8, b9, b10, b11, b12, b13, b14, b15, b16, b17, b18, b19, b20, b21, b22, b23, b24, b25, b26, b27, dummy, vs, vr, rfl, rfl, hF⟩ := hI
                have hf' : b18 = false := hf
                subst hf'
                have hq16 : b16 = true := hall ⟨16, .data⟩ (by first | exact .head _ | simp) rfl
                subst hq16
                have hq17 : b17 = true := hall ⟨17, .data⟩ (by first | exact .head _ | simp) rfl
                subst hq17
                have hq15 : b15 = true := hall ⟨15, .guard⟩ (by first | exact .head _ | simp) rfl
                subst hq15
                clear hall hcl hs hf
                go_simp
                exact hK _ _ ⟨b0, b1, b2, b3, b4, b5, b6, b7, b8, b9, b10, b11, b12, b13, b14, true, true, true, true, b19, b20, b21, b22, b23, b24, b25, b26, b27, dummy, vs, vr, rfl, rfl, hF⟩
              · intro listed a w1 K hs hcl hf hall hI hK
                obtain ⟨b0, b1, b2, b3, b4, b5, b6, b7, b8, b9, b10, b11, b12, b13, b14, b15, b16, b17, b18, b19, b20, b21, b22, b23, b24, b25, b26, b27, dummy, vs, vr, rfl, rfl, hF⟩ := hI
                have hf' : b19 = false := hf
                subst hf'
                have hq15 : b15 = true := hall ⟨15, .data⟩ (by first | exact .head _ | simp) rfl
                subst hq15
                have hq18 : b18 = true := hall ⟨18, .data⟩ (by first | exact .head _ | simp) rfl
                subst hq18
                clear hall hcl hs hf
                go_simp
                exact hK _ _ ⟨b0, b1, b2, b3, b4, b5, b6, b7, b8, b9, b10, b11, b12, b13, b14, true, b16, b17, true, true, b20, b21, b22, b23, b24, b25, b26, b27, dummy, vs, vr, rfl, rfl, hF⟩
              · intro listed a w1 K hs hcl hf hall hI hK
                obtain ⟨b0, b1, b2, b3, b4, b5, b6, b7, b8, b9, b10, b11, b12, b13, b14, b15, b16, b17, b18, b19, b20, b21, b22, b23, b24, b25, b26, b27, dummy, vs, vr, rfl, rfl, hF⟩ := hI
                have hf' : b20 = false := hf
                subst hf'
                have hq19 : b19 = true := hall ⟨19, .data⟩ (by first | exact .head _ | simp) rfl
                subst hq19
                have hq15 : b15 = true := hall ⟨15, .chain⟩ (by first | exact .head _ | simp) rfl
                subst hq15
                clear hall hcl hs hf
                go_simp
                exact hK _ _ ⟨b0, b1, b2, b3, b4, b5, b6, b7, b8, b9, b10, b11, b12, b13, b14, true, b16, b17, b18, true, true, b21, b22, b23, b24, b25, b26, b27, dummy, vs, vr, rfl, rfl, hF⟩
              · intro listed a w1 K hs hcl hf hall hI hK
                obtain ⟨b0, b1, b2, b3, b4, b5, b6, b7, b8, b9, b10, b11, b12, b13, b14, b15, b16, b17, b18, b19, b20, b21, b22, b23, b24, b25, b26, b27, dummy, vs, vr, rfl, rfl, hF⟩ := hI
                have hf' : b21 = false := hf
                subst hf'
                have hq20 : b20 = true := hall ⟨20, .guard⟩ (by first | exact .head _ | simp) rfl
                subst hq20
                have hq19 : b19 = true := hcl 20 _ rfl rfl ⟨19, .data⟩ (by first | exact .head _ | simp) rfl
                subst hq19
                have hq15 : b15 = true := hcl 20 _ rfl rfl ⟨15, .chain⟩ (by first | exact .head _ | simp) rfl
                subst hq15
                have hq18 : b18 = true := hcl 19 _ rfl rfl ⟨18, .data⟩ (by first | exact .head _ | simp) rfl
                subst hq18
                have hq14 : b14 = true := hcl 15 _ rfl rfl ⟨14, .data⟩ (by first | exact .head _ | simp) rfl
                subst hq14
                have hq12 : b12 = true := hcl 15 _ rfl rfl ⟨12, .chain⟩ (by first | exact .head _ | simp) rfl
                subst hq12
                have hq16 : b16 = true := hcl 18 _ rfl rfl ⟨16, .data⟩ (by first | exact .head _ | simp) rfl
                subst hq16
                have hq17 : b17 = true := hcl 18 _ rfl rfl ⟨17, .data⟩ (by first | exact .head _ | simp) rfl
                subst hq17
                have hq9 : b9 = true := hcl 14 _ rfl rfl ⟨9, .data⟩ (by first | exact .head _ | simp) rfl
                subst hq9
                have hq13 : b13 = true := hcl 14 _ rfl rfl ⟨13, .data⟩ (by first | exact .head _ | simp) rfl
                subst hq13
                have hq10 : b10 = true := hcl 12 _ rfl rfl ⟨10, .data⟩ (by first | exact .head _ | simp) rfl
                subst hq10
                have hq11 : b11 = true := hcl 12 _ rfl rfl ⟨11, .data⟩ (by first | exact .head _ | simp) rfl
                subst hq11
                have hq8 : b8 = true := hcl 9 _ rfl rfl ⟨8, .data⟩ (by first | exact .head _ | simp) rfl
                subst hq8
                have hq4 : b4 = true := hcl 9 _ rfl rfl ⟨4, .chain⟩ (by first | exact .head _ | simp) rfl
                subst hq4
                have hq7 : b7 = true := hcl 8 _ rfl rfl ⟨7, .data⟩ (by first | exact .head _ | simp) rfl
                subst hq7
                have hq3 : b3 = true := hcl 4 _ rfl rfl ⟨3, .data⟩ (by first | exact .head _ | simp) rfl
                subst hq3
                have hq2 : b2 = true := hcl 4 _ rfl rfl ⟨2, .chain⟩ (by first | exact .head _ | simp) rfl
                subst hq2
                have hq5 : b5 = true := hcl 7 _ rfl rfl ⟨5, .data⟩ (by first | exact .head _ | simp) rfl
                subst hq5
                have hq6 : b6 = true := hcl 7 _ rfl rfl ⟨6, .data⟩ (by first | exact .head _ | simp) rfl
                subst hq6
                have hq0 : b0 = true := hcl 2 _ rfl rfl ⟨0, .data⟩ (by first | exact .head _ | simp) rfl
                subst hq0
                have hq1 : b1 = true := hcl 2 _ rfl rfl ⟨1, .data⟩ (by first | exact .head _ | simp) rfl
                subst hq1
                have hb22 : b22 = false := by
                  cases b22
                  · rfl
                  · exact absurd (show false = true from hcl 22 _ rfl rfl ⟨21, .data⟩ (by first | exact .head _ | simp) rfl) (by decide)
                subst hb22
                have hb24 : b24 = false := by
                  cases b24
                  · rfl
                  · exact absurd (show false = true from hcl 24 _ rfl rfl ⟨22, .chain⟩ (by first | exact .head _ | simp) rfl) (by decide)
                subst hb24
                have hb25 : b25 = false := by
                  cases b25
                  · rfl
                  · exact absurd (show false = true from hcl 25 _ rfl rfl ⟨22, .data⟩ (by first | exact .head _ | simp) rfl) (by decide)
                subst hb25
                have hb26 : b26 = false := by
                  cases b26
                  · rfl
                  · exact absurd (show false = true from hcl 26 _ rfl rfl ⟨25, .data⟩ (by first | exact .head _ | simp) rfl) (by decide)
                subst hb26
                have hb27 : b27 = false := by
                  cases b27
                  · rfl
                  · exact absurd (show false = true from hcl 27 _ rfl rfl ⟨26, .data⟩ (by first | exact .head _ | simp) rfl) (by decide)
                subst hb27
                clear hall hcl hs hf
                obtain ⟨⟨c0, c1, c2, c3, c4, c5, c6, c7, c8, c9⟩, f0, f1, f2, f3, f4, f5, f6, f7, f8, f9⟩ := row10 (show _ = some (Obj.cells #[.int .i64 x.ph, .int .i64 x.inc, .int .i64 x.runs, .int .u64 x.since, .slice Ax x.times.length cx, .int .u64 x.due, .bool x.armed, .int .i64 x.rung, .bool x.halt, .bool x.again] 48 (0, 0)) from hF.1.block HB11.out)
                go_simp
                exact hK _ _ ⟨true, true, true, true, true, true, true, true, true, true, true, true, true, true, true, true, true, true, true, true, true, true, false, b23, false, false, false, false, dummy, vs, vr, rfl, rfl, hF⟩
              · intro listed a w1 K hs hcl hf hall hI hK
                obtain ⟨b0, b1, b2, b3, b4, b5, b6, b7, b8, b9, b10, b11, b12, b13, b14, b15, b16, b17, b18, b19, b20, b21, b22, b23, b24, b25, b26, b27, dummy, vs, vr, rfl, rfl, hF⟩ := hI
                have hf' : b22 = false := hf
                subst hf'
                have hq21 : b21 = true := hall ⟨21, .data⟩ (by first | exact .head _ | simp) rfl
                subst hq21
                have hq20 : b20 = true := hall ⟨20, .chain⟩ (by first | exact .head _ | simp) rfl
                subst hq20
                have hq19 : b19 = true := hcl 20 _ rfl rfl ⟨19, .data⟩ (by first | exact .head _ | simp) rfl
                subst hq19
                have hq15 : b15 = true := hcl 20 _ rfl rfl ⟨15, .chain⟩ (by first | exact .head _ | simp) rfl
                subst hq15
                have hq18 : b18 = true := hcl 19 _ rfl rfl ⟨18, .data⟩ (by first | exact .head _ | simp) rfl
                subst hq18
                have hq14 : b14 = true := hcl 15 _ rfl rfl ⟨14, .data⟩ (by first | exact .head _ | simp) rfl
                subst hq14
                have hq12 : b12 = true := hcl 15 _ rfl rfl ⟨12, .chain⟩ (by first | exact .head _ | simp) rfl
                subst hq12
                have hq16 : b16 = true := hcl 18 _ rfl rfl ⟨16, .data⟩ (by first | exact .head _ | simp) rfl
                subst hq16
                have hq17 : b17 = true := hcl 18 _ rfl rfl ⟨17, .data⟩ (by first | exact .head _ | simp) rfl
                subst hq17
                have hq9 : b9 = true := hcl 14 _ rfl rfl ⟨9, .data⟩ (by first | exact .head _ | simp) rfl
                subst hq9
                have hq13 : b13 = true := hcl 14 _ rfl rfl ⟨13, .data⟩ (by first | exact .head _ | simp) rfl
                subst hq13
                have hq10 : b10 = true := hcl 12 _ rfl rfl ⟨10, .data⟩ (by first | exact .head _ | simp) rfl
                subst hq10
                have hq11 : b11 = true := hcl 12 _ rfl rfl ⟨11, .data⟩ (by first | exact .head _ | simp) rfl
                subst hq11
                have hq8 : b8 = true := hcl 9 _ rfl rfl ⟨8, .data⟩ (by first | exact .head _ | simp) rfl
                subst hq8
                have hq4 : b4 = true := hcl 9 _ rfl rfl ⟨4, .chain⟩ (by first | exact .head _ | simp) rfl
                subst hq4
                have hq7 : b7 = true := hcl 8 _ rfl rfl ⟨7, .data⟩ (by first | exact .head _ | simp) rfl
                subst hq7
                have hq3 : b3 = true := hcl 4 _ rfl rfl ⟨3, .data⟩ (by first | exact .head _ | simp) rfl
                subst hq3
                have hq2 : b2 = true := hcl 4 _ rfl rfl ⟨2, .chain⟩ (by first | exact .head _ | simp) rfl
                subst hq2
                have hq5 : b5 = true := hcl 7 _ rfl rfl ⟨5, .data⟩ (by first | exact .head _ | simp) rfl
                subst hq5
                have hq6 : b6 = true := hcl 7 _ rfl rfl ⟨6, .data⟩ (by first | exact .head _ | simp) rfl
                subst hq6
                have hq0 : b0 = true := hcl 2 _ rfl rfl ⟨0, .data⟩ (by first | exact .head _ | simp) rfl
                subst hq0
                have hq1 : b1 = true := hcl 2 _ rfl rfl ⟨1, .data⟩ (by first | exact .head _ | simp) rfl
                subst hq1
                have hb24 : b24 = false := by
                  cases b24
                  · rfl
                  · exact absurd (show false = true from hcl 24 _ rfl rfl ⟨22, .chain⟩ (by first | exact .head _ | simp) rfl) (by decide)
                subst hb24
                have hb25 : b25 = false := by
                  cases b25
                  · rfl
                  · exact absurd (show false = true from hcl 25 _ rfl rfl ⟨22, .data⟩ (by first | exact .head _ | simp) rfl) (by decide)
                subst hb25
                have hb26 : b26 = false := by
                  cases b26
                  · rfl
                  · exact absurd (show false = true from hcl 26 _ rfl rfl ⟨25, .data⟩ (by first | exact .head _ | simp) rfl) (by decide)
                subst hb26
                have hb27 : b27 = false := by
                  cases b27
                  · rfl
                  · exact absurd (show false = true from hcl 27 _ rfl rfl ⟨26, .data⟩ (by first | exact .head _ | simp) rfl) (by decide)
                subst hb27
                clear hall hcl hs hf
                have hp := HSL.out w1 hF.1
                go_simp
                refine hp.mono ?_
                rintro e w2 ⟨A5, q5, rfl, ht, hd⟩
                exact hK _ _ ⟨true, true, true, true, true, true, true, true, true, true, true, true, true, true, true, true, true, true, true, true, true, true, true, b23, false, false, false, false, dummy, .slice A5 z3.times.length q5, vr, rfl, rfl, hF.setS ht.rs hd⟩
              · intro listed a w1 K hs hcl hf hall hI hK
                obtain ⟨b0, b1, b2, b3, b4, b5, b6, b7, b8, b9, b10, b11, b12, b13, b14, b15, b16, b17, b18, b19, b20, b21, b22, b23, b24, b25, b26, b27, dummy, vs, vr, rfl, rfl, hF⟩ := hI
                have hf' : b23 = false := hf
                subst hf'
                have hq20 : b20 = true := hall ⟨20, .guard⟩ (by first | exact .head _ | simp) rfl
                subst hq20
                have hq19 : b19 = true := hcl 20 _ rfl rfl ⟨19, .data⟩ (by first | exact .head _ | simp) rfl
                subst hq19
                have hq15 : b15 = true := hcl 20 _ rfl rfl ⟨15, .chain⟩ (by first | exact .head _ | simp) rfl
                subst hq15
                have hq18 : b18 = true := hcl 19 _ rfl rfl ⟨18, .data⟩ (by first | exact .head _ | simp) rfl
                subst hq18
                have hq14 : b14 = true := hcl 15 _ rfl rfl ⟨14, .data⟩ (by first | exact .head _ | simp) rfl
                subst hq14
                have hq12 : b12 = true := hcl 15 _ rfl rfl ⟨12, .chain⟩ (by first | exact .head _ | simp) rfl
                subst hq12
                have hq16 : b16 = true := hcl 18 _ rfl rfl ⟨16, .data⟩ (by first | exact .head _ | simp) rfl
                subst hq16
                have hq17 : b17 = true := hcl 18 _ rfl rfl ⟨17, .data⟩ (by first | exact .head _ | simp) rfl
                subst hq17
                have hq9 : b9 = true := hcl 14 _ rfl rfl ⟨9, .data⟩ (by first | exact .head _ | simp) rfl
                subst hq9
                have hq13 : b13 = true := hcl 14 _ rfl rfl ⟨13, .data⟩ (by first | exact .head _ | simp) rfl
                subst hq13
                have hq10 : b10 = true := hcl 12 _ rfl rfl ⟨10, .data⟩ (by first | exact .head _ | simp) rfl
                subst hq10
                have hq11 : b11 = true := hcl 12 _ rfl rfl ⟨11, .data⟩ (by first | exact .head _ | simp) rfl
                subst hq11
                have hq8 : b8 = true := hcl 9 _ rfl rfl ⟨8, .data⟩ (by first | exact .head _ | simp) rfl
                subst hq8
                have hq4 : b4 = true := hcl 9 _ rfl rfl ⟨4, .chain⟩ (by first | exact .head _ | simp) rfl
                subst hq4
                have hq7 : b7 = true := hcl 8 _ rfl rfl ⟨7, .data⟩ (by first | exact .head _ | simp) rfl
                subst hq7
                have hq3 : b3 = true := hcl 4 _ rfl rfl ⟨3, .data⟩ (by first | exact .head _ | simp) rfl
                subst hq3
                have hq2 : b2 = true := hcl 4 _ rfl rfl ⟨2, .chain⟩ (by first | exact .head _ | simp) rfl
                subst hq2
                have hq5 : b5 = true := hcl 7 _ rfl rfl ⟨5, .data⟩ (by first | exact .head _ | simp) rfl
                subst hq5
                have hq6 : b6 = true := hcl 7 _ rfl rfl ⟨6, .data⟩ (by first | exact .head _ | simp) rfl
                subst hq6
                have hq0 : b0 = true := hcl 2 _ rfl rfl ⟨0, .data⟩ (by first | exact .head _ | simp) rfl
                subst hq0
                have hq1 : b1 = true := hcl 2 _ rfl rfl ⟨1, .data⟩ (by first | exact .head _ | simp) rfl
                subst hq1
                have hb24 : b24 = false := by
                  cases b24
                  · rfl
                  · exact absurd (show false = true from hcl 24 _ rfl rfl ⟨23, .data⟩ (by first | exact .head _ | simp) rfl) (by decide)
                subst hb24
                have hb25 : b25 = false := by
                  cases b25
                  · rfl
                  · exact absurd (show false = true from hcl 25 _ rfl rfl ⟨24, .data⟩ (by first | exact .head _ | simp) rfl) (by decide)
                subst hb25
                have hb26 : b26 = false := by
                  cases b26
                  · rfl
                  · exact absurd (show false = true from hcl 26 _ rfl rfl ⟨25, .data⟩ (by first | exact .head _ | simp) rfl) (by decide)
                subst hb26
                have hb27 : b27 = false := by
                  cases b27
                  · rfl
                  · exact absurd (show false = true from hcl 27 _ rfl rfl ⟨26, .data⟩ (by first | exact .head _ | simp) rfl) (by decide)
                subst hb27
                clear hall hcl hs hf
                obtain ⟨⟨c0, c1, c2, c3, c4, c5, c6, c7, c8, c9⟩, f0, f1, f2, f3, f4, f5, f6, f7, f8, f9⟩ := row10 (show _ = some (Obj.cells #[.int .i64 x.ph, .int .i64 x.inc, .int .i64 x.runs, .int .u64 x.since, .slice Ax x.times.length cx, .int .u64 x.due, .bool x.armed, .int .i64 x.rung, .bool x.halt, .bool x.again] 48 (0, 0)) from hF.1.block HB11.out)
                go_simp
                exact hK _ _ ⟨true, true, true, true, true, true, true, true, true, true, true, true, true, true, true, true, true, true, true, true, true, b21, b22, true, false, false, false, false, dummy, vs, vr, rfl, rfl, hF⟩
              · intro listed a w1 K hs hcl hf hall hI hK
                obtain ⟨b0, b1, b2, b3, b4, b5, b6, b7, b8, b9, b10, b11, b12, b13, b14, b15, b16, b17, b18, b19, b20, b21, b22, b23, b24, b25, b26, b27, dummy, vs, vr, rfl, rfl, hF⟩ := hI
                have hf' : b24 = false := hf
                subst hf'
                have hq23 : b23 = true := hall ⟨23, .data⟩ (by first | exact .head _ | simp) rfl
                subst hq23
                have hq22 : b22 = true := hall ⟨22, .chain⟩ (by first | exact .head _ | simp) rfl
                subst hq22
                have hq20 : b20 = true := hall ⟨20, .guard⟩ (by first | exact .head _ | simp) rfl
                subst hq20
                have hq21 : b21 = true := hcl 22 _ rfl rfl ⟨21, .data⟩ (by first | exact .head _ | simp) rfl
                subst hq21
                have hq19 : b19 = true := hcl 20 _ rfl rfl ⟨19, .data⟩ (by first | exact .head _ | simp) rfl
                subst hq19
                have hq15 : b15 = true := hcl 20 _ rfl rfl ⟨15, .chain⟩ (by first | exact .head _ | simp) rfl
                subst hq15
                have hq18 : b18 = true := hcl 19 _ rfl rfl ⟨18, .data⟩ (by first | exact .head _ | simp) rfl
                subst hq18
                have hq14 : b14 = true := hcl 15 _ rfl rfl ⟨14, .data⟩ (by first | exact .head _ | simp) rfl
                subst hq14
                have hq12 : b12 = true := hcl 15 _ rfl rfl ⟨12, .chain⟩ (by first | exact .head _ | simp) rfl
                subst hq12
                have hq16 : b16 = true := hcl 18 _ rfl rfl ⟨16, .data⟩ (by first | exact .head _ | simp) rfl
                subst hq16
                have hq17 : b17 = true := hcl 18 _ rfl rfl ⟨17, .data⟩ (by first | exact .head _ | simp) rfl
                subst hq17
                have hq9 : b9 = true := hcl 14 _ rfl rfl ⟨9, .data⟩ (by first | exact .head _ | simp) rfl
                subst hq9
                have hq13 : b13 = true := hcl 14 _ rfl rfl ⟨13, .data⟩ (by first | exact .head _ | simp) rfl
                subst hq13
                have hq10 : b10 = true := hcl 12 _ rfl rfl ⟨10, .data⟩ (by first | exact .head _ | simp) rfl
                subst hq10
                have hq11 : b11 = true := hcl 12 _ rfl rfl ⟨11, .data⟩ (by first | exact .head _ | simp) rfl
                subst hq11
                have hq8 : b8 = true := hcl 9 _ rfl rfl ⟨8, .data⟩ (by first | exact .head _ | simp) rfl
                subst hq8
                have hq4 : b4 = true := hcl 9 _ rfl rfl ⟨4, .chain⟩ (by first | exact .head _ | simp) rfl
                subst hq4
                have hq7 : b7 = true := hcl 8 _ rfl rfl ⟨7, .data⟩ (by first | exact .head _ | simp) rfl
                subst hq7
                have hq3 : b3 = true := hcl 4 _ rfl rfl ⟨3, .data⟩ (by first | exact .head _ | simp) rfl
                subst hq3
                have hq2 : b2 = true := hcl 4 _ rfl rfl ⟨2, .chain⟩ (by first | exact .head _ | simp) rfl
                subst hq2
                have hq5 : b5 = true := hcl 7 _ rfl rfl ⟨5, .data⟩ (by first | exact .head _ | simp) rfl
                subst hq5
                have hq6 : b6 = true := hcl 7 _ rfl rfl ⟨6, .data⟩ (by first | exact .head _ | simp) rfl
                subst hq6
                have hq0 : b0 = true := hcl 2 _ rfl rfl ⟨0, .data⟩ (by first | exact .head _ | simp) rfl
                subst hq0
                have hq1 : b1 = true := hcl 2 _ rfl rfl ⟨1, .data⟩ (by first | exact .head _ | simp) rfl
                subst hq1
                have hb25 : b25 = false := by
                  cases b25
                  · rfl
                  · exact absurd (show false = true from hcl 25 _ rfl rfl ⟨24, .data⟩ (by first | exact .head _ | simp) rfl) (by decide)
                subst hb25
                have hb26 : b26 = false := by
                  cases b26
                  · rfl
                  · exact absurd (show false = true from hcl 26 _ rfl rfl ⟨25, .data⟩ (by first | exact .head _ | simp) rfl) (by decide)
                subst hb26
                have hb27 : b27 = false := by
                  cases b27
                  · rfl
                  · exact absurd (show false = true from hcl 27 _ rfl rfl ⟨26, .data⟩ (by first | exact .head _ | simp) rfl) (by decide)
                subst hb27
                clear hall hcl hs hf
                have hp := HSR.out w1 hF.1
                go_simp
                refine hp.mono ?_
                rintro e w2 ⟨A5, q5, rfl, ht, hd⟩
                exact hK _ _ ⟨true, true, true, true, true, true, true, true, true, true, true, true, true, true, true, true, true, true, true, true, true, true, true, true, true, false, false, false, dummy, vs, .slice A5 z3.times.length q5, rfl, rfl, hF.setR (rs_of ht HZ3.out (HXR.out.up (hF.1.up hd))) hd⟩
              · intro listed a w1 K hs hcl hf hall hI hK
                obtain ⟨b0, b1, b2, b3, b4, b5, b6, b7, b8, b9, b10, b11, b12, b13, b14, b15, b16, b17, b18, b19, b20, b21, b22, b23, b24, b25, b26, b27, dummy, vs, vr, rfl, rfl, hF⟩ := hI
                have hf' : b25 = false := hf
                subst hf'
                have hq22 : b22 = true := hall ⟨22, .data⟩ (by first | exact .head _ | simp) rfl
                subst hq22
                have hq24 : b24 = true := hall ⟨24, .data⟩ (by first | exact .head _ | simp) rfl
                subst hq24
                have hq20 : b20 = true := hall ⟨20, .guard⟩ (by first | exact .head _ | simp) rfl
                subst hq20
                have hq21 : b21 = true := hcl 22 _ rfl rfl ⟨21, .data⟩ (by first | exact .head _ | simp) rfl
                subst hq21
                have hq23 : b23 = true := hcl 24 _ rfl rfl ⟨23, .data⟩ (by first | exact .head _ | simp) rfl
                subst hq23
                have hq19 : b19 = true := hcl 20 _ rfl rfl ⟨19, .data⟩ (by first | exact .head _ | simp) rfl
                subst hq19
                have hq15 : b15 = true := hcl 20 _ rfl rfl ⟨15, .chain⟩ (by first | exact .head _ | simp) rfl
                subst hq15
                have hq18 : b18 = true := hcl 19 _ rfl rfl ⟨18, .data⟩ (by first | exact .head _ | simp) rfl
                subst hq18
                have hq14 : b14 = true := hcl 15 _ rfl rfl ⟨14, .data⟩ (by first | exact .head _ | simp) rfl
                subst hq14
                have hq12 : b12 = true := hcl 15 _ rfl rfl ⟨12, .chain⟩ (by first | exact .head _ | simp) rfl
                subst hq12
                have hq16 : b16 = true := hcl 18 _ rfl rfl ⟨16, .data⟩ (by first | exact .head _ | simp) rfl
                subst hq16
                have hq17 : b17 = true := hcl 18 _ rfl rfl ⟨17, .data⟩ (by first | exact .head _ | simp) rfl
                subst hq17
                have hq9 : b9 = true := hcl 14 _ rfl rfl ⟨9, .data⟩ (by first | exact .head _ | simp) rfl
                subst hq9
                have hq13 : b13 = true := hcl 14 _ rfl rfl ⟨13, .data⟩ (by first | exact .head _ | simp) rfl
                subst hq13
                have hq10 : b10 = true := hcl 12 _ rfl rfl ⟨10, .data⟩ (by first | exact .head _ | simp) rfl
                subst hq10
                have hq11 : b11 = true := hcl 12 _ rfl rfl ⟨11, .data⟩ (by first | exact .head _ | simp) rfl
                subst hq11
                have hq8 : b8 = true := hcl 9 _ rfl rfl ⟨8, .data⟩ (by first | exact .head _ | simp) rfl
                subst hq8
                have hq4 : b4 = true := hcl 9 _ rfl rfl ⟨4, .chain⟩ (by first | exact .head _ | simp) rfl
                subst hq4
                have hq7 : b7 = true := hcl 8 _ rfl rfl ⟨7, .data⟩ (by first | exact .head _ | simp) rfl
                subst hq7
                have hq3 : b3 = true := hcl 4 _ rfl rfl ⟨3, .data⟩ (by first | exact .head _ | simp) rfl
                subst hq3
                have hq2 : b2 = true := hcl 4 _ rfl rfl ⟨2, .chain⟩ (by first | exact .head _ | simp) rfl
                subst hq2
                have hq5 : b5 = true := hcl 7 _ rfl rfl ⟨5, .data⟩ (by first | exact .head _ | simp) rfl
                subst hq5
                have hq6 : b6 = true := hcl 7 _ rfl rfl ⟨6, .data⟩ (by first | exact .head _ | simp) rfl
                subst hq6
                have hq0 : b0 = true := hcl 2 _ rfl rfl ⟨0, .data⟩ (by first | exact .head _ | simp) rfl
                subst hq0
                have hq1 : b1 = true := hcl 2 _ rfl rfl ⟨1, .data⟩ (by first | exact .head _ | simp) rfl
                subst hq1
                have hb26 : b26 = false := by
                  cases b26
                  · rfl
                  · exact absurd (show false = true from hcl 26 _ rfl rfl ⟨25, .data⟩ (by first | exact .head _ | simp) rfl) (by decide)
                subst hb26
                have hb27 : b27 = false := by
                  cases b27
                  · rfl
                  · exact absurd (show false = true from hcl 27 _ rfl rfl ⟨26, .data⟩ (by first | exact .head _ | simp) rfl) (by decide)
                subst hb27
                clear hall hcl hs hf
                obtain ⟨A5, q5, hv5, hr5⟩ := hF.2.1 rfl
                obtain ⟨A6, q6, hv6, hr6⟩ := hF.2.2 rfl
                subst hv5
                subst hv6
                have hp := rsameC z3 A5 A6 q5 q6 w1 hr5 hr6 HL3.out
                unfold lfA at hp
                go_simp
                refine hp.mono ?_
                rintro e w2 ⟨rfl, hd⟩
                exact hK _ _ ⟨true, true, true, true, true, true, true, true, true, true, true, true, true, true, true, true, true, true, true, true, true, true, true, true, true, true, false, false, dummy, .slice A5 z3.times.length q5, .slice A6 z3.times.length q6, rfl, rfl, hF.up hd⟩
              · intro listed a w1 K hs hcl hf hall hI hK
                obtain ⟨b0, b1, b2, b3, b4, b5, b6, b7, b8, b9, b10, b11, b12, b13, b14, b15, b16, b17, b18, b19, b20, b21, b22, b23, b24, b25, b26, b27, dummy, vs, vr, rfl, rfl, hF⟩ := hI
                have hf' : b26 = false := hf
                subst hf'
                have hq25 : b25 = true := hall ⟨25, .data⟩ (by first | exact .head _ | simp) rfl
                subst hq25
                have hq20 : b20 = true := hall ⟨20, .guard⟩ (by first | exact .head _ | simp) rfl
                subst hq20
                clear hall hcl hs hf
                go_simp
                exact hK _ _ ⟨b0, b1, b2, b3, b4, b5, b6, b7, b8, b9, b10, b11, b12, b13, b14, b15, b16, b17, b18, b19, true, b21, b22, b23, b24, true, true, b27, dummy, vs, vr, rfl, rfl, hF⟩
              · intro listed a w1 K hs hcl hf hall hI hK
                obtain ⟨b0, b1, b2, b3, b4, b5, b6, b7, b8, b9, b10, b11, b12, b13, b14, b15, b16, b17, b18, b19, b20, b21, b22, b23, b24, b25, b26, b27, dummy, vs, vr, rfl, rfl, hF⟩ := hI
                have hf' : b27 = false := hf
                subst hf'
                have hq20 : b20 = true := hall ⟨20, .data⟩ (by first | exact .head _ | simp) rfl
                subst hq20
                have hq26 : b26 = true := hall ⟨26, .data⟩ (by first | exact .head _ | simp) rfl
                subst hq26
                clear hall hcl hs hf
                go_simp
                exact hK _ _ ⟨b0, b1, b2, b3, b4, b5, b6, b7, b8, b9, b10, b11, b12, b13, b14, b15, b16, b17, b18, b19, true, b21, b22, b23, b24, b25, true, true, dummy, vs, vr, rfl, rfl, hF⟩
          · obtain rfl : m = 2 := by omega
            have HOW := Lib.hid (HOY.out.up HOR.out)
            clear HOR HOY
            go_wp2_with fail
            go_roundw
            case rel => exact ⟨i + 1, by omega, by go_num, HOW.out⟩
            case measure => simp [intOf]; omega
    · obtain rfl : i = 2 := by omega
      have HOW := Lib.hid (HOZ.out.up hor)
      clear hor
      go_wp2_with fail
      go_ret
      exact ⟨rfl, HOW.out⟩
end Go.Proofs.Ytpknglclcdgfbaa
