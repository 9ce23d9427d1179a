/-
  The walk of law22.act: one thing done to a life by the reference.
-/
import Derived.Test.YtpknglclcdgfbaaLfS
import Derived.Test.YtpknglclcdgfbaaLfU
import Derived.Test.YtpknglclcdgfbaaLfV
import Derived.Test.YtpknglclcdgfbaaLoP
import Derived.Test.YtpknglclcdgfbaaLvV
import Derived.Test.YtpknglclcdgfbaaRegInvU
import Derived.Deep.DeepCutAuto
import Derived.Deep.CutBlock
namespace Go.Proofs.Ytpknglclcdgfbaa
open Go.RowKit Go.Shelf
set_option linter.unusedVariables false

/-- Within act: the boxes of the job, the life and the result, the deck. -/
structure AS (w wr : World) (B g : Nat) (j : Jd) (x : Lf.T) (A : Option Addr) (c : Nat) (dl : List Int) : Prop where
  bj : wr.heap[w.heap.size]? = some (jdO j)
  bl : wr.heap[w.heap.size + 1]? = some (lfO x A c)
  br : wr.heap[w.heap.size + 1 + 1]? = some lfZ
  ok : JdOk wr j
  ts : Ts wr 30 A (u64s x.times)
  dk : Dk wr B g dl
  gr : w.grownBy wr (some g)
  gl : g < w.heap.size
section
variable {w wr w' : World} {B g c : Nat} {j : Jd} {x : Lf.T} {A : Option Addr} {dl : List Int}
theorem AS.up (h : AS w wr B g j x A c dl) (ho : Old wr w') : AS w w' B g j x A c dl :=
  ⟨ho.block h.bj, ho.block h.bl, ho.block h.br, h.ok.up ho, h.ts.up ho, h.dk.up ho, grown_far h.gr (old_grown ho) (fun q e => by cases e), h.gl⟩
theorem AS.turn {dl' : List Int} (h : AS w wr B g j x A c dl) (hd : Dk w' B g dl') (hg : wr.grownBy w' (some g)) : AS w w' B g j x A c dl' :=
  ⟨row_turn h.dk hg h.bj (by decide), row_turn h.dk hg h.bl (by decide), row_turn h.dk hg h.br (by decide), ⟨h.dk.ts hg h.ok.lad (by decide), h.ok.few, h.ok.ok, h.ok.base, h.ok.cap, h.ok.stable, h.ok.win⟩, h.dk.ts hg h.ts (by decide), hd, grown_trans h.gr hg, h.gl⟩
theorem AS.putTs {y : Lf.T} {Ay : Option Addr} {cy : Nat} (h : AS w wr B g j x A c dl) (ht : Ts wr 30 Ay (u64s y.times)) :
    Ts (put10 wr (w.heap.size + 1) (.int .i64 y.ph) (.int .i64 y.inc) (.int .i64 y.runs) (.int .u64 y.since) (.slice Ay y.times.length cy) (.int .u64 y.due) (.bool y.armed) (.int .i64 y.rung) (.bool y.halt) (.bool y.again)) 30 Ay (u64s y.times) := by
  have hb : wr.heap[w.heap.size + 1]? = some (.cells _ 48 (0, 0)) := h.bl
  exact (put10_tn (ht.tn2 hb (by decide) hb (by decide)) (by simp)).ts
theorem AS.put {y : Lf.T} {Ay : Option Addr} {cy : Nat} (h : AS w wr B g j x A c dl) (ht : Ts wr 30 Ay (u64s y.times)) :
    AS w (put10 wr (w.heap.size + 1) (.int .i64 y.ph) (.int .i64 y.inc) (.int .i64 y.runs) (.int .u64 y.since) (.slice Ay y.times.length cy) (.int .u64 y.due) (.bool y.armed) (.int .i64 y.rung) (.bool y.halt) (.bool y.again)) B g j y Ay cy dl := by
  have hb : wr.heap[w.heap.size + 1]? = some (.cells _ 48 (0, 0)) := h.bl
  have hgl := h.gl
  have hB := h.dk.1
  refine ⟨(put10_other (by omega)).trans h.bj, put10_row h.bl, (put10_other (by omega)).trans h.br, h.ok.put10 hb (by decide), h.putTs ht, h.dk.far (put10_grown wr (w.heap.size + 1) _ _ _ _ _ _ _ _ _ _) (fun e => by injection e with e; omega) (fun q e => by injection e with e; omega), grown_far h.gr (put10_grown wr (w.heap.size + 1) _ _ _ _ _ _ _ _ _ _) (fun q e => by injection e with e; omega), h.gl⟩
/-- What stays when the result is filled. -/
def ASR (w w' : World) (B g : Nat) (y : Lf.T) (Ay : Option Addr) (dl : List Int) : Prop := Ts w' 30 Ay (u64s y.times) ∧ Dk w' B g dl ∧ w.grownBy w' (some g)
theorem AS.putr {v0 v1 v2 v3 v4 v5 v6 v7 v8 v9 : Value} (h : AS w wr B g j x A c dl) : ASR w (put10 wr (w.heap.size + 1 + 1) v0 v1 v2 v3 v4 v5 v6 v7 v8 v9) B g x A dl := by
  have hb : wr.heap[w.heap.size + 1 + 1]? = some (.cells _ 48 (0, 0)) := h.br
  have hgl := h.gl
  have hB := h.dk.1
  exact ⟨(put10_tn (h.ts.tn2 hb (by decide) hb (by decide)) (by simp)).ts, h.dk.far (put10_grown wr (w.heap.size + 1 + 1) _ _ _ _ _ _ _ _ _ _) (fun e => by injection e with e; omega) (fun q e => by injection e with e; omega), grown_far h.gr (put10_grown wr (w.heap.size + 1 + 1) _ _ _ _ _ _ _ _ _ _) (fun q e => by injection e with e; omega)⟩
end
def AI (w : World) (B g : Nat) (j : Jd) (x : Lf.T) (A : Option Addr) (c : Nat) (y : Lf.T) (l : List Int) (bc bs : Bool) (vt : Value) (wr : World) : Prop :=
  (bs = false → AS w wr B g j x A c l) ∧ (bc = true → ∃ Ay cy, vt = .slice Ay y.times.length cy ∧ Ts wr 30 Ay (u64s y.times)) ∧ (bs = true → ∃ Ay cy, vt = .slice Ay y.times.length cy ∧ AS w wr B g j y Ay cy l)
def A8I (w : World) (B g : Nat) (j : Jd) (x : Lf.T) (A : Option Addr) (c : Nat) (now : Int) (x0 x1 x2 x3 : Int) (l0 l1 l2 l3 : List Int) (ph' inc' runs' since' : Int) (times' : List Int) (due' : Int) (armed' : Bool) (rung' : Int) (halt' again' : Bool) (sg : Int) (bb : Bool) (u11 u12 u13 u14 u15 u16 u17 u18 u19 u20 u21 u22 u23 u24 u25 u26 u27 u28 u29 : Value) (listed : Array Bool) (a : Act) (ww : World) : Prop :=
  ∃ (b0 b1 b2 b3 b4 b5 b6 b7 b8 b9 b10 b11 b12 b13 b14 b15 b16 b17 : Bool) (dummy : Nat) (vt : Value), listed = #[b0, b1, b2, b3, b4, b5, b6, b7, b8, b9, b10, b11, b12, b13, b14, b15, b16, b17] ∧
    a = { tmps := #[.pointer (some ⟨g, 0, none⟩), .agg #[.string j.nm, .string j.run, .slice j.eA j.env.length j.ec, .slice j.nA j.needs.length j.nc, .bool j.hasR, .string j.ready, .int .i64 j.restart, .int .u64 j.base, .int .u64 j.cap, .int .u64 j.stable, .int .i64 j.burst, .int .u64 j.win, .slice j.lA j.lad.length j.lc, .int .i64 j.line, .int .i64 j.col], .agg #[.int .i64 x.ph, .int .i64 x.inc, .int .i64 x.runs, .int .u64 x.since, .slice A x.times.length c, .int .u64 x.due, .bool x.armed, .int .i64 x.rung, .bool x.halt, .bool x.again], .int .u64 now, undef, .pointer (some ⟨w.heap.size, 0, none⟩), .pointer (some ⟨w.heap.size + 1, 0, none⟩), undef, .pointer (some ⟨w.heap.size + 1 + 1, 0, none⟩), .pointer (some ⟨g, 0, none⟩), .int .i64 x0, u11, u12, u13, u14, u15, u16, u17, u18, u19, u20, u21, u22, u23, u24, u25, u26, u27, u28, cond b13 (.tuple #[.agg #[.int .i64 ph', .int .i64 inc', .int .i64 runs', .int .u64 since', vt, .int .u64 due', .bool armed', .int .i64 rung', .bool halt', .bool again'], .int .i64 sg, .bool bb]) (u29), cond b0 (.agg #[.string j.nm, .string j.run, .slice j.eA j.env.length j.ec, .slice j.nA j.needs.length j.nc, .bool j.hasR, .string j.ready, .int .i64 j.restart, .int .u64 j.base, .int .u64 j.cap, .int .u64 j.stable, .int .i64 j.burst, .int .u64 j.win, .slice j.lA j.lad.length j.lc, .int .i64 j.line, .int .i64 j.col]) (undef), cond b1 (.agg #[.int .i64 x.ph, .int .i64 x.inc, .int .i64 x.runs, .int .u64 x.since, .slice A x.times.length c, .int .u64 x.due, .bool x.armed, .int .i64 x.rung, .bool x.halt, .bool x.again]) (undef), cond b2 (.pointer (some ⟨g, 0, none⟩)) (undef), cond b3 (.int .i64 x1) (undef), cond b4 (.bool (decide (0 < x1))) (undef), cond b5 (.pointer (some ⟨g, 0, none⟩)) (undef), cond b6 (.int .i64 x2) (undef), cond b7 (.bool (x2 == 0)) (undef), cond b8 (.int .u64 now) (undef), cond b9 (.pointer (some ⟨g, 0, none⟩)) (undef), cond b10 (.int .i64 x3) (undef), cond b11 (.int .u64 x3) (undef), cond b12 (.tuple #[.agg #[.int .i64 ph', .int .i64 inc', .int .i64 runs', .int .u64 since', vt, .int .u64 due', .bool armed', .int .i64 rung', .bool halt', .bool again'], .int .i64 sg, .bool bb]) (undef), cond b14 (.agg #[.int .i64 ph', .int .i64 inc', .int .i64 runs', .int .u64 since', vt, .int .u64 due', .bool armed', .int .i64 rung', .bool halt', .bool again']) (undef), cond b15 (.int .i64 sg) (undef), cond b16 (.bool bb) (undef), undef, undef, undef, undef, undef, undef, undef, undef, undef, undef, undef, undef, undef, undef, undef, undef, undef, undef, undef, undef, undef, undef, undef, undef, undef, undef, undef, undef, undef, undef, undef, undef, undef, undef, undef, undef, undef, undef, undef, undef], defers := [] } ∧ AI w B g j x A c ⟨ph', inc', runs', since', times', due', armed', rung', halt', again'⟩ (cond b10 l3 (cond b6 l2 (cond b3 l1 l0))) b12 b17 vt ww
def A12I (w : World) (B g : Nat) (j : Jd) (x : Lf.T) (A : Option Addr) (c : Nat) (now : Int) (x0 x1 x2 : Int) (l0 l1 l2 : List Int) (ph' inc' runs' since' : Int) (times' : List Int) (due' : Int) (armed' : Bool) (rung' : Int) (halt' again' : Bool) (bb : Bool) (u11 u12 u13 u14 u15 u16 u17 u18 u19 u20 u21 u22 u23 u24 u25 u26 u27 u28 u29 u30 u31 u32 u33 u34 u35 u36 u37 u38 u39 u40 u41 u42 u43 u44 u45 u46 u47 u48 u49 u50 u51 u52 : Value) (listed : Array Bool) (a : Act) (ww : World) : Prop :=
  ∃ (b0 b1 b2 b3 b4 b5 b6 b7 b8 b9 b10 b11 b12 : Bool) (dummy : Nat) (vt : Value), listed = #[b0, b1, b2, b3, b4, b5, b6, b7, b8, b9, b10, b11, b12] ∧
    a = { tmps := #[.pointer (some ⟨g, 0, none⟩), .agg #[.string j.nm, .string j.run, .slice j.eA j.env.length j.ec, .slice j.nA j.needs.length j.nc, .bool j.hasR, .string j.ready, .int .i64 j.restart, .int .u64 j.base, .int .u64 j.cap, .int .u64 j.stable, .int .i64 j.burst, .int .u64 j.win, .slice j.lA j.lad.length j.lc, .int .i64 j.line, .int .i64 j.col], .agg #[.int .i64 x.ph, .int .i64 x.inc, .int .i64 x.runs, .int .u64 x.since, .slice A x.times.length c, .int .u64 x.due, .bool x.armed, .int .i64 x.rung, .bool x.halt, .bool x.again], .int .u64 now, undef, .pointer (some ⟨w.heap.size, 0, none⟩), .pointer (some ⟨w.heap.size + 1, 0, none⟩), undef, .pointer (some ⟨w.heap.size + 1 + 1, 0, none⟩), .pointer (some ⟨g, 0, none⟩), .int .i64 x0, u11, u12, u13, u14, u15, u16, u17, u18, u19, u20, u21, u22, u23, u24, u25, u26, u27, u28, u29, u30, u31, u32, u33, u34, u35, u36, u37, u38, u39, u40, u41, u42, u43, u44, u45, u46, u47, u48, u49, u50, u51, cond b9 (.tuple #[.agg #[.int .i64 ph', .int .i64 inc', .int .i64 runs', .int .u64 since', vt, .int .u64 due', .bool armed', .int .i64 rung', .bool halt', .bool again'], .bool bb]) (u52), cond b0 (.agg #[.string j.nm, .string j.run, .slice j.eA j.env.length j.ec, .slice j.nA j.needs.length j.nc, .bool j.hasR, .string j.ready, .int .i64 j.restart, .int .u64 j.base, .int .u64 j.cap, .int .u64 j.stable, .int .i64 j.burst, .int .u64 j.win, .slice j.lA j.lad.length j.lc, .int .i64 j.line, .int .i64 j.col]) (undef), cond b1 (.agg #[.int .i64 x.ph, .int .i64 x.inc, .int .i64 x.runs, .int .u64 x.since, .slice A x.times.length c, .int .u64 x.due, .bool x.armed, .int .i64 x.rung, .bool x.halt, .bool x.again]) (undef), cond b2 (.pointer (some ⟨g, 0, none⟩)) (undef), cond b3 (.int .i64 x1) (undef), cond b4 (.int .u64 now) (undef), cond b5 (.pointer (some ⟨g, 0, none⟩)) (undef), cond b6 (.int .i64 x2) (undef), cond b7 (.int .u64 x2) (undef), cond b8 (.tuple #[.agg #[.int .i64 ph', .int .i64 inc', .int .i64 runs', .int .u64 since', vt, .int .u64 due', .bool armed', .int .i64 rung', .bool halt', .bool again'], .bool bb]) (undef), cond b10 (.agg #[.int .i64 ph', .int .i64 inc', .int .i64 runs', .int .u64 since', vt, .int .u64 due', .bool armed', .int .i64 rung', .bool halt', .bool again']) (undef), cond b11 (.bool bb) (undef), undef, undef, undef, undef, undef, undef, undef, undef, undef, undef, undef, undef, undef, undef, undef, undef, undef, undef, undef, undef, undef, undef], defers := [] } ∧ AI w B g j x A c ⟨ph', inc', runs', since', times', due', armed', rung', halt', again'⟩ (cond b6 l2 (cond b3 l1 l0)) b8 b12 vt ww

def ActPost (w : World) (B g n : Nat) (e : Ending) (w' : World) : Prop := ∃ y Ay cy dl', e = .returned (lfA y Ay cy) ∧ Lf.LB y n ∧ ASR w w' B g y Ay dl'
set_option maxHeartbeats 16000000 in
set_option maxRecDepth 100000 in
theorem ractC (B g n : Nat) (dl : List Int) (j : Jd) (x : Lf.T) (A : Option Addr) (c : Nat) (now : Int) (w : World) (hj : JdOk w j) (hd : Dk w B g dl) (hn : Tk.U now) (hx : Lf.LB x n) (hnb : n ≤ 68719476000) (hts : Ts w 30 A (u64s x.times)) :
    Calls Try.prog 63 #[.pointer (some ⟨g, 0, none⟩), jdA j, lfA x A c, .int .u64 now] w (ActPost w B g (n + 1)) := by
  have HPO : Hid (∀ (y : Lf.T) Ay cy dl' w', Lf.LB y (n + 1) → ASR w w' B g y Ay dl' → ActPost w B g (n + 1) (.returned (lfA y Ay cy)) w') := Lib.hid (fun y Ay cy dl' w' h1 h2 => ⟨y, Ay, cy, dl', rfl, h1, h2⟩)
  have HX := Lib.hid hx
  have HJ := Lib.hid hj
  have HAS : Hid (AS w (((w.alloc (.cells #[.string j.nm, .string j.run, .slice j.eA j.env.length j.ec, .slice j.nA j.needs.length j.nc, .bool j.hasR, .string j.ready, .int .i64 j.restart, .int .u64 j.base, .int .u64 j.cap, .int .u64 j.stable, .int .i64 j.burst, .int .u64 j.win, .slice j.lA j.lad.length j.lc, .int .i64 j.line, .int .i64 j.col] 33)).alloc (.cells #[.int .i64 x.ph, .int .i64 x.inc, .int .i64 x.runs, .int .u64 x.since, .slice A x.times.length c, .int .u64 x.due, .bool x.armed, .int .i64 x.rung, .bool x.halt, .bool x.again] 48)).alloc (.cells #[.int .i64 0, .int .i64 0, .int .i64 0, .int .u64 0, .slice none 0 0, .int .u64 0, .bool false, .int .i64 0, .bool false, .bool false] 48)) B g j x A c dl) := Lib.hid (by
    obtain ⟨b1, b2, b3, hO⟩ := three_ (Old.refl (((w.alloc (.cells #[.string j.nm, .string j.run, .slice j.eA j.env.length j.ec, .slice j.nA j.needs.length j.nc, .bool j.hasR, .string j.ready, .int .i64 j.restart, .int .u64 j.base, .int .u64 j.cap, .int .u64 j.stable, .int .i64 j.burst, .int .u64 j.win, .slice j.lA j.lad.length j.lc, .int .i64 j.line, .int .i64 j.col] 33)).alloc (.cells #[.int .i64 x.ph, .int .i64 x.inc, .int .i64 x.runs, .int .u64 x.since, .slice A x.times.length c, .int .u64 x.due, .bool x.armed, .int .i64 x.rung, .bool x.halt, .bool x.again] 48)).alloc (.cells #[.int .i64 0, .int .i64 0, .int .i64 0, .int .u64 0, .slice none 0 0, .int .u64 0, .bool false, .int .i64 0, .bool false, .bool false] 48)))
    exact ⟨b1, b2, b3, hj.up hO, hts.up hO, hd.up hO, old_grown_ hO ⟨rfl, rfl, rfl, Nat.le_refl _, fun _ _ _ => rfl⟩, hd.lt⟩)
  clear hx hj hd hts
  unfold lfA jdA
  go_enter Try.func63, Try.ntmps63
  go_upto_region 1 with fail
  generalize (((w.alloc (.cells #[.string j.nm, .string j.run, .slice j.eA j.env.length j.ec, .slice j.nA j.needs.length j.nc, .bool j.hasR, .string j.ready, .int .i64 j.restart, .int .u64 j.base, .int .u64 j.cap, .int .u64 j.stable, .int .i64 j.burst, .int .u64 j.win, .slice j.lA j.lad.length j.lc, .int .i64 j.line, .int .i64 j.col] 33)).alloc (.cells #[.int .i64 x.ph, .int .i64 x.inc, .int .i64 x.runs, .int .u64 x.since, .slice A x.times.length c, .int .u64 x.due, .bool x.armed, .int .i64 x.rung, .bool x.halt, .bool x.again] 48)).alloc (.cells #[.int .i64 0, .int .i64 0, .int .i64 0, .int .u64 0, .slice none 0 0, .int .u64 0, .bool false, .int .i64 0, .bool false, .bool false] 48)) = wa at *
  obtain ⟨x0, l0, e0⟩ : ∃ x r, nx dl 10 = (x, r) := ⟨_, _, rfl⟩
  have hx0 := nx_bd dl (show (1 : Int) ≤ 10 by decide)
  have hnd := nextDeck B g dl 10 wa HAS.out.dk (by decide) (by decide)
  unfold NextPost at hnd
  rw [e0] at hnd hx0
  simp only at hx0 hnd
  have HN := Lib.hid hnd
  clear hnd e0
  go_wp2_with fail
  refine (HN.out).mono ?_; rintro e wb ⟨rfl, hdb, hgb⟩
  have HAS1 := Lib.hid (HAS.out.turn hdb hgb)
  clear HN HAS hdb hgb
  go_upto_block 0 with fail
  go_cut [] (fun wx => ∃ y Ay cy dl', Lf.LB y (n + 1) ∧ AS w wx B g j y Ay cy dl')
  case first =>
    have hx1 : x0 = 0 ∨ x0 = 1 ∨ x0 = 2 ∨ x0 = 3 ∨ x0 = 4 ∨ x0 = 5 ∨ x0 = 6 ∨ x0 = 7 ∨ x0 = 8 ∨ x0 = 9 := by omega
    clear hx0 HPO
    rcases hx1 with hx0 | hx1 | hx2 | hx3 | hx4 | hx5 | hx6 | hx7 | hx8 | hx9
    · subst hx0
      have HLB := Lib.hid (Lf.lb_spawn HX.out)
      have hsp := fun W (hk : JdOk W j) (ht : Ts W 30 A (u64s x.times)) => rspawnC x A c W ht
      generalize Lf.spawn x = q at *
      obtain ⟨⟨ph', inc', runs', since', times', due', armed', rung', halt', again'⟩, bb⟩ := q
      unfold LfPb lfA at hsp
      try unfold jdA at hsp
      simp only at hsp
      have HSP := Lib.hid hsp
      clear hsp
      have bl1 : _ = some (Obj.cells #[.int .i64 x.ph, .int .i64 x.inc, .int .i64 x.runs, .int .u64 x.since, .slice A x.times.length c, .int .u64 x.due, .bool x.armed, .int .i64 x.rung, .bool x.halt, .bool x.again] 48 (0, 0)) := HAS1.out.bl
      have bj1 : _ = some (Obj.cells #[.string j.nm, .string j.run, .slice j.eA j.env.length j.ec, .slice j.nA j.needs.length j.nc, .bool j.hasR, .string j.ready, .int .i64 j.restart, .int .u64 j.base, .int .u64 j.cap, .int .u64 j.stable, .int .i64 j.burst, .int .u64 j.win, .slice j.lA j.lad.length j.lc, .int .i64 j.line, .int .i64 j.col] 33 (0, 0)) := HAS1.out.bj
      obtain ⟨⟨c0, c1, c2, c3, c4, c5, c6, c7, c8, c9⟩, f0, f1, f2, f3, f4, f5, f6, f7, f8, f9⟩ := row10 (bl1)
      obtain ⟨⟨e0, e1, e2, e3, e4, e5, e6, e7, e8, e9, e10, e11, e12, e13, e14⟩, _⟩ := row15 (bj1)
      have hp := HSP.out _ HAS1.out.ok HAS1.out.ts
      go_wp2_with fail
      refine (hp).mono ?_; rintro e w3 ⟨Ay, cy, rfl, ht, hd⟩
      have HAS3 := Lib.hid (HAS1.out.up hd)
      have bl3 : _ = some (Obj.cells #[.int .i64 x.ph, .int .i64 x.inc, .int .i64 x.runs, .int .u64 x.since, .slice A x.times.length c, .int .u64 x.due, .bool x.armed, .int .i64 x.rung, .bool x.halt, .bool x.again] 48 (0, 0)) := HAS3.out.bl
      clear hd bl1 bj1 hp c0 c1 c2 c3 c4 c5 c6 c7 c8 c9 f0 f1 f2 f3 f4 f5 f6 f7 f8 f9 e0 e1 e2 e3 e4 e5 e6 e7 e8 e9 e10 e11 e12 e13 e14
      obtain ⟨⟨c0, c1, c2, c3, c4, c5, c6, c7, c8, c9⟩, f0, f1, f2, f3, f4, f5, f6, f7, f8, f9⟩ := row10 (bl3)
      have HAS4 := Lib.hid (HAS3.out.put (y := ⟨ph', inc', runs', since', times', due', armed', rung', halt', again'⟩) (cy := cy) ht)
      clear ht HAS1 HAS3 bl3
      go_wp2_with fail
      go_meet
      case rel => exact ⟨⟨ph', inc', runs', since', times', due', armed', rung', halt', again'⟩, Ay, cy, _, HLB.out, HAS4.out⟩
    · subst hx1
      have HLB := Lib.hid (Lf.lb_spawn HX.out)
      have hsp := fun W (hk : JdOk W j) (ht : Ts W 30 A (u64s x.times)) => rspawnC x A c W ht
      generalize Lf.spawn x = q at *
      obtain ⟨⟨ph', inc', runs', since', times', due', armed', rung', halt', again'⟩, bb⟩ := q
      unfold LfPb lfA at hsp
      try unfold jdA at hsp
      simp only at hsp
      have HSP := Lib.hid hsp
      clear hsp
      have bl1 : _ = some (Obj.cells #[.int .i64 x.ph, .int .i64 x.inc, .int .i64 x.runs, .int .u64 x.since, .slice A x.times.length c, .int .u64 x.due, .bool x.armed, .int .i64 x.rung, .bool x.halt, .bool x.again] 48 (0, 0)) := HAS1.out.bl
      have bj1 : _ = some (Obj.cells #[.string j.nm, .string j.run, .slice j.eA j.env.length j.ec, .slice j.nA j.needs.length j.nc, .bool j.hasR, .string j.ready, .int .i64 j.restart, .int .u64 j.base, .int .u64 j.cap, .int .u64 j.stable, .int .i64 j.burst, .int .u64 j.win, .slice j.lA j.lad.length j.lc, .int .i64 j.line, .int .i64 j.col] 33 (0, 0)) := HAS1.out.bj
      obtain ⟨⟨c0, c1, c2, c3, c4, c5, c6, c7, c8, c9⟩, f0, f1, f2, f3, f4, f5, f6, f7, f8, f9⟩ := row10 (bl1)
      obtain ⟨⟨e0, e1, e2, e3, e4, e5, e6, e7, e8, e9, e10, e11, e12, e13, e14⟩, _⟩ := row15 (bj1)
      have hp := HSP.out _ HAS1.out.ok HAS1.out.ts
      go_wp2_with fail
      refine (hp).mono ?_; rintro e w3 ⟨Ay, cy, rfl, ht, hd⟩
      have HAS3 := Lib.hid (HAS1.out.up hd)
      have bl3 : _ = some (Obj.cells #[.int .i64 x.ph, .int .i64 x.inc, .int .i64 x.runs, .int .u64 x.since, .slice A x.times.length c, .int .u64 x.due, .bool x.armed, .int .i64 x.rung, .bool x.halt, .bool x.again] 48 (0, 0)) := HAS3.out.bl
      clear hd bl1 bj1 hp c0 c1 c2 c3 c4 c5 c6 c7 c8 c9 f0 f1 f2 f3 f4 f5 f6 f7 f8 f9 e0 e1 e2 e3 e4 e5 e6 e7 e8 e9 e10 e11 e12 e13 e14
      obtain ⟨⟨c0, c1, c2, c3, c4, c5, c6, c7, c8, c9⟩, f0, f1, f2, f3, f4, f5, f6, f7, f8, f9⟩ := row10 (bl3)
      have HAS4 := Lib.hid (HAS3.out.put (y := ⟨ph', inc', runs', since', times', due', armed', rung', halt', again'⟩) (cy := cy) ht)
      clear ht HAS1 HAS3 bl3
      go_wp2_with fail
      go_meet
      case rel => exact ⟨⟨ph', inc', runs', since', times', due', armed', rung', halt', again'⟩, Ay, cy, _, HLB.out, HAS4.out⟩
    · subst hx2
      obtain ⟨x1, l1, e1⟩ : ∃ x r, nx l0 4 = (x, r) := ⟨_, _, rfl⟩
      have d1 := nx_bd l0 (show (1 : Int) ≤ 4 by decide)
      rw [e1] at d1
      simp only at d1
      obtain ⟨x2, l2, e2⟩ : ∃ x r, nx l1 2 = (x, r) := ⟨_, _, rfl⟩
      have d2 := nx_bd l1 (show (1 : Int) ≤ 2 by decide)
      rw [e2] at d2
      simp only at d2
      obtain ⟨x3, l3, e3⟩ : ∃ x r, nx l2 5 = (x, r) := ⟨_, _, rfl⟩
      have d3 := nx_bd l2 (show (1 : Int) ≤ 5 by decide)
      rw [e3] at d3
      simp only at d3
      have hxj : Tk.U x3 := ⟨by omega, by omega⟩
      have HLB := Lib.hid (Lf.lb_spawned (j := j.j) (ok := decide (0 < x1)) (ready := x2 == 0) HX.out HJ.out.ok HJ.out.base HJ.out.cap hn hxj)
      have hsp := fun W (hk : JdOk W j) (ht : Ts W 30 A (u64s x.times)) => rspawnedC j x A c (decide (0 < x1)) (x2 == 0) now x3 W hk hn hxj HX.out.1 HX.out.2.1 ht (Nat.le_trans HX.out.2.2 hnb)
      generalize Lf.spawned j.j x (decide (0 < x1)) (x2 == 0) now x3 = q at *
      obtain ⟨⟨ph', inc', runs', since', times', due', armed', rung', halt', again'⟩, sg, bb⟩ := q
      unfold LfPib lfA at hsp
      try unfold jdA at hsp
      simp only at hsp
      have HSP := Lib.hid hsp
      clear hsp hxj
      go_upto_region 8 with fail
      refine wp_region_steps2V (by kernel_rfl) (by kernel_rfl) (fun (u_ : Value × Value × Value × Value × Value × Value × Value × Value × Value × Value × Value × Value × Value × Value × Value × Value × Value × Value × Value) => A8I w B g j x A c now 2 x1 x2 x3 l0 l1 l2 l3 ph' inc' runs' since' times' due' armed' rung' halt' again' sg bb u_.1 u_.2.1 u_.2.2.1 u_.2.2.2.1 u_.2.2.2.2.1 u_.2.2.2.2.2.1 u_.2.2.2.2.2.2.1 u_.2.2.2.2.2.2.2.1 u_.2.2.2.2.2.2.2.2.1 u_.2.2.2.2.2.2.2.2.2.1 u_.2.2.2.2.2.2.2.2.2.2.1 u_.2.2.2.2.2.2.2.2.2.2.2.1 u_.2.2.2.2.2.2.2.2.2.2.2.2.1 u_.2.2.2.2.2.2.2.2.2.2.2.2.2.1 u_.2.2.2.2.2.2.2.2.2.2.2.2.2.2.1 u_.2.2.2.2.2.2.2.2.2.2.2.2.2.2.2.1 u_.2.2.2.2.2.2.2.2.2.2.2.2.2.2.2.2.1 u_.2.2.2.2.2.2.2.2.2.2.2.2.2.2.2.2.2.1 u_.2.2.2.2.2.2.2.2.2.2.2.2.2.2.2.2.2.2) ?_ ?_ ?_
      · exact ⟨(_, _, _, _, _, _, _, _, _, _, _, _, _, _, _, _, _, _, _), false, false, false, false, false, false, false, false, false, false, false, false, false, false, false, false, false, false, 0, undef, rfl, rfl, ⟨fun _ => HAS1.out.up ((Old.refl _).drew), (fun h => by cases h), (fun h => by cases h)⟩⟩
      · rintro ⟨u11, u12, u13, u14, u15, u16, u17, u18, u19, u20, u21, u22, u23, u24, u25, u26, u27, u28, u29⟩ a w1 ⟨b0, b1, b2, b3, b4, b5, b6, b7, b8, b9, b10, b11, b12, b13, b14, b15, b16, b17, dummy, vt, hl, rfl, hF⟩
        have hl' := congrArg Array.toList hl
        simp at hl'
        obtain ⟨rfl, rfl, rfl, rfl, rfl, rfl, rfl, rfl, rfl, rfl, rfl, rfl, rfl, rfl, rfl, rfl, rfl, rfl⟩ := hl'
        clear hl
        obtain ⟨Ay, cy, hv, has⟩ := hF.2.2 rfl
        subst hv
        have HAS := Lib.hid has
        clear hF has
        go_wp2_with fail
        go_meet
        case rel => exact ⟨⟨ph', inc', runs', since', times', due', armed', rung', halt', again'⟩, Ay, cy, _, HLB.out, HAS.out⟩
      · rintro ⟨u11, u12, u13, u14, u15, u16, u17, u18, u19, u20, u21, u22, u23, u24, u25, u26, u27, u28, u29⟩
        refine ⟨?_, ?_, ?_, ?_, ?_, ?_, ?_, ?_, ?_, ?_, ?_, ?_, ?_, ?_, ?_, ?_, ?_, ?_, trivial⟩
        · intro listed a w1 K hs hcl hf hall hI hK
          obtain ⟨b0, b1, b2, b3, b4, b5, b6, b7, b8, b9, b10, b11, b12, b13, b14, b15, b16, b17, dummy, vt, rfl, rfl, hF⟩ := hI
          have hf' : b0 = false := hf
          subst hf'
          have hb12 : b12 = false := by
            cases b12
            · rfl
            · exact absurd (show false = true from hcl 12 _ rfl rfl ⟨0, .data⟩ (by first | exact .head _ | simp) rfl) (by decide)
          subst hb12
          have hb17 : b17 = false := by
            cases b17
            · rfl
            · exact absurd (show false = true from hcl 17 _ rfl rfl ⟨0, .phase⟩ (by first | exact .head _ | simp) rfl) (by decide)
          subst hb17
          have hb13 : b13 = false := by
            cases b13
            · rfl
            · exact absurd (show false = true from hcl 13 _ rfl rfl ⟨12, .data⟩ (by first | exact .head _ | simp) rfl) (by decide)
          subst hb13
          have hb14 : b14 = false := by
            cases b14
            · rfl
            · exact absurd (show false = true from hcl 14 _ rfl rfl ⟨13, .data⟩ (by first | exact .head _ | simp) rfl) (by decide)
          subst hb14
          have hb15 : b15 = false := by
            cases b15
            · rfl
            · exact absurd (show false = true from hcl 15 _ rfl rfl ⟨13, .data⟩ (by first | exact .head _ | simp) rfl) (by decide)
          subst hb15
          have hb16 : b16 = false := by
            cases b16
            · rfl
            · exact absurd (show false = true from hcl 16 _ rfl rfl ⟨13, .data⟩ (by first | exact .head _ | simp) rfl) (by decide)
          subst hb16
          clear hall hcl hs hf
          obtain ⟨⟨e0, e1, e2, e3, e4, e5, e6, e7, e8, e9, e10, e11, e12, e13, e14⟩, _⟩ := row15 (show _ = some (Obj.cells #[.string j.nm, .string j.run, .slice j.eA j.env.length j.ec, .slice j.nA j.needs.length j.nc, .bool j.hasR, .string j.ready, .int .i64 j.restart, .int .u64 j.base, .int .u64 j.cap, .int .u64 j.stable, .int .i64 j.burst, .int .u64 j.win, .slice j.lA j.lad.length j.lc, .int .i64 j.line, .int .i64 j.col] 33 (0, 0)) from (hF.1 rfl).bj)
          go_simp
          exact hK _ _ ⟨true, b1, b2, b3, b4, b5, b6, b7, b8, b9, b10, b11, false, false, false, false, false, false, dummy, vt, rfl, rfl, hF⟩
        · intro listed a w1 K hs hcl hf hall hI hK
          obtain ⟨b0, b1, b2, b3, b4, b5, b6, b7, b8, b9, b10, b11, b12, b13, b14, b15, b16, b17, dummy, vt, rfl, rfl, hF⟩ := hI
          have hf' : b1 = false := hf
          subst hf'
          have hb12 : b12 = false := by
            cases b12
            · rfl
            · exact absurd (show false = true from hcl 12 _ rfl rfl ⟨1, .data⟩ (by first | exact .head _ | simp) rfl) (by decide)
          subst hb12
          have hb17 : b17 = false := by
            cases b17
            · rfl
            · exact absurd (show false = true from hcl 17 _ rfl rfl ⟨1, .phase⟩ (by first | exact .head _ | simp) rfl) (by decide)
          subst hb17
          have hb13 : b13 = false := by
            cases b13
            · rfl
            · exact absurd (show false = true from hcl 13 _ rfl rfl ⟨12, .data⟩ (by first | exact .head _ | simp) rfl) (by decide)
          subst hb13
          have hb14 : b14 = false := by
            cases b14
            · rfl
            · exact absurd (show false = true from hcl 14 _ rfl rfl ⟨13, .data⟩ (by first | exact .head _ | simp) rfl) (by decide)
          subst hb14
          have hb15 : b15 = false := by
            cases b15
            · rfl
            · exact absurd (show false = true from hcl 15 _ rfl rfl ⟨13, .data⟩ (by first | exact .head _ | simp) rfl) (by decide)
          subst hb15
          have hb16 : b16 = false := by
            cases b16
            · rfl
            · exact absurd (show false = true from hcl 16 _ rfl rfl ⟨13, .data⟩ (by first | exact .head _ | simp) rfl) (by decide)
          subst hb16
          clear hall hcl hs hf
          obtain ⟨⟨c0, c1, c2, c3, c4, c5, c6, c7, c8, c9⟩, f0, f1, f2, f3, f4, f5, f6, f7, f8, f9⟩ := row10 (show _ = some (Obj.cells #[.int .i64 x.ph, .int .i64 x.inc, .int .i64 x.runs, .int .u64 x.since, .slice A x.times.length c, .int .u64 x.due, .bool x.armed, .int .i64 x.rung, .bool x.halt, .bool x.again] 48 (0, 0)) from (hF.1 rfl).bl)
          go_simp
          exact hK _ _ ⟨b0, true, b2, b3, b4, b5, b6, b7, b8, b9, b10, b11, false, false, false, false, false, false, dummy, vt, rfl, rfl, hF⟩
        · intro listed a w1 K hs hcl hf hall hI hK
          obtain ⟨b0, b1, b2, b3, b4, b5, b6, b7, b8, b9, b10, b11, b12, b13, b14, b15, b16, b17, dummy, vt, rfl, rfl, hF⟩ := hI
          have hf' : b2 = false := hf
          subst hf'
          clear hall hcl hs hf
          go_simp
          exact hK _ _ ⟨b0, b1, true, b3, b4, b5, b6, b7, b8, b9, b10, b11, b12, b13, b14, b15, b16, b17, dummy, vt, rfl, rfl, hF⟩
        · intro listed a w1 K hs hcl hf hall hI hK
          obtain ⟨b0, b1, b2, b3, b4, b5, b6, b7, b8, b9, b10, b11, b12, b13, b14, b15, b16, b17, dummy, vt, rfl, rfl, hF⟩ := hI
          have hf' : b3 = false := hf
          subst hf'
          have hq2 : b2 = true := hall ⟨2, .data⟩ (by first | exact .head _ | simp) rfl
          subst hq2
          have hb4 : b4 = false := by
            cases b4
            · rfl
            · exact absurd (show false = true from hcl 4 _ rfl rfl ⟨3, .data⟩ (by first | exact .head _ | simp) rfl) (by decide)
          subst hb4
          have hb6 : b6 = false := by
            cases b6
            · rfl
            · exact absurd (show false = true from hcl 6 _ rfl rfl ⟨3, .chain⟩ (by first | exact .head _ | simp) rfl) (by decide)
          subst hb6
          have hb17 : b17 = false := by
            cases b17
            · rfl
            · exact absurd (show false = true from hcl 17 _ rfl rfl ⟨3, .phase⟩ (by first | exact .head _ | simp) rfl) (by decide)
          subst hb17
          have hb12 : b12 = false := by
            cases b12
            · rfl
            · exact absurd (show false = true from hcl 12 _ rfl rfl ⟨4, .data⟩ (by first | exact .head _ | simp) rfl) (by decide)
          subst hb12
          have hb7 : b7 = false := by
            cases b7
            · rfl
            · exact absurd (show false = true from hcl 7 _ rfl rfl ⟨6, .data⟩ (by first | exact .head _ | simp) rfl) (by decide)
          subst hb7
          have hb10 : b10 = false := by
            cases b10
            · rfl
            · exact absurd (show false = true from hcl 10 _ rfl rfl ⟨6, .chain⟩ (by first | exact .head _ | simp) rfl) (by decide)
          subst hb10
          have hb13 : b13 = false := by
            cases b13
            · rfl
            · exact absurd (show false = true from hcl 13 _ rfl rfl ⟨12, .data⟩ (by first | exact .head _ | simp) rfl) (by decide)
          subst hb13
          have hb11 : b11 = false := by
            cases b11
            · rfl
            · exact absurd (show false = true from hcl 11 _ rfl rfl ⟨10, .data⟩ (by first | exact .head _ | simp) rfl) (by decide)
          subst hb11
          have hb14 : b14 = false := by
            cases b14
            · rfl
            · exact absurd (show false = true from hcl 14 _ rfl rfl ⟨13, .data⟩ (by first | exact .head _ | simp) rfl) (by decide)
          subst hb14
          have hb15 : b15 = false := by
            cases b15
            · rfl
            · exact absurd (show false = true from hcl 15 _ rfl rfl ⟨13, .data⟩ (by first | exact .head _ | simp) rfl) (by decide)
          subst hb15
          have hb16 : b16 = false := by
            cases b16
            · rfl
            · exact absurd (show false = true from hcl 16 _ rfl rfl ⟨13, .data⟩ (by first | exact .head _ | simp) rfl) (by decide)
          subst hb16
          clear hall hcl hs hf
          have hn := nextDeck B g l0 4 w1 (hF.1 rfl).dk (by decide) (by decide)
          rw [e1] at hn
          go_simp
          refine hn.mono ?_
          rintro e w2 ⟨rfl, hd, hg⟩
          exact hK _ _ ⟨b0, b1, true, true, false, b5, false, false, b8, b9, false, false, false, false, false, false, false, false, dummy, vt, rfl, rfl, ⟨fun _ => (hF.1 rfl).turn hd hg, (fun h => by cases h), (fun h => by cases h)⟩⟩
        · intro listed a w1 K hs hcl hf hall hI hK
          obtain ⟨b0, b1, b2, b3, b4, b5, b6, b7, b8, b9, b10, b11, b12, b13, b14, b15, b16, b17, dummy, vt, rfl, rfl, hF⟩ := hI
          have hf' : b4 = false := hf
          subst hf'
          have hq3 : b3 = true := hall ⟨3, .data⟩ (by first | exact .head _ | simp) rfl
          subst hq3
          clear hall hcl hs hf
          go_simp
          exact hK _ _ ⟨b0, b1, b2, true, true, b5, b6, b7, b8, b9, b10, b11, b12, b13, b14, b15, b16, b17, dummy, vt, rfl, rfl, hF⟩
        · intro listed a w1 K hs hcl hf hall hI hK
          obtain ⟨b0, b1, b2, b3, b4, b5, b6, b7, b8, b9, b10, b11, b12, b13, b14, b15, b16, b17, dummy, vt, rfl, rfl, hF⟩ := hI
          have hf' : b5 = false := hf
          subst hf'
          clear hall hcl hs hf
          go_simp
          exact hK _ _ ⟨b0, b1, b2, b3, b4, true, b6, b7, b8, b9, b10, b11, b12, b13, b14, b15, b16, b17, dummy, vt, rfl, rfl, hF⟩
        · intro listed a w1 K hs hcl hf hall hI hK
          obtain ⟨b0, b1, b2, b3, b4, b5, b6, b7, b8, b9, b10, b11, b12, b13, b14, b15, b16, b17, dummy, vt, rfl, rfl, hF⟩ := hI
          have hf' : b6 = false := hf
          subst hf'
          have hq5 : b5 = true := hall ⟨5, .data⟩ (by first | exact .head _ | simp) rfl
          subst hq5
          have hq3 : b3 = true := hall ⟨3, .chain⟩ (by first | exact .head _ | simp) rfl
          subst hq3
          have hq2 : b2 = true := hcl 3 _ rfl rfl ⟨2, .data⟩ (by first | exact .head _ | simp) rfl
          subst hq2
          have hb7 : b7 = false := by
            cases b7
            · rfl
            · exact absurd (show false = true from hcl 7 _ rfl rfl ⟨6, .data⟩ (by first | exact .head _ | simp) rfl) (by decide)
          subst hb7
          have hb10 : b10 = false := by
            cases b10
            · rfl
            · exact absurd (show false = true from hcl 10 _ rfl rfl ⟨6, .chain⟩ (by first | exact .head _ | simp) rfl) (by decide)
          subst hb10
          have hb17 : b17 = false := by
            cases b17
            · rfl
            · exact absurd (show false = true from hcl 17 _ rfl rfl ⟨6, .phase⟩ (by first | exact .head _ | simp) rfl) (by decide)
          subst hb17
          have hb12 : b12 = false := by
            cases b12
            · rfl
            · exact absurd (show false = true from hcl 12 _ rfl rfl ⟨7, .data⟩ (by first | exact .head _ | simp) rfl) (by decide)
          subst hb12
          have hb11 : b11 = false := by
            cases b11
            · rfl
            · exact absurd (show false = true from hcl 11 _ rfl rfl ⟨10, .data⟩ (by first | exact .head _ | simp) rfl) (by decide)
          subst hb11
          have hb13 : b13 = false := by
            cases b13
            · rfl
            · exact absurd (show false = true from hcl 13 _ rfl rfl ⟨12, .data⟩ (by first | exact .head _ | simp) rfl) (by decide)
          subst hb13
          have hb14 : b14 = false := by
            cases b14
            · rfl
            · exact absurd (show false = true from hcl 14 _ rfl rfl ⟨13, .data⟩ (by first | exact .head _ | simp) rfl) (by decide)
          subst hb14
          have hb15 : b15 = false := by
            cases b15
            · rfl
            · exact absurd (show false = true from hcl 15 _ rfl rfl ⟨13, .data⟩ (by first | exact .head _ | simp) rfl) (by decide)
          subst hb15
          have hb16 : b16 = false := by
            cases b16
            · rfl
            · exact absurd (show false = true from hcl 16 _ rfl rfl ⟨13, .data⟩ (by first | exact .head _ | simp) rfl) (by decide)
          subst hb16
          clear hall hcl hs hf
          have hn := nextDeck B g l1 2 w1 (hF.1 rfl).dk (by decide) (by decide)
          rw [e2] at hn
          go_simp
          refine hn.mono ?_
          rintro e w2 ⟨rfl, hd, hg⟩
          exact hK _ _ ⟨b0, b1, true, true, b4, true, true, false, b8, b9, false, false, false, false, false, false, false, false, dummy, vt, rfl, rfl, ⟨fun _ => (hF.1 rfl).turn hd hg, (fun h => by cases h), (fun h => by cases h)⟩⟩
        · intro listed a w1 K hs hcl hf hall hI hK
          obtain ⟨b0, b1, b2, b3, b4, b5, b6, b7, b8, b9, b10, b11, b12, b13, b14, b15, b16, b17, dummy, vt, rfl, rfl, hF⟩ := hI
          have hf' : b7 = false := hf
          subst hf'
          have hq6 : b6 = true := hall ⟨6, .data⟩ (by first | exact .head _ | simp) rfl
          subst hq6
          clear hall hcl hs hf
          go_simp
          exact hK _ _ ⟨b0, b1, b2, b3, b4, b5, true, true, b8, b9, b10, b11, b12, b13, b14, b15, b16, b17, dummy, vt, rfl, rfl, hF⟩
        · intro listed a w1 K hs hcl hf hall hI hK
          obtain ⟨b0, b1, b2, b3, b4, b5, b6, b7, b8, b9, b10, b11, b12, b13, b14, b15, b16, b17, dummy, vt, rfl, rfl, hF⟩ := hI
          have hf' : b8 = false := hf
          subst hf'
          clear hall hcl hs hf
          go_simp
          exact hK _ _ ⟨b0, b1, b2, b3, b4, b5, b6, b7, true, b9, b10, b11, b12, b13, b14, b15, b16, b17, dummy, vt, rfl, rfl, hF⟩
        · intro listed a w1 K hs hcl hf hall hI hK
          obtain ⟨b0, b1, b2, b3, b4, b5, b6, b7, b8, b9, b10, b11, b12, b13, b14, b15, b16, b17, dummy, vt, rfl, rfl, hF⟩ := hI
          have hf' : b9 = false := hf
          subst hf'
          clear hall hcl hs hf
          go_simp
          exact hK _ _ ⟨b0, b1, b2, b3, b4, b5, b6, b7, b8, true, b10, b11, b12, b13, b14, b15, b16, b17, dummy, vt, rfl, rfl, hF⟩
        · intro listed a w1 K hs hcl hf hall hI hK
          obtain ⟨b0, b1, b2, b3, b4, b5, b6, b7, b8, b9, b10, b11, b12, b13, b14, b15, b16, b17, dummy, vt, rfl, rfl, hF⟩ := hI
          have hf' : b10 = false := hf
          subst hf'
          have hq9 : b9 = true := hall ⟨9, .data⟩ (by first | exact .head _ | simp) rfl
          subst hq9
          have hq6 : b6 = true := hall ⟨6, .chain⟩ (by first | exact .head _ | simp) rfl
          subst hq6
          have hq5 : b5 = true := hcl 6 _ rfl rfl ⟨5, .data⟩ (by first | exact .head _ | simp) rfl
          subst hq5
          have hq3 : b3 = true := hcl 6 _ rfl rfl ⟨3, .chain⟩ (by first | exact .head _ | simp) rfl
          subst hq3
          have hq2 : b2 = true := hcl 3 _ rfl rfl ⟨2, .data⟩ (by first | exact .head _ | simp) rfl
          subst hq2
          have hb11 : b11 = false := by
            cases b11
            · rfl
            · exact absurd (show false = true from hcl 11 _ rfl rfl ⟨10, .data⟩ (by first | exact .head _ | simp) rfl) (by decide)
          subst hb11
          have hb12 : b12 = false := by
            cases b12
            · rfl
            · exact absurd (show false = true from hcl 12 _ rfl rfl ⟨10, .chain⟩ (by first | exact .head _ | simp) rfl) (by decide)
          subst hb12
          have hb17 : b17 = false := by
            cases b17
            · rfl
            · exact absurd (show false = true from hcl 17 _ rfl rfl ⟨10, .phase⟩ (by first | exact .head _ | simp) rfl) (by decide)
          subst hb17
          have hb13 : b13 = false := by
            cases b13
            · rfl
            · exact absurd (show false = true from hcl 13 _ rfl rfl ⟨12, .data⟩ (by first | exact .head _ | simp) rfl) (by decide)
          subst hb13
          have hb14 : b14 = false := by
            cases b14
            · rfl
            · exact absurd (show false = true from hcl 14 _ rfl rfl ⟨13, .data⟩ (by first | exact .head _ | simp) rfl) (by decide)
          subst hb14
          have hb15 : b15 = false := by
            cases b15
            · rfl
            · exact absurd (show false = true from hcl 15 _ rfl rfl ⟨13, .data⟩ (by first | exact .head _ | simp) rfl) (by decide)
          subst hb15
          have hb16 : b16 = false := by
            cases b16
            · rfl
            · exact absurd (show false = true from hcl 16 _ rfl rfl ⟨13, .data⟩ (by first | exact .head _ | simp) rfl) (by decide)
          subst hb16
          clear hall hcl hs hf
          have hn := nextDeck B g l2 5 w1 (hF.1 rfl).dk (by decide) (by decide)
          rw [e3] at hn
          go_simp
          refine hn.mono ?_
          rintro e w2 ⟨rfl, hd, hg⟩
          exact hK _ _ ⟨b0, b1, true, true, b4, true, true, b7, b8, true, true, false, false, false, false, false, false, false, dummy, vt, rfl, rfl, ⟨fun _ => (hF.1 rfl).turn hd hg, (fun h => by cases h), (fun h => by cases h)⟩⟩
        · intro listed a w1 K hs hcl hf hall hI hK
          obtain ⟨b0, b1, b2, b3, b4, b5, b6, b7, b8, b9, b10, b11, b12, b13, b14, b15, b16, b17, dummy, vt, rfl, rfl, hF⟩ := hI
          have hf' : b11 = false := hf
          subst hf'
          have hq10 : b10 = true := hall ⟨10, .data⟩ (by first | exact .head _ | simp) rfl
          subst hq10
          have hq9 : b9 = true := hcl 10 _ rfl rfl ⟨9, .data⟩ (by first | exact .head _ | simp) rfl
          subst hq9
          have hq6 : b6 = true := hcl 10 _ rfl rfl ⟨6, .chain⟩ (by first | exact .head _ | simp) rfl
          subst hq6
          have hq5 : b5 = true := hcl 6 _ rfl rfl ⟨5, .data⟩ (by first | exact .head _ | simp) rfl
          subst hq5
          have hq3 : b3 = true := hcl 6 _ rfl rfl ⟨3, .chain⟩ (by first | exact .head _ | simp) rfl
          subst hq3
          have hq2 : b2 = true := hcl 3 _ rfl rfl ⟨2, .data⟩ (by first | exact .head _ | simp) rfl
          subst hq2
          have hb12 : b12 = false := by
            cases b12
            · rfl
            · exact absurd (show false = true from hcl 12 _ rfl rfl ⟨11, .data⟩ (by first | exact .head _ | simp) rfl) (by decide)
          subst hb12
          have hb17 : b17 = false := by
            cases b17
            · rfl
            · exact absurd (show false = true from hcl 17 _ rfl rfl ⟨11, .phase⟩ (by first | exact .head _ | simp) rfl) (by decide)
          subst hb17
          have hb13 : b13 = false := by
            cases b13
            · rfl
            · exact absurd (show false = true from hcl 13 _ rfl rfl ⟨12, .data⟩ (by first | exact .head _ | simp) rfl) (by decide)
          subst hb13
          have hb14 : b14 = false := by
            cases b14
            · rfl
            · exact absurd (show false = true from hcl 14 _ rfl rfl ⟨13, .data⟩ (by first | exact .head _ | simp) rfl) (by decide)
          subst hb14
          have hb15 : b15 = false := by
            cases b15
            · rfl
            · exact absurd (show false = true from hcl 15 _ rfl rfl ⟨13, .data⟩ (by first | exact .head _ | simp) rfl) (by decide)
          subst hb15
          have hb16 : b16 = false := by
            cases b16
            · rfl
            · exact absurd (show false = true from hcl 16 _ rfl rfl ⟨13, .data⟩ (by first | exact .head _ | simp) rfl) (by decide)
          subst hb16
          clear hall hcl hs hf
          have hwr : IntKind.u64.wrap x3 = x3 := IntWalk.u64_in _ ⟨d3.1, by omega⟩
          go_simp
          try rw [hwr]
          exact hK _ _ ⟨b0, b1, true, true, b4, true, true, b7, b8, true, true, true, false, false, false, false, false, false, dummy, vt, rfl, rfl, hF⟩
        · intro listed a w1 K hs hcl hf hall hI hK
          obtain ⟨b0, b1, b2, b3, b4, b5, b6, b7, b8, b9, b10, b11, b12, b13, b14, b15, b16, b17, dummy, vt, rfl, rfl, hF⟩ := hI
          have hf' : b12 = false := hf
          subst hf'
          have hq0 : b0 = true := hall ⟨0, .data⟩ (by first | exact .head _ | simp) rfl
          subst hq0
          have hq1 : b1 = true := hall ⟨1, .data⟩ (by first | exact .head _ | simp) rfl
          subst hq1
          have hq4 : b4 = true := hall ⟨4, .data⟩ (by first | exact .head _ | simp) rfl
          subst hq4
          have hq7 : b7 = true := hall ⟨7, .data⟩ (by first | exact .head _ | simp) rfl
          subst hq7
          have hq8 : b8 = true := hall ⟨8, .data⟩ (by first | exact .head _ | simp) rfl
          subst hq8
          have hq11 : b11 = true := hall ⟨11, .data⟩ (by first | exact .head _ | simp) rfl
          subst hq11
          have hq10 : b10 = true := hall ⟨10, .chain⟩ (by first | exact .head _ | simp) rfl
          subst hq10
          have hq3 : b3 = true := hcl 4 _ rfl rfl ⟨3, .data⟩ (by first | exact .head _ | simp) rfl
          subst hq3
          have hq6 : b6 = true := hcl 7 _ rfl rfl ⟨6, .data⟩ (by first | exact .head _ | simp) rfl
          subst hq6
          have hq9 : b9 = true := hcl 10 _ rfl rfl ⟨9, .data⟩ (by first | exact .head _ | simp) rfl
          subst hq9
          have hq2 : b2 = true := hcl 3 _ rfl rfl ⟨2, .data⟩ (by first | exact .head _ | simp) rfl
          subst hq2
          have hq5 : b5 = true := hcl 6 _ rfl rfl ⟨5, .data⟩ (by first | exact .head _ | simp) rfl
          subst hq5
          have hb13 : b13 = false := by
            cases b13
            · rfl
            · exact absurd (show false = true from hcl 13 _ rfl rfl ⟨12, .data⟩ (by first | exact .head _ | simp) rfl) (by decide)
          subst hb13
          have hb17 : b17 = false := by
            cases b17
            · rfl
            · exact absurd (show false = true from hcl 17 _ rfl rfl ⟨12, .chain⟩ (by first | exact .head _ | simp) rfl) (by decide)
          subst hb17
          have hb14 : b14 = false := by
            cases b14
            · rfl
            · exact absurd (show false = true from hcl 14 _ rfl rfl ⟨13, .data⟩ (by first | exact .head _ | simp) rfl) (by decide)
          subst hb14
          have hb15 : b15 = false := by
            cases b15
            · rfl
            · exact absurd (show false = true from hcl 15 _ rfl rfl ⟨13, .data⟩ (by first | exact .head _ | simp) rfl) (by decide)
          subst hb15
          have hb16 : b16 = false := by
            cases b16
            · rfl
            · exact absurd (show false = true from hcl 16 _ rfl rfl ⟨13, .data⟩ (by first | exact .head _ | simp) rfl) (by decide)
          subst hb16
          clear hall hcl hs hf
          have hp := HSP.out w1 (hF.1 rfl).ok (hF.1 rfl).ts
          go_simp
          refine hp.mono ?_
          rintro e w2 ⟨Ay, cy, rfl, ht, hd⟩
          exact hK _ _ ⟨true, true, true, true, true, true, true, true, true, true, true, true, true, false, false, false, false, false, dummy, .slice Ay times'.length cy, rfl, rfl, ⟨fun _ => (hF.1 rfl).up hd, fun _ => ⟨Ay, cy, rfl, ht⟩, (fun h => by cases h)⟩⟩
        · intro listed a w1 K hs hcl hf hall hI hK
          obtain ⟨b0, b1, b2, b3, b4, b5, b6, b7, b8, b9, b10, b11, b12, b13, b14, b15, b16, b17, dummy, vt, rfl, rfl, hF⟩ := hI
          have hf' : b13 = false := hf
          subst hf'
          have hq12 : b12 = true := hall ⟨12, .data⟩ (by first | exact .head _ | simp) rfl
          subst hq12
          clear hall hcl hs hf
          go_simp
          exact hK _ _ ⟨b0, b1, b2, b3, b4, b5, b6, b7, b8, b9, b10, b11, true, true, b14, b15, b16, b17, dummy, vt, rfl, rfl, hF⟩
        · intro listed a w1 K hs hcl hf hall hI hK
          obtain ⟨b0, b1, b2, b3, b4, b5, b6, b7, b8, b9, b10, b11, b12, b13, b14, b15, b16, b17, dummy, vt, rfl, rfl, hF⟩ := hI
          have hf' : b14 = false := hf
          subst hf'
          have hq13 : b13 = true := hall ⟨13, .data⟩ (by first | exact .head _ | simp) rfl
          subst hq13
          clear hall hcl hs hf
          go_simp
          exact hK _ _ ⟨b0, b1, b2, b3, b4, b5, b6, b7, b8, b9, b10, b11, b12, true, true, b15, b16, b17, dummy, vt, rfl, rfl, hF⟩
        · intro listed a w1 K hs hcl hf hall hI hK
          obtain ⟨b0, b1, b2, b3, b4, b5, b6, b7, b8, b9, b10, b11, b12, b13, b14, b15, b16, b17, dummy, vt, rfl, rfl, hF⟩ := hI
          have hf' : b15 = false := hf
          subst hf'
          have hq13 : b13 = true := hall ⟨13, .data⟩ (by first | exact .head _ | simp) rfl
          subst hq13
          clear hall hcl hs hf
          go_simp
          exact hK _ _ ⟨b0, b1, b2, b3, b4, b5, b6, b7, b8, b9, b10, b11, b12, true, b14, true, b16, b17, dummy, vt, rfl, rfl, hF⟩
        · intro listed a w1 K hs hcl hf hall hI hK
          obtain ⟨b0, b1, b2, b3, b4, b5, b6, b7, b8, b9, b10, b11, b12, b13, b14, b15, b16, b17, dummy, vt, rfl, rfl, hF⟩ := hI
          have hf' : b16 = false := hf
          subst hf'
          have hq13 : b13 = true := hall ⟨13, .data⟩ (by first | exact .head _ | simp) rfl
          subst hq13
          clear hall hcl hs hf
          go_simp
          exact hK _ _ ⟨b0, b1, b2, b3, b4, b5, b6, b7, b8, b9, b10, b11, b12, true, b14, b15, true, b17, dummy, vt, rfl, rfl, hF⟩
        · intro listed a w1 K hs hcl hf hall hI hK
          obtain ⟨b0, b1, b2, b3, b4, b5, b6, b7, b8, b9, b10, b11, b12, b13, b14, b15, b16, b17, dummy, vt, rfl, rfl, hF⟩ := hI
          have hf' : b17 = false := hf
          subst hf'
          have hq14 : b14 = true := hall ⟨14, .data⟩ (by first | exact .head _ | simp) rfl
          subst hq14
          have hq12 : b12 = true := hall ⟨12, .chain⟩ (by first | exact .head _ | simp) rfl
          subst hq12
          have hq0 : b0 = true := hall ⟨0, .phase⟩ (by first | exact .head _ | simp) rfl
          subst hq0
          have hq1 : b1 = true := hall ⟨1, .phase⟩ (by first | exact .head _ | simp) rfl
          subst hq1
          have hq2 : b2 = true := hall ⟨2, .phase⟩ (by first | exact .head _ | simp) rfl
          subst hq2
          have hq3 : b3 = true := hall ⟨3, .phase⟩ (by first | exact .head _ | simp) rfl
          subst hq3
          have hq4 : b4 = true := hall ⟨4, .phase⟩ (by first | exact .head _ | simp) rfl
          subst hq4
          have hq5 : b5 = true := hall ⟨5, .phase⟩ (by first | exact .head _ | simp) rfl
          subst hq5
          have hq6 : b6 = true := hall ⟨6, .phase⟩ (by first | exact .head _ | simp) rfl
          subst hq6
          have hq7 : b7 = true := hall ⟨7, .phase⟩ (by first | exact .head _ | simp) rfl
          subst hq7
          have hq8 : b8 = true := hall ⟨8, .phase⟩ (by first | exact .head _ | simp) rfl
          subst hq8
          have hq9 : b9 = true := hall ⟨9, .phase⟩ (by first | exact .head _ | simp) rfl
          subst hq9
          have hq10 : b10 = true := hall ⟨10, .phase⟩ (by first | exact .head _ | simp) rfl
          subst hq10
          have hq11 : b11 = true := hall ⟨11, .phase⟩ (by first | exact .head _ | simp) rfl
          subst hq11
          have hq13 : b13 = true := hall ⟨13, .phase⟩ (by first | exact .head _ | simp) rfl
          subst hq13
          clear hall hcl hs hf
          obtain ⟨Ay, cy, hv, ht⟩ := hF.2.1 rfl
          subst hv
          have has := hF.1 rfl
          obtain ⟨⟨c0, c1, c2, c3, c4, c5, c6, c7, c8, c9⟩, f0, f1, f2, f3, f4, f5, f6, f7, f8, f9⟩ := row10 (show _ = some (Obj.cells #[.int .i64 x.ph, .int .i64 x.inc, .int .i64 x.runs, .int .u64 x.since, .slice A x.times.length c, .int .u64 x.due, .bool x.armed, .int .i64 x.rung, .bool x.halt, .bool x.again] 48 (0, 0)) from has.bl)
          go_simp
          exact hK _ _ ⟨true, true, true, true, true, true, true, true, true, true, true, true, true, true, true, b15, b16, true, dummy, .slice Ay times'.length cy, rfl, rfl, ⟨(fun h => by cases h), fun _ => ⟨Ay, cy, rfl, has.putTs (y := ⟨ph', inc', runs', since', times', due', armed', rung', halt', again'⟩) (cy := cy) ht⟩, fun _ => ⟨Ay, cy, rfl, has.put (y := ⟨ph', inc', runs', since', times', due', armed', rung', halt', again'⟩) (cy := cy) ht⟩⟩⟩
    · subst hx3
      obtain ⟨x1, l1, e1⟩ : ∃ x r, nx l0 4 = (x, r) := ⟨_, _, rfl⟩
      have d1 := nx_bd l0 (show (1 : Int) ≤ 4 by decide)
      rw [e1] at d1
      simp only at d1
      obtain ⟨x2, l2, e2⟩ : ∃ x r, nx l1 2 = (x, r) := ⟨_, _, rfl⟩
      have d2 := nx_bd l1 (show (1 : Int) ≤ 2 by decide)
      rw [e2] at d2
      simp only at d2
      obtain ⟨x3, l3, e3⟩ : ∃ x r, nx l2 5 = (x, r) := ⟨_, _, rfl⟩
      have d3 := nx_bd l2 (show (1 : Int) ≤ 5 by decide)
      rw [e3] at d3
      simp only at d3
      have hxj : Tk.U x3 := ⟨by omega, by omega⟩
      have HLB := Lib.hid (Lf.lb_spawned (j := j.j) (ok := decide (0 < x1)) (ready := x2 == 0) HX.out HJ.out.ok HJ.out.base HJ.out.cap hn hxj)
      have hsp := fun W (hk : JdOk W j) (ht : Ts W 30 A (u64s x.times)) => rspawnedC j x A c (decide (0 < x1)) (x2 == 0) now x3 W hk hn hxj HX.out.1 HX.out.2.1 ht (Nat.le_trans HX.out.2.2 hnb)
      generalize Lf.spawned j.j x (decide (0 < x1)) (x2 == 0) now x3 = q at *
      obtain ⟨⟨ph', inc', runs', since', times', due', armed', rung', halt', again'⟩, sg, bb⟩ := q
      unfold LfPib lfA at hsp
      try unfold jdA at hsp
      simp only at hsp
      have HSP := Lib.hid hsp
      clear hsp hxj
      go_upto_region 8 with fail
      refine wp_region_steps2V (by kernel_rfl) (by kernel_rfl) (fun (u_ : Value × Value × Value × Value × Value × Value × Value × Value × Value × Value × Value × Value × Value × Value × Value × Value × Value × Value × Value) => A8I w B g j x A c now 3 x1 x2 x3 l0 l1 l2 l3 ph' inc' runs' since' times' due' armed' rung' halt' again' sg bb u_.1 u_.2.1 u_.2.2.1 u_.2.2.2.1 u_.2.2.2.2.1 u_.2.2.2.2.2.1 u_.2.2.2.2.2.2.1 u_.2.2.2.2.2.2.2.1 u_.2.2.2.2.2.2.2.2.1 u_.2.2.2.2.2.2.2.2.2.1 u_.2.2.2.2.2.2.2.2.2.2.1 u_.2.2.2.2.2.2.2.2.2.2.2.1 u_.2.2.2.2.2.2.2.2.2.2.2.2.1 u_.2.2.2.2.2.2.2.2.2.2.2.2.2.1 u_.2.2.2.2.2.2.2.2.2.2.2.2.2.2.1 u_.2.2.2.2.2.2.2.2.2.2.2.2.2.2.2.1 u_.2.2.2.2.2.2.2.2.2.2.2.2.2.2.2.2.1 u_.2.2.2.2.2.2.2.2.2.2.2.2.2.2.2.2.2.1 u_.2.2.2.2.2.2.2.2.2.2.2.2.2.2.2.2.2.2) ?_ ?_ ?_
      · exact ⟨(_, _, _, _, _, _, _, _, _, _, _, _, _, _, _, _, _, _, _), false, false, false, false, false, false, false, false, false, false, false, false, false, false, false, false, false, false, 0, undef, rfl, rfl, ⟨fun _ => HAS1.out.up ((Old.refl _).drew), (fun h => by cases h), (fun h => by cases h)⟩⟩
      · rintro ⟨u11, u12, u13, u14, u15, u16, u17, u18, u19, u20, u21, u22, u23, u24, u25, u26, u27, u28, u29⟩ a w1 ⟨b0, b1, b2, b3, b4, b5, b6, b7, b8, b9, b10, b11, b12, b13, b14, b15, b16, b17, dummy, vt, hl, rfl, hF⟩
        have hl' := congrArg Array.toList hl
        simp at hl'
        obtain ⟨rfl, rfl, rfl, rfl, rfl, rfl, rfl, rfl, rfl, rfl, rfl, rfl, rfl, rfl, rfl, rfl, rfl, rfl⟩ := hl'
        clear hl
        obtain ⟨Ay, cy, hv, has⟩ := hF.2.2 rfl
        subst hv
        have HAS := Lib.hid has
        clear hF has
        go_wp2_with fail
        go_meet
        case rel => exact ⟨⟨ph', inc', runs', since', times', due', armed', rung', halt', again'⟩, Ay, cy, _, HLB.out, HAS.out⟩
      · rintro ⟨u11, u12, u13, u14, u15, u16, u17, u18, u19, u20, u21, u22, u23, u24, u25, u26, u27, u28, u29⟩
        refine ⟨?_, ?_, ?_, ?_, ?_, ?_, ?_, ?_, ?_, ?_, ?_, ?_, ?_, ?_, ?_, ?_, ?_, ?_, trivial⟩
        · intro listed a w1 K hs hcl hf hall hI hK
          obtain ⟨b0, b1, b2, b3, b4, b5, b6, b7, b8, b9, b10, b11, b12, b13, b14, b15, b16, b17, dummy, vt, rfl, rfl, hF⟩ := hI
          have hf' : b0 = false := hf
          subst hf'
          have hb12 : b12 = false := by
            cases b12
            · rfl
            · exact absurd (show false = true from hcl 12 _ rfl rfl ⟨0, .data⟩ (by first | exact .head _ | simp) rfl) (by decide)
          subst hb12
          have hb17 : b17 = false := by
            cases b17
            · rfl
            · exact absurd (show false = true from hcl 17 _ rfl rfl ⟨0, .phase⟩ (by first | exact .head _ | simp) rfl) (by decide)
          subst hb17
          have hb13 : b13 = false := by
            cases b13
            · rfl
            · exact absurd (show false = true from hcl 13 _ rfl rfl ⟨12, .data⟩ (by first | exact .head _ | simp) rfl) (by decide)
          subst hb13
          have hb14 : b14 = false := by
            cases b14
            · rfl
            · exact absurd (show false = true from hcl 14 _ rfl rfl ⟨13, .data⟩ (by first | exact .head _ | simp) rfl) (by decide)
          subst hb14
          have hb15 : b15 = false := by
            cases b15
            · rfl
            · exact absurd (show false = true from hcl 15 _ rfl rfl ⟨13, .data⟩ (by first | exact .head _ | simp) rfl) (by decide)
          subst hb15
          have hb16 : b16 = false := by
            cases b16
            · rfl
            · exact absurd (show false = true from hcl 16 _ rfl rfl ⟨13, .data⟩ (by first | exact .head _ | simp) rfl) (by decide)
          subst hb16
          clear hall hcl hs hf
          obtain ⟨⟨e0, e1, e2, e3, e4, e5, e6, e7, e8, e9, e10, e11, e12, e13, e14⟩, _⟩ := row15 (show _ = some (Obj.cells #[.string j.nm, .string j.run, .slice j.eA j.env.length j.ec, .slice j.nA j.needs.length j.nc, .bool j.hasR, .string j.ready, .int .i64 j.restart, .int .u64 j.base, .int .u64 j.cap, .int .u64 j.stable, .int .i64 j.burst, .int .u64 j.win, .slice j.lA j.lad.length j.lc, .int .i64 j.line, .int .i64 j.col] 33 (0, 0)) from (hF.1 rfl).bj)
          go_simp
          exact hK _ _ ⟨true, b1, b2, b3, b4, b5, b6, b7, b8, b9, b10, b11, false, false, false, false, false, false, dummy, vt, rfl, rfl, hF⟩
        · intro listed a w1 K hs hcl hf hall hI hK
          obtain ⟨b0, b1, b2, b3, b4, b5, b6, b7, b8, b9, b10, b11, b12, b13, b14, b15, b16, b17, dummy, vt, rfl, rfl, hF⟩ := hI
          have hf' : b1 = false := hf
          subst hf'
          have hb12 : b12 = false := by
            cases b12
            · rfl
            · exact absurd (show false = true from hcl 12 _ rfl rfl ⟨1, .data⟩ (by first | exact .head _ | simp) rfl) (by decide)
          subst hb12
          have hb17 : b17 = false := by
            cases b17
            · rfl
            · exact absurd (show false = true from hcl 17 _ rfl rfl ⟨1, .phase⟩ (by first | exact .head _ | simp) rfl) (by decide)
          subst hb17
          have hb13 : b13 = false := by
            cases b13
            · rfl
            · exact absurd (show false = true from hcl 13 _ rfl rfl ⟨12, .data⟩ (by first | exact .head _ | simp) rfl) (by decide)
          subst hb13
          have hb14 : b14 = false := by
            cases b14
            · rfl
            · exact absurd (show false = true from hcl 14 _ rfl rfl ⟨13, .data⟩ (by first | exact .head _ | simp) rfl) (by decide)
          subst hb14
          have hb15 : b15 = false := by
            cases b15
            · rfl
            · exact absurd (show false = true from hcl 15 _ rfl rfl ⟨13, .data⟩ (by first | exact .head _ | simp) rfl) (by decide)
          subst hb15
          have hb16 : b16 = false := by
            cases b16
            · rfl
            · exact absurd (show false = true from hcl 16 _ rfl rfl ⟨13, .data⟩ (by first | exact .head _ | simp) rfl) (by decide)
          subst hb16
          clear hall hcl hs hf
          obtain ⟨⟨c0, c1, c2, c3, c4, c5, c6, c7, c8, c9⟩, f0, f1, f2, f3, f4, f5, f6, f7, f8, f9⟩ := row10 (show _ = some (Obj.cells #[.int .i64 x.ph, .int .i64 x.inc, .int .i64 x.runs, .int .u64 x.since, .slice A x.times.length c, .int .u64 x.due, .bool x.armed, .int .i64 x.rung, .bool x.halt, .bool x.again] 48 (0, 0)) from (hF.1 rfl).bl)
          go_simp
          exact hK _ _ ⟨b0, true, b2, b3, b4, b5, b6, b7, b8, b9, b10, b11, false, false, false, false, false, false, dummy, vt, rfl, rfl, hF⟩
        · intro listed a w1 K hs hcl hf hall hI hK
          obtain ⟨b0, b1, b2, b3, b4, b5, b6, b7, b8, b9, b10, b11, b12, b13, b14, b15, b16, b17, dummy, vt, rfl, rfl, hF⟩ := hI
          have hf' : b2 = false := hf
          subst hf'
          clear hall hcl hs hf
          go_simp
          exact hK _ _ ⟨b0, b1, true, b3, b4, b5, b6, b7, b8, b9, b10, b11, b12, b13, b14, b15, b16, b17, dummy, vt, rfl, rfl, hF⟩
        · intro listed a w1 K hs hcl hf hall hI hK
          obtain ⟨b0, b1, b2, b3, b4, b5, b6, b7, b8, b9, b10, b11, b12, b13, b14, b15, b16, b17, dummy, vt, rfl, rfl, hF⟩ := hI
          have hf' : b3 = false := hf
          subst hf'
          have hq2 : b2 = true := hall ⟨2, .data⟩ (by first | exact .head _ | simp) rfl
          subst hq2
          have hb4 : b4 = false := by
            cases b4
            · rfl
            · exact absurd (show false = true from hcl 4 _ rfl rfl ⟨3, .data⟩ (by first | exact .head _ | simp) rfl) (by decide)
          subst hb4
          have hb6 : b6 = false := by
            cases b6
            · rfl
            · exact absurd (show false = true from hcl 6 _ rfl rfl ⟨3, .chain⟩ (by first | exact .head _ | simp) rfl) (by decide)
          subst hb6
          have hb17 : b17 = false := by
            cases b17
            · rfl
            · exact absurd (show false = true from hcl 17 _ rfl rfl ⟨3, .phase⟩ (by first | exact .head _ | simp) rfl) (by decide)
          subst hb17
          have hb12 : b12 = false := by
            cases b12
            · rfl
            · exact absurd (show false = true from hcl 12 _ rfl rfl ⟨4, .data⟩ (by first | exact .head _ | simp) rfl) (by decide)
          subst hb12
          have hb7 : b7 = false := by
            cases b7
            · rfl
            · exact absurd (show false = true from hcl 7 _ rfl rfl ⟨6, .data⟩ (by first | exact .head _ | simp) rfl) (by decide)
          subst hb7
          have hb10 : b10 = false := by
            cases b10
            · rfl
            · exact absurd (show false = true from hcl 10 _ rfl rfl ⟨6, .chain⟩ (by first | exact .head _ | simp) rfl) (by decide)
          subst hb10
          have hb13 : b13 = false := by
            cases b13
            · rfl
            · exact absurd (show false = true from hcl 13 _ rfl rfl ⟨12, .data⟩ (by first | exact .head _ | simp) rfl) (by decide)
          subst hb13
          have hb11 : b11 = false := by
            cases b11
            · rfl
            · exact absurd (show false = true from hcl 11 _ rfl rfl ⟨10, .data⟩ (by first | exact .head _ | simp) rfl) (by decide)
          subst hb11
          have hb14 : b14 = false := by
            cases b14
            · rfl
            · exact absurd (show false = true from hcl 14 _ rfl rfl ⟨13, .data⟩ (by first | exact .head _ | simp) rfl) (by decide)
          subst hb14
          have hb15 : b15 = false := by
            cases b15
            · rfl
            · exact absurd (show false = true from hcl 15 _ rfl rfl ⟨13, .data⟩ (by first | exact .head _ | simp) rfl) (by decide)
          subst hb15
          have hb16 : b16 = false := by
            cases b16
            · rfl
            · exact absurd (show false = true from hcl 16 _ rfl rfl ⟨13, .data⟩ (by first | exact .head _ | simp) rfl) (by decide)
          subst hb16
          clear hall hcl hs hf
          have hn := nextDeck B g l0 4 w1 (hF.1 rfl).dk (by decide) (by decide)
          rw [e1] at hn
          go_simp
          refine hn.mono ?_
          rintro e w2 ⟨rfl, hd, hg⟩
          exact hK _ _ ⟨b0, b1, true, true, false, b5, false, false, b8, b9, false, false, false, false, false, false, false, false, dummy, vt, rfl, rfl, ⟨fun _ => (hF.1 rfl).turn hd hg, (fun h => by cases h), (fun h => by cases h)⟩⟩
        · intro listed a w1 K hs hcl hf hall hI hK
          obtain ⟨b0, b1, b2, b3, b4, b5, b6, b7, b8, b9, b10, b11, b12, b13, b14, b15, b16, b17, dummy, vt, rfl, rfl, hF⟩ := hI
          have hf' : b4 = false := hf
          subst hf'
          have hq3 : b3 = true := hall ⟨3, .data⟩ (by first | exact .head _ | simp) rfl
          subst hq3
          clear hall hcl hs hf
          go_simp
          exact hK _ _ ⟨b0, b1, b2, true, true, b5, b6, b7, b8, b9, b10, b11, b12, b13, b14, b15, b16, b17, dummy, vt, rfl, rfl, hF⟩
        · intro listed a w1 K hs hcl hf hall hI hK
          obtain ⟨b0, b1, b2, b3, b4, b5, b6, b7, b8, b9, b10, b11, b12, b13, b14, b15, b16, b17, dummy, vt, rfl, rfl, hF⟩ := hI
          have hf' : b5 = false := hf
          subst hf'
          clear hall hcl hs hf
          go_simp
          exact hK _ _ ⟨b0, b1, b2, b3, b4, true, b6, b7, b8, b9, b10, b11, b12, b13, b14, b15, b16, b17, dummy, vt, rfl, rfl, hF⟩
        · intro listed a w1 K hs hcl hf hall hI hK
          obtain ⟨b0, b1, b2, b3, b4, b5, b6, b7, b8, b9, b10, b11, b12, b13, b14, b15, b16, b17, dummy, vt, rfl, rfl, hF⟩ := hI
          have hf' : b6 = false := hf
          subst hf'
          have hq5 : b5 = true := hall ⟨5, .data⟩ (by first | exact .head _ | simp) rfl
          subst hq5
          have hq3 : b3 = true := hall ⟨3, .chain⟩ (by first | exact .head _ | simp) rfl
          subst hq3
          have hq2 : b2 = true := hcl 3 _ rfl rfl ⟨2, .data⟩ (by first | exact .head _ | simp) rfl
          subst hq2
          have hb7 : b7 = false := by
            cases b7
            · rfl
            · exact absurd (show false = true from hcl 7 _ rfl rfl ⟨6, .data⟩ (by first | exact .head _ | simp) rfl) (by decide)
          subst hb7
          have hb10 : b10 = false := by
            cases b10
            · rfl
            · exact absurd (show false = true from hcl 10 _ rfl rfl ⟨6, .chain⟩ (by first | exact .head _ | simp) rfl) (by decide)
          subst hb10
          have hb17 : b17 = false := by
            cases b17
            · rfl
            · exact absurd (show false = true from hcl 17 _ rfl rfl ⟨6, .phase⟩ (by first | exact .head _ | simp) rfl) (by decide)
          subst hb17
          have hb12 : b12 = false := by
            cases b12
            · rfl
            · exact absurd (show false = true from hcl 12 _ rfl rfl ⟨7, .data⟩ (by first | exact .head _ | simp) rfl) (by decide)
          subst hb12
          have hb11 : b11 = false := by
            cases b11
            · rfl
            · exact absurd (show false = true from hcl 11 _ rfl rfl ⟨10, .data⟩ (by first | exact .head _ | simp) rfl) (by decide)
          subst hb11
          have hb13 : b13 = false := by
            cases b13
            · rfl
            · exact absurd (show false = true from hcl 13 _ rfl rfl ⟨12, .data⟩ (by first | exact .head _ | simp) rfl) (by decide)
          subst hb13
          have hb14 : b14 = false := by
            cases b14
            · rfl
            · exact absurd (show false = true from hcl 14 _ rfl rfl ⟨13, .data⟩ (by first | exact .head _ | simp) rfl) (by decide)
          subst hb14
          have hb15 : b15 = false := by
            cases b15
            · rfl
            · exact absurd (show false = true from hcl 15 _ rfl rfl ⟨13, .data⟩ (by first | exact .head _ | simp) rfl) (by decide)
          subst hb15
          have hb16 : b16 = false := by
            cases b16
            · rfl
            · exact absurd (show false = true from hcl 16 _ rfl rfl ⟨13, .data⟩ (by first | exact .head _ | simp) rfl) (by decide)
          subst hb16
          clear hall hcl hs hf
          have hn := nextDeck B g l1 2 w1 (hF.1 rfl).dk (by decide) (by decide)
          rw [e2] at hn
          go_simp
          refine hn.mono ?_
          rintro e w2 ⟨rfl, hd, hg⟩
          exact hK _ _ ⟨b0, b1, true, true, b4, true, true, false, b8, b9, false, false, false, false, false, false, false, false, dummy, vt, rfl, rfl, ⟨fun _ => (hF.1 rfl).turn hd hg, (fun h => by cases h), (fun h => by cases h)⟩⟩
        · intro listed a w1 K hs hcl hf hall hI hK
          obtain ⟨b0, b1, b2, b3, b4, b5, b6, b7, b8, b9, b10, b11, b12, b13, b14, b15, b16, b17, dummy, vt, rfl, rfl, hF⟩ := hI
          have hf' : b7 = false := hf
          subst hf'
          have hq6 : b6 = true := hall ⟨6, .data⟩ (by first | exact .head _ | simp) rfl
          subst hq6
          clear hall hcl hs hf
          go_simp
          exact hK _ _ ⟨b0, b1, b2, b3, b4, b5, true, true, b8, b9, b10, b11, b12, b13, b14, b15, b16, b17, dummy, vt, rfl, rfl, hF⟩
        · intro listed a w1 K hs hcl hf hall hI hK
          obtain ⟨b0, b1, b2, b3, b4, b5, b6, b7, b8, b9, b10, b11, b12, b13, b14, b15, b16, b17, dummy, vt, rfl, rfl, hF⟩ := hI
          have hf' : b8 = false := hf
          subst hf'
          clear hall hcl hs hf
          go_simp
          exact hK _ _ ⟨b0, b1, b2, b3, b4, b5, b6, b7, true, b9, b10, b11, b12, b13, b14, b15, b16, b17, dummy, vt, rfl, rfl, hF⟩
        · intro listed a w1 K hs hcl hf hall hI hK
          obtain ⟨b0, b1, b2, b3, b4, b5, b6, b7, b8, b9, b10, b11, b12, b13, b14, b15, b16, b17, dummy, vt, rfl, rfl, hF⟩ := hI
          have hf' : b9 = false := hf
          subst hf'
          clear hall hcl hs hf
          go_simp
          exact hK _ _ ⟨b0, b1, b2, b3, b4, b5, b6, b7, b8, true, b10, b11, b12, b13, b14, b15, b16, b17, dummy, vt, rfl, rfl, hF⟩
        · intro listed a w1 K hs hcl hf hall hI hK
          obtain ⟨b0, b1, b2, b3, b4, b5, b6, b7, b8, b9, b10, b11, b12, b13, b14, b15, b16, b17, dummy, vt, rfl, rfl, hF⟩ := hI
          have hf' : b10 = false := hf
          subst hf'
          have hq9 : b9 = true := hall ⟨9, .data⟩ (by first | exact .head _ | simp) rfl
          subst hq9
          have hq6 : b6 = true := hall ⟨6, .chain⟩ (by first | exact .head _ | simp) rfl
          subst hq6
          have hq5 : b5 = true := hcl 6 _ rfl rfl ⟨5, .data⟩ (by first | exact .head _ | simp) rfl
          subst hq5
          have hq3 : b3 = true := hcl 6 _ rfl rfl ⟨3, .chain⟩ (by first | exact .head _ | simp) rfl
          subst hq3
          have hq2 : b2 = true := hcl 3 _ rfl rfl ⟨2, .data⟩ (by first | exact .head _ | simp) rfl
          subst hq2
          have hb11 : b11 = false := by
            cases b11
            · rfl
            · exact absurd (show false = true from hcl 11 _ rfl rfl ⟨10, .data⟩ (by first | exact .head _ | simp) rfl) (by decide)
          subst hb11
          have hb12 : b12 = false := by
            cases b12
            · rfl
            · exact absurd (show false = true from hcl 12 _ rfl rfl ⟨10, .chain⟩ (by first | exact .head _ | simp) rfl) (by decide)
          subst hb12
          have hb17 : b17 = false := by
            cases b17
            · rfl
            · exact absurd (show false = true from hcl 17 _ rfl rfl ⟨10, .phase⟩ (by first | exact .head _ | simp) rfl) (by decide)
          subst hb17
          have hb13 : b13 = false := by
            cases b13
            · rfl
            · exact absurd (show false = true from hcl 13 _ rfl rfl ⟨12, .data⟩ (by first | exact .head _ | simp) rfl) (by decide)
          subst hb13
          have hb14 : b14 = false := by
            cases b14
            · rfl
            · exact absurd (show false = true from hcl 14 _ rfl rfl ⟨13, .data⟩ (by first | exact .head _ | simp) rfl) (by decide)
          subst hb14
          have hb15 : b15 = false := by
            cases b15
            · rfl
            · exact absurd (show false = true from hcl 15 _ rfl rfl ⟨13, .data⟩ (by first | exact .head _ | simp) rfl) (by decide)
          subst hb15
          have hb16 : b16 = false := by
            cases b16
            · rfl
            · exact absurd (show false = true from hcl 16 _ rfl rfl ⟨13, .data⟩ (by first | exact .head _ | simp) rfl) (by decide)
          subst hb16
          clear hall hcl hs hf
          have hn := nextDeck B g l2 5 w1 (hF.1 rfl).dk (by decide) (by decide)
          rw [e3] at hn
          go_simp
          refine hn.mono ?_
          rintro e w2 ⟨rfl, hd, hg⟩
          exact hK _ _ ⟨b0, b1, true, true, b4, true, true, b7, b8, true, true, false, false, false, false, false, false, false, dummy, vt, rfl, rfl, ⟨fun _ => (hF.1 rfl).turn hd hg, (fun h => by cases h), (fun h => by cases h)⟩⟩
        · intro listed a w1 K hs hcl hf hall hI hK
          obtain ⟨b0, b1, b2, b3, b4, b5, b6, b7, b8, b9, b10, b11, b12, b13, b14, b15, b16, b17, dummy, vt, rfl, rfl, hF⟩ := hI
          have hf' : b11 = false := hf
          subst hf'
          have hq10 : b10 = true := hall ⟨10, .data⟩ (by first | exact .head _ | simp) rfl
          subst hq10
          have hq9 : b9 = true := hcl 10 _ rfl rfl ⟨9, .data⟩ (by first | exact .head _ | simp) rfl
          subst hq9
          have hq6 : b6 = true := hcl 10 _ rfl rfl ⟨6, .chain⟩ (by first | exact .head _ | simp) rfl
          subst hq6
          have hq5 : b5 = true := hcl 6 _ rfl rfl ⟨5, .data⟩ (by first | exact .head _ | simp) rfl
          subst hq5
          have hq3 : b3 = true := hcl 6 _ rfl rfl ⟨3, .chain⟩ (by first | exact .head _ | simp) rfl
          subst hq3
          have hq2 : b2 = true := hcl 3 _ rfl rfl ⟨2, .data⟩ (by first | exact .head _ | simp) rfl
          subst hq2
          have hb12 : b12 = false := by
            cases b12
            · rfl
            · exact absurd (show false = true from hcl 12 _ rfl rfl ⟨11, .data⟩ (by first | exact .head _ | simp) rfl) (by decide)
          subst hb12
          have hb17 : b17 = false := by
            cases b17
            · rfl
            · exact absurd (show false = true from hcl 17 _ rfl rfl ⟨11, .phase⟩ (by first | exact .head _ | simp) rfl) (by decide)
          subst hb17
          have hb13 : b13 = false := by
            cases b13
            · rfl
            · exact absurd (show false = true from hcl 13 _ rfl rfl ⟨12, .data⟩ (by first | exact .head _ | simp) rfl) (by decide)
          subst hb13
          have hb14 : b14 = false := by
            cases b14
            · rfl
            · exact absurd (show false = true from hcl 14 _ rfl rfl ⟨13, .data⟩ (by first | exact .head _ | simp) rfl) (by decide)
          subst hb14
          have hb15 : b15 = false := by
            cases b15
            · rfl
            · exact absurd (show false = true from hcl 15 _ rfl rfl ⟨13, .data⟩ (by first | exact .head _ | simp) rfl) (by decide)
          subst hb15
          have hb16 : b16 = false := by
            cases b16
            · rfl
            · exact absurd (show false = true from hcl 16 _ rfl rfl ⟨13, .data⟩ (by first | exact .head _ | simp) rfl) (by decide)
          subst hb16
          clear hall hcl hs hf
          have hwr : IntKind.u64.wrap x3 = x3 := IntWalk.u64_in _ ⟨d3.1, by omega⟩
          go_simp
          try rw [hwr]
          exact hK _ _ ⟨b0, b1, true, true, b4, true, true, b7, b8, true, true, true, false, false, false, false, false, false, dummy, vt, rfl, rfl, hF⟩
        · intro listed a w1 K hs hcl hf hall hI hK
          obtain ⟨b0, b1, b2, b3, b4, b5, b6, b7, b8, b9, b10, b11, b12, b13, b14, b15, b16, b17, dummy, vt, rfl, rfl, hF⟩ := hI
          have hf' : b12 = false := hf
          subst hf'
          have hq0 : b0 = true := hall ⟨0, .data⟩ (by first | exact .head _ | simp) rfl
          subst hq0
          have hq1 : b1 = true := hall ⟨1, .data⟩ (by first | exact .head _ | simp) rfl
          subst hq1
          have hq4 : b4 = true := hall ⟨4, .data⟩ (by first | exact .head _ | simp) rfl
          subst hq4
          have hq7 : b7 = true := hall ⟨7, .data⟩ (by first | exact .head _ | simp) rfl
          subst hq7
          have hq8 : b8 = true := hall ⟨8, .data⟩ (by first | exact .head _ | simp) rfl
          subst hq8
          have hq11 : b11 = true := hall ⟨11, .data⟩ (by first | exact .head _ | simp) rfl
          subst hq11
          have hq10 : b10 = true := hall ⟨10, .chain⟩ (by first | exact .head _ | simp) rfl
          subst hq10
          have hq3 : b3 = true := hcl 4 _ rfl rfl ⟨3, .data⟩ (by first | exact .head _ | simp) rfl
          subst hq3
          have hq6 : b6 = true := hcl 7 _ rfl rfl ⟨6, .data⟩ (by first | exact .head _ | simp) rfl
          subst hq6
          have hq9 : b9 = true := hcl 10 _ rfl rfl ⟨9, .data⟩ (by first | exact .head _ | simp) rfl
          subst hq9
          have hq2 : b2 = true := hcl 3 _ rfl rfl ⟨2, .data⟩ (by first | exact .head _ | simp) rfl
          subst hq2
          have hq5 : b5 = true := hcl 6 _ rfl rfl ⟨5, .data⟩ (by first | exact .head _ | simp) rfl
          subst hq5
          have hb13 : b13 = false := by
            cases b13
            · rfl
            · exact absurd (show false = true from hcl 13 _ rfl rfl ⟨12, .data⟩ (by first | exact .head _ | simp) rfl) (by decide)
          subst hb13
          have hb17 : b17 = false := by
            cases b17
            · rfl
            · exact absurd (show false = true from hcl 17 _ rfl rfl ⟨12, .chain⟩ (by first | exact .head _ | simp) rfl) (by decide)
          subst hb17
          have hb14 : b14 = false := by
            cases b14
            · rfl
            · exact absurd (show false = true from hcl 14 _ rfl rfl ⟨13, .data⟩ (by first | exact .head _ | simp) rfl) (by decide)
          subst hb14
          have hb15 : b15 = false := by
            cases b15
            · rfl
            · exact absurd (show false = true from hcl 15 _ rfl rfl ⟨13, .data⟩ (by first | exact .head _ | simp) rfl) (by decide)
          subst hb15
          have hb16 : b16 = false := by
            cases b16
            · rfl
            · exact absurd (show false = true from hcl 16 _ rfl rfl ⟨13, .data⟩ (by first | exact .head _ | simp) rfl) (by decide)
          subst hb16
          clear hall hcl hs hf
          have hp := HSP.out w1 (hF.1 rfl).ok (hF.1 rfl).ts
          go_simp
          refine hp.mono ?_
          rintro e w2 ⟨Ay, cy, rfl, ht, hd⟩
          exact hK _ _ ⟨true, true, true, true, true, true, true, true, true, true, true, true, true, false, false, false, false, false, dummy, .slice Ay times'.length cy, rfl, rfl, ⟨fun _ => (hF.1 rfl).up hd, fun _ => ⟨Ay, cy, rfl, ht⟩, (fun h => by cases h)⟩⟩
        · intro listed a w1 K hs hcl hf hall hI hK
          obtain ⟨b0, b1, b2, b3, b4, b5, b6, b7, b8, b9, b10, b11, b12, b13, b14, b15, b16, b17, dummy, vt, rfl, rfl, hF⟩ := hI
          have hf' : b13 = false := hf
          subst hf'
          have hq12 : b12 = true := hall ⟨12, .data⟩ (by first | exact .head _ | simp) rfl
          subst hq12
          clear hall hcl hs hf
          go_simp
          exact hK _ _ ⟨b0, b1, b2, b3, b4, b5, b6, b7, b8, b9, b10, b11, true, true, b14, b15, b16, b17, dummy, vt, rfl, rfl, hF⟩
        · intro listed a w1 K hs hcl hf hall hI hK
          obtain ⟨b0, b1, b2, b3, b4, b5, b6, b7, b8, b9, b10, b11, b12, b13, b14, b15, b16, b17, dummy, vt, rfl, rfl, hF⟩ := hI
          have hf' : b14 = false := hf
          subst hf'
          have hq13 : b13 = true := hall ⟨13, .data⟩ (by first | exact .head _ | simp) rfl
          subst hq13
          clear hall hcl hs hf
          go_simp
          exact hK _ _ ⟨b0, b1, b2, b3, b4, b5, b6, b7, b8, b9, b10, b11, b12, true, true, b15, b16, b17, dummy, vt, rfl, rfl, hF⟩
        · intro listed a w1 K hs hcl hf hall hI hK
          obtain ⟨b0, b1, b2, b3, b4, b5, b6, b7, b8, b9, b10, b11, b12, b13, b14, b15, b16, b17, dummy, vt, rfl, rfl, hF⟩ := hI
          have hf' : b15 = false := hf
          subst hf'
          have hq13 : b13 = true := hall ⟨13, .data⟩ (by first | exact .head _ | simp) rfl
          subst hq13
          clear hall hcl hs hf
          go_simp
          exact hK _ _ ⟨b0, b1, b2, b3, b4, b5, b6, b7, b8, b9, b10, b11, b12, true, b14, true, b16, b17, dummy, vt, rfl, rfl, hF⟩
        · intro listed a w1 K hs hcl hf hall hI hK
          obtain ⟨b0, b1, b2, b3, b4, b5, b6, b7, b8, b9, b10, b11, b12, b13, b14, b15, b16, b17, dummy, vt, rfl, rfl, hF⟩ := hI
          have hf' : b16 = false := hf
          subst hf'
          have hq13 : b13 = true := hall ⟨13, .data⟩ (by first | exact .head _ | simp) rfl
          subst hq13
          clear hall hcl hs hf
          go_simp
          exact hK _ _ ⟨b0, b1, b2, b3, b4, b5, b6, b7, b8, b9, b10, b11, b12, true, b14, b15, true, b17, dummy, vt, rfl, rfl, hF⟩
        · intro listed a w1 K hs hcl hf hall hI hK
          obtain ⟨b0, b1, b2, b3, b4, b5, b6, b7, b8, b9, b10, b11, b12, b13, b14, b15, b16, b17, dummy, vt, rfl, rfl, hF⟩ := hI
          have hf' : b17 = false := hf
          subst hf'
          have hq14 : b14 = true := hall ⟨14, .data⟩ (by first | exact .head _ | simp) rfl
          subst hq14
          have hq12 : b12 = true := hall ⟨12, .chain⟩ (by first | exact .head _ | simp) rfl
          subst hq12
          have hq0 : b0 = true := hall ⟨0, .phase⟩ (by first | exact .head _ | simp) rfl
          subst hq0
          have hq1 : b1 = true := hall ⟨1, .phase⟩ (by first | exact .head _ | simp) rfl
          subst hq1
          have hq2 : b2 = true := hall ⟨2, .phase⟩ (by first | exact .head _ | simp) rfl
          subst hq2
          have hq3 : b3 = true := hall ⟨3, .phase⟩ (by first | exact .head _ | simp) rfl
          subst hq3
          have hq4 : b4 = true := hall ⟨4, .phase⟩ (by first | exact .head _ | simp) rfl
          subst hq4
          have hq5 : b5 = true := hall ⟨5, .phase⟩ (by first | exact .head _ | simp) rfl
          subst hq5
          have hq6 : b6 = true := hall ⟨6, .phase⟩ (by first | exact .head _ | simp) rfl
          subst hq6
          have hq7 : b7 = true := hall ⟨7, .phase⟩ (by first | exact .head _ | simp) rfl
          subst hq7
          have hq8 : b8 = true := hall ⟨8, .phase⟩ (by first | exact .head _ | simp) rfl
          subst hq8
          have hq9 : b9 = true := hall ⟨9, .phase⟩ (by first | exact .head _ | simp) rfl
          subst hq9
          have hq10 : b10 = true := hall ⟨10, .phase⟩ (by first | exact .head _ | simp) rfl
          subst hq10
          have hq11 : b11 = true := hall ⟨11, .phase⟩ (by first | exact .head _ | simp) rfl
          subst hq11
          have hq13 : b13 = true := hall ⟨13, .phase⟩ (by first | exact .head _ | simp) rfl
          subst hq13
          clear hall hcl hs hf
          obtain ⟨Ay, cy, hv, ht⟩ := hF.2.1 rfl
          subst hv
          have has := hF.1 rfl
          obtain ⟨⟨c0, c1, c2, c3, c4, c5, c6, c7, c8, c9⟩, f0, f1, f2, f3, f4, f5, f6, f7, f8, f9⟩ := row10 (show _ = some (Obj.cells #[.int .i64 x.ph, .int .i64 x.inc, .int .i64 x.runs, .int .u64 x.since, .slice A x.times.length c, .int .u64 x.due, .bool x.armed, .int .i64 x.rung, .bool x.halt, .bool x.again] 48 (0, 0)) from has.bl)
          go_simp
          exact hK _ _ ⟨true, true, true, true, true, true, true, true, true, true, true, true, true, true, true, b15, b16, true, dummy, .slice Ay times'.length cy, rfl, rfl, ⟨(fun h => by cases h), fun _ => ⟨Ay, cy, rfl, has.putTs (y := ⟨ph', inc', runs', since', times', due', armed', rung', halt', again'⟩) (cy := cy) ht⟩, fun _ => ⟨Ay, cy, rfl, has.put (y := ⟨ph', inc', runs', since', times', due', armed', rung', halt', again'⟩) (cy := cy) ht⟩⟩⟩
    · subst hx4
      have HLB := Lib.hid (Lf.lb_matched HX.out)
      have hsp := fun W (hk : JdOk W j) (ht : Ts W 30 A (u64s x.times)) => rmatchedC x A c W ht
      generalize Lf.matched x = q at *
      obtain ⟨ph', inc', runs', since', times', due', armed', rung', halt', again'⟩ := q
      unfold LfP lfA at hsp
      try unfold jdA at hsp
      simp only at hsp
      have HSP := Lib.hid hsp
      clear hsp
      have bl1 : _ = some (Obj.cells #[.int .i64 x.ph, .int .i64 x.inc, .int .i64 x.runs, .int .u64 x.since, .slice A x.times.length c, .int .u64 x.due, .bool x.armed, .int .i64 x.rung, .bool x.halt, .bool x.again] 48 (0, 0)) := HAS1.out.bl
      have bj1 : _ = some (Obj.cells #[.string j.nm, .string j.run, .slice j.eA j.env.length j.ec, .slice j.nA j.needs.length j.nc, .bool j.hasR, .string j.ready, .int .i64 j.restart, .int .u64 j.base, .int .u64 j.cap, .int .u64 j.stable, .int .i64 j.burst, .int .u64 j.win, .slice j.lA j.lad.length j.lc, .int .i64 j.line, .int .i64 j.col] 33 (0, 0)) := HAS1.out.bj
      obtain ⟨⟨c0, c1, c2, c3, c4, c5, c6, c7, c8, c9⟩, f0, f1, f2, f3, f4, f5, f6, f7, f8, f9⟩ := row10 (bl1)
      obtain ⟨⟨e0, e1, e2, e3, e4, e5, e6, e7, e8, e9, e10, e11, e12, e13, e14⟩, _⟩ := row15 (bj1)
      have hp := HSP.out _ HAS1.out.ok HAS1.out.ts
      go_wp2_with fail
      refine (hp).mono ?_; rintro e w3 ⟨Ay, cy, rfl, ht, hd⟩
      have HAS3 := Lib.hid (HAS1.out.up hd)
      have bl3 : _ = some (Obj.cells #[.int .i64 x.ph, .int .i64 x.inc, .int .i64 x.runs, .int .u64 x.since, .slice A x.times.length c, .int .u64 x.due, .bool x.armed, .int .i64 x.rung, .bool x.halt, .bool x.again] 48 (0, 0)) := HAS3.out.bl
      clear hd bl1 bj1 hp c0 c1 c2 c3 c4 c5 c6 c7 c8 c9 f0 f1 f2 f3 f4 f5 f6 f7 f8 f9 e0 e1 e2 e3 e4 e5 e6 e7 e8 e9 e10 e11 e12 e13 e14
      obtain ⟨⟨c0, c1, c2, c3, c4, c5, c6, c7, c8, c9⟩, f0, f1, f2, f3, f4, f5, f6, f7, f8, f9⟩ := row10 (bl3)
      have HAS4 := Lib.hid (HAS3.out.put (y := ⟨ph', inc', runs', since', times', due', armed', rung', halt', again'⟩) (cy := cy) ht)
      clear ht HAS1 HAS3 bl3
      go_wp2_with fail
      go_meet
      case rel => exact ⟨⟨ph', inc', runs', since', times', due', armed', rung', halt', again'⟩, Ay, cy, _, HLB.out, HAS4.out⟩
    · subst hx5
      obtain ⟨x1, l1, e1⟩ : ∃ x r, nx l0 2 = (x, r) := ⟨_, _, rfl⟩
      have d1 := nx_bd l0 (show (1 : Int) ≤ 2 by decide)
      rw [e1] at d1
      simp only at d1
      obtain ⟨x2, l2, e2⟩ : ∃ x r, nx l1 5 = (x, r) := ⟨_, _, rfl⟩
      have d2 := nx_bd l1 (show (1 : Int) ≤ 5 by decide)
      rw [e2] at d2
      simp only at d2
      have hxj : Tk.U x2 := ⟨by omega, by omega⟩
      have HLB := Lib.hid (Lf.lb_exit (j := j.j) (code := x1) HX.out HJ.out.base HJ.out.cap hn hxj)
      have hsp := fun W (hk : JdOk W j) (ht : Ts W 30 A (u64s x.times)) => rexitC j x A c x1 now x2 W hk hn hxj HX.out.1 HX.out.2.1 ht (Nat.le_trans HX.out.2.2 hnb)
      generalize Lf.exit j.j x x1 now x2 = q at *
      obtain ⟨⟨ph', inc', runs', since', times', due', armed', rung', halt', again'⟩, bb⟩ := q
      unfold LfPb lfA at hsp
      try unfold jdA at hsp
      simp only at hsp
      have HSP := Lib.hid hsp
      clear hsp hxj
      go_upto_region 12 with fail
      refine wp_region_steps2V (by kernel_rfl) (by kernel_rfl) (fun (u_ : Value × Value × Value × Value × Value × Value × Value × Value × Value × Value × Value × Value × Value × Value × Value × Value × Value × Value × Value × Value × Value × Value × Value × Value × Value × Value × Value × Value × Value × Value × Value × Value × Value × Value × Value × Value × Value × Value × Value × Value × Value × Value) => A12I w B g j x A c now 5 x1 x2 l0 l1 l2 ph' inc' runs' since' times' due' armed' rung' halt' again' bb u_.1 u_.2.1 u_.2.2.1 u_.2.2.2.1 u_.2.2.2.2.1 u_.2.2.2.2.2.1 u_.2.2.2.2.2.2.1 u_.2.2.2.2.2.2.2.1 u_.2.2.2.2.2.2.2.2.1 u_.2.2.2.2.2.2.2.2.2.1 u_.2.2.2.2.2.2.2.2.2.2.1 u_.2.2.2.2.2.2.2.2.2.2.2.1 u_.2.2.2.2.2.2.2.2.2.2.2.2.1 u_.2.2.2.2.2.2.2.2.2.2.2.2.2.1 u_.2.2.2.2.2.2.2.2.2.2.2.2.2.2.1 u_.2.2.2.2.2.2.2.2.2.2.2.2.2.2.2.1 u_.2.2.2.2.2.2.2.2.2.2.2.2.2.2.2.2.1 u_.2.2.2.2.2.2.2.2.2.2.2.2.2.2.2.2.2.1 u_.2.2.2.2.2.2.2.2.2.2.2.2.2.2.2.2.2.2.1 u_.2.2.2.2.2.2.2.2.2.2.2.2.2.2.2.2.2.2.2.1 u_.2.2.2.2.2.2.2.2.2.2.2.2.2.2.2.2.2.2.2.2.1 u_.2.2.2.2.2.2.2.2.2.2.2.2.2.2.2.2.2.2.2.2.2.1 u_.2.2.2.2.2.2.2.2.2.2.2.2.2.2.2.2.2.2.2.2.2.2.1 u_.2.2.2.2.2.2.2.2.2.2.2.2.2.2.2.2.2.2.2.2.2.2.2.1 u_.2.2.2.2.2.2.2.2.2.2.2.2.2.2.2.2.2.2.2.2.2.2.2.2.1 u_.2.2.2.2.2.2.2.2.2.2.2.2.2.2.2.2.2.2.2.2.2.2.2.2.2.1 u_.2.2.2.2.2.2.2.2.2.2.2.2.2.2.2.2.2.2.2.2.2.2.2.2.2.2.1 u_.2.2.2.2.2.2.2.2.2.2.2.2.2.2.2.2.2.2.2.2.2.2.2.2.2.2.2.1 u_.2.2.2.2.2.2.2.2.2.2.2.2.2.2.2.2.2.2.2.2.2.2.2.2.2.2.2.2.1 u_.2.2.2.2.2.2.2.2.2.2.2.2.2.2.2.2.2.2.2.2.2.2.2.2.2.2.2.2.2.1 u_.2.2.2.2.2.2.2.2.2.2.2.2.2.2.2.2.2.2.2.2.2.2.2.2.2.2.2.2.2.2.1 u_.2.2.2.2.2.2.2.2.2.2.2.2.2.2.2.2.2.2.2.2.2.2.2.2.2.2.2.2.2.2.2.1 u_.2.2.2.2.2.2.2.2.2.2.2.2.2.2.2.2.2.2.2.2.2.2.2.2.2.2.2.2.2.2.2.2.1 u_.2.2.2.2.2.2.2.2.2.2.2.2.2.2.2.2.2.2.2.2.2.2.2.2.2.2.2.2.2.2.2.2.2.1 u_.2.2.2.2.2.2.2.2.2.2.2.2.2.2.2.2.2.2.2.2.2.2.2.2.2.2.2.2.2.2.2.2.2.2.1 u_.2.2.2.2.2.2.2.2.2.2.2.2.2.2.2.2.2.2.2.2.2.2.2.2.2.2.2.2.2.2.2.2.2.2.2.1 u_.2.2.2.2.2.2.2.2.2.2.2.2.2.2.2.2.2.2.2.2.2.2.2.2.2.2.2.2.2.2.2.2.2.2.2.2.1 u_.2.2.2.2.2.2.2.2.2.2.2.2.2.2.2.2.2.2.2.2.2.2.2.2.2.2.2.2.2.2.2.2.2.2.2.2.2.1 u_.2.2.2.2.2.2.2.2.2.2.2.2.2.2.2.2.2.2.2.2.2.2.2.2.2.2.2.2.2.2.2.2.2.2.2.2.2.2.1 u_.2.2.2.2.2.2.2.2.2.2.2.2.2.2.2.2.2.2.2.2.2.2.2.2.2.2.2.2.2.2.2.2.2.2.2.2.2.2.2.1 u_.2.2.2.2.2.2.2.2.2.2.2.2.2.2.2.2.2.2.2.2.2.2.2.2.2.2.2.2.2.2.2.2.2.2.2.2.2.2.2.2.1 u_.2.2.2.2.2.2.2.2.2.2.2.2.2.2.2.2.2.2.2.2.2.2.2.2.2.2.2.2.2.2.2.2.2.2.2.2.2.2.2.2.2) ?_ ?_ ?_
      · exact ⟨(_, _, _, _, _, _, _, _, _, _, _, _, _, _, _, _, _, _, _, _, _, _, _, _, _, _, _, _, _, _, _, _, _, _, _, _, _, _, _, _, _, _), false, false, false, false, false, false, false, false, false, false, false, false, false, 0, undef, rfl, rfl, ⟨fun _ => HAS1.out.up ((Old.refl _).drew), (fun h => by cases h), (fun h => by cases h)⟩⟩
      · rintro ⟨u11, u12, u13, u14, u15, u16, u17, u18, u19, u20, u21, u22, u23, u24, u25, u26, u27, u28, u29, u30, u31, u32, u33, u34, u35, u36, u37, u38, u39, u40, u41, u42, u43, u44, u45, u46, u47, u48, u49, u50, u51, u52⟩ a w1 ⟨b0, b1, b2, b3, b4, b5, b6, b7, b8, b9, b10, b11, b12, dummy, vt, hl, rfl, hF⟩
        have hl' := congrArg Array.toList hl
        simp at hl'
        obtain ⟨rfl, rfl, rfl, rfl, rfl, rfl, rfl, rfl, rfl, rfl, rfl, rfl, rfl⟩ := hl'
        clear hl
        obtain ⟨Ay, cy, hv, has⟩ := hF.2.2 rfl
        subst hv
        have HAS := Lib.hid has
        clear hF has
        go_wp2_with fail
        go_meet
        case rel => exact ⟨⟨ph', inc', runs', since', times', due', armed', rung', halt', again'⟩, Ay, cy, _, HLB.out, HAS.out⟩
      · rintro ⟨u11, u12, u13, u14, u15, u16, u17, u18, u19, u20, u21, u22, u23, u24, u25, u26, u27, u28, u29, u30, u31, u32, u33, u34, u35, u36, u37, u38, u39, u40, u41, u42, u43, u44, u45, u46, u47, u48, u49, u50, u51, u52⟩
        refine ⟨?_, ?_, ?_, ?_, ?_, ?_, ?_, ?_, ?_, ?_, ?_, ?_, ?_, trivial⟩
        · intro listed a w1 K hs hcl hf hall hI hK
          obtain ⟨b0, b1, b2, b3, b4, b5, b6, b7, b8, b9, b10, b11, b12, dummy, vt, rfl, rfl, hF⟩ := hI
          have hf' : b0 = false := hf
          subst hf'
          have hb8 : b8 = false := by
            cases b8
            · rfl
            · exact absurd (show false = true from hcl 8 _ rfl rfl ⟨0, .data⟩ (by first | exact .head _ | simp) rfl) (by decide)
          subst hb8
          have hb12 : b12 = false := by
            cases b12
            · rfl
            · exact absurd (show false = true from hcl 12 _ rfl rfl ⟨0, .phase⟩ (by first | exact .head _ | simp) rfl) (by decide)
          subst hb12
          have hb9 : b9 = false := by
            cases b9
            · rfl
            · exact absurd (show false = true from hcl 9 _ rfl rfl ⟨8, .data⟩ (by first | exact .head _ | simp) rfl) (by decide)
          subst hb9
          have hb10 : b10 = false := by
            cases b10
            · rfl
            · exact absurd (show false = true from hcl 10 _ rfl rfl ⟨9, .data⟩ (by first | exact .head _ | simp) rfl) (by decide)
          subst hb10
          have hb11 : b11 = false := by
            cases b11
            · rfl
            · exact absurd (show false = true from hcl 11 _ rfl rfl ⟨9, .data⟩ (by first | exact .head _ | simp) rfl) (by decide)
          subst hb11
          clear hall hcl hs hf
          obtain ⟨⟨e0, e1, e2, e3, e4, e5, e6, e7, e8, e9, e10, e11, e12, e13, e14⟩, _⟩ := row15 (show _ = some (Obj.cells #[.string j.nm, .string j.run, .slice j.eA j.env.length j.ec, .slice j.nA j.needs.length j.nc, .bool j.hasR, .string j.ready, .int .i64 j.restart, .int .u64 j.base, .int .u64 j.cap, .int .u64 j.stable, .int .i64 j.burst, .int .u64 j.win, .slice j.lA j.lad.length j.lc, .int .i64 j.line, .int .i64 j.col] 33 (0, 0)) from (hF.1 rfl).bj)
          go_simp
          exact hK _ _ ⟨true, b1, b2, b3, b4, b5, b6, b7, false, false, false, false, false, dummy, vt, rfl, rfl, hF⟩
        · intro listed a w1 K hs hcl hf hall hI hK
          obtain ⟨b0, b1, b2, b3, b4, b5, b6, b7, b8, b9, b10, b11, b12, dummy, vt, rfl, rfl, hF⟩ := hI
          have hf' : b1 = false := hf
          subst hf'
          have hb8 : b8 = false := by
            cases b8
            · rfl
            · exact absurd (show false = true from hcl 8 _ rfl rfl ⟨1, .data⟩ (by first | exact .head _ | simp) rfl) (by decide)
          subst hb8
          have hb12 : b12 = false := by
            cases b12
            · rfl
            · exact absurd (show false = true from hcl 12 _ rfl rfl ⟨1, .phase⟩ (by first | exact .head _ | simp) rfl) (by decide)
          subst hb12
          have hb9 : b9 = false := by
            cases b9
            · rfl
            · exact absurd (show false = true from hcl 9 _ rfl rfl ⟨8, .data⟩ (by first | exact .head _ | simp) rfl) (by decide)
          subst hb9
          have hb10 : b10 = false := by
            cases b10
            · rfl
            · exact absurd (show false = true from hcl 10 _ rfl rfl ⟨9, .data⟩ (by first | exact .head _ | simp) rfl) (by decide)
          subst hb10
          have hb11 : b11 = false := by
            cases b11
            · rfl
            · exact absurd (show false = true from hcl 11 _ rfl rfl ⟨9, .data⟩ (by first | exact .head _ | simp) rfl) (by decide)
          subst hb11
          clear hall hcl hs hf
          obtain ⟨⟨c0, c1, c2, c3, c4, c5, c6, c7, c8, c9⟩, f0, f1, f2, f3, f4, f5, f6, f7, f8, f9⟩ := row10 (show _ = some (Obj.cells #[.int .i64 x.ph, .int .i64 x.inc, .int .i64 x.runs, .int .u64 x.since, .slice A x.times.length c, .int .u64 x.due, .bool x.armed, .int .i64 x.rung, .bool x.halt, .bool x.again] 48 (0, 0)) from (hF.1 rfl).bl)
          go_simp
          exact hK _ _ ⟨b0, true, b2, b3, b4, b5, b6, b7, false, false, false, false, false, dummy, vt, rfl, rfl, hF⟩
        · intro listed a w1 K hs hcl hf hall hI hK
          obtain ⟨b0, b1, b2, b3, b4, b5, b6, b7, b8, b9, b10, b11, b12, dummy, vt, rfl, rfl, hF⟩ := hI
          have hf' : b2 = false := hf
          subst hf'
          clear hall hcl hs hf
          go_simp
          exact hK _ _ ⟨b0, b1, true, b3, b4, b5, b6, b7, b8, b9, b10, b11, b12, dummy, vt, rfl, rfl, hF⟩
        · intro listed a w1 K hs hcl hf hall hI hK
          obtain ⟨b0, b1, b2, b3, b4, b5, b6, b7, b8, b9, b10, b11, b12, dummy, vt, rfl, rfl, hF⟩ := hI
          have hf' : b3 = false := hf
          subst hf'
          have hq2 : b2 = true := hall ⟨2, .data⟩ (by first | exact .head _ | simp) rfl
          subst hq2
          have hb6 : b6 = false := by
            cases b6
            · rfl
            · exact absurd (show false = true from hcl 6 _ rfl rfl ⟨3, .chain⟩ (by first | exact .head _ | simp) rfl) (by decide)
          subst hb6
          have hb8 : b8 = false := by
            cases b8
            · rfl
            · exact absurd (show false = true from hcl 8 _ rfl rfl ⟨3, .data⟩ (by first | exact .head _ | simp) rfl) (by decide)
          subst hb8
          have hb12 : b12 = false := by
            cases b12
            · rfl
            · exact absurd (show false = true from hcl 12 _ rfl rfl ⟨3, .phase⟩ (by first | exact .head _ | simp) rfl) (by decide)
          subst hb12
          have hb7 : b7 = false := by
            cases b7
            · rfl
            · exact absurd (show false = true from hcl 7 _ rfl rfl ⟨6, .data⟩ (by first | exact .head _ | simp) rfl) (by decide)
          subst hb7
          have hb9 : b9 = false := by
            cases b9
            · rfl
            · exact absurd (show false = true from hcl 9 _ rfl rfl ⟨8, .data⟩ (by first | exact .head _ | simp) rfl) (by decide)
          subst hb9
          have hb10 : b10 = false := by
            cases b10
            · rfl
            · exact absurd (show false = true from hcl 10 _ rfl rfl ⟨9, .data⟩ (by first | exact .head _ | simp) rfl) (by decide)
          subst hb10
          have hb11 : b11 = false := by
            cases b11
            · rfl
            · exact absurd (show false = true from hcl 11 _ rfl rfl ⟨9, .data⟩ (by first | exact .head _ | simp) rfl) (by decide)
          subst hb11
          clear hall hcl hs hf
          have hn := nextDeck B g l0 2 w1 (hF.1 rfl).dk (by decide) (by decide)
          rw [e1] at hn
          go_simp
          refine hn.mono ?_
          rintro e w2 ⟨rfl, hd, hg⟩
          exact hK _ _ ⟨b0, b1, true, true, b4, b5, false, false, false, false, false, false, false, dummy, vt, rfl, rfl, ⟨fun _ => (hF.1 rfl).turn hd hg, (fun h => by cases h), (fun h => by cases h)⟩⟩
        · intro listed a w1 K hs hcl hf hall hI hK
          obtain ⟨b0, b1, b2, b3, b4, b5, b6, b7, b8, b9, b10, b11, b12, dummy, vt, rfl, rfl, hF⟩ := hI
          have hf' : b4 = false := hf
          subst hf'
          clear hall hcl hs hf
          go_simp
          exact hK _ _ ⟨b0, b1, b2, b3, true, b5, b6, b7, b8, b9, b10, b11, b12, dummy, vt, rfl, rfl, hF⟩
        · intro listed a w1 K hs hcl hf hall hI hK
          obtain ⟨b0, b1, b2, b3, b4, b5, b6, b7, b8, b9, b10, b11, b12, dummy, vt, rfl, rfl, hF⟩ := hI
          have hf' : b5 = false := hf
          subst hf'
          clear hall hcl hs hf
          go_simp
          exact hK _ _ ⟨b0, b1, b2, b3, b4, true, b6, b7, b8, b9, b10, b11, b12, dummy, vt, rfl, rfl, hF⟩
        · intro listed a w1 K hs hcl hf hall hI hK
          obtain ⟨b0, b1, b2, b3, b4, b5, b6, b7, b8, b9, b10, b11, b12, dummy, vt, rfl, rfl, hF⟩ := hI
          have hf' : b6 = false := hf
          subst hf'
          have hq5 : b5 = true := hall ⟨5, .data⟩ (by first | exact .head _ | simp) rfl
          subst hq5
          have hq3 : b3 = true := hall ⟨3, .chain⟩ (by first | exact .head _ | simp) rfl
          subst hq3
          have hq2 : b2 = true := hcl 3 _ rfl rfl ⟨2, .data⟩ (by first | exact .head _ | simp) rfl
          subst hq2
          have hb7 : b7 = false := by
            cases b7
            · rfl
            · exact absurd (show false = true from hcl 7 _ rfl rfl ⟨6, .data⟩ (by first | exact .head _ | simp) rfl) (by decide)
          subst hb7
          have hb8 : b8 = false := by
            cases b8
            · rfl
            · exact absurd (show false = true from hcl 8 _ rfl rfl ⟨6, .chain⟩ (by first | exact .head _ | simp) rfl) (by decide)
          subst hb8
          have hb12 : b12 = false := by
            cases b12
            · rfl
            · exact absurd (show false = true from hcl 12 _ rfl rfl ⟨6, .phase⟩ (by first | exact .head _ | simp) rfl) (by decide)
          subst hb12
          have hb9 : b9 = false := by
            cases b9
            · rfl
            · exact absurd (show false = true from hcl 9 _ rfl rfl ⟨8, .data⟩ (by first | exact .head _ | simp) rfl) (by decide)
          subst hb9
          have hb10 : b10 = false := by
            cases b10
            · rfl
            · exact absurd (show false = true from hcl 10 _ rfl rfl ⟨9, .data⟩ (by first | exact .head _ | simp) rfl) (by decide)
          subst hb10
          have hb11 : b11 = false := by
            cases b11
            · rfl
            · exact absurd (show false = true from hcl 11 _ rfl rfl ⟨9, .data⟩ (by first | exact .head _ | simp) rfl) (by decide)
          subst hb11
          clear hall hcl hs hf
          have hn := nextDeck B g l1 5 w1 (hF.1 rfl).dk (by decide) (by decide)
          rw [e2] at hn
          go_simp
          refine hn.mono ?_
          rintro e w2 ⟨rfl, hd, hg⟩
          exact hK _ _ ⟨b0, b1, true, true, b4, true, true, false, false, false, false, false, false, dummy, vt, rfl, rfl, ⟨fun _ => (hF.1 rfl).turn hd hg, (fun h => by cases h), (fun h => by cases h)⟩⟩
        · intro listed a w1 K hs hcl hf hall hI hK
          obtain ⟨b0, b1, b2, b3, b4, b5, b6, b7, b8, b9, b10, b11, b12, dummy, vt, rfl, rfl, hF⟩ := hI
          have hf' : b7 = false := hf
          subst hf'
          have hq6 : b6 = true := hall ⟨6, .data⟩ (by first | exact .head _ | simp) rfl
          subst hq6
          have hq5 : b5 = true := hcl 6 _ rfl rfl ⟨5, .data⟩ (by first | exact .head _ | simp) rfl
          subst hq5
          have hq3 : b3 = true := hcl 6 _ rfl rfl ⟨3, .chain⟩ (by first | exact .head _ | simp) rfl
          subst hq3
          have hq2 : b2 = true := hcl 3 _ rfl rfl ⟨2, .data⟩ (by first | exact .head _ | simp) rfl
          subst hq2
          have hb8 : b8 = false := by
            cases b8
            · rfl
            · exact absurd (show false = true from hcl 8 _ rfl rfl ⟨7, .data⟩ (by first | exact .head _ | simp) rfl) (by decide)
          subst hb8
          have hb12 : b12 = false := by
            cases b12
            · rfl
            · exact absurd (show false = true from hcl 12 _ rfl rfl ⟨7, .phase⟩ (by first | exact .head _ | simp) rfl) (by decide)
          subst hb12
          have hb9 : b9 = false := by
            cases b9
            · rfl
            · exact absurd (show false = true from hcl 9 _ rfl rfl ⟨8, .data⟩ (by first | exact .head _ | simp) rfl) (by decide)
          subst hb9
          have hb10 : b10 = false := by
            cases b10
            · rfl
            · exact absurd (show false = true from hcl 10 _ rfl rfl ⟨9, .data⟩ (by first | exact .head _ | simp) rfl) (by decide)
          subst hb10
          have hb11 : b11 = false := by
            cases b11
            · rfl
            · exact absurd (show false = true from hcl 11 _ rfl rfl ⟨9, .data⟩ (by first | exact .head _ | simp) rfl) (by decide)
          subst hb11
          clear hall hcl hs hf
          have hwr : IntKind.u64.wrap x2 = x2 := IntWalk.u64_in _ ⟨d2.1, by omega⟩
          go_simp
          try rw [hwr]
          exact hK _ _ ⟨b0, b1, true, true, b4, true, true, true, false, false, false, false, false, dummy, vt, rfl, rfl, hF⟩
        · intro listed a w1 K hs hcl hf hall hI hK
          obtain ⟨b0, b1, b2, b3, b4, b5, b6, b7, b8, b9, b10, b11, b12, dummy, vt, rfl, rfl, hF⟩ := hI
          have hf' : b8 = false := hf
          subst hf'
          have hq0 : b0 = true := hall ⟨0, .data⟩ (by first | exact .head _ | simp) rfl
          subst hq0
          have hq1 : b1 = true := hall ⟨1, .data⟩ (by first | exact .head _ | simp) rfl
          subst hq1
          have hq3 : b3 = true := hall ⟨3, .data⟩ (by first | exact .head _ | simp) rfl
          subst hq3
          have hq4 : b4 = true := hall ⟨4, .data⟩ (by first | exact .head _ | simp) rfl
          subst hq4
          have hq7 : b7 = true := hall ⟨7, .data⟩ (by first | exact .head _ | simp) rfl
          subst hq7
          have hq6 : b6 = true := hall ⟨6, .chain⟩ (by first | exact .head _ | simp) rfl
          subst hq6
          have hq2 : b2 = true := hcl 3 _ rfl rfl ⟨2, .data⟩ (by first | exact .head _ | simp) rfl
          subst hq2
          have hq5 : b5 = true := hcl 6 _ rfl rfl ⟨5, .data⟩ (by first | exact .head _ | simp) rfl
          subst hq5
          have hb9 : b9 = false := by
            cases b9
            · rfl
            · exact absurd (show false = true from hcl 9 _ rfl rfl ⟨8, .data⟩ (by first | exact .head _ | simp) rfl) (by decide)
          subst hb9
          have hb12 : b12 = false := by
            cases b12
            · rfl
            · exact absurd (show false = true from hcl 12 _ rfl rfl ⟨8, .chain⟩ (by first | exact .head _ | simp) rfl) (by decide)
          subst hb12
          have hb10 : b10 = false := by
            cases b10
            · rfl
            · exact absurd (show false = true from hcl 10 _ rfl rfl ⟨9, .data⟩ (by first | exact .head _ | simp) rfl) (by decide)
          subst hb10
          have hb11 : b11 = false := by
            cases b11
            · rfl
            · exact absurd (show false = true from hcl 11 _ rfl rfl ⟨9, .data⟩ (by first | exact .head _ | simp) rfl) (by decide)
          subst hb11
          clear hall hcl hs hf
          have hp := HSP.out w1 (hF.1 rfl).ok (hF.1 rfl).ts
          go_simp
          refine hp.mono ?_
          rintro e w2 ⟨Ay, cy, rfl, ht, hd⟩
          exact hK _ _ ⟨true, true, true, true, true, true, true, true, true, false, false, false, false, dummy, .slice Ay times'.length cy, rfl, rfl, ⟨fun _ => (hF.1 rfl).up hd, fun _ => ⟨Ay, cy, rfl, ht⟩, (fun h => by cases h)⟩⟩
        · intro listed a w1 K hs hcl hf hall hI hK
          obtain ⟨b0, b1, b2, b3, b4, b5, b6, b7, b8, b9, b10, b11, b12, dummy, vt, rfl, rfl, hF⟩ := hI
          have hf' : b9 = false := hf
          subst hf'
          have hq8 : b8 = true := hall ⟨8, .data⟩ (by first | exact .head _ | simp) rfl
          subst hq8
          clear hall hcl hs hf
          go_simp
          exact hK _ _ ⟨b0, b1, b2, b3, b4, b5, b6, b7, true, true, b10, b11, b12, dummy, vt, rfl, rfl, hF⟩
        · intro listed a w1 K hs hcl hf hall hI hK
          obtain ⟨b0, b1, b2, b3, b4, b5, b6, b7, b8, b9, b10, b11, b12, dummy, vt, rfl, rfl, hF⟩ := hI
          have hf' : b10 = false := hf
          subst hf'
          have hq9 : b9 = true := hall ⟨9, .data⟩ (by first | exact .head _ | simp) rfl
          subst hq9
          clear hall hcl hs hf
          go_simp
          exact hK _ _ ⟨b0, b1, b2, b3, b4, b5, b6, b7, b8, true, true, b11, b12, dummy, vt, rfl, rfl, hF⟩
        · intro listed a w1 K hs hcl hf hall hI hK
          obtain ⟨b0, b1, b2, b3, b4, b5, b6, b7, b8, b9, b10, b11, b12, dummy, vt, rfl, rfl, hF⟩ := hI
          have hf' : b11 = false := hf
          subst hf'
          have hq9 : b9 = true := hall ⟨9, .data⟩ (by first | exact .head _ | simp) rfl
          subst hq9
          clear hall hcl hs hf
          go_simp
          exact hK _ _ ⟨b0, b1, b2, b3, b4, b5, b6, b7, b8, true, b10, true, b12, dummy, vt, rfl, rfl, hF⟩
        · intro listed a w1 K hs hcl hf hall hI hK
          obtain ⟨b0, b1, b2, b3, b4, b5, b6, b7, b8, b9, b10, b11, b12, dummy, vt, rfl, rfl, hF⟩ := hI
          have hf' : b12 = false := hf
          subst hf'
          have hq10 : b10 = true := hall ⟨10, .data⟩ (by first | exact .head _ | simp) rfl
          subst hq10
          have hq8 : b8 = true := hall ⟨8, .chain⟩ (by first | exact .head _ | simp) rfl
          subst hq8
          have hq0 : b0 = true := hall ⟨0, .phase⟩ (by first | exact .head _ | simp) rfl
          subst hq0
          have hq1 : b1 = true := hall ⟨1, .phase⟩ (by first | exact .head _ | simp) rfl
          subst hq1
          have hq2 : b2 = true := hall ⟨2, .phase⟩ (by first | exact .head _ | simp) rfl
          subst hq2
          have hq3 : b3 = true := hall ⟨3, .phase⟩ (by first | exact .head _ | simp) rfl
          subst hq3
          have hq4 : b4 = true := hall ⟨4, .phase⟩ (by first | exact .head _ | simp) rfl
          subst hq4
          have hq5 : b5 = true := hall ⟨5, .phase⟩ (by first | exact .head _ | simp) rfl
          subst hq5
          have hq6 : b6 = true := hall ⟨6, .phase⟩ (by first | exact .head _ | simp) rfl
          subst hq6
          have hq7 : b7 = true := hall ⟨7, .phase⟩ (by first | exact .head _ | simp) rfl
          subst hq7
          have hq9 : b9 = true := hall ⟨9, .phase⟩ (by first | exact .head _ | simp) rfl
          subst hq9
          clear hall hcl hs hf
          obtain ⟨Ay, cy, hv, ht⟩ := hF.2.1 rfl
          subst hv
          have has := hF.1 rfl
          obtain ⟨⟨c0, c1, c2, c3, c4, c5, c6, c7, c8, c9⟩, f0, f1, f2, f3, f4, f5, f6, f7, f8, f9⟩ := row10 (show _ = some (Obj.cells #[.int .i64 x.ph, .int .i64 x.inc, .int .i64 x.runs, .int .u64 x.since, .slice A x.times.length c, .int .u64 x.due, .bool x.armed, .int .i64 x.rung, .bool x.halt, .bool x.again] 48 (0, 0)) from has.bl)
          go_simp
          exact hK _ _ ⟨true, true, true, true, true, true, true, true, true, true, true, b11, true, dummy, .slice Ay times'.length cy, rfl, rfl, ⟨(fun h => by cases h), fun _ => ⟨Ay, cy, rfl, has.putTs (y := ⟨ph', inc', runs', since', times', due', armed', rung', halt', again'⟩) (cy := cy) ht⟩, fun _ => ⟨Ay, cy, rfl, has.put (y := ⟨ph', inc', runs', since', times', due', armed', rung', halt', again'⟩) (cy := cy) ht⟩⟩⟩
    · subst hx6
      have HLB := Lib.hid (Lf.lb_fire (j := j.j) HX.out HJ.out.ok)
      have hsp := fun W (hk : JdOk W j) (ht : Ts W 30 A (u64s x.times)) => rfireC j x A c W hk HX.out.1 ht
      generalize Lf.fire j.j x = q at *
      obtain ⟨⟨ph', inc', runs', since', times', due', armed', rung', halt', again'⟩, sg⟩ := q
      unfold LfPi lfA at hsp
      try unfold jdA at hsp
      simp only at hsp
      have HSP := Lib.hid hsp
      clear hsp
      have bl1 : _ = some (Obj.cells #[.int .i64 x.ph, .int .i64 x.inc, .int .i64 x.runs, .int .u64 x.since, .slice A x.times.length c, .int .u64 x.due, .bool x.armed, .int .i64 x.rung, .bool x.halt, .bool x.again] 48 (0, 0)) := HAS1.out.bl
      have bj1 : _ = some (Obj.cells #[.string j.nm, .string j.run, .slice j.eA j.env.length j.ec, .slice j.nA j.needs.length j.nc, .bool j.hasR, .string j.ready, .int .i64 j.restart, .int .u64 j.base, .int .u64 j.cap, .int .u64 j.stable, .int .i64 j.burst, .int .u64 j.win, .slice j.lA j.lad.length j.lc, .int .i64 j.line, .int .i64 j.col] 33 (0, 0)) := HAS1.out.bj
      obtain ⟨⟨c0, c1, c2, c3, c4, c5, c6, c7, c8, c9⟩, f0, f1, f2, f3, f4, f5, f6, f7, f8, f9⟩ := row10 (bl1)
      obtain ⟨⟨e0, e1, e2, e3, e4, e5, e6, e7, e8, e9, e10, e11, e12, e13, e14⟩, _⟩ := row15 (bj1)
      have hp := HSP.out _ HAS1.out.ok HAS1.out.ts
      go_wp2_with fail
      refine (hp).mono ?_; rintro e w3 ⟨Ay, cy, rfl, ht, hd⟩
      have HAS3 := Lib.hid (HAS1.out.up hd)
      have bl3 : _ = some (Obj.cells #[.int .i64 x.ph, .int .i64 x.inc, .int .i64 x.runs, .int .u64 x.since, .slice A x.times.length c, .int .u64 x.due, .bool x.armed, .int .i64 x.rung, .bool x.halt, .bool x.again] 48 (0, 0)) := HAS3.out.bl
      clear hd bl1 bj1 hp c0 c1 c2 c3 c4 c5 c6 c7 c8 c9 f0 f1 f2 f3 f4 f5 f6 f7 f8 f9 e0 e1 e2 e3 e4 e5 e6 e7 e8 e9 e10 e11 e12 e13 e14
      obtain ⟨⟨c0, c1, c2, c3, c4, c5, c6, c7, c8, c9⟩, f0, f1, f2, f3, f4, f5, f6, f7, f8, f9⟩ := row10 (bl3)
      have HAS4 := Lib.hid (HAS3.out.put (y := ⟨ph', inc', runs', since', times', due', armed', rung', halt', again'⟩) (cy := cy) ht)
      clear ht HAS1 HAS3 bl3
      go_wp2_with fail
      go_meet
      case rel => exact ⟨⟨ph', inc', runs', since', times', due', armed', rung', halt', again'⟩, Ay, cy, _, HLB.out, HAS4.out⟩
    · subst hx7
      have HLB := Lib.hid (Lf.lb_start HX.out)
      have hsp := fun W (hk : JdOk W j) (ht : Ts W 30 A (u64s x.times)) => rstartC x A c W ht
      generalize Lf.start x = q at *
      obtain ⟨ph', inc', runs', since', times', due', armed', rung', halt', again'⟩ := q
      unfold LfP lfA at hsp
      try unfold jdA at hsp
      simp only at hsp
      have HSP := Lib.hid hsp
      clear hsp
      have bl1 : _ = some (Obj.cells #[.int .i64 x.ph, .int .i64 x.inc, .int .i64 x.runs, .int .u64 x.since, .slice A x.times.length c, .int .u64 x.due, .bool x.armed, .int .i64 x.rung, .bool x.halt, .bool x.again] 48 (0, 0)) := HAS1.out.bl
      have bj1 : _ = some (Obj.cells #[.string j.nm, .string j.run, .slice j.eA j.env.length j.ec, .slice j.nA j.needs.length j.nc, .bool j.hasR, .string j.ready, .int .i64 j.restart, .int .u64 j.base, .int .u64 j.cap, .int .u64 j.stable, .int .i64 j.burst, .int .u64 j.win, .slice j.lA j.lad.length j.lc, .int .i64 j.line, .int .i64 j.col] 33 (0, 0)) := HAS1.out.bj
      obtain ⟨⟨c0, c1, c2, c3, c4, c5, c6, c7, c8, c9⟩, f0, f1, f2, f3, f4, f5, f6, f7, f8, f9⟩ := row10 (bl1)
      obtain ⟨⟨e0, e1, e2, e3, e4, e5, e6, e7, e8, e9, e10, e11, e12, e13, e14⟩, _⟩ := row15 (bj1)
      have hp := HSP.out _ HAS1.out.ok HAS1.out.ts
      go_wp2_with fail
      refine (hp).mono ?_; rintro e w3 ⟨Ay, cy, rfl, ht, hd⟩
      have HAS3 := Lib.hid (HAS1.out.up hd)
      have bl3 : _ = some (Obj.cells #[.int .i64 x.ph, .int .i64 x.inc, .int .i64 x.runs, .int .u64 x.since, .slice A x.times.length c, .int .u64 x.due, .bool x.armed, .int .i64 x.rung, .bool x.halt, .bool x.again] 48 (0, 0)) := HAS3.out.bl
      clear hd bl1 bj1 hp c0 c1 c2 c3 c4 c5 c6 c7 c8 c9 f0 f1 f2 f3 f4 f5 f6 f7 f8 f9 e0 e1 e2 e3 e4 e5 e6 e7 e8 e9 e10 e11 e12 e13 e14
      obtain ⟨⟨c0, c1, c2, c3, c4, c5, c6, c7, c8, c9⟩, f0, f1, f2, f3, f4, f5, f6, f7, f8, f9⟩ := row10 (bl3)
      have HAS4 := Lib.hid (HAS3.out.put (y := ⟨ph', inc', runs', since', times', due', armed', rung', halt', again'⟩) (cy := cy) ht)
      clear ht HAS1 HAS3 bl3
      go_wp2_with fail
      go_meet
      case rel => exact ⟨⟨ph', inc', runs', since', times', due', armed', rung', halt', again'⟩, Ay, cy, _, HLB.out, HAS4.out⟩
    · subst hx8
      have HLB := Lib.hid (Lf.lb_stop (j := j.j) HX.out HJ.out.ok hn)
      have hsp := fun W (hk : JdOk W j) (ht : Ts W 30 A (u64s x.times)) => rstopC j x A c now W hk hn ht
      generalize Lf.stop j.j x now = q at *
      obtain ⟨⟨ph', inc', runs', since', times', due', armed', rung', halt', again'⟩, sg⟩ := q
      unfold LfPi lfA at hsp
      try unfold jdA at hsp
      simp only at hsp
      have HSP := Lib.hid hsp
      clear hsp
      have bl1 : _ = some (Obj.cells #[.int .i64 x.ph, .int .i64 x.inc, .int .i64 x.runs, .int .u64 x.since, .slice A x.times.length c, .int .u64 x.due, .bool x.armed, .int .i64 x.rung, .bool x.halt, .bool x.again] 48 (0, 0)) := HAS1.out.bl
      have bj1 : _ = some (Obj.cells #[.string j.nm, .string j.run, .slice j.eA j.env.length j.ec, .slice j.nA j.needs.length j.nc, .bool j.hasR, .string j.ready, .int .i64 j.restart, .int .u64 j.base, .int .u64 j.cap, .int .u64 j.stable, .int .i64 j.burst, .int .u64 j.win, .slice j.lA j.lad.length j.lc, .int .i64 j.line, .int .i64 j.col] 33 (0, 0)) := HAS1.out.bj
      obtain ⟨⟨c0, c1, c2, c3, c4, c5, c6, c7, c8, c9⟩, f0, f1, f2, f3, f4, f5, f6, f7, f8, f9⟩ := row10 (bl1)
      obtain ⟨⟨e0, e1, e2, e3, e4, e5, e6, e7, e8, e9, e10, e11, e12, e13, e14⟩, _⟩ := row15 (bj1)
      have hp := HSP.out _ HAS1.out.ok HAS1.out.ts
      go_wp2_with fail
      refine (hp).mono ?_; rintro e w3 ⟨Ay, cy, rfl, ht, hd⟩
      have HAS3 := Lib.hid (HAS1.out.up hd)
      have bl3 : _ = some (Obj.cells #[.int .i64 x.ph, .int .i64 x.inc, .int .i64 x.runs, .int .u64 x.since, .slice A x.times.length c, .int .u64 x.due, .bool x.armed, .int .i64 x.rung, .bool x.halt, .bool x.again] 48 (0, 0)) := HAS3.out.bl
      clear hd bl1 bj1 hp c0 c1 c2 c3 c4 c5 c6 c7 c8 c9 f0 f1 f2 f3 f4 f5 f6 f7 f8 f9 e0 e1 e2 e3 e4 e5 e6 e7 e8 e9 e10 e11 e12 e13 e14
      obtain ⟨⟨c0, c1, c2, c3, c4, c5, c6, c7, c8, c9⟩, f0, f1, f2, f3, f4, f5, f6, f7, f8, f9⟩ := row10 (bl3)
      have HAS4 := Lib.hid (HAS3.out.put (y := ⟨ph', inc', runs', since', times', due', armed', rung', halt', again'⟩) (cy := cy) ht)
      clear ht HAS1 HAS3 bl3
      go_wp2_with fail
      go_meet
      case rel => exact ⟨⟨ph', inc', runs', since', times', due', armed', rung', halt', again'⟩, Ay, cy, _, HLB.out, HAS4.out⟩
    · subst hx9
      have HLB := Lib.hid (Lf.lb_restart (j := j.j) HX.out HJ.out.ok hn)
      have hsp := fun W (hk : JdOk W j) (ht : Ts W 30 A (u64s x.times)) => rrestartC j x A c now W hk hn ht
      generalize Lf.restart j.j x now = q at *
      obtain ⟨⟨ph', inc', runs', since', times', due', armed', rung', halt', again'⟩, sg⟩ := q
      unfold LfPi lfA at hsp
      try unfold jdA at hsp
      simp only at hsp
      have HSP := Lib.hid hsp
      clear hsp
      have bl1 : _ = some (Obj.cells #[.int .i64 x.ph, .int .i64 x.inc, .int .i64 x.runs, .int .u64 x.since, .slice A x.times.length c, .int .u64 x.due, .bool x.armed, .int .i64 x.rung, .bool x.halt, .bool x.again] 48 (0, 0)) := HAS1.out.bl
      have bj1 : _ = some (Obj.cells #[.string j.nm, .string j.run, .slice j.eA j.env.length j.ec, .slice j.nA j.needs.length j.nc, .bool j.hasR, .string j.ready, .int .i64 j.restart, .int .u64 j.base, .int .u64 j.cap, .int .u64 j.stable, .int .i64 j.burst, .int .u64 j.win, .slice j.lA j.lad.length j.lc, .int .i64 j.line, .int .i64 j.col] 33 (0, 0)) := HAS1.out.bj
      obtain ⟨⟨c0, c1, c2, c3, c4, c5, c6, c7, c8, c9⟩, f0, f1, f2, f3, f4, f5, f6, f7, f8, f9⟩ := row10 (bl1)
      obtain ⟨⟨e0, e1, e2, e3, e4, e5, e6, e7, e8, e9, e10, e11, e12, e13, e14⟩, _⟩ := row15 (bj1)
      have hp := HSP.out _ HAS1.out.ok HAS1.out.ts
      go_wp2_with fail
      refine (hp).mono ?_; rintro e w3 ⟨Ay, cy, rfl, ht, hd⟩
      have HAS3 := Lib.hid (HAS1.out.up hd)
      have bl3 : _ = some (Obj.cells #[.int .i64 x.ph, .int .i64 x.inc, .int .i64 x.runs, .int .u64 x.since, .slice A x.times.length c, .int .u64 x.due, .bool x.armed, .int .i64 x.rung, .bool x.halt, .bool x.again] 48 (0, 0)) := HAS3.out.bl
      clear hd bl1 bj1 hp c0 c1 c2 c3 c4 c5 c6 c7 c8 c9 f0 f1 f2 f3 f4 f5 f6 f7 f8 f9 e0 e1 e2 e3 e4 e5 e6 e7 e8 e9 e10 e11 e12 e13 e14
      obtain ⟨⟨c0, c1, c2, c3, c4, c5, c6, c7, c8, c9⟩, f0, f1, f2, f3, f4, f5, f6, f7, f8, f9⟩ := row10 (bl3)
      have HAS4 := Lib.hid (HAS3.out.put (y := ⟨ph', inc', runs', since', times', due', armed', rung', halt', again'⟩) (cy := cy) ht)
      clear ht HAS1 HAS3 bl3
      go_wp2_with fail
      go_meet
      case rel => exact ⟨⟨ph', inc', runs', since', times', due', armed', rung', halt', again'⟩, Ay, cy, _, HLB.out, HAS4.out⟩
  case rest =>
    obtain ⟨y, Ay, cy, dl', hlb, has⟩ := hcut
    have HLB := Lib.hid hlb
    have HASC := Lib.hid has
    have bl1 : _ = some (Obj.cells #[.int .i64 y.ph, .int .i64 y.inc, .int .i64 y.runs, .int .u64 y.since, .slice Ay y.times.length cy, .int .u64 y.due, .bool y.armed, .int .i64 y.rung, .bool y.halt, .bool y.again] 48 (0, 0)) := has.bl
    have br1 : _ = some (Obj.cells #[.int .i64 0, .int .i64 0, .int .i64 0, .int .u64 0, .slice none 0 0, .int .u64 0, .bool false, .int .i64 0, .bool false, .bool false] 48 (0, 0)) := has.br
    obtain ⟨⟨c0, c1, c2, c3, c4, c5, c6, c7, c8, c9⟩, f0, f1, f2, f3, f4, f5, f6, f7, f8, f9⟩ := row10 bl1
    obtain ⟨⟨d0, d1, d2, d3, d4, d5, d6, d7, d8, d9⟩, g0, g1, g2, g3, g4, g5, g6, g7, g8, g9⟩ := row10 br1
    clear hlb has bl1 br1 HAS1 HX HJ
    go_wp2_with fail
    refine bodyPost_ret (by first | (simp [results, Try.results63, go_sem, lfA, d0, d1, d2, d3, d4, d5, d6, d7, d8, d9]; done) | (simp [results, Try.results63, go_sem, lfA, d0, d1, d2, d3, d4, d5, d6, d7, d8, d9]; first | rfl | exact ⟨rfl, rfl⟩)) rfl (HPO.out y Ay cy dl' _ HLB.out HASC.out.putr)
end Go.Proofs.Ytpknglclcdgfbaa
