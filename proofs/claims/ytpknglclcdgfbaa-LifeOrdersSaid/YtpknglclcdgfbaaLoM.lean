/-
  The walk of law22.made: a job, and a life that it may have.
-/
import Derived.Test.YtpknglclcdgfbaaLoA
import Derived.Test.YtpknglclcdgfbaaJbW
import Derived.Laws.Tables
namespace Go.Proofs.Ytpknglclcdgfbaa
open Go.RowKit Go.Shelf
set_option linter.unusedVariables false

def jdV (j : Jd) : Array Value := #[.string j.nm, .string j.run, .slice j.eA j.env.length j.ec, .slice j.nA j.needs.length j.nc, .bool j.hasR, .string j.ready, .int .i64 j.restart, .int .u64 j.base, .int .u64 j.cap, .int .u64 j.stable, .int .i64 j.burst, .int .u64 j.win, .slice j.lA j.lad.length j.lc, .int .i64 j.line, .int .i64 j.col]
def lfV (y : Lf.T) (A : Option Addr) (c : Nat) : Array Value := #[.int .i64 y.ph, .int .i64 y.inc, .int .i64 y.runs, .int .u64 y.since, .slice A y.times.length c, .int .u64 y.due, .bool y.armed, .int .i64 y.rung, .bool y.halt, .bool y.again]
theorem jdV_one (j : Jd) : ∀ v ∈ (jdV j).toList, v.oneCell' = true := fun v hv => (Array.all_eq_true_iff_forall_mem.1 (show (jdV j).all (·.oneCell') = true by simp [jdV, Value.oneCell'])) v (by simpa using hv)
theorem lfV_one (y : Lf.T) (A : Option Addr) (c : Nat) : ∀ v ∈ (lfV y A c).toList, v.oneCell' = true := fun v hv => (Array.all_eq_true_iff_forall_mem.1 (show (lfV y A c).all (·.oneCell') = true by simp [lfV, Value.oneCell'])) v (by simpa using hv)
def jdZ : Obj := .cells #[.string ⟨#[]⟩, .string ⟨#[]⟩, .slice none 0 0, .slice none 0 0, .bool false, .string ⟨#[]⟩, .int .i64 0, .int .u64 0, .int .u64 0, .int .u64 0, .int .i64 0, .int .u64 0, .slice none 0 0, .int .i64 0, .int .i64 0] 33 (0, 0)
theorem setRow_grown (w : World) (k : Nat) (v : Array Value) : w.grownBy (w.setRow k v) (some k) := ⟨rfl, rfl, rfl, by simp, fun b _ hk => setRow_other w k b v (fun e => hk (by rw [e]))⟩
theorem setRow_ts {w : World} {e t : TypeId} {A : Option Addr} {xs : List Value} {k : Nat} {cs v : Array Value} {z : Nat × Nat} (h : Ts w e A xs) (hk : w.heap[k]? = some (.cells cs t z)) (hne : e ≠ t) : Ts (w.setRow k v) e A xs := by
  rcases h with q | ⟨b, off, cur, fz, hA, hb, hc⟩
  · exact Or.inl q
  · refine Or.inr ⟨b, off, cur, fz, hA, (setRow_other w k b v (fun e => ?_)).trans hb, hc⟩
    subst e
    rw [hb] at hk
    simp at hk
    exact hne hk.2.1
/-- Within made: the boxes of the results, of the job, of the life; the deck. -/
structure MS (w wr : World) (B g k5 k6 : Nat) (j : Jd) (y : Lf.T) (A : Option Addr) (c : Nat) (dl : List Int) : Prop where
  r2 : wr.heap[w.heap.size]? = some jdZ
  r3 : wr.heap[w.heap.size + 1]? = some lfZ
  b5 : wr.heap[k5]? = some (jdO j)
  b6 : wr.heap[k6]? = some (lfO y A c)
  ok : JdOk wr j
  ts : Ts wr 30 A (u64s y.times)
  dk : Dk wr B g dl
  gr : w.grownBy wr (some g)
  gl : g < w.heap.size
  k5l : w.heap.size + 1 < k5
  k6l : w.heap.size + 1 < k6
section
variable {w wr w' : World} {B g k5 k6 c : Nat} {j : Jd} {y : Lf.T} {A : Option Addr} {dl : List Int}
theorem MS.up (h : MS w wr B g k5 k6 j y A c dl) (ho : Old wr w') : MS w w' B g k5 k6 j y A c dl :=
  ⟨ho.block h.r2, ho.block h.r3, ho.block h.b5, ho.block h.b6, h.ok.up ho, h.ts.up ho, h.dk.up ho, grown_far h.gr (old_grown ho) (fun q e => by cases e), h.gl, h.k5l, h.k6l⟩
theorem MS.turn {dl' : List Int} (h : MS w wr B g k5 k6 j y A c dl) (hd : Dk w' B g dl') (hg : wr.grownBy w' (some g)) : MS w w' B g k5 k6 j y A c dl' :=
  ⟨row_turn h.dk hg h.r2 (by decide), row_turn h.dk hg h.r3 (by decide), row_turn h.dk hg h.b5 (by decide), row_turn h.dk hg h.b6 (by decide), ⟨h.dk.ts hg h.ok.lad (by decide), h.ok.few, h.ok.ok, h.ok.base, h.ok.cap, h.ok.stable, h.ok.win⟩, h.dk.ts hg h.ts (by decide), hd, grown_trans h.gr hg, h.gl, h.k5l, h.k6l⟩
theorem MS.put {y' : Lf.T} {A' : Option Addr} {c' : Nat} (h : MS w wr B g k5 k6 j y A c dl) (ht : Ts wr 30 A' (u64s y'.times)) :
    MS w (put10 wr k6 (.int .i64 y'.ph) (.int .i64 y'.inc) (.int .i64 y'.runs) (.int .u64 y'.since) (.slice A' y'.times.length c') (.int .u64 y'.due) (.bool y'.armed) (.int .i64 y'.rung) (.bool y'.halt) (.bool y'.again)) B g k5 k6 j y' A' c' dl := by
  have hb : wr.heap[k6]? = some (.cells _ 48 (0, 0)) := h.b6
  have h1 := h.k6l
  have h2 := h.gl
  have hB := h.dk.1
  have hne : k5 ≠ k6 := fun e => by
    have h5 := h.b5
    rw [e, h.b6] at h5
    simp [lfO, jdO] at h5
  exact ⟨(put10_other (by omega)).trans h.r2, (put10_other (by omega)).trans h.r3, (put10_other hne).trans h.b5, put10_row h.b6, h.ok.put10 hb (by decide), (put10_tn (ht.tn2 hb (by decide) hb (by decide)) (by simp)).ts, h.dk.far (put10_grown wr k6 _ _ _ _ _ _ _ _ _ _) (fun e => by injection e with e; omega) (fun q e => by injection e with e; omega), grown_far h.gr (put10_grown wr k6 _ _ _ _ _ _ _ _ _ _) (fun q e => by injection e with e; omega), h.gl, h.k5l, h.k6l⟩
end
/-- While the results are filled. -/
structure M8 (w : World) (B g k5 k6 : Nat) (j : Jd) (y : Lf.T) (A : Option Addr) (c : Nat) (s2 s3 : Bool) (wr : World) : Prop where
  b5_ : wr.heap[k5]? = some (jdO j)
  b6_ : wr.heap[k6]? = some (lfO y A c)
  r2 : s2 = false → wr.heap[w.heap.size]? = some (.cells #[.string ⟨#[]⟩, .string ⟨#[]⟩, .slice none 0 0, .slice none 0 0, .bool false, .string ⟨#[]⟩, .int .i64 0, .int .u64 0, .int .u64 0, .int .u64 0, .int .i64 0, .int .u64 0, .slice none 0 0, .int .i64 0, .int .i64 0] 33 (0, 0))
  r3 : s3 = false → wr.heap[w.heap.size + 1]? = some (.cells #[.int .i64 0, .int .i64 0, .int .i64 0, .int .u64 0, .slice none 0 0, .int .u64 0, .bool false, .int .i64 0, .bool false, .bool false] 48 (0, 0))
  e2 : s2 = true → wr.heap[w.heap.size]? = some (.cells (jdV j) 33 (0, 0))
  e3 : s3 = true → wr.heap[w.heap.size + 1]? = some (.cells (lfV y A c) 48 (0, 0))
  ok : JdOk wr j
  ts : Ts wr 30 A (u64s y.times)
  gr : w.grownBy wr (some g)
  k5l : w.heap.size + 1 < k5
  k6l : w.heap.size + 1 < k6
section
variable {w wr w' : World} {B g k5 k6 c : Nat} {j : Jd} {y : Lf.T} {A : Option Addr} {dl : List Int}
theorem MS.m8 (h : MS w wr B g k5 k6 j y A c dl) : M8 w B g k5 k6 j y A c false false { wr with drawn := wr.drawn + 1 } :=
  ⟨h.b5, h.b6, fun _ => h.r2, fun _ => h.r3, (fun e => by cases e), (fun e => by cases e), h.ok.drewN 1, h.ts, grown_far h.gr (old_grown (Old.refl wr).drew) (fun q e => by cases e), h.k5l, h.k6l⟩
theorem M8.e2_ (h : M8 w B g k5 k6 j y A c true true wr) : wr.heap[w.heap.size]? = some (.cells (jdV j) 33 (0, 0)) := h.e2 rfl
theorem M8.e3_ (h : M8 w B g k5 k6 j y A c true true wr) : wr.heap[w.heap.size + 1]? = some (.cells (lfV y A c) 48 (0, 0)) := h.e3 rfl
theorem M8.st2 (h : M8 w B g k5 k6 j y A c false false wr) : M8 w B g k5 k6 j y A c true false (wr.setRow w.heap.size (jdV j)) := by
  have h1 := h.k5l
  have h2 := h.k6l
  have hr := h.r2 rfl
  exact ⟨(setRow_other wr _ k5 _ (by omega)).trans h.b5_, (setRow_other wr _ k6 _ (by omega)).trans h.b6_, (fun e => by cases e), fun e => (setRow_other wr _ _ _ (by omega)).trans (h.r3 e), fun _ => setRow_heap wr _ _ _ _ _ hr, (fun e => by cases e),
    ⟨setRow_ts h.ok.lad hr (by decide), h.ok.few, h.ok.ok, h.ok.base, h.ok.cap, h.ok.stable, h.ok.win⟩, setRow_ts h.ts hr (by decide), grown_far h.gr (setRow_grown wr _ _) (fun q e => by injection e with e; omega), h1, h2⟩
theorem M8.st3 (h : M8 w B g k5 k6 j y A c true false wr) : M8 w B g k5 k6 j y A c true true (wr.setRow (w.heap.size + 1) (lfV y A c)) := by
  have h1 := h.k5l
  have h2 := h.k6l
  have hr := h.r3 rfl
  exact ⟨(setRow_other wr _ k5 _ (by omega)).trans h.b5_, (setRow_other wr _ k6 _ (by omega)).trans h.b6_, (fun e => by cases e), (fun e => by cases e), fun e => (setRow_other wr _ _ _ (by omega)).trans (h.e2 e), fun _ => setRow_heap wr _ _ _ _ _ hr,
    ⟨setRow_ts h.ok.lad hr (by decide), h.ok.few, h.ok.ok, h.ok.base, h.ok.cap, h.ok.stable, h.ok.win⟩, setRow_ts h.ts hr (by decide), grown_far h.gr (setRow_grown wr _ _) (fun q e => by injection e with e; omega), h1, h2⟩
end
def M8I (w : World) (B g k5 k6 : Nat) (j : Jd) (y : Lf.T) (A : Option Addr) (c : Nat) (nw : Int) (u8 u9 u10 u11 u12 u13 u14 u15 u16 u17 u18 u19 u20 u21 u22 u23 u24 u25 u26 u27 : Value) (listed : Array Bool) (a : Act) (ww : World) : Prop :=
  ∃ (b0 b1 b2 b3 b4 b5 : Bool) (dummy : Nat) (nov : Value), listed = #[b0, b1, b2, b3, b4, b5] ∧
    a = { tmps := #[.pointer (some ⟨g, 0, none⟩), undef, .pointer (some ⟨w.heap.size, 0, none⟩), .pointer (some ⟨w.heap.size + 1, 0, none⟩), cond b5 (.int .u64 nw) (.int .u64 0), .pointer (some ⟨k5, 0, none⟩), .pointer (some ⟨k6, 0, none⟩), .int .u64 nw, u8, u9, u10, u11, u12, u13, u14, u15, u16, u17, u18, u19, u20, u21, u22, u23, u24, u25, u26, u27, cond b0 (.agg (jdV j)) (undef), cond b1 (.agg (lfV y A c)) (undef), cond b2 (.int .u64 nw) (undef)], defers := [] } ∧ M8 w B g k5 k6 j y A c b3 b4 ww

def MadePost (w : World) (g : Nat) (e : Ending) (w' : World) : Prop := ∃ j y A c nw, e = .returned (.tuple #[jdA j, lfA y A c, .int .u64 nw]) ∧ JdOk w' j ∧ Lf.LB y 12 ∧ Tk.U nw ∧ Ts w' 30 A (u64s y.times) ∧ w.grownBy w' (some g)
def MdRel (w : World) (B g k5 k6 : Nat) (j : Jd) (s7 s8 : Value) (wr : World) : Prop :=
  ∃ (k : Nat) (nw : Int) (y : Lf.T) (A : Option Addr) (c : Nat) (dl : List Int), s7 = .int .u64 nw ∧ s8 = .int .i64 (k : Int) ∧ k ≤ 12 ∧ 0 ≤ nw ∧ nw ≤ 9 * (12 - (k : Int)) ∧ Hid (Lf.LB y (12 - k)) ∧ Hid (MS w wr B g k5 k6 j y A c dl)
set_option maxHeartbeats 8000000 in
set_option maxRecDepth 100000 in
theorem madeC (B g : Nat) (dl : List Int) (w : World) (hd : Dk w B g dl) :
    Calls Try.prog 32 #[.pointer (some ⟨g, 0, none⟩)] w (MadePost w g) := by
  have HPO : Hid (∀ j y A c nw w', JdOk w' j → Lf.LB y 12 → Tk.U nw → Ts w' 30 A (u64s y.times) → w.grownBy w' (some g) → MadePost w g (.returned (.tuple #[jdA j, lfA y A c, .int .u64 nw])) w') := Lib.hid (fun j y A c nw w' h1 h2 h3 h4 h5 => ⟨j, y, A, c, nw, rfl, h1, h2, h3, h4, h5⟩)
  have HW : Hid (∀ o1 o2, Old w ((w.alloc o1).alloc o2) ∧ ((w.alloc o1).alloc o2).heap[w.heap.size]? = some o1 ∧ ((w.alloc o1).alloc o2).heap[w.heap.size + 1]? = some o2 ∧ w.heap.size + 1 < ((w.alloc o1).alloc o2).heap.size) := Lib.hid (fun o1 o2 => by
    obtain ⟨q1, q2, q3⟩ := two_ (Old.refl ((w.alloc o1).alloc o2))
    exact ⟨q3, q1, q2, lt_of_block q2⟩)
  have HD := Lib.hid hd
  have hgl := hd.lt
  clear hd
  go_enter Try.func32, Try.ntmps32
  go_upto_region 1 with fail
  obtain ⟨hO, r2, r3, hsz⟩ := HW.out (.cells #[.string ⟨#[]⟩, .string ⟨#[]⟩, .slice none 0 0, .slice none 0 0, .bool false, .string ⟨#[]⟩, .int .i64 0, .int .u64 0, .int .u64 0, .int .u64 0, .int .i64 0, .int .u64 0, .slice none 0 0, .int .i64 0, .int .i64 0] 33) (.cells #[.int .i64 0, .int .i64 0, .int .i64 0, .int .u64 0, .slice none 0 0, .int .u64 0, .bool false, .int .i64 0, .bool false, .bool false] 48)
  clear HW
  generalize (w.alloc (.cells #[.string ⟨#[]⟩, .string ⟨#[]⟩, .slice none 0 0, .slice none 0 0, .bool false, .string ⟨#[]⟩, .int .i64 0, .int .u64 0, .int .u64 0, .int .u64 0, .int .i64 0, .int .u64 0, .slice none 0 0, .int .i64 0, .int .i64 0] 33)).alloc (.cells #[.int .i64 0, .int .i64 0, .int .i64 0, .int .u64 0, .slice none 0 0, .int .u64 0, .bool false, .int .i64 0, .bool false, .bool false] 48) = wa at *
  have hda := HD.out.up hO
  have hj := jobC B g dl ⟨#[97]⟩ none 0 [] wa hda (Or.inl rfl) (by decide)
  unfold JobPost jdA at hj
  simp only [List.length_nil] at hj
  have HJ := Lib.hid hj
  have HW : Hid (wa.heap[w.heap.size]? = some jdZ ∧ wa.heap[w.heap.size + 1]? = some lfZ ∧ Old w wa ∧ Dk wa B g dl) := Lib.hid ⟨r2, r3, hO, hda⟩
  clear hj HD hO r2 r3 hda
  go_wp2_with fail
  refine (HJ.out).mono ?_; rintro e wb ⟨j, l', rfl, hbd, _, h1, h3, hw, hmem, hdkb, hgb⟩
  have HOK := Lib.hid (JdMem.ok (m := 0) hbd h3 hw hmem)
  have HDB := Lib.hid hdkb
  have HGB := Lib.hid hgb
  have hszb := hgb.size
  clear hbd h1 h3 hw hmem hdkb hgb HJ
  have hn1 := fun W => rnewC W
  unfold lfA Lf.new at hn1
  simp only [List.length_nil] at hn1
  have HN := Lib.hid hn1
  clear hn1
  go_wp2_with fail
  refine (HN.out _).mono ?_; rintro e wc ⟨rfl, hoc⟩
  have HMS : Hid (MS w (wc.alloc (.cells #[.int .i64 1, .int .i64 0, .int .i64 0, .int .u64 0, .slice none 0 0, .int .u64 0, .bool false, .int .i64 0, .bool false, .bool false] 48)) B g wb.heap.size wc.heap.size j Lf.new none 0 l') := Lib.hid (by
    have ha1 := (Old.refl wb).alloc (.cells (jdV j) 33)
    have ha2 := (Old.refl wc).alloc (.cells #[.int .i64 1, .int .i64 0, .int .i64 0, .int .u64 0, .slice none 0 0, .int .u64 0, .bool false, .int .i64 0, .bool false, .bool false] 48)
    have ho : Old wb (wc.alloc (.cells #[.int .i64 1, .int .i64 0, .int .i64 0, .int .u64 0, .slice none 0 0, .int .u64 0, .bool false, .int .i64 0, .bool false, .bool false] 48)) := (ha1.up hoc).up ha2
    obtain ⟨r2, r3, hOa, hda⟩ := HW.out
    have hs := lt_of_block (hoc.block (heap_alloc_new wb (.cells (jdV j) 33)))
    have hb5 := (hoc.up ha2).block (heap_alloc_new wb (.cells (jdV j) 33))
    exact ⟨ho.block (row_turn hda HGB.out r2 (by decide)), ho.block (row_turn hda HGB.out r3 (by decide)), hb5, heap_alloc_new wc _, HOK.out.up ho, Ts.nil_, HDB.out.up ho, grown_far (old_grown_ hOa HGB.out) (old_grown ho) (fun q e => by cases e), hgl, by omega, by omega⟩)
  clear hoc HN HW HDB HGB HOK hszb
  go_upto_region 3 with fail
  generalize wc.alloc (.cells #[.int .i64 1, .int .i64 0, .int .i64 0, .int .u64 0, .slice none 0 0, .int .u64 0, .bool false, .int .i64 0, .bool false, .bool false] 48) = w4 at *
  generalize wb.heap.size = k5 at *
  generalize wc.heap.size = k6 at *
  obtain ⟨x, l1, e1⟩ : ∃ x r, nx l' 12 = (x, r) := ⟨_, _, rfl⟩
  have hx := nx_bd l' (show (1 : Int) ≤ 12 by decide)
  have hnd := nextDeck B g l' 12 w4 HMS.out.dk (by decide) (by decide)
  unfold NextPost at hnd
  rw [e1] at hnd hx
  simp only at hx hnd
  have HN := Lib.hid hnd
  clear hnd e1
  go_wp2_with fail
  refine (HN.out).mono ?_; rintro e w5 ⟨rfl, hd5, hg5⟩
  have HMS5 := Lib.hid (HMS.out.turn hd5 hg5)
  clear HN HMS hd5 hg5
  obtain ⟨k, rfl⟩ := Int.eq_ofNat_of_zero_le hx.1
  have HREL : Hid (MdRel w B g k5 k6 j (.int .u64 0) (.int .i64 (k : Int)) w5) := Lib.hid ⟨k, 0, Lf.new, none, 0, l1, rfl, rfl, by omega, Int.le_refl _, by omega, Lib.hid (Lf.lb_new.mono (Nat.zero_le _)), HMS5⟩
  clear HMS5 hx
  go_wp2_with fail
  go_loopw [7, 8] (fun s7 s8 wr => MdRel w B g k5 k6 j s7 s8 wr) (fun _ s8 _ => (intOf s8).toNat)
  case atStart => exact HREL.out
  case round =>
    obtain ⟨k, nw, y, A, c, dl, rfl, rfl, hk, hn0, hn1, HLB, HMS⟩ := hrel
    clear HREL
    by_cases h0 : 0 < k
    · have hk0 : (0 : Int) < (k : Int) := by omega
      obtain ⟨x, l1, e1⟩ : ∃ x r, nx dl 9 = (x, r) := ⟨_, _, rfl⟩
      have hx := nx_bd dl (show (1 : Int) ≤ 9 by decide)
      have hnd := nextDeck B g dl 9 wr HMS.out.dk (by decide) (by decide)
      unfold NextPost at hnd
      rw [e1] at hnd hx
      simp only at hx hnd
      have HN := Lib.hid hnd
      clear hnd e1
      go_wp2_with fail
      refine (HN.out).mono ?_; rintro e w1 ⟨rfl, hd1, hg1⟩
      have HMS1 := Lib.hid (HMS.out.turn hd1 hg1)
      clear HN HMS hd1 hg1
      have hUn : Tk.U (nw + x) := ⟨by omega, by omega⟩
      have hac := ractC B g (12 - k) l1 j y A c (nw + x) w1 HMS1.out.ok HMS1.out.dk hUn HLB.out (by omega) HMS1.out.ts
      unfold ActPost lfA jdA at hac
      have HC := Lib.hid hac
      have b6 : w1.heap[k6]? = some (Obj.cells #[.int .i64 y.ph, .int .i64 y.inc, .int .i64 y.runs, .int .u64 y.since, .slice A y.times.length c, .int .u64 y.due, .bool y.armed, .int .i64 y.rung, .bool y.halt, .bool y.again] 48 (0, 0)) := HMS1.out.b6
      have b5 : w1.heap[k5]? = some (Obj.cells #[.string j.nm, .string j.run, .slice j.eA j.env.length j.ec, .slice j.nA j.needs.length j.nc, .bool j.hasR, .string j.ready, .int .i64 j.restart, .int .u64 j.base, .int .u64 j.cap, .int .u64 j.stable, .int .i64 j.burst, .int .u64 j.win, .slice j.lA j.lad.length j.lc, .int .i64 j.line, .int .i64 j.col] 33 (0, 0)) := HMS1.out.b5
      clear hac
      obtain ⟨⟨c0, c1, c2, c3, c4, c5, c6, c7, c8, c9⟩, _⟩ := row10 b6
      obtain ⟨⟨e0, e1, e2, e3, e4, e5, e6, e7, e8, e9, e10, e11, e12, e13, e14⟩, _⟩ := row15 b5
      clear b5 b6
      go_wp2_with fail
      refine (HC.out).mono ?_; rintro e w2 ⟨y', A', c', dl', rfl, hlb, ht, hd, hg⟩
      have HMS2 := Lib.hid (HMS1.out.turn hd hg)
      have HMS3 := Lib.hid (HMS2.out.put (y' := y') (A' := A') (c' := c') ht)
      have HLB' : Hid (Lf.LB y' (12 - (k - 1))) := Lib.hid (hlb.mono (by omega))
      have b6 : w2.heap[k6]? = some (Obj.cells #[.int .i64 y.ph, .int .i64 y.inc, .int .i64 y.runs, .int .u64 y.since, .slice A y.times.length c, .int .u64 y.due, .bool y.armed, .int .i64 y.rung, .bool y.halt, .bool y.again] 48 (0, 0)) := HMS2.out.b6
      clear hlb ht hd hg HC HMS1 HMS2 HLB c0 c1 c2 c3 c4 c5 c6 c7 c8 c9 e0 e1 e2 e3 e4 e5 e6 e7 e8 e9 e10 e11 e12 e13 e14
      obtain ⟨⟨c0, c1, c2, c3, c4, c5, c6, c7, c8, c9⟩, f0, f1, f2, f3, f4, f5, f6, f7, f8, f9⟩ := row10 b6
      clear b6
      go_wp2_with fail
      go_roundw
      case rel => exact ⟨k - 1, nw + x, y', A', c', dl', rfl, (by congr 1; omega), by omega, by omega, by omega, HLB', HMS3⟩
      case measure => simp [intOf]; omega
    · obtain rfl : k = 0 := by omega
      have hnw : Tk.U nw := ⟨by omega, by omega⟩
      have HLB2 : Hid (Lf.LB y 12) := Lib.hid HLB.out
      clear HLB
      go_wp2_with fail
      refine wp_region_steps2V (by kernel_rfl) (by kernel_rfl) (fun (u_ : Value × Value × Value × Value × Value × Value × Value × Value × Value × Value × Value × Value × Value × Value × Value × Value × Value × Value × Value × Value) => M8I w B g k5 k6 j y A c nw u_.1 u_.2.1 u_.2.2.1 u_.2.2.2.1 u_.2.2.2.2.1 u_.2.2.2.2.2.1 u_.2.2.2.2.2.2.1 u_.2.2.2.2.2.2.2.1 u_.2.2.2.2.2.2.2.2.1 u_.2.2.2.2.2.2.2.2.2.1 u_.2.2.2.2.2.2.2.2.2.2.1 u_.2.2.2.2.2.2.2.2.2.2.2.1 u_.2.2.2.2.2.2.2.2.2.2.2.2.1 u_.2.2.2.2.2.2.2.2.2.2.2.2.2.1 u_.2.2.2.2.2.2.2.2.2.2.2.2.2.2.1 u_.2.2.2.2.2.2.2.2.2.2.2.2.2.2.2.1 u_.2.2.2.2.2.2.2.2.2.2.2.2.2.2.2.2.1 u_.2.2.2.2.2.2.2.2.2.2.2.2.2.2.2.2.2.1 u_.2.2.2.2.2.2.2.2.2.2.2.2.2.2.2.2.2.2.1 u_.2.2.2.2.2.2.2.2.2.2.2.2.2.2.2.2.2.2.2) ?_ ?_ ?_
      · exact ⟨(_, _, _, _, _, _, _, _, _, _, _, _, _, _, _, _, _, _, _, _), false, false, false, false, false, false, 0, undef, rfl, rfl, HMS.out.m8⟩
      · rintro ⟨u8, u9, u10, u11, u12, u13, u14, u15, u16, u17, u18, u19, u20, u21, u22, u23, u24, u25, u26, u27⟩ a w1 ⟨b0, b1, b2, b3, b4, b5, dummy, nov, hl, rfl, hF⟩
        have hl' := congrArg Array.toList hl
        simp at hl'
        obtain ⟨rfl, rfl, rfl, rfl, rfl, rfl⟩ := hl'
        clear hl
        have HM := Lib.hid hF
        clear hF
        obtain ⟨⟨d0, d1, d2, d3, d4, d5, d6, d7, d8, d9⟩, f0, f1, f2, f3, f4, f5, f6, f7, f8, f9⟩ := row10 (show _ = some (Obj.cells #[.int .i64 y.ph, .int .i64 y.inc, .int .i64 y.runs, .int .u64 y.since, .slice A y.times.length c, .int .u64 y.due, .bool y.armed, .int .i64 y.rung, .bool y.halt, .bool y.again] 48 (0, 0)) from HM.out.e3_)
        obtain ⟨⟨e0, e1, e2, e3, e4, e5, e6, e7, e8, e9, e10, e11, e12, e13, e14⟩, _⟩ := row15 (show _ = some (Obj.cells #[.string j.nm, .string j.run, .slice j.eA j.env.length j.ec, .slice j.nA j.needs.length j.nc, .bool j.hasR, .string j.ready, .int .i64 j.restart, .int .u64 j.base, .int .u64 j.cap, .int .u64 j.stable, .int .i64 j.burst, .int .u64 j.win, .slice j.lA j.lad.length j.lc, .int .i64 j.line, .int .i64 j.col] 33 (0, 0)) from HM.out.e2_)
        go_wp2_with fail
        refine bodyPost_ret (by first | (simp [results, Try.results32, go_sem, jdA, lfA, d0, d1, d2, d3, d4, d5, d6, d7, d8, d9, e0, e1, e2, e3, e4, e5, e6, e7, e8, e9, e10, e11, e12, e13, e14]; done) | (simp [results, Try.results32, go_sem, jdA, lfA, d0, d1, d2, d3, d4, d5, d6, d7, d8, d9, e0, e1, e2, e3, e4, e5, e6, e7, e8, e9, e10, e11, e12, e13, e14]; first | rfl | exact ⟨rfl, rfl, rfl⟩)) rfl (HPO.out j y A c nw _ HM.out.ok HLB2.out hnw HM.out.ts HM.out.gr)
      · rintro ⟨u8, u9, u10, u11, u12, u13, u14, u15, u16, u17, u18, u19, u20, u21, u22, u23, u24, u25, u26, u27⟩
        refine ⟨?_, ?_, ?_, ?_, ?_, ?_, trivial⟩
        · intro listed a w1 K hs hcl hf hall hI hK
          obtain ⟨b0, b1, b2, b3, b4, b5, dummy, nov, rfl, rfl, hF⟩ := hI
          have hf' : b0 = false := hf
          subst hf'
          have hb3 : b3 = false := by
            cases b3
            · rfl
            · exact absurd (show false = true from hcl 3 _ rfl rfl ⟨0, .data⟩ (by first | exact .head _ | simp) rfl) (by decide)
          subst hb3
          have hb4 : b4 = false := by
            cases b4
            · rfl
            · exact absurd (show false = true from hcl 4 _ rfl rfl ⟨0, .phase⟩ (by first | exact .head _ | simp) rfl) (by decide)
          subst hb4
          have hb5 : b5 = false := by
            cases b5
            · rfl
            · exact absurd (show false = true from hcl 5 _ rfl rfl ⟨0, .phase⟩ (by first | exact .head _ | simp) rfl) (by decide)
          subst hb5
          clear hall hcl hs hf
          obtain ⟨⟨e0, e1, e2, e3, e4, e5, e6, e7, e8, e9, e10, e11, e12, e13, e14⟩, _⟩ := row15 (show _ = some (Obj.cells #[.string j.nm, .string j.run, .slice j.eA j.env.length j.ec, .slice j.nA j.needs.length j.nc, .bool j.hasR, .string j.ready, .int .i64 j.restart, .int .u64 j.base, .int .u64 j.cap, .int .u64 j.stable, .int .i64 j.burst, .int .u64 j.win, .slice j.lA j.lad.length j.lc, .int .i64 j.line, .int .i64 j.col] 33 (0, 0)) from hF.b5_)
          go_simp
          exact hK _ _ ⟨true, b1, b2, false, false, false, dummy, nov, rfl, rfl, hF⟩
        · intro listed a w1 K hs hcl hf hall hI hK
          obtain ⟨b0, b1, b2, b3, b4, b5, dummy, nov, rfl, rfl, hF⟩ := hI
          have hf' : b1 = false := hf
          subst hf'
          have hb4 : b4 = false := by
            cases b4
            · rfl
            · exact absurd (show false = true from hcl 4 _ rfl rfl ⟨1, .data⟩ (by first | exact .head _ | simp) rfl) (by decide)
          subst hb4
          have hb5 : b5 = false := by
            cases b5
            · rfl
            · exact absurd (show false = true from hcl 5 _ rfl rfl ⟨1, .phase⟩ (by first | exact .head _ | simp) rfl) (by decide)
          subst hb5
          clear hall hcl hs hf
          obtain ⟨⟨c0, c1, c2, c3, c4, c5, c6, c7, c8, c9⟩, f0, f1, f2, f3, f4, f5, f6, f7, f8, f9⟩ := row10 (show _ = some (Obj.cells #[.int .i64 y.ph, .int .i64 y.inc, .int .i64 y.runs, .int .u64 y.since, .slice A y.times.length c, .int .u64 y.due, .bool y.armed, .int .i64 y.rung, .bool y.halt, .bool y.again] 48 (0, 0)) from hF.b6_)
          go_simp
          exact hK _ _ ⟨b0, true, b2, b3, false, false, dummy, nov, rfl, rfl, hF⟩
        · intro listed a w1 K hs hcl hf hall hI hK
          obtain ⟨b0, b1, b2, b3, b4, b5, dummy, nov, rfl, rfl, hF⟩ := hI
          have hf' : b2 = false := hf
          subst hf'
          clear hall hcl hs hf
          go_simp
          exact hK _ _ ⟨b0, b1, true, b3, b4, b5, dummy, nov, rfl, rfl, hF⟩
        · intro listed a w1 K hs hcl hf hall hI hK
          obtain ⟨b0, b1, b2, b3, b4, b5, dummy, nov, rfl, rfl, hF⟩ := hI
          have hf' : b3 = false := hf
          subst hf'
          have hq0 : b0 = true := hall ⟨0, .data⟩ (by first | exact .head _ | simp) rfl
          subst hq0
          have hb4 : b4 = false := by
            cases b4
            · rfl
            · exact absurd (show false = true from hcl 4 _ rfl rfl ⟨3, .chain⟩ (by first | exact .head _ | simp) rfl) (by decide)
          subst hb4
          have hb5 : b5 = false := by
            cases b5
            · rfl
            · exact absurd (show false = true from hcl 5 _ rfl rfl ⟨3, .phase⟩ (by first | exact .head _ | simp) rfl) (by decide)
          subst hb5
          clear hall hcl hs hf
          have hst := run_storeCells_from (P := Try.prog) w.heap.size 33 (jdV j).toList 0 _ w1 (hF.r2 rfl) rfl (jdV_one j)
          go_simp
          rw [if_pos (show (jdV j).size = 15 from rfl)]
          exact hK _ _ ⟨true, b1, b2, true, false, false, dummy, nov, rfl, rfl, hF.st2⟩
        · intro listed a w1 K hs hcl hf hall hI hK
          obtain ⟨b0, b1, b2, b3, b4, b5, dummy, nov, rfl, rfl, hF⟩ := hI
          have hf' : b4 = false := hf
          subst hf'
          have hq1 : b1 = true := hall ⟨1, .data⟩ (by first | exact .head _ | simp) rfl
          subst hq1
          have hq3 : b3 = true := hall ⟨3, .chain⟩ (by first | exact .head _ | simp) rfl
          subst hq3
          have hq0 : b0 = true := hall ⟨0, .phase⟩ (by first | exact .head _ | simp) rfl
          subst hq0
          have hb5 : b5 = false := by
            cases b5
            · rfl
            · exact absurd (show false = true from hcl 5 _ rfl rfl ⟨4, .chain⟩ (by first | exact .head _ | simp) rfl) (by decide)
          subst hb5
          clear hall hcl hs hf
          have hst := run_storeCells_from (P := Try.prog) (w.heap.size + 1) 48 (lfV y A c).toList 0 _ w1 (hF.r3 rfl) rfl (lfV_one y A c)
          go_simp
          rw [if_pos (show (lfV y A c).size = 10 from rfl)]
          exact hK _ _ ⟨true, true, b2, true, true, false, dummy, nov, rfl, rfl, hF.st3⟩
        · intro listed a w1 K hs hcl hf hall hI hK
          obtain ⟨b0, b1, b2, b3, b4, b5, dummy, nov, rfl, rfl, hF⟩ := hI
          have hf' : b5 = false := hf
          subst hf'
          have hq2 : b2 = true := hall ⟨2, .data⟩ (by first | exact .head _ | simp) rfl
          subst hq2
          have hq4 : b4 = true := hall ⟨4, .chain⟩ (by first | exact .head _ | simp) rfl
          subst hq4
          clear hall hcl hs hf
          go_simp
          exact hK _ _ ⟨b0, b1, true, b3, true, true, dummy, nov, rfl, rfl, hF⟩
end Go.Proofs.Ytpknglclcdgfbaa
