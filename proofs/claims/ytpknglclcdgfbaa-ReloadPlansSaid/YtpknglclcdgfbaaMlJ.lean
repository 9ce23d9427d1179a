/-
  The walk of mill.Jobs.
-/
import Derived.Test.YtpknglclcdgfbaaRlQ
import Derived.Test.YtpknglclcdgfbaaJbW
import Derived.Test.YtpknglclcdgfbaaJdV
import Derived.Test.YtpknglclcdgfbaaStill
namespace Go.Proofs.Ytpknglclcdgfbaa
open Go.RowKit Go.Shelf
set_option linter.unusedVariables false

theorem info_job : (Try.prog.info? 33).map (fun i => (i.zero, i.size, i.bytes)) = some (some (.agg #[.string ⟨#[]⟩, .string ⟨#[]⟩, .slice none 0 0, .slice none 0 0, .bool false, .string ⟨#[]⟩, .int .i64 0, .int .u64 0, .int .u64 0, .int .u64 0, .int .i64 0, .int .u64 0, .slice none 0 0, .int .i64 0, .int .i64 0]), 15, 192) := by kernel_rfl
def jtab : List ByteArray := [⟨#[97]⟩, ⟨#[98]⟩, ⟨#[99]⟩, ⟨#[100]⟩]
/-- What is known of a job that mill.Job has made. -/
structure JdG (j : Jd) : Prop where
  bd : JdBd j.nm j
  nb : j.needs.length ≤ 4
  l1 : 1 ≤ j.lad.length
  l3 : j.lad.length ≤ 3
  lw : ∀ r ∈ j.lad, 0 ≤ r.2 ∧ r.2 < 9
/-- The names, the jobs' lists and the deck in memory. -/
structure JS0 (w0 wr : World) (B g kn : Nat) (js : List Jd) (dl : List Int) : Prop where
  row : wr.heap[kn]? = some (.cells #[.string ⟨#[97]⟩, .string ⟨#[98]⟩, .string ⟨#[99]⟩, .string ⟨#[100]⟩] 9 (0, 0))
  mem : ∀ j ∈ js, JdMem B wr j
  dk : Dk wr B g dl
  gr : w0.grownBy wr (some g)
  gl : g < w0.heap.size
theorem JdMem.up {B : Nat} {w w' : World} {j : Jd} (h : JdMem B w j) (ho : Old w w') : JdMem B w' j := ⟨h.env.up ho, h.needs.up ho, h.lad.up ho⟩
theorem JdMem.turn {B g : Nat} {w w' : World} {j : Jd} {dl : List Int} (h : JdMem B w j) (hd : Dk w B g dl) (hg : w.grownBy w' (some g)) : JdMem B w' j :=
  ⟨hd.ts hg h.env (by decide), hd.ts hg h.needs (by decide), hd.ts hg h.lad (by decide)⟩
theorem JdMem.grow {B base n : Nat} {w w' : World} {j : Jd} {v : Value} {xs : List Value} (h : JdMem B w j) (hown : Own w base 33 15 v n xs) (hg : w.grownBy w' v.ownBlock) : JdMem B w' j :=
  ⟨h.env.grown hown (by decide) hg, h.needs.grown hown (by decide) hg, h.lad.grown hown (by decide) hg⟩
section
variable {w0 wr w' : World} {B g kn : Nat} {js : List Jd} {dl dl' : List Int}
theorem JS0.up (h : JS0 w0 wr B g kn js dl) (ho : Old wr w') : JS0 w0 w' B g kn js dl :=
  ⟨ho.block h.row, fun j hj => (h.mem j hj).up ho, h.dk.up ho, grown_far h.gr (old_grown ho) (fun q e => by cases e), h.gl⟩
theorem JS0.turn (h : JS0 w0 wr B g kn js dl) (hd : Dk w' B g dl') (hg : wr.grownBy w' (some g)) : JS0 w0 w' B g kn js dl' :=
  ⟨row_turnJ h.dk hg h.row (by decide), fun j hj => (h.mem j hj).turn h.dk hg, hd, grown_trans h.gr hg, h.gl⟩
theorem JS0.grow {n : Nat} {v : Value} {xs : List Value} (h : JS0 w0 wr B g kn js dl) (hown : Own wr w0.heap.size 33 15 v n xs) (hg : wr.grownBy w' v.ownBlock) : JS0 w0 w' B g kn js dl :=
  ⟨hown.keeps hg h.row (by decide), fun j hj => (h.mem j hj).grow hown hg, h.dk.push hown (by decide) (by have := h.dk.1; have := h.gl; omega) hg, grown_far h.gr hg (fun q e => (World.ownsRow.lt hown q e).1), h.gl⟩
theorem JS0.more {j : Jd} {l : List Jd} (h : JS0 w0 wr B g kn js dl) (hj : JdMem B wr j) (hl : ∀ x ∈ l, x = j ∨ x ∈ js) : JS0 w0 wr B g kn l dl :=
  ⟨h.row, fun x hx => (by rcases hl x hx with rfl | hx'; exact hj; exact h.mem x hx'), h.dk, h.gr, h.gl⟩
theorem JS0.name {k : Nat} (h : JS0 w0 wr B g kn js dl) (hk : k < 4) : wr.cell? ⟨kn, k, none⟩ = some (.string (jtab.getD k ⟨#[]⟩)) := by
  rw [cell_of_row wr kn k _ _ _ h.row]
  have : k = 0 ∨ k = 1 ∨ k = 2 ∨ k = 3 := by omega
  rcases this with rfl | rfl | rfl | rfl <;> rfl
theorem JS0.names (h : JS0 w0 wr B g kn js dl) (k : Nat) : Ts wr 9 (some ⟨kn, 0, none⟩) (strsV (jtab.take k)) := by
  have ht : Ts wr 9 (some ⟨kn, 0, none⟩) (strsV jtab) := Or.inr ⟨kn, 0, _, _, rfl, h.row, fun i u hu => by simpa [strsV, jtab] using hu⟩
  have h2 := ht.take k
  rw [show (strsV jtab).take k = strsV (jtab.take k) by unfold strsV; rw [List.map_take]] at h2
  exact h2
end
structure JSX (w0 wr : World) (B g kn : Nat) (v : Value) (js : List Jd) : Prop where
  j0 : ∃ dl, JS0 w0 wr B g kn js dl
  own : Own wr w0.heap.size 33 15 v js.length (jdsV js)
/-- Within a round: the job is made, its box, the store. -/
def RJ (w0 : World) (B g kn : Nat) (v : Value) (js : List Jd) (nm : ByteArray) (ka : Nat) (bc ba bs : Bool) (vj : Value) (ww : World) : Prop :=
  JSX w0 ww B g kn v js ∧ (bc = true → ∃ j, vj = jdA j ∧ JdMem B ww j ∧ JdG j ∧ j.nm = nm ∧ (bs = true → ww.heap[ka]? = some (jdO j))) ∧
    (ba = true → w0.heap.size ≤ ka ∧ (bs = false → ww.heap[ka]? = some (.cells #[.string ⟨#[]⟩, .string ⟨#[]⟩, .slice none 0 0, .slice none 0 0, .bool false, .string ⟨#[]⟩, .int .i64 0, .int .u64 0, .int .u64 0, .int .u64 0, .int .i64 0, .int .u64 0, .slice none 0 0, .int .i64 0, .int .i64 0] 33 (0, 0)) ∧ v.ownBlock ≠ some ka))
section
variable {w0 ww w' : World} {B g kn ka : Nat} {v vj : Value} {js : List Jd} {nm : ByteArray} {bc ba : Bool}
theorem JSX.up (h : JSX w0 ww B g kn v js) (ho : Old ww w') : JSX w0 w' B g kn v js := ⟨(by obtain ⟨dl, k⟩ := h.j0; exact ⟨dl, k.up ho⟩), h.own.up ho⟩
theorem JSX.name {k : Nat} (h : JSX w0 ww B g kn v js) (hk : k < 4) : ww.cell? ⟨kn, k, none⟩ = some (.string (jtab.getD k ⟨#[]⟩)) := by
  obtain ⟨dl, k⟩ := h.j0
  exact k.name hk
theorem RJ.start {vj : Value} (h : JSX w0 ww B g kn v js) : RJ w0 B g kn v js nm ka false false false vj { ww with drawn := ww.drawn + 1 } :=
  ⟨h.up (Old.refl ww).drew, (fun e => by cases e), (fun e => by cases e)⟩
theorem RJ.call {dl dl' : List Int} {j : Jd} (h : RJ w0 B g kn v js nm ka false ba false vj ww) (h0 : JS0 w0 ww B g kn js dl) (hd : Dk w' B g dl') (hg : ww.grownBy w' (some g)) (hbd : JdBd nm j) (hn : j.needs.length ≤ 4) (h1 : 1 ≤ j.lad.length) (h3 : j.lad.length ≤ 3) (hw : ∀ r ∈ j.lad, 0 ≤ r.2 ∧ r.2 < 9) (hm : JdMem B w' j) :
    RJ w0 B g kn v js nm ka true ba false (jdA j) w' := by
  refine ⟨⟨⟨dl', h0.turn hd hg⟩, h0.dk.own hg h.1.own (by decide)⟩, fun _ => ⟨j, rfl, hm, ⟨by rw [hbd.name]; exact hbd, hn, h1, h3, hw⟩, hbd.name, fun e => by cases e⟩, fun e => ?_⟩
  obtain ⟨a1, a2⟩ := h.2.2 e
  exact ⟨a1, fun _ => ⟨row_turnJ h0.dk hg (a2 rfl).1 (by decide), (a2 rfl).2⟩⟩
theorem RJ.al (h : RJ w0 B g kn v js nm ka bc false false vj ww) : RJ w0 B g kn v js nm ww.heap.size bc true false vj (ww.alloc (.cells #[.string ⟨#[]⟩, .string ⟨#[]⟩, .slice none 0 0, .slice none 0 0, .bool false, .string ⟨#[]⟩, .int .i64 0, .int .u64 0, .int .u64 0, .int .u64 0, .int .i64 0, .int .u64 0, .slice none 0 0, .int .i64 0, .int .i64 0] 33)) := by
  have ho := (Old.refl ww).alloc (.cells #[.string ⟨#[]⟩, .string ⟨#[]⟩, .slice none 0 0, .slice none 0 0, .bool false, .string ⟨#[]⟩, .int .i64 0, .int .u64 0, .int .u64 0, .int .u64 0, .int .i64 0, .int .u64 0, .slice none 0 0, .int .i64 0, .int .i64 0] 33)
  obtain ⟨dl, h0⟩ := h.1.j0
  refine ⟨h.1.up ho, fun e => ?_, fun _ => ⟨h0.gr.size, fun _ => ⟨heap_alloc_new ww _, fun e => ?_⟩⟩⟩
  · obtain ⟨j, e1, e2, e3, e4, e5⟩ := h.2.1 e
    exact ⟨j, e1, e2.up ho, e3, e4, fun e => by cases e⟩
  · have := (World.ownsRow.lt h.1.own _ e).2
    omega
theorem RJ.st {j : Jd} (h : RJ w0 B g kn v js nm ka true true false (jdA j) ww) (hm : JdMem B ww j) (hgd : JdG j) (hnm : j.nm = nm) : RJ w0 B g kn v js nm ka true true true (jdA j) (ww.setRow ka (jdV j)) := by
  obtain ⟨a1, a2⟩ := h.2.2 rfl
  obtain ⟨hrow, hne⟩ := a2 rfl
  obtain ⟨dl, h0⟩ := h.1.j0
  have hB := h0.dk.1
  have hgl := h0.gl
  have hg := setRow_grown ww ka (jdV j)
  have mm : ∀ x, JdMem B ww x → JdMem B (ww.setRow ka (jdV j)) x := fun x hx => ⟨setRow_ts hx.env hrow (by decide), setRow_ts hx.needs hrow (by decide), setRow_ts hx.lad hrow (by decide)⟩
  have hkn : kn ≠ ka := fun e => by
    have h5 := h0.row
    rw [e, hrow] at h5
    simp at h5
  refine ⟨⟨⟨dl, ⟨(setRow_other ww ka kn _ hkn).trans h0.row, fun x hx => mm x (h0.mem x hx), h0.dk.far hg (fun e => by injection e with e; omega) (fun q e => by injection e with e; omega), grown_far h0.gr hg (fun q e => by injection e with e; omega), h0.gl⟩⟩, ?_⟩, fun _ => ⟨j, rfl, mm j hm, hgd, hnm, fun _ => setRow_heap ww ka _ _ _ _ hrow⟩, fun _ => ⟨a1, fun e => by cases e⟩⟩
  refine World.ownsRow.kept h.1.own hg ?_
  cases hv : v.ownBlock with
  | none => exact Or.inl rfl
  | some q => exact Or.inr (fun e => hne (hv.trans e))
end
def J7 (w0 : World) (B g kn k : Nat) (v : Value) (js : List Jd) (p1 p2 p3 p5 p6 p8 p9 p10 p11 p12 p13 p14 p15 p16 p17 p18 p19 p20 p21 p22 p23 p24 p25 p26 p27 p28 p29 p30 p31 p32 p33 p34 p35 p36 p37 p38 : Value) (listed : Array Bool) (a : Act) (ww : World) : Prop :=
  ∃ (b0 b1 b2 b3 b4 b5 b6 b7 b8 b9 b10 : Bool) (ka : Nat) (vj : Value), listed = #[b0, b1, b2, b3, b4, b5, b6, b7, b8, b9, b10] ∧
    a = { tmps := #[.pointer (some ⟨g, 0, none⟩), p1, p2, p3, .slice (some ⟨kn, 0, none⟩) 4 4, p5, p6, .int .i64 (k : Int), cond b9 (.pointer (some ⟨ka, 0, none⟩)) (p8), p9, p10, p11, p12, p13, p14, p15, p16, p17, p18, cond b0 (.pointer (some ⟨g, 0, none⟩)) (p19), cond b1 (.slice (some ⟨kn, 0, none⟩) 4 4) (p20), cond b2 (.int .i64 (k : Int)) (p21), cond b3 (.pointer (some ⟨kn, k, none⟩)) (p22), cond b4 (.string (jtab.getD k ⟨#[]⟩)) (p23), cond b5 (.slice (some ⟨kn, 0, none⟩) 4 4) (p24), cond b6 (.int .i64 (k : Int)) (p25), cond b7 (.slice (some ⟨kn, 0, none⟩) k 4) (p26), cond b8 (vj) (p27), p28, p29, p30, p31, p32, p33, p34, p35, p36, p37, p38], defers := [] } ∧ RJ w0 B g kn v js (jtab.getD k ⟨#[]⟩) ka b8 b9 b10 vj ww

def NmP (x1 : Int) (js : List Jd) (k : Nat) : Prop := js.map Jd.nm = if x1 = 0 then jtab.take k else (jtab.take k).reverse
theorem nm_len {x1 : Int} {js : List Jd} {k : Nat} (h : NmP x1 js k) (hk : k ≤ 4) : js.length = k := by
  have := congrArg List.length h
  rw [List.length_map] at this
  rw [this]
  split <;> simp [jtab] <;> omega
theorem nm_push {js : List Jd} {k : Nat} {j : Jd} (h : NmP 0 js k) (hk : k < 4) (hj : j.nm = jtab.getD k ⟨#[]⟩) : NmP 0 (js ++ [j]) (k + 1) := by
  unfold NmP at *
  rw [if_pos rfl] at *
  have : k = 0 ∨ k = 1 ∨ k = 2 ∨ k = 3 := by omega
  rw [List.map_append, h]
  rcases this with rfl | rfl | rfl | rfl <;> simp [jtab, hj]
theorem nm_front {x1 : Int} {js : List Jd} {k : Nat} {j : Jd} (h : NmP x1 js k) (hx : x1 ≠ 0) (hk : k < 4) (hj : j.nm = jtab.getD k ⟨#[]⟩) : NmP x1 (j :: js) (k + 1) := by
  unfold NmP at *
  rw [if_neg hx] at *
  have : k = 0 ∨ k = 1 ∨ k = 2 ∨ k = 3 := by omega
  rw [List.map_cons, h]
  rcases this with rfl | rfl | rfl | rfl <;> simp [jtab, hj]
/-- What mill.Jobs returns: one to four jobs of its own, their names in order, or from the last on. -/
def JobsPost (w : World) (B g : Nat) (e : Ending) (w' : World) : Prop :=
  ∃ (v : Value) (js : List Jd) (dl : List Int) (x1 : Int), e = .returned v ∧ Own w' w.heap.size 33 15 v js.length (jdsV js) ∧ (∀ j ∈ js, JdMem B w' j) ∧ (∀ j ∈ js, JdG j) ∧ 1 ≤ js.length ∧ js.length ≤ 4 ∧ NmP x1 js js.length ∧ Dk w' B g dl ∧ w.grownBy w' (some g)
def MjRel (w : World) (B g kn : Nat) (x1 : Int) (cnt : Nat) (s3 s7 : Value) (wr : World) : Prop :=
  ∃ (k : Nat) (v : Value) (js : List Jd), v = s3 ∧ s7 = .int .i64 (k : Int) ∧ k ≤ cnt ∧ Hid (NmP x1 js k) ∧ Hid (∀ j ∈ js, JdG j) ∧ Hid (JSX w wr B g kn v js)
theorem jdsV_snoc (l : List Jd) (j : Jd) : jdsV l ++ jdCells j = jdsV (l ++ [j]) := by simp [jdsV]
theorem jdsV_cons (l : List Jd) (j : Jd) : jdCells j ++ jdsV l = jdsV (j :: l) := rfl
theorem jdCells_one (j : Jd) : (jdCells j).all Value.oneCell' = true := by simp [jdCells, Value.oneCell']
theorem jdsV_one (l : List Jd) : (jdsV l).all Value.oneCell' = true := by
  unfold jdsV
  rw [List.all_flatMap]
  simp [jdCells_one]
set_option maxHeartbeats 8000000 in
set_option maxRecDepth 100000 in
theorem jobsC (B g : Nat) (dl : List Int) (w : World) (hd : Dk w B g dl) :
    Calls Try.prog 18 #[.pointer (some ⟨g, 0, none⟩)] w (JobsPost w B g) := by
  have HPO : Hid (∀ v js dl x1 w', Own w' w.heap.size 33 15 v js.length (jdsV js) → (∀ j ∈ js, JdMem B w' j) → (∀ j ∈ js, JdG j) → 1 ≤ js.length → js.length ≤ 4 → NmP x1 js js.length → Dk w' B g dl → w.grownBy w' (some g) → JobsPost w B g (.returned v) w') := Lib.hid (fun v js dl x1 w' h1 h2 h3 h4 h5 h6 h7 h8 => ⟨v, js, dl, x1, rfl, h1, h2, h3, h4, h5, h6, h7, h8⟩)
  have hgl := hd.lt
  have HD := Lib.hid hd
  clear hd
  go_enter Try.func18, Try.ntmps18
  go_upto_region 3 with fail
  have ho := (Old.refl w).alloc (.cells #[.string ⟨#[97]⟩, .string ⟨#[98]⟩, .string ⟨#[99]⟩, .string ⟨#[100]⟩] 9)
  have hj0 : JS0 w (w.alloc (.cells #[.string ⟨#[97]⟩, .string ⟨#[98]⟩, .string ⟨#[99]⟩, .string ⟨#[100]⟩] 9)) B g w.heap.size [] dl :=
    ⟨heap_alloc_new w _, (fun j hj => by cases hj), HD.out.up ho, grown_far (World.grownBy.refl _ _) (old_grown ho) (fun q e => by cases e), hgl⟩
  generalize w.alloc (.cells #[.string ⟨#[97]⟩, .string ⟨#[98]⟩, .string ⟨#[99]⟩, .string ⟨#[100]⟩] 9) = wa at *
  obtain ⟨kn, hkn⟩ : ∃ kn, kn = w.heap.size := ⟨_, rfl⟩
  rw [← hkn] at hj0 ⊢
  have HJ0 := Lib.hid hj0
  clear hkn hj0 HD ho
  obtain ⟨x1, l1, e1⟩ : ∃ x r, nx dl 2 = (x, r) := ⟨_, _, rfl⟩
  have hx1 := nx_bd dl (show (1 : Int) ≤ 2 by decide)
  have hn1 := nextDeck B g dl 2 wa HJ0.out.dk (by decide) (by decide)
  unfold NextPost at hn1
  rw [e1] at hx1 hn1
  simp only at hx1 hn1
  have HN1 := Lib.hid hn1
  clear hn1 e1
  go_wp2_with fail
  refine (HN1.out).mono ?_; rintro e wb ⟨rfl, hdb, hgb⟩
  have HJ1 := Lib.hid (HJ0.out.turn hdb hgb)
  clear hdb hgb HJ0 HN1
  obtain ⟨x2, l2, e2⟩ : ∃ x r, nx l1 (4 - 1 + 1) = (x, r) := ⟨_, _, rfl⟩
  have hx2 := nx_bd l1 (show (1 : Int) ≤ (4 - 1 + 1) by decide)
  have hn2 := rangeDeck B g l1 1 4 wb HJ1.out.dk (by decide) (by decide) (by decide)
  unfold NextPost at hn2
  rw [e2] at hx2 hn2
  simp only at hx2 hn2
  have HN2 := Lib.hid hn2
  clear hn2 e2
  go_wp2_with fail
  refine (HN2.out).mono ?_; rintro e wc ⟨rfl, hdc, hgc⟩
  have HJ2 := Lib.hid (HJ1.out.turn hdc hgc)
  clear hdc hgc HJ1 HN2
  obtain ⟨c0, rfl⟩ := Int.eq_ofNat_of_zero_le hx2.1
  obtain ⟨cnt, hcnt⟩ : ∃ cnt : Nat, (1 + (c0 : Int)) = (cnt : Int) := ⟨1 + c0, by omega⟩
  rw [hcnt]
  have hc1 : 1 ≤ cnt := by omega
  have hc4 : cnt ≤ 4 := by omega
  clear hcnt hx2
  have HREL : Hid (MjRel w B g kn x1 cnt (.slice none 0 0) (.int .i64 ((0 : Nat) : Int)) wc) := Lib.hid ⟨0, _, [], rfl, rfl, Nat.zero_le _, Lib.hid (by unfold NmP; split <;> rfl), Lib.hid (fun j hj => by cases hj), Lib.hid ⟨⟨l2, HJ2.out⟩, Own.nil_ _ _ _ _⟩⟩
  clear HJ2
  go_wp2_with fail
  go_loopw [3, 7] (fun s3 s7 wr => MjRel w B g kn x1 cnt s3 s7 wr) (fun _ s7 _ => cnt - (intOf s7).toNat)
  case atStart => exact HREL.out
  case round =>
    clear HREL
    obtain ⟨k, v, js, rfl, rfl, hk, HNM, HG, HJX⟩ := hrel
    by_cases hlt : k < cnt
    · have hk4 : k < 4 := by omega
      have hk4' : (k : Int) < 4 := by omega
      have HTL : Hid ((jtab.take k).length = k) := Lib.hid (by rw [List.length_take]; simp [jtab]; omega)
      go_upto_region 7 with fail
      refine wp_region_steps2 (by kernel_rfl) (by kernel_rfl) (J7 w B g kn k v js _ _ _ _ _ _ _ _ _ _ _ _ _ _ _ _ _ _ _ _ _ _ _ _ _ _ _ _ _ _ _ _ _ _ _ _) (⟨false, false, false, false, false, false, false, false, false, false, false, 0, undef, rfl, rfl, RJ.start HJX.out⟩) ?_ ⟨?_, ?_, ?_, ?_, ?_, ?_, ?_, ?_, ?_, ?_, ?_, trivial⟩
      · rintro a w1 ⟨b0, b1, b2, b3, b4, b5, b6, b7, b8, b9, b10, ka, vj, hl, rfl, hF⟩
        have hl' := congrArg Array.toList hl
        simp at hl'
        obtain ⟨rfl, rfl, rfl, rfl, rfl, rfl, rfl, rfl, rfl, rfl, rfl⟩ := hl'
        clear hl
        obtain ⟨hjx, hcall, hal⟩ := hF
        obtain ⟨j, hvj, hmem, hgood, hnm, hrow⟩ := hcall rfl
        have hrow := hrow rfl
        clear hcall hal hvj
        have HMEM := Lib.hid hmem
        have HGD : Hid (∀ x ∈ js ++ [j], JdG x) := Lib.hid (fun x hx => (by rcases List.mem_append.mp hx with h | h; exact HG.out x h; rw [List.mem_singleton] at h; rw [h]; exact hgood))
        have HNJ := Lib.hid hnm
        have hjl : js.length ≤ 4 := by rw [nm_len HNM.out (by omega)]; omega
        have hrow' : w1.heap[ka]? = some (Obj.cells #[.string j.nm, .string j.run, .slice j.eA j.env.length j.ec, .slice j.nA j.needs.length j.nc, .bool j.hasR, .string j.ready, .int .i64 j.restart, .int .u64 j.base, .int .u64 j.cap, .int .u64 j.stable, .int .i64 j.burst, .int .u64 j.win, .slice j.lA j.lad.length j.lc, .int .i64 j.line, .int .i64 j.col] 33 (0, 0)) := hrow
        obtain ⟨⟨e0, e1, e2, e3, e4, e5, e6, e7, e8, e9, e10, e11, e12, e13, e14⟩, _⟩ := row15 hrow'
        have HOWN := Lib.hid hjx.own
        obtain ⟨dl2, hj0⟩ := hjx.j0
        have hsz := hj0.gr.size
        have HJ0 := Lib.hid hj0
        clear hjx hj0 hmem hgood hnm hrow hrow' HJX HG
        by_cases hx : x1 = 0
        · subst hx
          go_wp2_with (at_builtin; refine wpList_push (wr := w1) rfl _ _ 23 rfl _ 33 (.agg #[.string ⟨#[]⟩, .string ⟨#[]⟩, .slice none 0 0, .slice none 0 0, .bool false, .string ⟨#[]⟩, .int .i64 0, .int .u64 0, .int .u64 0, .int .u64 0, .int .i64 0, .int .u64 0, .slice none 0 0, .int .i64 0, .int .i64 0]) 15 192 Try.underlying23 info_job rfl (by decide) (by decide) _ _ _ rfl HOWN.out 1 1 (jdCells j) rfl rfl rfl rfl ?pn1 hsz ?_)
          case pn1 => omega
          intro v2 w2 ho2 hg2 hd2
          rw [jdsV_snoc] at ho2
          have HX : Hid (MjRel w B g kn 0 cnt v2 (.int .i64 ((k + 1 : Nat) : Int)) w2) := Lib.hid ⟨k + 1, _, js ++ [j], rfl, rfl, by omega, Lib.hid (nm_push HNM.out hk4 HNJ.out), HGD, Lib.hid ⟨⟨dl2, (HJ0.out.grow HOWN.out hg2).more (HMEM.out.grow HOWN.out hg2) (fun x hx => by rcases List.mem_append.mp hx with h | h; exact Or.inr h; exact Or.inl (List.mem_singleton.mp h))⟩, by rw [List.length_append]; exact ho2⟩⟩
          clear ho2 hg2 hd2 HOWN HJ0 HMEM HGD HNJ HNM HTL e0 e1 e2 e3 e4 e5 e6 e7 e8 e9 e10 e11 e12 e13 e14
          go_wp2_with fail
          go_roundw
          case rel => exact HX.out
          case measure => simp [intOf]; omega
        · have n1 : (x1 == 0) = false := by rw [beq_eq_false_iff_ne]; exact hx
          have HGD' : Hid (∀ x ∈ j :: js, JdG x) := Lib.hid (fun x h => HGD.out x (by rcases List.mem_cons.mp h with rfl | h'; exact List.mem_append_right _ (List.mem_singleton.mpr rfl); exact List.mem_append_left _ h'))
          have HNF := Lib.hid (nm_front HNM.out hx hk4 HNJ.out)
          obtain ⟨A, c, hv, hts, _, _⟩ := HOWN.out.shape
          subst hv
          have ho := (Old.refl w1).alloc (.cells #[.string j.nm, .string j.run, .slice j.eA j.env.length j.ec, .slice j.nA j.needs.length j.nc, .bool j.hasR, .string j.ready, .int .i64 j.restart, .int .u64 j.base, .int .u64 j.cap, .int .u64 j.stable, .int .i64 j.burst, .int .u64 j.win, .slice j.lA j.lad.length j.lc, .int .i64 j.line, .int .i64 j.col] 33)
          have hown : Own (w1.alloc (.cells #[.string j.nm, .string j.run, .slice j.eA j.env.length j.ec, .slice j.nA j.needs.length j.nc, .bool j.hasR, .string j.ready, .int .i64 j.restart, .int .u64 j.base, .int .u64 j.cap, .int .u64 j.stable, .int .i64 j.burst, .int .u64 j.win, .slice j.lA j.lad.length j.lc, .int .i64 j.line, .int .i64 j.col] 33)) w.heap.size 33 15 (.slice (some ⟨w1.heap.size, 0, none⟩) 1 1) 1 (jdCells j) := (own_new w1 #[.string j.nm, .string j.run, .slice j.eA j.env.length j.ec, .slice j.nA j.needs.length j.nc, .bool j.hasR, .string j.ready, .int .i64 j.restart, .int .u64 j.base, .int .u64 j.cap, .int .u64 j.stable, .int .i64 j.burst, .int .u64 j.win, .slice j.lA j.lad.length j.lc, .int .i64 j.line, .int .i64 j.col] 1 15 33 (by decide) rfl).base hsz
          have HON := Lib.hid hown
          have HRS := Lib.hid (hts.rs.up ho)
          have hsz2 := ho.size
          have HJ1 := Lib.hid (HJ0.out.up ho)
          have HM1 := Lib.hid (HMEM.out.up ho)
          clear hts ho hown hx HJ0 HMEM HOWN
          go_wp2_with (at_builtin; refine wpList_pushAll rfl _ _ 23 rfl _ 33 (.agg #[.string ⟨#[]⟩, .string ⟨#[]⟩, .slice none 0 0, .slice none 0 0, .bool false, .string ⟨#[]⟩, .int .i64 0, .int .u64 0, .int .u64 0, .int .u64 0, .int .i64 0, .int .u64 0, .slice none 0 0, .int .i64 0, .int .i64 0]) 15 192 Try.underlying23 info_job rfl (by decide) (by decide) _ _ _ (by rfl) HON.out _ _ _ _ (by rfl) HRS.out (by rw [jdsV_length, Nat.mul_comm]) (jdsV_one js) ?pn2 (Nat.le_trans hsz hsz2) ?_)
          case pn2 => omega
          intro v2 w2 ho2 hg2 hd2
          rw [jdsV_cons] at ho2
          have HX : Hid (MjRel w B g kn x1 cnt v2 (.int .i64 ((k + 1 : Nat) : Int)) w2) := Lib.hid ⟨k + 1, _, j :: js, rfl, rfl, by omega, HNF, HGD', Lib.hid ⟨⟨dl2, (HJ1.out.grow HON.out hg2).more (HM1.out.grow HON.out hg2) (fun x hx => by rcases List.mem_cons.mp hx with h | h; exact Or.inl h; exact Or.inr h)⟩, by rw [List.length_cons, Nat.add_comm]; exact ho2⟩⟩
          clear ho2 hg2 hd2 HON HJ1 HM1 HGD HGD' HNJ HNM HNF HTL HRS e0 e1 e2 e3 e4 e5 e6 e7 e8 e9 e10 e11 e12 e13 e14
          go_wp2_with fail
          go_roundw
          case rel => exact HX.out
          case measure => simp [intOf]; omega
      · intro listed a w1 K hs hcl hf hall hI hK
        obtain ⟨b0, b1, b2, b3, b4, b5, b6, b7, b8, b9, b10, ka, vj, rfl, rfl, hF⟩ := hI
        have hf' : b0 = false := hf
        subst hf'
        clear hall hcl hs hf
        go_simp
        exact hK _ _ ⟨true, b1, b2, b3, b4, b5, b6, b7, b8, b9, b10, ka, vj, rfl, rfl, hF⟩
      · intro listed a w1 K hs hcl hf hall hI hK
        obtain ⟨b0, b1, b2, b3, b4, b5, b6, b7, b8, b9, b10, ka, vj, rfl, rfl, hF⟩ := hI
        have hf' : b1 = false := hf
        subst hf'
        clear hall hcl hs hf
        go_simp
        exact hK _ _ ⟨b0, true, b2, b3, b4, b5, b6, b7, b8, b9, b10, ka, vj, rfl, rfl, hF⟩
      · intro listed a w1 K hs hcl hf hall hI hK
        obtain ⟨b0, b1, b2, b3, b4, b5, b6, b7, b8, b9, b10, ka, vj, rfl, rfl, hF⟩ := hI
        have hf' : b2 = false := hf
        subst hf'
        clear hall hcl hs hf
        go_simp
        exact hK _ _ ⟨b0, b1, true, b3, b4, b5, b6, b7, b8, b9, b10, ka, vj, rfl, rfl, hF⟩
      · intro listed a w1 K hs hcl hf hall hI hK
        obtain ⟨b0, b1, b2, b3, b4, b5, b6, b7, b8, b9, b10, ka, vj, rfl, rfl, hF⟩ := hI
        have hf' : b3 = false := hf
        subst hf'
        have hq1 : b1 = true := hall ⟨1, .data⟩ (by first | exact .head _ | simp) rfl
        subst hq1
        have hq2 : b2 = true := hall ⟨2, .data⟩ (by first | exact .head _ | simp) rfl
        subst hq2
        clear hall hcl hs hf
        go_simp
        exact hK _ _ ⟨b0, true, true, true, b4, b5, b6, b7, b8, b9, b10, ka, vj, rfl, rfl, hF⟩
      · intro listed a w1 K hs hcl hf hall hI hK
        obtain ⟨b0, b1, b2, b3, b4, b5, b6, b7, b8, b9, b10, ka, vj, rfl, rfl, hF⟩ := hI
        have hf' : b4 = false := hf
        subst hf'
        have hq3 : b3 = true := hall ⟨3, .data⟩ (by first | exact .head _ | simp) rfl
        subst hq3
        have hq1 : b1 = true := hcl 3 _ rfl rfl ⟨1, .data⟩ (by first | exact .head _ | simp) rfl
        subst hq1
        have hq2 : b2 = true := hcl 3 _ rfl rfl ⟨2, .data⟩ (by first | exact .head _ | simp) rfl
        subst hq2
        have hb8 : b8 = false := by
          cases b8
          · rfl
          · exact absurd (show false = true from hcl 8 _ rfl rfl ⟨4, .data⟩ (by first | exact .head _ | simp) rfl) (by decide)
        subst hb8
        have hb10 : b10 = false := by
          cases b10
          · rfl
          · exact absurd (show false = true from hcl 10 _ rfl rfl ⟨4, .phase⟩ (by first | exact .head _ | simp) rfl) (by decide)
        subst hb10
        clear hall hcl hs hf
        have q := hF.1.name hk4
        go_simp
        exact hK _ _ ⟨b0, true, true, true, true, b5, b6, b7, false, b9, false, ka, vj, rfl, rfl, hF⟩
      · intro listed a w1 K hs hcl hf hall hI hK
        obtain ⟨b0, b1, b2, b3, b4, b5, b6, b7, b8, b9, b10, ka, vj, rfl, rfl, hF⟩ := hI
        have hf' : b5 = false := hf
        subst hf'
        clear hall hcl hs hf
        go_simp
        exact hK _ _ ⟨b0, b1, b2, b3, b4, true, b6, b7, b8, b9, b10, ka, vj, rfl, rfl, hF⟩
      · intro listed a w1 K hs hcl hf hall hI hK
        obtain ⟨b0, b1, b2, b3, b4, b5, b6, b7, b8, b9, b10, ka, vj, rfl, rfl, hF⟩ := hI
        have hf' : b6 = false := hf
        subst hf'
        clear hall hcl hs hf
        go_simp
        exact hK _ _ ⟨b0, b1, b2, b3, b4, b5, true, b7, b8, b9, b10, ka, vj, rfl, rfl, hF⟩
      · intro listed a w1 K hs hcl hf hall hI hK
        obtain ⟨b0, b1, b2, b3, b4, b5, b6, b7, b8, b9, b10, ka, vj, rfl, rfl, hF⟩ := hI
        have hf' : b7 = false := hf
        subst hf'
        have hq5 : b5 = true := hall ⟨5, .data⟩ (by first | exact .head _ | simp) rfl
        subst hq5
        have hq6 : b6 = true := hall ⟨6, .data⟩ (by first | exact .head _ | simp) rfl
        subst hq6
        have hb8 : b8 = false := by
          cases b8
          · rfl
          · exact absurd (show false = true from hcl 8 _ rfl rfl ⟨7, .data⟩ (by first | exact .head _ | simp) rfl) (by decide)
        subst hb8
        have hb10 : b10 = false := by
          cases b10
          · rfl
          · exact absurd (show false = true from hcl 10 _ rfl rfl ⟨7, .phase⟩ (by first | exact .head _ | simp) rfl) (by decide)
        subst hb10
        clear hall hcl hs hf
        have hsl := fun W => run_slice_to (P := Try.prog) (t := 29) Try.underlying29 (fun w => by kernel_rfl) (some ⟨kn, 0, none⟩) 4 4 k (k : Int) rfl (by omega) W
        go_simp
        exact hK _ _ ⟨b0, b1, b2, b3, b4, true, true, true, false, b9, false, ka, vj, rfl, rfl, hF⟩
      · intro listed a w1 K hs hcl hf hall hI hK
        obtain ⟨b0, b1, b2, b3, b4, b5, b6, b7, b8, b9, b10, ka, vj, rfl, rfl, hF⟩ := hI
        have hf' : b8 = false := hf
        subst hf'
        have hq0 : b0 = true := hall ⟨0, .data⟩ (by first | exact .head _ | simp) rfl
        subst hq0
        have hq4 : b4 = true := hall ⟨4, .data⟩ (by first | exact .head _ | simp) rfl
        subst hq4
        have hq7 : b7 = true := hall ⟨7, .data⟩ (by first | exact .head _ | simp) rfl
        subst hq7
        have hq3 : b3 = true := hcl 4 _ rfl rfl ⟨3, .data⟩ (by first | exact .head _ | simp) rfl
        subst hq3
        have hq5 : b5 = true := hcl 7 _ rfl rfl ⟨5, .data⟩ (by first | exact .head _ | simp) rfl
        subst hq5
        have hq6 : b6 = true := hcl 7 _ rfl rfl ⟨6, .data⟩ (by first | exact .head _ | simp) rfl
        subst hq6
        have hq1 : b1 = true := hcl 3 _ rfl rfl ⟨1, .data⟩ (by first | exact .head _ | simp) rfl
        subst hq1
        have hq2 : b2 = true := hcl 3 _ rfl rfl ⟨2, .data⟩ (by first | exact .head _ | simp) rfl
        subst hq2
        have hb10 : b10 = false := by
          cases b10
          · rfl
          · exact absurd (show false = true from hcl 10 _ rfl rfl ⟨8, .data⟩ (by first | exact .head _ | simp) rfl) (by decide)
        subst hb10
        clear hall hcl hs hf
        obtain ⟨dl2, hj0⟩ := hF.1.j0
        have hp := jobC B g dl2 (jtab.getD k ⟨#[]⟩) (some ⟨kn, 0, none⟩) 4 (jtab.take k) w1 hj0.dk (hj0.names k) (by rw [List.length_take]; omega)
        rw [HTL.out] at hp
        have HP := Lib.hid hp
        clear hp
        go_simp
        refine HP.out.mono ?_
        rintro e w2 ⟨j, l2, rfl, hbd, hnl, h1, h3, hw, hmem, hdk, hg⟩
        exact hK _ _ ⟨true, true, true, true, true, true, true, true, true, b9, false, ka, jdA j, rfl, rfl, hF.call hj0 hdk hg hbd (by omega) h1 h3 hw hmem⟩
      · intro listed a w1 K hs hcl hf hall hI hK
        obtain ⟨b0, b1, b2, b3, b4, b5, b6, b7, b8, b9, b10, ka, vj, rfl, rfl, hF⟩ := hI
        have hf' : b9 = false := hf
        subst hf'
        have hb10 : b10 = false := by
          cases b10
          · rfl
          · exact absurd (show false = true from hcl 10 _ rfl rfl ⟨9, .data⟩ (by first | exact .head _ | simp) rfl) (by decide)
        subst hb10
        clear hall hcl hs hf
        go_simp
        exact hK _ _ ⟨b0, b1, b2, b3, b4, b5, b6, b7, b8, true, false, w1.heap.size, vj, rfl, rfl, hF.al⟩
      · intro listed a w1 K hs hcl hf hall hI hK
        obtain ⟨b0, b1, b2, b3, b4, b5, b6, b7, b8, b9, b10, ka, vj, rfl, rfl, hF⟩ := hI
        have hf' : b10 = false := hf
        subst hf'
        have hq9 : b9 = true := hall ⟨9, .data⟩ (by first | exact .head _ | simp) rfl
        subst hq9
        have hq8 : b8 = true := hall ⟨8, .data⟩ (by first | exact .head _ | simp) rfl
        subst hq8
        have hq0 : b0 = true := hall ⟨0, .phase⟩ (by first | exact .head _ | simp) rfl
        subst hq0
        have hq1 : b1 = true := hall ⟨1, .phase⟩ (by first | exact .head _ | simp) rfl
        subst hq1
        have hq2 : b2 = true := hall ⟨2, .phase⟩ (by first | exact .head _ | simp) rfl
        subst hq2
        have hq3 : b3 = true := hall ⟨3, .phase⟩ (by first | exact .head _ | simp) rfl
        subst hq3
        have hq4 : b4 = true := hall ⟨4, .phase⟩ (by first | exact .head _ | simp) rfl
        subst hq4
        have hq5 : b5 = true := hall ⟨5, .phase⟩ (by first | exact .head _ | simp) rfl
        subst hq5
        have hq6 : b6 = true := hall ⟨6, .phase⟩ (by first | exact .head _ | simp) rfl
        subst hq6
        have hq7 : b7 = true := hall ⟨7, .phase⟩ (by first | exact .head _ | simp) rfl
        subst hq7
        clear hall hcl hs hf
        obtain ⟨j, hvj, hm, hgd, hnm, _⟩ := hF.2.1 rfl
        subst hvj
        have hrow := ((hF.2.2 rfl).2 rfl).1
        rw [show jdA j = .agg (jdV j) from rfl]
        have hst := run_storeCells_from (P := Try.prog) ka 33 (jdV j).toList 0 _ w1 hrow rfl (jdV_one j)
        go_simp
        rw [if_pos (show (jdV j).size = 15 from rfl)]
        exact hK _ _ ⟨true, true, true, true, true, true, true, true, true, true, true, ka, jdA j, rfl, rfl, hF.st hm hgd hnm⟩
    · obtain rfl : k = cnt := by omega
      obtain ⟨dl3, h0⟩ := HJX.out.j0
      have hlen := nm_len HNM.out hc4
      have HX : Hid (JobsPost w B g (.returned v) wr) := Lib.hid (HPO.out v js dl3 x1 wr HJX.out.own h0.mem HG.out (by omega) (by omega) (by rw [hlen]; exact HNM.out) h0.dk h0.gr)
      clear h0 hlen HNM HG HJX HPO
      go_wp2_with fail
      go_ret
      exact HX.out
end Go.Proofs.Ytpknglclcdgfbaa
