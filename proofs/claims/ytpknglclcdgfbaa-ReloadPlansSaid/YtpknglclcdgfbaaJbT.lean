/-
  The job that mill.Job makes, in memory, region by region.
-/
import Derived.Test.YtpknglclcdgfbaaJbB
import Derived.Test.YtpknglclcdgfbaaRegInvU
import Derived.Deep.RegionHeld3
import Derived.Deep.DeepCutAuto
namespace Go.Proofs.Ytpknglclcdgfbaa
open Go.RowKit Go.Shelf
set_option linter.unusedVariables false

def runTable : List Value := [.string ⟨#[120]⟩, .string ⟨#[114, 117, 110, 32, 105, 116]⟩, .string ⟨#[97, 32, 34, 98, 34, 10]⟩, .string ⟨#[]⟩]
def runTab : List ByteArray := [⟨#[120]⟩, ⟨#[114, 117, 110, 32, 105, 116]⟩, ⟨#[97, 32, 34, 98, 34, 10]⟩, ⟨#[]⟩]
def runOf (i : Int) : ByteArray := runTab.getD i.toNat ⟨#[]⟩
def jobZ : Array Value := #[.string ⟨#[]⟩, .string ⟨#[]⟩, .slice none 0 0, .slice none 0 0, .bool false, .string ⟨#[]⟩, .int .i64 0, .int .u64 0, .int .u64 0, .int .u64 0, .int .i64 0, .int .u64 0, .slice none 0 0, .int .i64 0, .int .i64 0]
def jobV0 (nm : ByteArray) (x1 x2 x3 x4 x5 x6 : Int) : Array Value := #[.string nm, .string (runOf x1), .slice none 0 0, .slice none 0 0, .bool false, .string ⟨#[]⟩, .int .i64 x2, .int .u64 x3, .int .u64 0, .int .u64 x4, .int .i64 x5, .int .u64 x6, .slice none 0 0, .int .i64 0, .int .i64 0]
def jd1 (nm : ByteArray) (x1 x2 x3 x4 x5 x6 : Int) : Jd := ⟨nm, runOf x1, none, [], 0, none, [], 0, false, ⟨#[]⟩, x2, x3, 0, x4, x5, x6, none, [], 0, 0, 0⟩
/-- What holds of the world while the struct literal is made. -/
structure J1 (w0 : World) (B g k6 : Nat) (bB bA bS : Bool) (dl : List Int) (ka kb : Nat) (v : Array Value) (w : World) : Prop where
  gw : w0.grownBy w (some g)
  gl : g < w0.heap.size
  k66 : w0.heap.size ≤ k6
  res : w.heap[k6]? = some (jdO jd0)
  dk : Dk w B g dl
  tb : bB = true → w0.heap.size ≤ kb ∧ w.heap[kb]? = some (.cells runTable.toArray 9 (0, 0))
  bx : bA = true → w0.heap.size ≤ ka ∧ k6 ≠ ka ∧ w.heap[ka]? = some (.cells (cond bS v jobZ) 33 (0, 0))
section
variable {w0 w w2 : World} {B g k6 : Nat} {bB bA bS : Bool} {dl dl' : List Int} {ka kb : Nat} {v : Array Value}
theorem J1.turn (h : J1 w0 B g k6 bB bA bS dl ka kb v w) (hd : Dk w2 B g dl') (hg : w.grownBy w2 (some g)) : J1 w0 B g k6 bB bA bS dl' ka kb v w2 :=
  ⟨grown_trans h.gw hg, h.gl, h.k66, (hg.block k6 (lt_of_block h.res) (by intro e; injection e with e; have := h.k66; have := h.gl; omega)).trans h.res, hd,
    fun hb => ⟨(h.tb hb).1, (hg.block kb (lt_of_block (h.tb hb).2) (by intro e; injection e with e; have := (h.tb hb).1; have := h.gl; omega)).trans (h.tb hb).2⟩,
    fun hb => ⟨(h.bx hb).1, (h.bx hb).2.1, (hg.block ka (lt_of_block (h.bx hb).2.2) (by intro e; injection e with e; have := (h.bx hb).1; have := h.gl; omega)).trans (h.bx hb).2.2⟩⟩
theorem J1.up (h : J1 w0 B g k6 bB bA bS dl ka kb v w) (hg : Old w w2) : J1 w0 B g k6 bB bA bS dl ka kb v w2 :=
  ⟨grown_far h.gw (old_grown hg) (fun q e => by cases e), h.gl, h.k66, hg.block h.res, h.dk.up hg, fun hb => ⟨(h.tb hb).1, hg.block (h.tb hb).2⟩, fun hb => ⟨(h.bx hb).1, (h.bx hb).2.1, hg.block (h.bx hb).2.2⟩⟩
theorem J1.bs (h : J1 w0 B g k6 false bA bS dl ka kb v w) : J1 w0 B g k6 true bA bS dl ka w.heap.size v (w.alloc (.cells runTable.toArray 9)) := by
  have h' := h.up ((Old.refl w).alloc (.cells runTable.toArray 9))
  exact ⟨h'.gw, h'.gl, h'.k66, h'.res, h'.dk, fun _ => ⟨h.gw.size, heap_alloc_new w _⟩, h'.bx⟩
theorem J1.al (h : J1 w0 B g k6 bB false false dl ka kb v w) : J1 w0 B g k6 bB true false dl w.heap.size kb v (w.alloc (.cells jobZ 33)) := by
  have h' := h.up ((Old.refl w).alloc (.cells jobZ 33))
  exact ⟨h'.gw, h'.gl, h'.k66, h'.res, h'.dk, h'.tb, fun _ => ⟨h.gw.size, fun e => by have := lt_of_block h.res; omega, heap_alloc_new w _⟩⟩
theorem J1.run (h : J1 w0 B g k6 true bA bS dl ka kb v w) {x : Int} (h0 : 0 ≤ x) (h1 : x < 4) : w.cell? ⟨kb, x.toNat, none⟩ = some (.string (runOf x)) := by
  rw [cell_of_row w kb x.toNat _ _ _ (h.tb rfl).2]
  obtain ⟨n, rfl⟩ := Int.eq_ofNat_of_zero_le h0
  have : n = 0 ∨ n = 1 ∨ n = 2 ∨ n = 3 := by omega
  rcases this with rfl | rfl | rfl | rfl <;> rfl
theorem J1.st (h : J1 w0 B g k6 bB true false dl ka kb v w) : J1 w0 B g k6 bB true true dl ka kb v (w.setRow ka v) := by
  obtain ⟨k0, kn, k1⟩ := h.bx rfl
  have hB := h.dk.1
  have hgl := h.gl
  have hgr : w.grownBy (w.setRow ka v) (some ka) := ⟨rfl, rfl, rfl, by simp, fun k _ hk => setRow_other w ka k v (fun e => hk (by rw [e]))⟩
  refine ⟨grown_far h.gw hgr (fun q e => by injection e with e; omega), h.gl, h.k66, (setRow_other w ka k6 v kn).trans h.res, h.dk.far hgr (by intro e; injection e with e; omega) (by intro k hk; injection hk with hk; omega), fun hb => ⟨(h.tb hb).1, ?_⟩, fun _ => ⟨k0, kn, setRow_heap w ka _ v _ _ k1⟩⟩
  rw [setRow_other w ka kb v ?_]
  · exact (h.tb hb).2
  · intro e
    subst e
    have := (h.tb hb).2
    rw [k1] at this
    simp at this
theorem J1.start {w : World} {B g : Nat} {l : List Int} (h : Dk w B g l) (ka kb : Nat) (v : Array Value) : J1 w B g w.heap.size false false false l ka kb v (w.alloc (.cells jobZ 33)).drew :=
  ⟨grown_far ⟨rfl, rfl, rfl, Nat.le_refl _, fun _ _ _ => rfl⟩ (old_grown ((Old.refl w).alloc (.cells jobZ 33)).drew) (fun q e => by cases e), h.lt, Nat.le_refl _, heap_alloc_new w _, h.up ((Old.refl w).alloc _).drew, fun e => (by cases e), fun e => (by cases e)⟩
end
/-- What is known of a made job. -/
structure JdBd (nm : ByteArray) (j : Jd) : Prop where
  name : j.nm = nm
  r : 1 ≤ j.restart ∧ j.restart ≤ 3
  b : 0 ≤ j.base ∧ j.base ≤ 5
  cp : j.base ≤ j.cap ∧ j.cap ≤ j.base + 19
  st : 0 ≤ j.stable ∧ j.stable ≤ 19
  bu : 1 ≤ j.burst ∧ j.burst ≤ 4
  wi : 1 ≤ j.win ∧ j.win ≤ 30
  en : j.env.length ≤ 2
def LadNil (j : Jd) : Prop := j.lA = none ∧ j.lad = [] ∧ j.lc = 0
def NeedNil (j : Jd) : Prop := j.nA = none ∧ j.needs = [] ∧ j.nc = 0
def patTab : List ByteArray := [⟨#[111, 107]⟩, ⟨#[]⟩, ⟨#[114, 46, 42, 121, 36]⟩, ⟨#[94, 117, 112, 124, 103, 111, 43]⟩, ⟨#[91, 48, 45, 57, 93, 43, 120, 63]⟩, ⟨#[40, 97, 98, 41, 42, 99]⟩, ⟨#[94, 36]⟩]
theorem patternsC (w : World) :
    Calls Try.prog 49 #[] w fun e w' => e = .returned (.slice (some ⟨w.heap.size, 0, none⟩) 7 7) ∧ w' = w.alloc (.cells (strsV patTab).toArray 9) := by
  go_enter Try.func49, Try.ntmps49
  go_wp2_with fail
  go_ret
  exact ⟨rfl, rfl⟩
theorem pre_get (xs zs : List Value) (j : Nat) (u : Value) (hu : xs[j]? = some u) : (xs ++ zs).toArray[0 + j]? = some u := by
  have hl := (List.getElem?_eq_some_iff.mp hu).1
  rw [Nat.zero_add, List.getElem?_toArray, List.getElem?_append_left hl, hu]
theorem info_jstr : (Try.prog.info? 9).map (fun i => (i.zero, i.size, i.bytes)) = some (some (.string ⟨#[]⟩), 1, 16) := by kernel_rfl
theorem info_jrung : (Try.prog.info? 74).map (fun i => (i.zero, i.size, i.bytes)) = some (some (.agg #[.int .i64 0, .int .u64 0]), 2, 16) := by kernel_rfl
theorem JdBd.needs_ {nm : ByteArray} {j : Jd} (h : JdBd nm j) (A : Option Addr) (l : List ByteArray) (c : Nat) : JdBd nm { j with nA := A, needs := l, nc := c } := ⟨h.1, h.2, h.3, h.4, h.5, h.6, h.7, h.8⟩
theorem JdBd.ready_ {nm : ByteArray} {j : Jd} (h : JdBd nm j) (b : Bool) (s : ByteArray) : JdBd nm { j with hasR := b, ready := s } := ⟨h.1, h.2, h.3, h.4, h.5, h.6, h.7, h.8⟩
theorem JdBd.lad_ {nm : ByteArray} {j : Jd} (h : JdBd nm j) (A : Option Addr) (l : List (Int × Int)) (c : Nat) : JdBd nm { j with lA := A, lad := l, lc := c } := ⟨h.1, h.2, h.3, h.4, h.5, h.6, h.7, h.8⟩
theorem JdBd.env_ {nm : ByteArray} {j : Jd} (h : JdBd nm j) (A : Option Addr) (l : List (ByteArray × ByteArray)) (c : Nat) (hl : l.length ≤ 2) : JdBd nm { j with eA := A, env := l, ec := c } := ⟨h.1, h.2, h.3, h.4, h.5, h.6, h.7, hl⟩
def patOf (i : Int) : ByteArray := patTab.getD i.toNat ⟨#[]⟩
structure J12 (w0 w : World) (B g k k6 : Nat) (bP : Bool) (kp : Nat) (l : List Int) (j : Jd) : Prop where
  jc : JC w0 w B g k k6 l j
  tb : bP = true → w0.heap.size ≤ kp ∧ w.heap[kp]? = some (.cells (strsV patTab).toArray 9 (0, 0))
section
variable {w0 w w' : World} {B g k k6 kp : Nat} {l l' : List Int} {j j' : Jd} {bP : Bool}
theorem J12.dk (h : J12 w0 w B g k k6 bP kp l j) : Dk w B g l := h.jc.dk
theorem J12.row (h : J12 w0 w B g k k6 bP kp l j) : w.heap[k]? = some (jdO j) := h.jc.row
theorem J12.turn (h : J12 w0 w B g k k6 bP kp l j) (hd : Dk w' B g l') (hg : w.grownBy w' (some g)) : J12 w0 w' B g k k6 bP kp l' j :=
  ⟨h.jc.turn hd hg, fun hb => ⟨(h.tb hb).1, (hg.block kp (lt_of_block (h.tb hb).2) (by intro e; injection e with e; have := (h.tb hb).1; have := h.jc.gl; omega)).trans (h.tb hb).2⟩⟩
theorem J12.pat (h : J12 w0 w B g k k6 false kp l j) : J12 w0 (w.alloc (.cells (strsV patTab).toArray 9)) B g k k6 true w.heap.size l j :=
  ⟨h.jc.up ((Old.refl w).alloc _), fun _ => ⟨h.jc.gw.size, heap_alloc_new w _⟩⟩
theorem J12.put (h : J12 w0 w B g k k6 bP kp l j) (i : Nat) (v : Value) (hv : (jdCells j).set i v = jdCells j') (he : j'.eA = j.eA ∧ j'.env = j.env) (hn : j'.nA = j.nA ∧ j'.needs = j.needs ∧ j'.nc = j.nc) : J12 w0 (w.setCell ⟨k, i, none⟩ v) B g k k6 bP kp l j' :=
  ⟨h.jc.put i v hv he hn, fun hb => ⟨(h.tb hb).1, (heap_setCell_other w ⟨k, i, none⟩ kp _ (fun e => by
    subst e
    have h1 := (h.tb hb).2
    rw [h.row] at h1
    simp [jdO] at h1)).trans (h.tb hb).2⟩⟩
theorem J12.run (h : J12 w0 w B g k k6 true kp l j) {x : Int} (h0 : 0 ≤ x) (h1 : x < 7) : w.cell? ⟨kp, x.toNat, none⟩ = some (.string (patOf x)) := by
  rw [cell_of_row w kp x.toNat _ _ _ (h.tb rfl).2]
  obtain ⟨n, rfl⟩ := Int.eq_ofNat_of_zero_le h0
  have : n = 0 ∨ n = 1 ∨ n = 2 ∨ n = 3 ∨ n = 4 ∨ n = 5 ∨ n = 6 := by omega
  rcases this with rfl | rfl | rfl | rfl | rfl | rfl | rfl <;> rfl
end
def sigOf (x : Int) : Int := if x = 0 then 15 else if x = 1 then 2 else 1
structure J16 (w0 : World) (B g k k6 : Nat) (j : Jd) (sg y : Int) (l : List Int) (b2 b11 b12 b14 : Bool) (kb kc : Nat) (va : Value) (w : World) : Prop where
  gl : g < w0.heap.size
  dk : Dk w B g l
  jc : b14 = false → JC w0 w B g k k6 l j
  tb : b2 = true → b12 = false → w0.heap.size ≤ kb ∧ w.heap[kb]? = some (.cells #[.int .i64 15, .int .i64 2, .int .i64 1] 3 (0, 0))
  lo : b12 = false → LO w0 w (.slice j.lA j.lad.length j.lc) j.lad
  rc : b11 = true → b12 = false → w0.heap.size ≤ kc ∧ w.heap[kc]? = some (.cells #[.int .i64 sg, .int .u64 y] 74 (0, 0))
  la : b12 = true → b14 = false → Own w w0.heap.size 74 2 va (j.lad.length + 1) (rungs j.lad ++ [.int .i64 sg, .int .u64 y])
  fin : b14 = true → ∃ A' c', JC w0 w B g k k6 l { j with lA := A', lad := j.lad ++ [(sg, y)], lc := c' } ∧ LO w0 w (.slice A' (j.lad ++ [(sg, y)]).length c') (j.lad ++ [(sg, y)])
section
variable {w0 w w' : World} {B g k k6 kb kc : Nat} {l l' : List Int} {j : Jd} {sg y : Int} {b2 b11 b12 : Bool} {va : Value}
theorem J16.start (hc : JC w0 w B g k k6 l j) (hl : LO w0 w (.slice j.lA j.lad.length j.lc) j.lad) : J16 w0 B g k k6 j sg y l false false false false kb kc va w.drew :=
  ⟨hc.gl, hc.dk.up (Old.refl w).drew, fun _ => hc.up (Old.refl w).drew, fun e => (by cases e), fun _ => hl.up (Old.refl w).drew, fun e => (by cases e), fun e => (by cases e), fun e => (by cases e)⟩
theorem J16.up (h : J16 w0 B g k k6 j sg y l b2 b11 b12 false kb kc va w) (ho : Old w w') : J16 w0 B g k k6 j sg y l b2 b11 b12 false kb kc va w' :=
  ⟨h.gl, h.dk.up ho, fun _ => (h.jc rfl).up ho, fun e f => ⟨(h.tb e f).1, ho.block (h.tb e f).2⟩, fun e => (h.lo e).up ho, fun e f => ⟨(h.rc e f).1, ho.block (h.rc e f).2⟩, fun e _ => (h.la e rfl).up ho, fun e => (by cases e)⟩
theorem J16.mkb (h : J16 w0 B g k k6 j sg y l false b11 b12 false kb kc va w) : J16 w0 B g k k6 j sg y l true b11 b12 false w.heap.size kc va (w.alloc (.cells #[.int .i64 15, .int .i64 2, .int .i64 1] 3)) := by
  have h' := h.up ((Old.refl w).alloc (.cells #[.int .i64 15, .int .i64 2, .int .i64 1] 3))
  exact ⟨h'.gl, h'.dk, h'.jc, fun _ _ => ⟨(h.jc rfl).gw.size, heap_alloc_new w _⟩, h'.lo, h'.rc, h'.la, h'.fin⟩
theorem J16.mkc (h : J16 w0 B g k k6 j sg y l b2 false b12 false kb kc va w) : J16 w0 B g k k6 j sg y l b2 true b12 false kb w.heap.size va (w.alloc (.cells #[.int .i64 sg, .int .u64 y] 74)) := by
  have h' := h.up ((Old.refl w).alloc (.cells #[.int .i64 sg, .int .u64 y] 74))
  exact ⟨h'.gl, h'.dk, h'.jc, h'.tb, h'.lo, fun _ _ => ⟨(h.jc rfl).gw.size, heap_alloc_new w _⟩, h'.la, h'.fin⟩
theorem J16.turn (h : J16 w0 B g k k6 j sg y l b2 b11 false false kb kc va w) (hd : Dk w' B g l') (hg : w.grownBy w' (some g)) : J16 w0 B g k k6 j sg y l' b2 b11 false false kb kc va w' :=
  ⟨h.gl, hd, fun _ => (h.jc rfl).turn hd hg,
    fun e f => ⟨(h.tb e f).1, (hg.block kb (lt_of_block (h.tb e f).2) (by intro q; injection q with q; have := (h.tb e f).1; have := h.gl; omega)).trans (h.tb e f).2⟩,
    fun e => (h.lo e).turn (h.jc rfl) hg,
    fun e f => ⟨(h.rc e f).1, (hg.block kc (lt_of_block (h.rc e f).2) (by intro q; injection q with q; have := (h.rc e f).1; have := h.gl; omega)).trans (h.rc e f).2⟩,
    fun e => (by cases e), fun e => (by cases e)⟩
theorem J16.app {v' : Value} (h : J16 w0 B g k k6 j sg y l b2 true false false kb kc va w) (ho : Own w' w0.heap.size 74 2 v' (j.lad.length + 1) (rungs j.lad ++ [.int .i64 sg, .int .u64 y])) (hg : w.grownBy w' (Value.slice j.lA j.lad.length j.lc).ownBlock) : J16 w0 B g k k6 j sg y l b2 true true false kb kc v' w' :=
  ⟨h.gl, ((h.jc rfl).pushL (h.lo rfl) hg).dk, fun _ => (h.jc rfl).pushL (h.lo rfl) hg, fun _ f => (by cases f), fun e => (by cases e), fun _ f => (by cases f), fun _ _ => ho, fun e => (by cases e)⟩
theorem J16.st {A' : Option Addr} {c' : Nat} (h : J16 w0 B g k k6 j sg y l b2 true true false kb kc (.slice A' (j.lad.length + 1) c') w) : J16 w0 B g k k6 j sg y l b2 true true true kb kc (.slice A' (j.lad.length + 1) c') (w.setCell ⟨k, 12, none⟩ (.slice A' (j.lad.length + 1) c')) := by
  have hc := h.jc rfl
  have hr : rungs j.lad ++ [.int .i64 sg, .int .u64 y] = rungs (j.lad ++ [(sg, y)]) := by simp [rungs]
  have hla := h.la rfl rfl
  rw [hr] at hla
  have hlo : LO w0 w (.slice A' (j.lad ++ [(sg, y)]).length c') (j.lad ++ [(sg, y)]) := by
    unfold LO
    rw [List.length_append, List.length_singleton]
    exact hla
  have h1 := hc.put (j' := { j with lA := A', lad := j.lad ++ [(sg, y)], lc := c' }) 12 (.slice A' (j.lad ++ [(sg, y)]).length c') rfl ⟨rfl, rfl⟩ ⟨rfl, rfl, rfl⟩
  have h2 := hlo.put hc 12 (.slice A' (j.lad ++ [(sg, y)]).length c')
  rw [List.length_append, List.length_singleton] at h1 h2
  exact ⟨h.gl, h1.dk, fun e => (by cases e), fun _ f => (by cases f), fun e => (by cases e), fun _ f => (by cases f), fun _ f => (by cases f), fun _ => ⟨A', c', h1, by rw [List.length_append, List.length_singleton]; exact h2⟩⟩
end
theorem J16.sig {w : World} {kb : Nat} {x : Int} (h : w.heap[kb]? = some (.cells #[.int .i64 15, .int .i64 2, .int .i64 1] 3 (0, 0))) (h0 : 0 ≤ x) (h1 : x < 3) : w.cell? ⟨kb, x.toNat, none⟩ = some (.int .i64 (sigOf x)) := by
  rw [cell_of_row w kb x.toNat _ _ _ h]
  obtain ⟨n, rfl⟩ := Int.eq_ofNat_of_zero_le h0
  have : n = 0 ∨ n = 1 ∨ n = 2 := by omega
  rcases this with rfl | rfl | rfl <;> rfl
/-- What a made job's memory is. -/
structure JdMem (B : Nat) (w : World) (j : Jd) : Prop where
  env : Ts w 85 j.eA (varsV j.env)
  needs : Ts w 9 j.nA (strsV j.needs)
  lad : Ts w 74 j.lA (rungs j.lad)
def JobPost (w : World) (B g : Nat) (nm : ByteArray) (m : Nat) (e : Ending) (w' : World) : Prop :=
  ∃ (j : Jd) (l' : List Int), e = .returned (jdA j) ∧ JdBd nm j ∧ j.needs.length ≤ m ∧ 1 ≤ j.lad.length ∧ j.lad.length ≤ 3 ∧ (∀ r ∈ j.lad, 0 ≤ r.2 ∧ r.2 < 9) ∧ JdMem B w' j ∧ Dk w' B g l' ∧ w.grownBy w' (some g)
/-- At the end: the result's block is filled. -/
structure JE (w0 w : World) (B g k6 : Nat) (l : List Int) (j : Jd) : Prop where
  gw : w0.grownBy w (some g)
  gl : g < w0.heap.size
  k66 : w0.heap.size ≤ k6
  blk : ∃ cs, w.heap[k6]? = some (.cells cs 33 (0, 0))
  dk : Dk w B g l
  mem : JdMem B w j
theorem Ts.setOther {w : World} {e t : TypeId} {A : Option Addr} {xs : List Value} {k i : Nat} {cs : Array Value} {z : Nat × Nat} (h : Ts w e A xs) (hk : w.heap[k]? = some (.cells cs t z)) (hne : e ≠ t) (v : Value) : Ts (w.setCell ⟨k, i, none⟩ v) e A xs := by
  rcases h with q | ⟨b, off, cur, fz, hA, hb, hc⟩
  · exact Or.inl q
  · refine Or.inr ⟨b, off, cur, fz, hA, (heap_setCell_other w ⟨k, i, none⟩ b _ (fun e => ?_)).trans hb, hc⟩
    subst e
    rw [hb] at hk
    simp at hk
    exact hne hk.2.1
theorem JC.je {w0 w : World} {B g k k6 : Nat} {l : List Int} {j : Jd} (h : JC w0 w B g k k6 l j) (hl : LO w0 w (.slice j.lA j.lad.length j.lc) j.lad) : JE w0 w B g k6 l j := by
  obtain ⟨A1, c1, e1, t1, _, _⟩ := h.needs.shape
  injection e1 with e1 _ _
  obtain ⟨A2, c2, e2, t2, _, _⟩ := Own.shape hl
  injection e2 with e2 _ _
  exact ⟨h.gw, h.gl, h.k66, ⟨_, h.res⟩, h.dk, h.env, e1 ▸ t1, e2 ▸ t2⟩
theorem JE.set {w0 w : World} {B g k6 : Nat} {l : List Int} {j : Jd} (h : JE w0 w B g k6 l j) (i : Nat) (v : Value) : JE w0 (w.setCell ⟨k6, i, none⟩ v) B g k6 l j := by
  obtain ⟨cs, hb⟩ := h.blk
  have hgr : w.grownBy (w.setCell ⟨k6, i, none⟩ v) (some k6) := ⟨rfl, rfl, rfl, by simp, fun q _ hq => heap_setCell_other w ⟨k6, i, none⟩ q _ (fun e => hq (by simp [e]))⟩
  have hB := h.dk.1
  have h1 := h.k66
  have h2 := h.gl
  exact ⟨grown_far h.gw hgr (fun q e => by injection e with e; omega), h.gl, h.k66, ⟨_, heap_setCell_same w k6 i _ _ v hb⟩, h.dk.far hgr (fun e => by injection e with e; omega) (fun q e => by injection e with e; omega), h.mem.env.setOther hb (by decide) v, h.mem.needs.setOther hb (by decide) v, h.mem.lad.setOther hb (by decide) v⟩
end Go.Proofs.Ytpknglclcdgfbaa
