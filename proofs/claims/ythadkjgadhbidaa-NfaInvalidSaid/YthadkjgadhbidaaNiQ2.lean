/-
  The walks of the reference's build and Compile (automata).
-/
import Derived.Test.YthadkjgadhbidaaMtW
import Derived.Deep.RegionHeld3
import Derived.Deep.CutBlock
import Derived.Test.YthadkjgadhbidaaRgA
import Derived.Lib.SliceRun
import Derived.Deep.DeepCutAuto
import Derived.Test.YthadkjgadhbidaaNfC
import Derived.Test.YthadkjgadhbidaaRgG
import Derived.Test.YthadkjgadhbidaaRxW
import Derived.Maps.OwnSet
import Derived.DeepKeys4
import Derived.Test.YthadkjgadhbidaaStill
import Derived.IntWalk
import Derived.Test.YthadkjgadhbidaaRgN
import Derived.Test.YthadkjgadhbidaaVlS
import Derived.Test.YthadkjgadhbidaaVlW
import Derived.Test.YthadkjgadhbidaaRxY
import Derived.Test.YthadkjgadhbidaaRxN
import Derived.Test.YthadkjgadhbidaaNbB
/-
  The matcher's spread, begin.
-/
namespace Go.Proofs.Ythadkjgadhbidaa
open Go.RowKit
set_option linter.unusedVariables false

theorem any_snoc (st : List Nd) (L : List Nat) (s : Nat) : ndone st (L ++ [s]) = (ndone st L || decide ((nd st s).kind = 5)) := by
  unfold ndone; rw [List.any_append]; simp
theorem fd_enter (st : List Nd) (L : List Nat) (s : Nat) : fdM st L s (ndone st L) = ndone st (enterM L s) := by
  unfold fdM enterM
  by_cases h : s ∈ L
  · rw [if_pos h, if_pos h]
  · rw [if_neg h, if_neg h, any_snoc]
theorem nspreadF_end (st : List Nd) (bol eol : Bool) (f i : Nat) (L : List Nat) (h : L.length ≤ i) : nspreadF st bol eol f i L = L := by
  cases f with
  | zero => rfl
  | succ f => rw [nspreadF, if_neg (by omega)]
def MDone (w : World) (lv : Value) (w0 : World) (B g gm : Nat) (st : List Nd) (A : Option Addr) (c : Nat) (bol : Bool) (cnt : Nat) (L : List Nat) (e : Ending) (w' : World) : Prop :=
  e = .returned (.tuple #[]) ∧ ∃ lv', MK w0 w' B g gm st A c lv' bol cnt (ndone st L) L L ∧ MKept w w' g gm lv lv'
theorem menterD (w0 : World) (B g gm : Nat) (st : List Nd) (A : Option Addr) (c : Nat) (lv : Value) (bol : Bool) (cnt : Nat) (L : List Nat) (w : World) (h : MK w0 w B g gm st A c lv bol cnt (ndone st L) L L) (hl : st.length ≤ 1000) (hL : Spots st.length L) (s : Nat) (hs : s < st.length) :
    Calls Try.prog 82 #[.pointer (some ⟨g, 0, none⟩), .int .i64 (s : Int)] w (MDone w lv w0 B g gm st A c bol cnt (enterM L s)) := by
  have := menterC w0 B g gm st A c lv bol cnt (ndone st L) L w h hl hL s hs
  rw [fd_enter] at this
  exact this
def MSRel (w w0 : World) (B g gm : Nat) (st : List Nd) (A : Option Addr) (c : Nat) (lv : Value) (bol eol : Bool) (cnt : Nat) (L : List Nat) (v : Value) (wr : World) : Prop :=
  ∃ (k : Nat) (L1 : List Nat) (lv1 : Value), v = .int .i64 k ∧ k ≤ st.length ∧ Hid (MK w0 wr B g gm st A c lv1 bol cnt (ndone st L1) L1 L1) ∧ Hid (MKept w wr g gm lv lv1) ∧ Hid (Spots st.length L1) ∧ Hid (nspreadF st bol eol (st.length - k) k L1 = nspreadF st bol eol st.length 0 L)
/-- A struct that lies in block k. -/
def StAt (w : World) (k : Nat) (x : Nd) : Prop := w.heap[k]? = some (.cells (ndCells x).toArray 42 (0, 0))
theorem StAt.cells {w : World} {k : Nat} {x : Nd} (h : StAt w k x) : w.cell? ⟨k, 0, none⟩ = some (.int .i64 x.kind) ∧ w.cell? ⟨k, 1, none⟩ = some (.int .i64 x.left) ∧ w.cell? ⟨k, 2, none⟩ = some (.int .i64 x.right) ∧
    w.cell? ⟨k, 3, none⟩ = some (.int .u64 (setW x.set 0)) ∧ w.cell? ⟨k, 4, none⟩ = some (.int .u64 (setW x.set 1)) ∧ w.cell? ⟨k, 5, none⟩ = some (.int .u64 (setW x.set 2)) ∧ w.cell? ⟨k, 6, none⟩ = some (.int .u64 (setW x.set 3)) :=
  ⟨by rw [cell_of_row w k 0 _ _ _ h]; rfl, by rw [cell_of_row w k 1 _ _ _ h]; rfl, by rw [cell_of_row w k 2 _ _ _ h]; rfl, by rw [cell_of_row w k 3 _ _ _ h]; rfl, by rw [cell_of_row w k 4 _ _ _ h]; rfl, by rw [cell_of_row w k 5 _ _ _ h]; rfl, by rw [cell_of_row w k 6 _ _ _ h]; rfl⟩
set_option maxHeartbeats 8000000 in
set_option maxRecDepth 100000 in
theorem mspreadC (w0 : World) (B g gm : Nat) (st : List Nd) (A : Option Addr) (c : Nat) (lv : Value) (bol : Bool) (cnt : Nat) (L : List Nat) (w : World) (h : MK w0 w B g gm st A c lv bol cnt (ndone st L) L L) (hv : svalid st = true) (hL : Spots st.length L) (eol : Bool) :
    Calls Try.prog 81 #[.pointer (some ⟨g, 0, none⟩), .bool eol] w (MDone w lv w0 B g gm st A c bol cnt (nspread st bol eol L)) := by
  unfold nspread
  have HH := Lib.hid h
  have HLL := Lib.hid hL
  have HV := Lib.hid hv
  have hsz := (svalid_ok hv).2.1
  have HSZ := Lib.hid hsz
  clear h hL hv hsz
  go_enter Try.func81, Try.ntmps81
  go_wp2_with fail
  go_loopw [4] (fun s4 wr => MSRel w w0 B g gm st A c lv bol eol cnt L s4 wr) (fun s4 _ => st.length - (intOf s4).toNat)
  case atStart => exact ⟨0, L, lv, rfl, Nat.zero_le _, HH, Lib.hid (MKept.refl _ _ _ _), HLL, Lib.hid rfl⟩
  case round =>
    obtain ⟨k, L1, lv1, rfl, hk, HW, HKW, HS, HE⟩ := hrel
    have hlen := HS.out.len
    have hsz := HSZ.out
    obtain ⟨Al, cl, rfl, _, _, _⟩ := HW.out.own.shape
    obtain ⟨e0, _, e2, e3, _, _⟩ := HW.out.cells
    by_cases hkl : k < L1.length
    · obtain ⟨ga, ca, hv, _, _, _, _⟩ := HW.out.own.form (by omega)
      injection hv with hA _ hc
      subst hA
      subst hc
      have es := (HW.out.own.cellAt (spm_get L1 k hkl)).1
      have i1 : (0 : Int) ≤ (k : Int) := by omega
      have i2 : (k : Int) < (L1.length : Int) := by omega
      have hsl : L1.getD k 0 < st.length := HS.out.2 _ (by rw [List.getD_eq_getElem?_getD, List.getElem?_eq_getElem hkl]; exact List.getElem_mem hkl)
      have hun : nspreadF st bol eol (st.length - k) k L1 = nspreadF st bol eol (st.length - (k + 1)) (k + 1) (nvisit st bol eol (L1.getD k 0) L1) := by
        obtain ⟨f, hf⟩ : ∃ f, st.length - k = f + 1 := ⟨st.length - k - 1, by omega⟩
        rw [hf, nspreadF, if_pos hkl, show st.length - (k + 1) = f by omega]
      have HU := Lib.hid (hun.symm.trans HE.out)
      clear HE hun
      generalize L1.getD k 0 = s at *
      have hok := (svalid_ok HV.out).2.2 s hsl
      have hx : st[s]? = some (nd st s) := by unfold nd; rw [List.getD_eq_getElem?_getD, List.getElem?_eq_getElem hsl]; rfl
      obtain ⟨b, off, rfl, _, hcl⟩ := (HW.out.nodes.up HW.out.old).at_ (by rw [ndsV_length]; omega)
      have hg := ndsV_get st s _ hx
      have c0 := hcl _ _ (hg 0 (by omega))
      have c1 := hcl _ _ (hg 1 (by omega))
      have c2 := hcl _ _ (hg 2 (by omega))
      have c3 := hcl _ _ (hg 3 (by omega))
      have c4 := hcl _ _ (hg 4 (by omega))
      have c5 := hcl _ _ (hg 5 (by omega))
      have c6 := hcl _ _ (hg 6 (by omega))
      rw [← Nat.add_assoc] at c0 c1 c2 c3 c4 c5 c6
      rw [Nat.add_zero] at c0
      have s1 : (0 : Int) ≤ (s : Int) := by omega
      have s2 : (s : Int) < (st.length : Int) := by omega
      have HVd : Hid (nvisit st bol eol s L1 = if (nd st s).kind = 2 then enterM (enterM L1 (nd st s).left.toNat) (nd st s).right.toNat
  else if ((nd st s).kind = 3 ∧ bol = true) ∨ ((nd st s).kind = 4 ∧ eol = true) then enterM L1 (nd st s).left.toNat else L1) := Lib.hid rfl
      have HSL := Lib.hid hsl
      clear hx hcl hg hsl
      generalize nd st s = y at *
      obtain ⟨kd, lf, rt, se⟩ := y
      replace c0 : wr.cell? ⟨b, off + s * 7, none⟩ = some (.int .i64 kd) := c0
      replace c1 : wr.cell? ⟨b, off + s * 7 + 1, none⟩ = some (.int .i64 lf) := c1
      replace c2 : wr.cell? ⟨b, off + s * 7 + 2, none⟩ = some (.int .i64 rt) := c2
      replace c3 : wr.cell? ⟨b, off + s * 7 + 3, none⟩ = some (.int .u64 (setW se 0)) := c3
      replace c4 : wr.cell? ⟨b, off + s * 7 + 4, none⟩ = some (.int .u64 (setW se 1)) := c4
      replace c5 : wr.cell? ⟨b, off + s * 7 + 5, none⟩ = some (.int .u64 (setW se 2)) := c5
      replace c6 : wr.cell? ⟨b, off + s * 7 + 6, none⟩ = some (.int .u64 (setW se 3)) := c6
      have n0 := World.new_ne wr _ e0
      have n1 := World.new_ne wr _ es
      have n2 := World.new_ne wr _ c0
      go_upto_region 3 with fail
      go_region_held3 (fun w' => w'.cell? ⟨g, 0, none⟩ = some (.slice (some ⟨b, off, none⟩) st.length c) ∧ w'.cell? ⟨g, 2, none⟩ = some (.slice (some ⟨ga, 0, none⟩) L1.length cl) ∧ w'.cell? ⟨ga, k, none⟩ = some (.int .i64 (s : Int)) ∧ w'.cell? ⟨b, off + s * 7, none⟩ = some (.int .i64 kd) ∧ w'.cell? ⟨b, off + s * 7 + 1, none⟩ = some (.int .i64 lf) ∧ w'.cell? ⟨b, off + s * 7 + 2, none⟩ = some (.int .i64 rt) ∧ w'.cell? ⟨b, off + s * 7 + 3, none⟩ = some (.int .u64 (setW se 0)) ∧ w'.cell? ⟨b, off + s * 7 + 4, none⟩ = some (.int .u64 (setW se 1)) ∧ w'.cell? ⟨b, off + s * 7 + 5, none⟩ = some (.int .u64 (setW se 2)) ∧ w'.cell? ⟨b, off + s * 7 + 6, none⟩ = some (.int .u64 (setW se 3))) (go_keep) (fail)
      have hk7 : StAt (wr.alloc (.cells (ndCells ⟨kd, lf, rt, se⟩).toArray 42)).drew wr.heap.size ⟨kd, lf, rt, se⟩ := heap_alloc_new wr _
      have hoW : Old wr (wr.alloc (.cells (ndCells ⟨kd, lf, rt, se⟩).toArray 42)).drew := ((Old.refl wr).alloc _).drew
      have hWe : (wr.alloc (.cells #[.int .i64 kd, .int .i64 lf, .int .i64 rt, .int .u64 (setW se 0), .int .u64 (setW se 1), .int .u64 (setW se 2), .int .u64 (setW se 3)] 42)).drew = (wr.alloc (.cells (ndCells ⟨kd, lf, rt, se⟩).toArray 42)).drew := rfl
      rw [hWe]
      have HWW := Lib.hid (HW.out.up hoW)
      have HKW2 := Lib.hid (HKW.out.trans (MKept.of_old hoW g gm (.slice (some ⟨ga, 0, none⟩) L1.length cl)))
      have HFR : Hid (wr.heap.size ≠ g ∧ wr.heap.size ≠ gm ∧ some wr.heap.size ≠ (Value.slice (some ⟨ga, 0, none⟩) L1.length cl).ownBlock) := Lib.hid ⟨by have := lt_of_block HW.out.blk; omega, by have := lt_of_block HW.out.mks; omega, fun e => by have := (World.ownsRow.lt HW.out.own _ e.symm).2; omega⟩
      generalize (wr.alloc (.cells (ndCells ⟨kd, lf, rt, se⟩).toArray 42)).drew = W at *
      generalize wr.heap.size = k7 at *
      clear c0 c1 c2 c3 c4 c5 c6 e0 e2 e3 es n0 n1 n2 hWe hoW HW HKW s1 s2
      have HK7 := Lib.hid hk7
      obtain ⟨d0, d1, d2, _⟩ := hk7.cells
      simp only at d0 d1 d2
      clear hk7
      obtain ⟨_, _, _, g3, _, _⟩ := HWW.out.cells
      obtain ⟨o1, o2, o3, o4⟩ := hok
      simp only at o1 o2 o3 o4 HVd
      have hkc : kd = 1 ∨ kd = 2 ∨ kd = 3 ∨ kd = 4 ∨ kd = 5 := by omega
      rcases hkc with rfl | rfl | rfl | rfl | rfl
      · have HN : Hid (nvisit st bol eol s L1 = L1) := Lib.hid (by rw [HVd.out]; simp)
        go_wp2_with fail
        go_roundw
        case rel => exact ⟨k + 1, _, _, rfl, by omega, HWW, HKW2, HS, Lib.hid (by rw [← HN.out]; exact HU.out)⟩
        case measure => simp [intOf]; omega
      · obtain ⟨a, rfl⟩ := Int.eq_ofNat_of_zero_le (o3 (by decide)).1
        obtain ⟨e, rfl⟩ := Int.eq_ofNat_of_zero_le (o4 rfl).1
        have ha : a < st.length := by have := (o3 (by decide)).2; omega
        have he : e < st.length := by have := (o4 rfl).2; omega
        have HN : Hid (nvisit st bol eol s L1 = enterM (enterM L1 a) e) := Lib.hid (by rw [HVd.out]; simp)
        have HC := Lib.hid (menterD w0 B g gm st _ c _ bol cnt L1 W HWW.out (by omega) HS.out a ha)
        have HAL := Lib.hid ha
        have HEL := Lib.hid he
        clear HVd ha he o3 o4
        go_wp2_with fail
        refine (HC.out).mono ?_; rintro e w2 ⟨rfl, lv2, hm2, hk2⟩
        obtain ⟨hb2, hf2⟩ := hk2.block HK7.out HFR.out.1 HFR.out.2.1 HFR.out.2.2
        have hs2 := HS.out.enter HAL.out
        have HC2 := Lib.hid (menterD w0 B g gm st _ c lv2 bol cnt (enterM L1 a) w2 hm2 (by omega) hs2 e HEL.out)
        have HK2 := Lib.hid (HKW2.out.trans hk2)
        have HS2 := Lib.hid hs2
        obtain ⟨_, _, d2, _⟩ := (show StAt w2 k7 _ from hb2).cells
        simp only at d2
        clear hm2 hk2 hb2 hf2 hs2 HC
        go_wp2_with fail
        refine (HC2.out).mono ?_; rintro e w3 ⟨rfl, lv3, hm3, hk3⟩
        have HM3 := Lib.hid hm3
        have HK3 := Lib.hid (HK2.out.trans hk3)
        have HS3 := Lib.hid (HS2.out.enter HEL.out)
        clear hm3 hk3 HC2
        go_wp2_with fail
        go_roundw
        case rel => exact ⟨k + 1, _, lv3, rfl, by omega, HM3, HK3, HS3, Lib.hid (by rw [← HN.out]; exact HU.out)⟩
        case measure => simp [intOf]; omega
      · obtain ⟨a, rfl⟩ := Int.eq_ofNat_of_zero_le (o3 (by decide)).1
        have ha : a < st.length := by have := (o3 (by decide)).2; omega
        have HAL := Lib.hid ha
        cases bol with
        | false =>
          have HN : Hid (nvisit st false eol s L1 = L1) := Lib.hid (by rw [HVd.out]; simp)
          clear HVd ha o3 o4
          go_wp2_with fail
          go_roundw
          case rel => exact ⟨k + 1, _, _, rfl, by omega, HWW, HKW2, HS, Lib.hid (by rw [← HN.out]; exact HU.out)⟩
          case measure => simp [intOf]; omega
        | true =>
          have HN : Hid (nvisit st true eol s L1 = enterM L1 a) := Lib.hid (by rw [HVd.out]; simp)
          have HC := Lib.hid (menterD w0 B g gm st _ c _ _ cnt L1 W HWW.out (by omega) HS.out a ha)
          clear HVd ha o3 o4
          go_wp2_with fail
          refine (HC.out).mono ?_; rintro e w2 ⟨rfl, lv2, hm2, hk2⟩
          have HM2 := Lib.hid hm2
          have HK2 := Lib.hid (HKW2.out.trans hk2)
          have HS2 := Lib.hid (HS.out.enter HAL.out)
          clear hm2 hk2 HC
          go_wp2_with fail
          go_roundw
          case rel => exact ⟨k + 1, _, lv2, rfl, by omega, HM2, HK2, HS2, Lib.hid (by rw [← HN.out]; exact HU.out)⟩
          case measure => simp [intOf]; omega
      · obtain ⟨a, rfl⟩ := Int.eq_ofNat_of_zero_le (o3 (by decide)).1
        have ha : a < st.length := by have := (o3 (by decide)).2; omega
        have HAL := Lib.hid ha
        cases eol with
        | false =>
          have HN : Hid (nvisit st bol false s L1 = L1) := Lib.hid (by rw [HVd.out]; simp)
          clear HVd ha o3 o4
          go_wp2_with fail
          go_roundw
          case rel => exact ⟨k + 1, _, _, rfl, by omega, HWW, HKW2, HS, Lib.hid (by rw [← HN.out]; exact HU.out)⟩
          case measure => simp [intOf]; omega
        | true =>
          have HN : Hid (nvisit st bol true s L1 = enterM L1 a) := Lib.hid (by rw [HVd.out]; simp)
          have HC := Lib.hid (menterD w0 B g gm st _ c _ _ cnt L1 W HWW.out (by omega) HS.out a ha)
          clear HVd ha o3 o4
          go_wp2_with fail
          refine (HC.out).mono ?_; rintro e w2 ⟨rfl, lv2, hm2, hk2⟩
          have HM2 := Lib.hid hm2
          have HK2 := Lib.hid (HKW2.out.trans hk2)
          have HS2 := Lib.hid (HS.out.enter HAL.out)
          clear hm2 hk2 HC
          go_wp2_with fail
          go_roundw
          case rel => exact ⟨k + 1, _, lv2, rfl, by omega, HM2, HK2, HS2, Lib.hid (by rw [← HN.out]; exact HU.out)⟩
          case measure => simp [intOf]; omega
      · have HN : Hid (nvisit st bol eol s L1 = L1) := Lib.hid (by rw [HVd.out]; simp)
        go_wp2_with fail
        go_roundw
        case rel => exact ⟨k + 1, _, _, rfl, by omega, HWW, HKW2, HS, Lib.hid (by rw [← HN.out]; exact HU.out)⟩
        case measure => simp [intOf]; omega
    · have HR : Hid (nspreadF st bol eol st.length 0 L = L1) := Lib.hid (by rw [← HE.out]; exact nspreadF_end _ _ _ _ _ _ (by omega))
      go_wp2_with fail
      go_end0
      rw [HR.out]
      exact ⟨rfl, _, HW.out, HKW.out⟩
end Go.Proofs.Ythadkjgadhbidaa
/-
  The matcher's begin, feed.
-/
namespace Go.Proofs.Ythadkjgadhbidaa
open Go.RowKit
set_option linter.unusedVariables false

theorem mheap_setCells {g : Nat} {t : TypeId} : ∀ (vs : List Value) (w : World) (pre old : List Value), w.heap[g]? = some (.cells (pre ++ old).toArray t (0, 0)) → old.length = vs.length → (w.setCells g pre.length vs).heap[g]? = some (.cells (pre ++ vs).toArray t (0, 0))
  | [], w, pre, old, h, hl => by
    obtain rfl := List.eq_nil_of_length_eq_zero hl
    exact h
  | v :: r, w, pre, old, h, hl => by
    cases old with
    | nil => simp at hl
    | cons x old =>
      have h1 := heap_setCell_same w g pre.length _ _ v h
      rw [List.setIfInBounds_toArray, List.set_append_right _ _ (Nat.le_refl _), Nat.sub_self, List.set_cons_zero] at h1
      have h2 := mheap_setCells (t := t) r (w.setCell ⟨g, pre.length, none⟩ v) (pre ++ [v]) old (by rw [h1]; simp) (by simpa using hl)
      rw [List.length_append, List.length_singleton] at h2
      show ((w.setCell ⟨g, pre.length, none⟩ v).setCells g (pre.length + 1) r).heap[g]? = _
      rw [h2]
      simp
theorem mgrown_setCells (g : Nat) : ∀ (vs : List Value) (o : Nat) (w : World), w.grownBy (w.setCells g o vs) (some g)
  | [], o, w => World.grownBy.refl _ _
  | v :: r, o, w => World.grownBy.trans (show w.grownBy (w.setCell ⟨g, o, none⟩ v) (some g) from ⟨rfl, rfl, rfl, by simp, fun k _ hk => heap_setCell_other w ⟨g, o, none⟩ k _ (fun e => hk (by simp [e]))⟩) (mgrown_setCells g r (o + 1) _)
theorem MK.clear {w0 w : World} {B g gm c cnt : Nat} {st : List Nd} {A : Option Addr} {lv : Value} {bol fd : Bool} {M L : List Nat} (h : MK w0 w B g gm st A c lv bol cnt fd M L) : MK w0 (w.setCells gm 0 (List.replicate st.length (.bool false))) B g gm st A c lv bol cnt fd [] L := by
  have hgr := mgrown_setCells gm (List.replicate st.length (.bool false)) 0 w
  have hb : Old w0 (w.setCells gm 0 (List.replicate st.length (.bool false))) := Below.grown h.old hgr h.old.size (by intro k hk; injection hk with hk; subst hk; exact h.bm)
  have hz : List.replicate st.length (Value.bool false) = mkm st.length [] := by
    apply List.ext_getElem?
    intro i
    by_cases hi : i < st.length
    · rw [mkm_get _ _ _ hi, List.getElem?_replicate, if_pos hi]; simp
    · rw [List.getElem?_eq_none (by simp; omega), List.getElem?_eq_none (by simp [mkm_length]; omega)]
  refine ⟨hb, h.nodes, ?_, ?_, World.ownsRow.kept h.own hgr (Or.inr (fun e => mown_far h.own h.lm e.symm)), h.bg, h.bm, h.lg, h.lm, h.n2, Nat.le_trans h.lB hgr.size⟩
  · exact (hgr.block g (lt_of_block h.blk) (by intro e; injection e with e; exact h.n2 e)).trans h.blk
  · have := mheap_setCells (t := 4) (List.replicate st.length (.bool false)) w [] (mkm st.length M) h.mks (by simp [mkm_length])
    rw [List.nil_append, hz] at this
    rw [hz]
    exact this
theorem MKept.clear (w : World) (g gm n : Nat) (lv : Value) : MKept w (w.setCells gm 0 (List.replicate n (.bool false))) g gm lv lv :=
  ⟨(mgrown_setCells gm _ 0 w).size, fun k hk _ h2 _ => (mgrown_setCells gm _ 0 w).block k hk (by intro e; injection e with e; exact h2 e), fun _ h => Or.inl h⟩
theorem MKept.drop {w : World} {g gm : Nat} {lv : Value} : MKept w (w.setCell ⟨g, 2, none⟩ (.slice none 0 0)) g gm lv (.slice none 0 0) :=
  ⟨by simp, fun k _ h1 _ _ => heap_setCell_other w ⟨g, 2, none⟩ k _ h1, fun k h => by cases h⟩
theorem word_has3 (s : BSet) (i b : Nat) (hb : b < 256) (hi : b / 64 = i) : (bits BinOp.and IntKind.u64 (((setW s i : Nat) : Int) / 2 ^ (b % 64)) 1 != 0) = hasB s b := by
  rw [← word_has s i b hb hi]
  have e : ((setW s i : Nat) : Int) / 2 ^ (b % 64) = ((setW s i / 2 ^ (b % 64) : Nat) : Int) := by push_cast; rfl
  have hl := setW_lt s i
  have hd : setW s i / 2 ^ (b % 64) < 18446744073709551616 := Nat.lt_of_le_of_lt (Nat.div_le_self _ _) hl
  have h1 := u64_and_nat (setW s i / 2 ^ (b % 64)) 1 hd (by decide)
  rw [nat_mask1] at h1
  rw [e]
  have h1' : bits BinOp.and IntKind.u64 ((setW s i / 2 ^ (b % 64) : Nat) : Int) 1 = ((setW s i / 2 ^ (b % 64) % 2 : Nat) : Int) := h1
  rw [h1']
  rw [Bool.eq_iff_iff, bne_iff_ne, beq_iff_eq]
  omega
set_option maxHeartbeats 2000000 in
set_option maxRecDepth 100000 in
theorem mbeginC (w0 : World) (B g gm : Nat) (st : List Nd) (A : Option Addr) (c : Nat) (lv : Value) (bol : Bool) (cnt : Nat) (L : List Nat) (w : World) (h : MK w0 w B g gm st A c lv bol cnt (ndone st L) L L) (hv : svalid st = true) (hL : Spots st.length L) :
    Calls Try.prog 80 #[.pointer (some ⟨g, 0, none⟩)] w (MDone w lv w0 B g gm st A c bol cnt (nspread st bol false (enterM L 0))) := by
  obtain ⟨h1, h2, _⟩ := svalid_ok hv
  have HE := Lib.hid (menterD w0 B g gm st A c lv bol cnt L w h (by omega) hL 0 (by omega))
  have HS := Lib.hid (hL.enter (s := 0) (by omega))
  have HV := Lib.hid hv
  clear h hL hv h1 h2
  go_enter Try.func80, Try.ntmps80
  go_wp2_with fail
  refine (HE.out).mono ?_; rintro e w1 ⟨rfl, lv1, hm, hk⟩
  have HC := Lib.hid (mspreadC w0 B g gm st A c lv1 bol cnt (enterM L 0) w1 hm HV.out HS.out false)
  have HK := Lib.hid hk
  clear hm hk HE
  go_wp2_with fail
  refine (HC.out).mono ?_; rintro e w2 ⟨rfl, lv2, hm, hk⟩
  have HM := Lib.hid hm
  have HK2 := Lib.hid (HK.out.trans hk)
  clear hm hk HC
  go_wp2_with fail
  go_end0
  exact ⟨rfl, lv2, HM.out, HK2.out⟩
def mL1 (st : List Nd) (bol : Bool) (ch : Nat) (L : List Nat) : List Nat := if ch = 10 then nspread st bol true L else L
def mL2 (st : List Nd) (bol : Bool) (ch : Nat) (L : List Nat) : List Nat := nspread st (ch == 10) false (enterM (nstep st ch (mL1 st bol ch L)) 0)
theorem Spots.mL1 {st : List Nd} (hv : svalid st = true) {bol : Bool} {ch : Nat} {L : List Nat} (h : Spots st.length L) : Spots st.length (mL1 st bol ch L) := by
  unfold Go.Proofs.Ythadkjgadhbidaa.mL1
  split
  · exact Spots.nspreadF hv _ _ _ h
  · exact h
def MFeed (w : World) (lv : Value) (w0 : World) (B g gm : Nat) (st : List Nd) (A : Option Addr) (c : Nat) (bol : Bool) (cnt ch : Nat) (L : List Nat) (e : Ending) (w' : World) : Prop :=
  e = .returned (.tuple #[]) ∧ (ndone st (mL1 st bol ch L) = true → ∃ lv', MK w0 w' B g gm st A c lv' bol (cnt + 1) true (mL1 st bol ch L) (mL1 st bol ch L) ∧ MKept w w' g gm lv lv') ∧
    (ndone st (mL1 st bol ch L) = false → ∃ lv', MK w0 w' B g gm st A c lv' (ch == 10) (cnt + 1) (ndone st (mL2 st bol ch L)) (mL2 st bol ch L) (mL2 st bol ch L) ∧ MKept w w' g gm lv lv')
def MFRel (w w2 w0 : World) (B g gm : Nat) (st : List Nd) (A : Option Addr) (c : Nat) (lv : Value) (bol : Bool) (cnt ch : Nat) (L : List Nat) (v : Value) (wr : World) : Prop :=
  ∃ (k : Nat) (L1 : List Nat) (lv1 : Value), v = .int .i64 k ∧ k ≤ L.length ∧ Hid (MK w0 wr B g gm st A c lv1 bol cnt (ndone st L1) L1 L1) ∧ Hid (MKept w wr g gm lv lv1) ∧ Hid (MKept w2 wr g gm (.slice none 0 0) lv1) ∧ Hid (Spots st.length L1) ∧ Hid ((L.take k).foldl (fun acc s => nover st ch s acc) [] = L1)
set_option maxHeartbeats 8000000 in
set_option maxRecDepth 100000 in
theorem mfeedC (w0 : World) (B g gm : Nat) (st : List Nd) (A : Option Addr) (c : Nat) (lv : Value) (bol : Bool) (cnt : Nat) (L : List Nat) (w : World) (h : MK w0 w B g gm st A c lv bol cnt (ndone st L) L L) (hv : svalid st = true) (hL : Spots st.length L) (hcnt : cnt < 1000000000) (ch : Nat) (hch : ch < 256) :
    Calls Try.prog 58 #[.pointer (some ⟨g, 0, none⟩), .int .u8 ch] w (MFeed w lv w0 B g gm st A c bol cnt ch L) := by
  obtain ⟨_, _, _, _, x4, _⟩ := h.cells
  have z4 := h.frz 4
  have HH := Lib.hid (h.cnt_ (cnt + 1))
  have HK0 := Lib.hid (MKept.fld w g gm 4 lv (.int .i64 ((cnt + 1 : Nat) : Int)))
  have HV := Lib.hid hv
  have HL := Lib.hid hL
  have hsz := (svalid_ok hv).2.1
  have HSZ := Lib.hid hsz
  have HCH := Lib.hid hch
  have hc0 : (0 : Int) ≤ (ch : Int) := by omega
  have hc1 : (ch : Int) < 256 := by omega
  clear h hv hL hsz
  go_enter Try.func58, Try.ntmps58
  go_upto_region 1 with fail
  have hWe : w.setCell ⟨g, 4, none⟩ (.int .i64 ((cnt : Int) + 1)) = w.setCell ⟨g, 4, none⟩ (.int .i64 ((cnt + 1 : Nat) : Int)) := rfl
  rw [hWe]
  generalize w.setCell ⟨g, 4, none⟩ (.int .i64 ((cnt + 1 : Nat) : Int)) = W at *
  clear hWe x4 z4 hcnt
  have HMF : Hid (∀ e w', (e = .returned (.tuple #[]) ∧ (ndone st (mL1 st bol ch L) = true → ∃ lv', MK w0 w' B g gm st A c lv' bol (cnt + 1) true (mL1 st bol ch L) (mL1 st bol ch L) ∧ MKept w w' g gm lv lv') ∧
    (ndone st (mL1 st bol ch L) = false → ∃ lv', MK w0 w' B g gm st A c lv' (ch == 10) (cnt + 1) (ndone st (mL2 st bol ch L)) (mL2 st bol ch L) (mL2 st bol ch L) ∧ MKept w w' g gm lv lv')) → MFeed w lv w0 B g gm st A c bol cnt ch L e w') := Lib.hid (fun _ _ h => h)
  have HSL := Lib.hid (HL.out.mL1 HV.out (bol := bol) (ch := ch))
  have HEQ : Hid (((ch : Int) == 10) = (ch == 10)) := Lib.hid (by rw [Bool.eq_iff_iff, beq_iff_eq, beq_iff_eq]; omega)
  go_upto_if 18 with fail
  go_cut [] (fun wx => ∃ lv1, Hid (MK w0 wx B g gm st A c lv1 bol (cnt + 1) (ndone st (mL1 st bol ch L)) (mL1 st bol ch L) (mL1 st bol ch L)) ∧ Hid (MKept w wx g gm lv lv1))
  case first =>
    clear HMF HSL
    by_cases h10 : ch = 10
    · subst h10
      have HN : Hid (mL1 st bol 10 L = nspread st bol true L) := Lib.hid (if_pos rfl)
      have HC := Lib.hid (mspreadC w0 B g gm st A c lv bol (cnt + 1) L W HH.out HV.out HL.out true)
      clear HH
      go_wp2_with fail
      refine (HC.out).mono ?_; rintro e w2 ⟨rfl, lv2, hm2, hk2⟩
      have HM2 := Lib.hid hm2
      have HK2 := Lib.hid (HK0.out.trans hk2)
      clear hm2 hk2 HC
      go_wp2_with fail
      go_meet
      exact ⟨lv2, by rw [HN.out]; exact HM2, HK2⟩
    · have b10 : ((ch : Int) == 10) = false := by simp; omega
      have HN : Hid (mL1 st bol ch L = L) := Lib.hid (if_neg h10)
      clear h10
      go_wp2_with fail
      go_meet
      exact ⟨lv, by rw [HN.out]; exact HH, HK0⟩
  case rest =>
    clear HH HK0 HL
    obtain ⟨lv1, HM1, HK1⟩ := hcut
    have HL2 : Hid (mL2 st bol ch L = nspread st (ch == 10) false (enterM (nstep st ch (mL1 st bol ch L)) 0)) := Lib.hid rfl
    generalize mL2 st bol ch L = R2 at *
    generalize mL1 st bol ch L = Q at *
    obtain ⟨_, y1, y2, _, _, y5⟩ := HM1.out.cells
    cases hd : ndone st Q with
    | true =>
      rw [hd] at HM1 HMF y5
      have HX := Lib.hid (HMF.out _ wc ⟨rfl, fun _ => ⟨lv1, HM1.out, HK1.out⟩, fun h => by cases h⟩)
      clear hd HMF HM1 HK1 HL2 y1 y2
      go_wp2_with fail
      go_end0
      exact HX.out
    | false =>
      rw [hd] at HM1 HMF y5
      have HX : Hid (∀ w' lv', MK w0 w' B g gm st A c lv' (ch == 10) (cnt + 1) (ndone st R2) R2 R2 → MKept w w' g gm lv lv' → MFeed w lv w0 B g gm st A c bol cnt ch L (.returned (.tuple #[])) w') := Lib.hid (fun w' lv' h1 h2 => HMF.out _ w' ⟨rfl, (fun h => by cases h), fun _ => ⟨lv', h1, h2⟩⟩)
      clear hd HMF
      obtain ⟨Al, cl, rfl, _, _, _⟩ := HM1.out.own.shape
      have f2 := HM1.out.frz 2
      have hw1 := HM1.out.list (L' := []) (Own.nil_ _ _ _ _) (World.grownBy.refl wc _)
      have hk1 : MKept wc (wc.setCell ⟨g, 2, none⟩ (.slice none 0 0)) g gm (.slice Al Q.length cl) (.slice none 0 0) := MKept.drop
      generalize hw1e : wc.setCell ⟨g, 2, none⟩ (.slice none 0 0) = w1 at *
      obtain ⟨_, g1, _⟩ := hw1.cells
      have hsz := HSZ.out
      have hcl : ∀ ty, (Builtin.clear_ #[68] ty #[.slice (some ⟨gm, 0, none⟩) st.length st.length]).run Try.prog w1 = .ok (.tuple #[]) _ :=
        fun ty => Lib.run_clear_slice w1 _ _ ty _ Try.underlying68 Try.zeroValue4 rfl rfl gm 0 st.length st.length (by have := (svalid_ok HV.out).1; omega)
          (fun t ht => by rw [Nat.zero_add, cell_of_row w1 gm t _ _ _ hw1.mks, List.getElem?_toArray, mkm_get _ _ _ ht]; rfl) (fun t ht => frozen_of_row w1 gm _ _ _ hw1.mks)
      have HGA : Hid (∀ j, j < wc.heap.size → j ≠ g → j ≠ gm → (w1.setCells gm 0 (List.replicate st.length (.bool false))).heap[j]? = wc.heap[j]?) := Lib.hid (fun j hj j1 j2 => by
        rw [(mgrown_setCells gm _ 0 w1).block j (by rw [← hw1e]; simpa using hj) (by intro e; injection e with e; exact j2 e), ← hw1e]
        exact heap_setCell_other wc ⟨g, 2, none⟩ j _ j1)
      have HW2 := Lib.hid hw1.clear
      have HK2 := Lib.hid (hk1.trans (MKept.clear w1 g gm st.length (.slice none 0 0)))
      clear hk1 hw1
      go_upto_region 8 with fail
      generalize w1.setCells gm 0 (List.replicate st.length (.bool false)) = w2 at *
      clear hcl g1 y1 y2 y5 f2 hw1e hsz
      have HLQ := HSL
      go_wp2_with fail
      go_loopw [38] (fun s38 wr => MFRel wc w2 w0 B g gm st A c (.slice Al Q.length cl) bol (cnt + 1) ch Q s38 wr) (fun s38 _ => Q.length - (intOf s38).toNat)
      case atStart => exact ⟨0, [], _, rfl, Nat.zero_le _, HW2, HK2, Lib.hid (MKept.refl _ _ _ _), Lib.hid (Spots.nil _), Lib.hid rfl⟩
      case round =>
        obtain ⟨k, L1, lv1, rfl, hk, HW, HKW, HKR, HS, HE⟩ := hrel
        have hLl := HLQ.out.len
        obtain ⟨e0, _⟩ := HW.out.cells
        have hsz := HSZ.out
        by_cases hkl : k < Q.length
        · obtain ⟨ga, ca, hvv, hBa, hla, _, _⟩ := HM1.out.own.form (by omega)
          injection hvv with hA _ hc
          subst hA
          subst hc
          have ec := (HM1.out.own.cellAt (spm_get Q k hkl)).1
          have eg : wr.heap[ga]? = wc.heap[ga]? := by
            have n1 : ga ≠ g := fun e => by have := HM1.out.lg; omega
            have n2 : ga ≠ gm := fun e => by have := HM1.out.lm; omega
            rw [HKR.out.far ga (Nat.lt_of_lt_of_le hla HK2.out.size) n1 n2 (by simp [Value.ownBlock]), HGA.out ga hla n1 n2]
          have es : wr.cell? ⟨ga, k, none⟩ = some (.int .i64 (Q.getD k 0 : Nat)) := by rw [World.cell?_of_block (a := ⟨ga, k, none⟩) eg]; exact ec
          have hsl : Q.getD k 0 < st.length := HLQ.out.2 _ (by rw [List.getD_eq_getElem?_getD, List.getElem?_eq_getElem hkl]; exact List.getElem_mem hkl)
          have hun : (Q.take (k + 1)).foldl (fun acc s => nover st ch s acc) [] = nover st ch (Q.getD k 0) L1 := by
            rw [List.take_add_one, List.getElem?_eq_getElem hkl, List.foldl_append, HE.out, List.getD_eq_getElem?_getD, List.getElem?_eq_getElem hkl]
            rfl
          have HU := Lib.hid hun
          clear hun ec eg
          have i1 : (0 : Int) ≤ (k : Int) := by omega
          have i2 : (k : Int) < (Q.length : Int) := by omega
          generalize Q.getD k 0 = s at *
          have hok := (svalid_ok HV.out).2.2 s hsl
          have hx : st[s]? = some (nd st s) := by unfold nd; rw [List.getD_eq_getElem?_getD, List.getElem?_eq_getElem hsl]; rfl
          obtain ⟨b, off, rfl, _, hcl⟩ := (HW.out.nodes.up HW.out.old).at_ (by rw [ndsV_length]; omega)
          have hg := ndsV_get st s _ hx
          have c0 := hcl _ _ (hg 0 (by omega))
          have c1 := hcl _ _ (hg 1 (by omega))
          have c2 := hcl _ _ (hg 2 (by omega))
          have c3 := hcl _ _ (hg 3 (by omega))
          have c4 := hcl _ _ (hg 4 (by omega))
          have c5 := hcl _ _ (hg 5 (by omega))
          have c6 := hcl _ _ (hg 6 (by omega))
          rw [← Nat.add_assoc] at c0 c1 c2 c3 c4 c5 c6
          rw [Nat.add_zero] at c0
          have s1 : (0 : Int) ≤ (s : Int) := by omega
          have s2 : (s : Int) < (st.length : Int) := by omega
          have HVd : Hid (nover st ch s L1 = if (nd st s).kind = 1 ∧ hasB (nd st s).set ch = true then enterM L1 (nd st s).left.toNat else L1) := Lib.hid rfl
          clear hx hcl hg hsl
          generalize nd st s = y at *
          obtain ⟨kd, lf, rt, se⟩ := y
          replace c0 : wr.cell? ⟨b, off + s * 7, none⟩ = some (.int .i64 kd) := c0
          replace c1 : wr.cell? ⟨b, off + s * 7 + 1, none⟩ = some (.int .i64 lf) := c1
          replace c2 : wr.cell? ⟨b, off + s * 7 + 2, none⟩ = some (.int .i64 rt) := c2
          replace c3 : wr.cell? ⟨b, off + s * 7 + 3, none⟩ = some (.int .u64 (setW se 0)) := c3
          replace c4 : wr.cell? ⟨b, off + s * 7 + 4, none⟩ = some (.int .u64 (setW se 1)) := c4
          replace c5 : wr.cell? ⟨b, off + s * 7 + 5, none⟩ = some (.int .u64 (setW se 2)) := c5
          replace c6 : wr.cell? ⟨b, off + s * 7 + 6, none⟩ = some (.int .u64 (setW se 3)) := c6
          go_upto_region 12 with fail
          have hk7 : StAt (wr.alloc (.cells (ndCells ⟨kd, lf, rt, se⟩).toArray 42)) wr.heap.size ⟨kd, lf, rt, se⟩ := heap_alloc_new wr _
          have hoW : Old wr (wr.alloc (.cells (ndCells ⟨kd, lf, rt, se⟩).toArray 42)) := (Old.refl wr).alloc _
          have hWe : wr.alloc (.cells #[.int .i64 kd, .int .i64 lf, .int .i64 rt, .int .u64 (setW se 0), .int .u64 (setW se 1), .int .u64 (setW se 2), .int .u64 (setW se 3)] 42) = wr.alloc (.cells (ndCells ⟨kd, lf, rt, se⟩).toArray 42) := rfl
          rw [hWe]
          have HWA := Lib.hid (HW.out.up hoW)
          have HKWA := Lib.hid (HKW.out.trans (MKept.of_old hoW g gm lv1))
          have HKRA := Lib.hid (HKR.out.trans (MKept.of_old hoW g gm lv1))
          generalize wr.alloc (.cells (ndCells ⟨kd, lf, rt, se⟩).toArray 42) = V0 at *
          generalize wr.heap.size = k7 at *
          clear c0 c1 c2 c3 c4 c5 c6 e0 es hWe hoW HW HKW HKR s1 s2
          obtain ⟨d0, d1, _, d3, d4, d5, d6⟩ := hk7.cells
          simp only at d0 d1 d3 d4 d5 d6
          clear hk7
          obtain ⟨o1, o2, o3, o4⟩ := hok
          simp only at o1 o2 o3 o4 HVd
          by_cases hkd : kd = 1
          · subst hkd
            obtain ⟨a, rfl⟩ := Int.eq_ofNat_of_zero_le (o3 (by decide)).1
            have ha : a < st.length := by have := (o3 (by decide)).2; omega
            have HAL := Lib.hid ha
            have HEN := Lib.hid (menterD w0 B g gm st _ c lv1 bol (cnt + 1) L1 V0 HWA.out (by omega) HS.out a ha)
            clear ha o1 o2 o3 o4
            have q0 := setW_lt se 0
            have q1 := setW_lt se 1
            have q2 := setW_lt se 2
            have q3 := setW_lt se 3
            have hq : (ch : Int) / 64 = 0 ∨ (ch : Int) / 64 = 1 ∨ (ch : Int) / 64 = 2 ∨ (ch : Int) / 64 = 3 := by omega
            have HWH := Lib.hid (fun i hi => word_has3 se i ch HCH.out hi)
            cases hbb : hasB se ch with
            | false =>
              have HVV : Hid (nover st ch s L1 = L1) := Lib.hid (by rw [HVd.out, if_neg (fun h => by rw [hbb] at h; cases h.2)])
              have HBB := Lib.hid hbb
              clear HVd hbb HEN
              rcases hq with hq | hq | hq | hq
              · have hwb := HWH.out 0 (by omega)
                rw [HBB.out] at hwb
                go_wp2_with fail
                go_roundw
                case rel => exact ⟨k + 1, L1, lv1, rfl, by omega, HWA, HKWA, HKRA, HS, Lib.hid (HU.out.trans HVV.out)⟩
                case measure => simp [intOf]; omega
              · have hwb := HWH.out 1 (by omega)
                rw [HBB.out] at hwb
                go_wp2_with fail
                go_roundw
                case rel => exact ⟨k + 1, L1, lv1, rfl, by omega, HWA, HKWA, HKRA, HS, Lib.hid (HU.out.trans HVV.out)⟩
                case measure => simp [intOf]; omega
              · have hwb := HWH.out 2 (by omega)
                rw [HBB.out] at hwb
                go_wp2_with fail
                go_roundw
                case rel => exact ⟨k + 1, L1, lv1, rfl, by omega, HWA, HKWA, HKRA, HS, Lib.hid (HU.out.trans HVV.out)⟩
                case measure => simp [intOf]; omega
              · have hwb := HWH.out 3 (by omega)
                rw [HBB.out] at hwb
                go_wp2_with fail
                go_roundw
                case rel => exact ⟨k + 1, L1, lv1, rfl, by omega, HWA, HKWA, HKRA, HS, Lib.hid (HU.out.trans HVV.out)⟩
                case measure => simp [intOf]; omega
            | true =>
              have HVV : Hid (nover st ch s L1 = enterM L1 a) := Lib.hid (by rw [HVd.out, if_pos ⟨rfl, hbb⟩]; rfl)
              have HBB := Lib.hid hbb
              clear HVd hbb
              rcases hq with hq | hq | hq | hq
              · have hwb := HWH.out 0 (by omega)
                rw [HBB.out] at hwb
                go_wp2_with fail
                refine (HEN.out).mono ?_; rintro e V ⟨rfl, lv', hw, hk'⟩
                have HV3 := Lib.hid hw
                have HKV := Lib.hid (HKWA.out.trans hk')
                have HKQ := Lib.hid (HKRA.out.trans hk')
                clear hw hk'
                go_wp2_with fail
                go_roundw
                case rel => exact ⟨k + 1, _, lv', rfl, by omega, HV3, HKV, HKQ, Lib.hid (HS.out.enter HAL.out), Lib.hid (HU.out.trans HVV.out)⟩
                case measure => simp [intOf]; omega
              · have hwb := HWH.out 1 (by omega)
                rw [HBB.out] at hwb
                go_wp2_with fail
                refine (HEN.out).mono ?_; rintro e V ⟨rfl, lv', hw, hk'⟩
                have HV3 := Lib.hid hw
                have HKV := Lib.hid (HKWA.out.trans hk')
                have HKQ := Lib.hid (HKRA.out.trans hk')
                clear hw hk'
                go_wp2_with fail
                go_roundw
                case rel => exact ⟨k + 1, _, lv', rfl, by omega, HV3, HKV, HKQ, Lib.hid (HS.out.enter HAL.out), Lib.hid (HU.out.trans HVV.out)⟩
                case measure => simp [intOf]; omega
              · have hwb := HWH.out 2 (by omega)
                rw [HBB.out] at hwb
                go_wp2_with fail
                refine (HEN.out).mono ?_; rintro e V ⟨rfl, lv', hw, hk'⟩
                have HV3 := Lib.hid hw
                have HKV := Lib.hid (HKWA.out.trans hk')
                have HKQ := Lib.hid (HKRA.out.trans hk')
                clear hw hk'
                go_wp2_with fail
                go_roundw
                case rel => exact ⟨k + 1, _, lv', rfl, by omega, HV3, HKV, HKQ, Lib.hid (HS.out.enter HAL.out), Lib.hid (HU.out.trans HVV.out)⟩
                case measure => simp [intOf]; omega
              · have hwb := HWH.out 3 (by omega)
                rw [HBB.out] at hwb
                go_wp2_with fail
                refine (HEN.out).mono ?_; rintro e V ⟨rfl, lv', hw, hk'⟩
                have HV3 := Lib.hid hw
                have HKV := Lib.hid (HKWA.out.trans hk')
                have HKQ := Lib.hid (HKRA.out.trans hk')
                clear hw hk'
                go_wp2_with fail
                go_roundw
                case rel => exact ⟨k + 1, _, lv', rfl, by omega, HV3, HKV, HKQ, Lib.hid (HS.out.enter HAL.out), Lib.hid (HU.out.trans HVV.out)⟩
                case measure => simp [intOf]; omega
          · have hb1 : (kd == 1) = false := by simpa using hkd
            have HVV : Hid (nover st ch s L1 = L1) := Lib.hid (by rw [HVd.out, if_neg (fun h => hkd h.1)])
            clear HVd hkd o1 o2 o3 o4
            go_wp2_with fail
            go_roundw
            case rel => exact ⟨k + 1, L1, lv1, rfl, by omega, HWA, HKWA, HKRA, HS, Lib.hid (HU.out.trans HVV.out)⟩
            case measure => simp [intOf]; omega
        · obtain rfl : k = Q.length := by omega
          have HN : Hid (nstep st ch Q = L1) := Lib.hid (by have := HE.out; rw [List.take_length] at this; exact this)
          obtain ⟨_, _, _, e3, _, _⟩ := HW.out.cells
          have z3 := HW.out.frz 3
          have HB := Lib.hid (HW.out.bol_ (ch == 10))
          have HKB := Lib.hid (HK1.out.trans (HKW.out.trans (MKept.fld wr g gm 3 lv1 (.bool (ch == 10)))))
          have hEQ := HEQ.out
          clear HE HKR HW2 HK2 HGA HM1 HK1 HKW hkl
          rw [HN.out] at HL2
          go_upto_region 16 with fail
          rw [hEQ]
          have HC := Lib.hid (mbeginC w0 B g gm st A c lv1 (ch == 10) (cnt + 1) L1 _ HB.out HV.out HS.out)
          rw [← HL2.out] at HC
          clear hEQ e3 z3 HB HN HL2 hsz
          go_wp2_with fail
          refine (HC.out).mono ?_; rintro e w5 ⟨rfl, lv5, hm5, hk5⟩
          have HY := Lib.hid (HX.out w5 lv5 hm5 (HKB.out.trans hk5))
          clear hm5 hk5 HC HX HKB
          go_wp2_with fail
          go_end0
          exact HY.out
end Go.Proofs.Ythadkjgadhbidaa
/-
  What Play returns, on plain lists: the chunk and the number of bytes. No program in sight.
-/
namespace Go.Proofs.Ythadkjgadhbidaa
open Go.RowKit
set_option linter.unusedVariables false

/-- The chunk that holds byte p. -/
def chunkIdx : List (List Nat) → Nat → Nat
  | [], _ => 0
  | c :: cs, p => if p < c.length then 0 else 1 + chunkIdx cs (p - c.length)
/-- The bytes ahead of chunk j. -/
def baseC (cs : List (List Nat)) (j : Nat) : Nat := (cs.take j).flatten.length
theorem baseC_succ (cs : List (List Nat)) (j : Nat) (hj : j < cs.length) : baseC cs (j + 1) = baseC cs j + (cs.getD j []).length := by
  unfold baseC
  rw [List.take_add_one, List.getElem?_eq_getElem hj, List.flatten_append, List.length_append, List.getD_eq_getElem?_getD, List.getElem?_eq_getElem hj]
  simp
theorem baseC_all (cs : List (List Nat)) : baseC cs cs.length = cs.flatten.length := by unfold baseC; rw [List.take_length]
theorem flat_get : ∀ (cs : List (List Nat)) (j k : Nat), j < cs.length → k < (cs.getD j []).length → cs.flatten.getD (baseC cs j + k) 0 = (cs.getD j []).getD k 0 ∧ chunkIdx cs (baseC cs j + k) = j ∧ baseC cs j + k < cs.flatten.length
  | [], j, k, h, _ => by simp at h
  | c :: cs, 0, k, _, hk => by
    have hk' : k < c.length := hk
    have e : baseC (c :: cs) 0 = 0 := rfl
    rw [e, Nat.zero_add, chunkIdx, if_pos hk', List.flatten_cons]
    refine ⟨?_, rfl, by simp; omega⟩
    rw [List.getD_eq_getElem?_getD, List.getElem?_append_left hk', List.getD_eq_getElem?_getD]
    rfl
  | c :: cs, j + 1, k, hj, hk => by
    have hj' : j < cs.length := by simpa using hj
    have hk' : k < (cs.getD j []).length := by simpa using hk
    obtain ⟨h1, h2, h3⟩ := flat_get cs j k hj' hk'
    have e : baseC (c :: cs) (j + 1) = c.length + baseC cs j := by simp [baseC]
    rw [e, List.flatten_cons]
    refine ⟨?_, ?_, by rw [List.length_append]; omega⟩
    · rw [List.getD_eq_getElem?_getD, List.getElem?_append_right (by omega), show c.length + baseC cs j + k - c.length = baseC cs j + k by omega, ← List.getD_eq_getElem?_getD, h1]
      simp
    · rw [chunkIdx, if_neg (by omega), show c.length + baseC cs j + k - c.length = baseC cs j + k by omega, h2]
      omega
/-- Play's chunk and number, out of the least number of bytes. -/
def playM (R : Int) (cs : List (List Nat)) : Int × Int := if R = 0 then (-1, 0) else if R < 0 then ((cs.length : Int), -1) else ((chunkIdx cs (R - 1).toNat : Int), R)
def mA1 (st : List Nd) (bol : Bool) (ch : Nat) (L : List Nat) : List Nat := if ch = 10 then nspread st bol true L else L
def mA2 (st : List Nd) (bol : Bool) (ch : Nat) (L : List Nat) : List Nat := nspread st (ch == 10) false (enterM (nstep st ch (mA1 st bol ch L)) 0)
/-- The run, on from the marks at a place. -/
def nrunA (st : List Nd) (t : List Nat) (f i : Nat) (L1 : List Nat) : Int :=
  if ndone st L1 = true then i
  else if i = t.length then -1
  else if t.getD i 0 = 10 then
    if ndone st (nspread st (bolT t i) true L1) = true then (i : Int) + 1 else nrunF st t f (i + 1) (nstep st (t.getD i 0) (nspread st (bolT t i) true L1))
  else nrunF st t f (i + 1) (nstep st (t.getD i 0) L1)
theorem nrunF_A (st : List Nd) (t : List Nat) (f i : Nat) (L : List Nat) : nrunF st t (f + 1) i L = nrunA st t f i (nspread st (bolT t i) false (enterM L 0)) := rfl
theorem bolT_next (t : List Nat) (i : Nat) : bolT t (i + 1) = (t.getD i 0 == 10) := by unfold bolT; simp
/-- One byte more. -/
theorem feed_step {st : List Nd} {t : List Nat} {f i : Nat} {L : List Nat} {R : Int} (hd : ndone st L = false) (hi : i < t.length) (hU : nrunA st t (f + 1) i L = R) :
    (ndone st (mA1 st (bolT t i) (t.getD i 0) L) = true → R = (i : Int) + 1) ∧
    (ndone st (mA1 st (bolT t i) (t.getD i 0) L) = false → nrunA st t f (i + 1) (mA2 st (bolT t i) (t.getD i 0) L) = R ∧ (ndone st (mA2 st (bolT t i) (t.getD i 0) L) = true → R = (i : Int) + 1)) := by
  unfold nrunA at hU
  rw [if_neg (by rw [hd]; simp), if_neg (by omega)] at hU
  have key : ndone st (mA1 st (bolT t i) (t.getD i 0) L) = false → nrunF st t (f + 1) (i + 1) (nstep st (t.getD i 0) (mA1 st (bolT t i) (t.getD i 0) L)) = R := by
    intro h1
    unfold mA1 at h1 ⊢
    by_cases hc : t.getD i 0 = 10
    · rw [if_pos hc] at h1 hU ⊢
      rw [if_neg (by rw [h1]; simp)] at hU
      exact hU
    · rw [if_neg hc] at hU ⊢
      exact hU
  refine ⟨fun h1 => ?_, fun h1 => ?_⟩
  · unfold mA1 at h1
    by_cases hc : t.getD i 0 = 10
    · rw [if_pos hc] at h1 hU
      rw [if_pos h1] at hU
      exact hU.symm
    · rw [if_neg hc] at h1
      rw [h1] at hd
      cases hd
  · have k := key h1
    rw [nrunF_A, bolT_next] at k
    have k2 : nrunA st t f (i + 1) (mA2 st (bolT t i) (t.getD i 0) L) = R := k
    refine ⟨k2, fun h2 => ?_⟩
    unfold nrunA at k2
    rw [if_pos h2] at k2
    omega
theorem end_step {st : List Nd} {t : List Nat} {f : Nat} {L : List Nat} {R : Int} (hd : ndone st L = false) (hU : nrunA st t f t.length L = R) : R = -1 := by
  unfold nrunA at hU
  rw [if_neg (by rw [hd]; simp), if_pos rfl] at hU
  exact hU.symm
end Go.Proofs.Ythadkjgadhbidaa
/-
  The program's reader of patterns: what its functions leave, and the walk of group.
-/
namespace Go.Proofs.Ythadkjgadhbidaa
open Go.RowKit
set_option linter.unusedVariables false

theorem shiftNd_shiftNd (n m : Int) (x : Nd) : shiftNd n (shiftNd m x) = shiftNd (n + m) x := by
  unfold shiftNd shiftN
  simp only
  congr 1
  · split <;> omega
  · split <;> omega
theorem shift_leaf (k : Int) (z : BSet) (n : Int) (hk : kidsN k = 0) : (leafN k z).map (shiftNd n) = [⟨k, 0, 0, z⟩] := by
  unfold leafN shiftNd shiftN
  simp [hk]
theorem shift_join1 (k : Int) (l : List Nd) (n : Nat) (hk : kidsN k = 1) : (joinN k l []).map (shiftNd n) = l.map (shiftNd n) ++ [⟨k, (n : Int) + l.length - 1, 0, 0⟩] := by
  unfold joinN
  simp [shiftNd, shiftN, hk]
  omega
theorem shift_join2 (k : Int) (l r : List Nd) (n : Nat) (hk : kidsN k = 2) (hr : 0 < r.length) : (joinN k l r).map (shiftNd n) = l.map (shiftNd n) ++ r.map (shiftNd ((n + l.length : Nat) : Int)) ++ [⟨k, (n : Int) + l.length - 1, (n : Int) + l.length + r.length - 1, 0⟩] := by
  unfold joinN
  rw [List.map_append, List.map_append, List.map_map]
  have e : (shiftNd (n : Int) ∘ shiftNd (l.length : Int)) = shiftNd ((n + l.length : Nat) : Int) := by
    funext x
    simp only [Function.comp]
    rw [shiftNd_shiftNd]
    congr 1
  rw [e]
  congr 1
  simp only [List.map_cons, List.map_nil, shiftNd, shiftN, hk]
  rw [if_pos (by decide), if_pos (by decide), if_pos hr]
  congr 2 <;> omega
/-- Where the last of the nodes lies. -/
def plc (N l : List Nd) : Int := (N.length : Int) + l.length - 1
structure GPost (w0 : World) (B g : Nat) (s : ByteArray) (d : Nat) (N : List Nd) (R : List Nd × Ps) (e : Ending) (w' : World) : Prop where
  ok : R.2.e = 0 → e = .returned (.tuple #[.int .i64 (plc N R.1), .int .i64 0]) ∧ ∃ lv', RP w0 w' B g s R.2.at_ d lv' (N ++ R.1.map (shiftNd (N.length : Int)))
  no : R.2.e ≠ 0 → ∃ v, e = .returned (.tuple #[.int .i64 v, .int .i64 R.2.e]) ∧ Old w0 w'
/-- Room for what is still to come. -/
def Room (s : ByteArray) (a : Nat) (N : List Nd) : Prop := N.length + 4 * (s.size + 1 - a) ≤ 100000
theorem Room.len {s : ByteArray} {a : Nat} {N : List Nd} (h : Room s a N) : N.length ≤ 100000 := by unfold Room at h; omega
def PatG (f : Nat) : Prop := ∀ (w0 : World) (B g : Nat) (s : ByteArray) (a d : Nat) (lv : Value) (N : List Nd) (w : World) (R : List Nd × Ps), RP w0 w B g s a d lv N → s.size ≤ 10000 → a ≤ s.size → d ≤ 24 → Room s a N → altP (bs s) f ⟨a, d, 0⟩ = some R →
  Calls Try.prog 78 #[.pointer (some ⟨g, 0, none⟩)] w (GPost w0 B g s d N R)
def AltG (f : Nat) : Prop := ∀ (w0 : World) (B g : Nat) (s : ByteArray) (a d : Nat) (lv : Value) (N : List Nd) (w : World) (R : List Nd × Ps), RP w0 w B g s a d lv N → s.size ≤ 10000 → a ≤ s.size → d ≤ 24 → Room s a N → catP (bs s) f ⟨a, d, 0⟩ = some R →
  Calls Try.prog 87 #[.pointer (some ⟨g, 0, none⟩)] w (GPost w0 B g s d N R)
def PartG (f : Nat) : Prop := ∀ (w0 : World) (B g : Nat) (s : ByteArray) (a d : Nat) (lv : Value) (N : List Nd) (w : World) (R : List Nd × Ps), RP w0 w B g s a d lv N → s.size ≤ 10000 → a < s.size → d ≤ 24 → Room s a N → partP (bs s) f ⟨a, d, 0⟩ = some R →
  Calls Try.prog 90 #[.pointer (some ⟨g, 0, none⟩)] w (GPost w0 B g s d N R)
def AtomG (f : Nat) : Prop := ∀ (w0 : World) (B g : Nat) (s : ByteArray) (a d : Nat) (lv : Value) (N : List Nd) (w : World) (R : List Nd × Ps), RP w0 w B g s a d lv N → s.size ≤ 10000 → a < s.size → d ≤ 24 → Room s a N → atomP (bs s) f ⟨a, d, 0⟩ = some R →
  Calls Try.prog 95 #[.pointer (some ⟨g, 0, none⟩)] w (GPost w0 B g s d N R)
/-- What the reference does in parentheses. -/
def grpR (B : List Nat) (f : Nat) (a d : Nat) : Option (List Nd × Ps) :=
  if 24 < d + 1 then some ([], ⟨a + 1, d + 1, 84⟩)
  else match altP B f ⟨a + 1, d + 1, 0⟩ with
    | none => none
    | some (l, r) => some (l, { (if r.e = 0 ∧ B.length ≤ r.at_ then failP r 83 else r) with at_ := (if r.e = 0 ∧ B.length ≤ r.at_ then failP r 83 else r).at_ + 1, deep := (if r.e = 0 ∧ B.length ≤ r.at_ then failP r 83 else r).deep - 1 })
set_option maxHeartbeats 8000000 in
set_option maxRecDepth 100000 in
theorem groupG (f : Nat) (hP : PatG f) (w0 : World) (B g : Nat) (s : ByteArray) (a d : Nat) (lv : Value) (N : List Nd) (w : World) (R : List Nd × Ps) (h : RP w0 w B g s a d lv N) (hs : s.size ≤ 10000) (ha : a < s.size) (hd : d ≤ 24) (hN : Room s a N) (hR : grpR (bs s) f a d = some R) :
    Calls Try.prog 99 #[.pointer (some ⟨g, 0, none⟩)] w (GPost w0 B g s d N R) := by
  have HP := Lib.hid h
  unfold grpR at hR
  by_cases h24 : d = 24
  · have HE : Hid (R = ([], ⟨a + 1, d + 1, 84⟩)) := Lib.hid (by rw [if_pos (by omega)] at hR; exact (Option.some.inj hR).symm)
    subst h24
    have HO := Lib.hid h.old
    clear h hR
    obtain ⟨c0, c1, c2, c3, f1, f2, f3⟩ := HP.out.cells
    clear c3 f3
    go_enter Try.func99, Try.ntmps99
    go_wp2_with fail
    go_ret2
    rw [HE.out]
    exact ⟨fun e => absurd e (by simp), fun _ => ⟨_, rfl, HO.out⟩⟩
  rw [if_neg (by omega)] at hR
  cases hq : altP (bs s) f ⟨a + 1, d + 1, 0⟩ with
  | none => rw [hq] at hR; cases hR
  | some lr =>
  rw [hq] at hR
  obtain ⟨l, r⟩ := lr
  obtain ⟨a1, d1, e1⟩ := r
  have HR : Hid (R = (l, { (if e1 = 0 ∧ (bs s).length ≤ a1 then failP ⟨a1, d1, e1⟩ 83 else ⟨a1, d1, e1⟩ : Ps) with at_ := (if e1 = 0 ∧ (bs s).length ≤ a1 then failP ⟨a1, d1, e1⟩ 83 else ⟨a1, d1, e1⟩ : Ps).at_ + 1, deep := (if e1 = 0 ∧ (bs s).length ≤ a1 then failP ⟨a1, d1, e1⟩ 83 else ⟨a1, d1, e1⟩ : Ps).deep - 1 })) := Lib.hid (Option.some.inj hR).symm
  have hG : Good (bs s).length ⟨a + 1, d + 1, 0⟩ l ⟨a1, d1, e1⟩ 0 := (parse_good (bs s) f).1 ⟨a + 1, d + 1, 0⟩ (l, ⟨a1, d1, e1⟩) ⟨rfl, by rw [bs_length]; show a + 1 ≤ _; omega, by show d + 1 ≤ 24; omega⟩ hq
  rw [bs_length] at hG HR
  have HG := Lib.hid hG
  have n24 : ((d : Int) == 24) = false := by simp; omega
  have i0 : (0 : Int) ≤ (d : Int) := by omega
  have i1 : (d : Int) < 24 := by omega
  have i2 : (0 : Int) ≤ (a : Int) := by omega
  have i3 : (a : Int) < 10000 := by omega
  have HP2 : Hid (RP w0 ((w.setCell ⟨g, 2, none⟩ (.int .i64 ((d : Int) + 1))).setCell ⟨g, 1, none⟩ (.int .i64 ((a : Int) + 1))) B g s (a + 1) (d + 1) lv N) := Lib.hid (by
    have := (h.open_ (d + 1)).at_ (a + 1)
    rw [show ((d + 1 : Nat) : Int) = (d : Int) + 1 by omega, show ((a + 1 : Nat) : Int) = (a : Int) + 1 by omega] at this
    exact this)
  have HP1 : Hid (RP w0 (w.setCell ⟨g, 2, none⟩ (.int .i64 ((d : Int) + 1))) B g s a (d + 1) lv N) := Lib.hid (by
    have := h.open_ (d + 1)
    rw [show ((d + 1 : Nat) : Int) = (d : Int) + 1 by omega] at this
    exact this)
  have hN2 : Room s (a + 1) N := by unfold Room at hN ⊢; omega
  clear h hR hG h24 hN
  obtain ⟨c0, c1, c2, c3, f1, f2, f3⟩ := HP.out.cells
  clear c3 f3
  go_enter Try.func99, Try.ntmps99
  go_upto_region 4 with fail
  clear c0 c1 c2 f1 f2 n24
  generalize w.setCell ⟨g, 2, none⟩ (.int .i64 ((d : Int) + 1)) = W1 at *
  clear HP
  have HP := Lib.hid HP1.out
  clear HP1
  obtain ⟨c0, c1, c2, c3, f1, f2, f3⟩ := HP.out.cells
  clear c3 f3
  go_upto_region 5 with fail
  clear c0 c1 c2 f1 f2
  generalize W1.setCell ⟨g, 1, none⟩ (.int .i64 ((a : Int) + 1)) = W2 at *
  clear HP
  have HC := Lib.hid (hP w0 B g s (a + 1) (d + 1) lv N W2 (l, ⟨a1, d1, e1⟩) HP2.out hs (by omega) (by omega) hN2 hq)
  clear hq HP2
  by_cases he : e1 = 0
  · subst he
    have HC2 := Lib.hid (HC.out.mono fun e w' h => h.ok rfl)
    obtain ⟨g1, g2, g3, g4, g5⟩ := HG.out.ok rfl
    simp only at g1 g2 g3
    subst g1
    clear HC
    go_wp2_with fail
    refine (HC2.out).mono ?_; rintro e W3 ⟨rfl, lv3, hr⟩
    have HP3 := Lib.hid hr
    have hen := endedC w0 B g s a1 (d + 1) lv3 _ W3 hr (by omega)
    clear hr HC2
    by_cases hend : a1 = s.size
    · have HE : Hid (R.2.e = 83) := Lib.hid (by rw [HR.out]; simp [show s.size ≤ a1 by omega, failP])
      rw [decide_eq_true hend] at hen
      have HEN := Lib.hid hen
      clear hen hend HR
      go_wp2_with fail
      refine (HEN.out).mono ?_; rintro e W4 ⟨rfl, n4, rfl⟩
      go_wp2_with fail
      go_ret2
      exact ⟨fun e => absurd (HE.out.symm.trans e) (by decide), fun _ => ⟨0, by rw [HE.out]; rfl, HP3.out.old.drewN n4⟩⟩
    · have HE : Hid (R = (l, ⟨a1 + 1, d, 0⟩)) := Lib.hid (by rw [HR.out]; simp [show ¬ s.size ≤ a1 by omega])
      rw [decide_eq_false hend] at hen
      have HEN := Lib.hid hen
      have i4 : (0 : Int) ≤ (a1 : Int) := by omega
      have i5 : (a1 : Int) < 10000 := by omega
      clear hen hend HR
      go_wp2_with fail
      refine (HEN.out).mono ?_; rintro e W4 ⟨rfl, n4, rfl⟩
      have HP4 := Lib.hid (HP3.out.drewN n4)
      generalize W3.drewN n4 = W4 at *
      clear HP3 HEN
      have HP5 : Hid (RP w0 (W4.setCell ⟨g, 1, none⟩ (.int .i64 ((a1 : Int) + 1))) B g s (a1 + 1) (d + 1) lv3 (N ++ l.map (shiftNd (N.length : Int)))) := Lib.hid (by
        have := HP4.out.at_ (a1 + 1)
        rw [show ((a1 + 1 : Nat) : Int) = (a1 : Int) + 1 by omega] at this
        exact this)
      have HP := Lib.hid HP4.out
      obtain ⟨c0, c1, c2, c3, f1, f2, f3⟩ := HP.out.cells
      clear c3 f3
      go_upto_region 11 with fail
      clear c0 c1 c2 f1 f2 HP HP4
      generalize W4.setCell ⟨g, 1, none⟩ (.int .i64 ((a1 : Int) + 1)) = W5 at *
      have HP := Lib.hid HP5.out
      have HP6 := Lib.hid (HP5.out.open_ d)
      obtain ⟨c0, c1, c2, c3, f1, f2, f3⟩ := HP.out.cells
      clear c3 f3
      have c2' : W5.cell? ⟨g, 2, none⟩ = some (.int .i64 ((d : Int) + 1)) := by rw [c2]; congr 2
      clear c2 HP HP5
      have dd : (d : Int) + 1 - 1 = (d : Int) := by omega
      go_wp2_with fail
      go_ret2
      rw [HE.out]
      exact ⟨fun _ => ⟨rfl, lv3, HP6.out⟩, fun e => absurd rfl e⟩
  · have HC2 := Lib.hid (HC.out.mono fun e w' h => h.no he)
    have hne : (e1 != 0) = true := by simpa using he
    have HE : Hid (R.2.e = e1) := Lib.hid (by rw [HR.out]; simp [he])
    clear HC HR
    go_wp2_with fail
    refine (HC2.out).mono ?_; rintro e W3 ⟨v, rfl, ho⟩
    go_wp2_with fail
    go_ret2
    exact ⟨fun e => absurd (HE.out.symm.trans e) he, fun _ => ⟨0, by rw [HE.out]; rfl, ho⟩⟩
end Go.Proofs.Ythadkjgadhbidaa
/-
  The least text that an automaton accepts, found by layers of spots; no program in sight.
-/
namespace Go.Proofs.Ythadkjgadhbidaa
open Go.RowKit
set_option linter.unusedVariables false

/-- A state, whether its place is the beginning of a line, whether it must be the end of one. -/
structure Sp where
  s : Nat
  b : Bool
  e : Bool
  deriving DecidableEq
/-- How a spot was reached. -/
structure Og where
  from_ : Sp
  root : Bool
  over : Bool
  c : Nat
def outS (st : List Nd) (s : Nat) : Nat := (nd st s).left.toNat
def othS (st : List Nd) (s : Nat) : Nat := (nd st s).right.toNat
/-- A step without a byte; over a byte. -/
def SE (st : List Nd) (p q : Sp) : Prop :=
  ((nd st p.s).kind = 2 ∧ (q = ⟨outS st p.s, p.b, p.e⟩ ∨ q = ⟨othS st p.s, p.b, p.e⟩)) ∨ ((nd st p.s).kind = 3 ∧ p.b = true ∧ q = ⟨outS st p.s, p.b, p.e⟩) ∨ ((nd st p.s).kind = 4 ∧ q = ⟨outS st p.s, p.b, true⟩)
def SB (st : List Nd) (p : Sp) (c : Nat) (q : Sp) : Prop :=
  (nd st p.s).kind = 1 ∧ hasB (nd st p.s).set c = true ∧ c < 256 ∧ ((c = 10 ∧ q = ⟨outS st p.s, true, false⟩) ∨ (c ≠ 10 ∧ p.e = false ∧ q = ⟨outS st p.s, false, false⟩))
def sp0 : Sp := ⟨0, true, false⟩
/-- A text leads to a spot. -/
inductive SR (st : List Nd) : List Nat → Sp → Prop
  | start : SR st [] sp0
  | eps (t : List Nat) (p q : Sp) : SR st t p → SE st p q → SR st t q
  | byt (t : List Nat) (p q : Sp) (c : Nat) : SR st t p → SB st p c q → SR st (t ++ [c]) q
def SAcc (st : List Nd) (t : List Nat) : Prop :=
  (∃ p, SR st t p ∧ (nd st p.s).kind = 5 ∧ p.e = false) ∨ ∃ t' p, t = t' ++ [10] ∧ SR st t' p ∧ (nd st p.s).kind = 5 ∧ p.e = true
/-- The answer: a shortest accepted text, or none is accepted. -/
def SMin (st : List Nd) : Option (List Nat) → Prop
  | some a => SAcc st a ∧ (∀ t, SAcc st t → a.length ≤ t.length)
  | none => ∀ t, ¬ SAcc st t

theorem bolT_app (t u : List Nat) : bolT (t ++ u) t.length = bolT t t.length := by
  unfold bolT
  rcases Nat.eq_zero_or_pos t.length with h | h
  · rw [h]; rfl
  · have e : (t ++ u).getD (t.length - 1) 0 = t.getD (t.length - 1) 0 := by
      rw [List.getD_eq_getElem?_getD, List.getElem?_append_left (by omega), ← List.getD_eq_getElem?_getD]
    rw [e]
theorem bolT_snoc (t : List Nat) (c : Nat) : bolT (t ++ [c]) (t ++ [c]).length = (c == 10) := by
  have e : (t ++ [c]).length = t.length + 1 := by simp
  rw [e, bolT_next]
  have : (t ++ [c]).getD t.length 0 = c := by
    rw [List.getD_eq_getElem?_getD, List.getElem?_append_right (by omega)]
    simp
  rw [this]
theorem eolT_head (t u : List Nat) (h : u.head? = some 10) : eolT (t ++ u) t.length = true := by
  cases u with
  | nil => simp at h
  | cons x u =>
    simp at h
    subst h
    unfold eolT
    have e : (t ++ 10 :: u).getD t.length 0 = 10 := by
      rw [List.getD_eq_getElem?_getD, List.getElem?_append_right (by omega)]
      simp
    rw [e, decide_eq_true (by simp)]
    rfl
theorem SR.bytes {st : List Nd} {t : List Nat} {p : Sp} (h : SR st t p) : ∀ x ∈ t, x < 256 := by
  induction h with
  | start => intro x hx; simp at hx
  | eps t p q _ _ ih => exact ih
  | byt t p q c _ hb ih =>
    intro x hx
    rcases List.mem_append.mp hx with hx | hx
    · exact ih x hx
    · simp at hx; subst hx; exact hb.2.2.1
theorem SAcc.bytes {st : List Nd} {t : List Nat} (h : SAcc st t) : ∀ x ∈ t, x < 256 := by
  rcases h with ⟨p, h, _⟩ | ⟨t', p, rfl, h, _⟩
  · exact h.bytes
  · intro x hx
    rcases List.mem_append.mp hx with hx | hx
    · exact h.bytes x hx
    · simp at hx; omega
section
variable {st : List Nd} (hv : svalid st = true)
include hv
theorem SR.lt {t : List Nat} {p : Sp} (h : SR st t p) : p.s < st.length := by
  obtain ⟨h1, _, hok⟩ := svalid_ok hv
  have key : ∀ p q : Sp, p.s < st.length → SE st p q → q.s < st.length := by
    intro p q hp he
    obtain ⟨k1, k2, k3, k4⟩ := hok p.s hp
    rcases he with ⟨a, rfl | rfl⟩ | ⟨a, _, rfl⟩ | ⟨a, rfl⟩
    · have := k3 (by omega); show outS st p.s < _; unfold outS; omega
    · have := k4 a; show othS st p.s < _; unfold othS; omega
    · have := k3 (by omega); show outS st p.s < _; unfold outS; omega
    · have := k3 (by omega); show outS st p.s < _; unfold outS; omega
  induction h with
  | start => exact h1
  | eps t p q _ he ih => exact key p q ih he
  | byt t p q c _ hb ih =>
    obtain ⟨k1, k2, k3, k4⟩ := hok p.s ih
    have hq : q.s = outS st p.s := by rcases hb.2.2.2 with ⟨_, rfl⟩ | ⟨_, _, rfl⟩ <;> rfl
    have := k3 (by rw [hb.1]; decide)
    rw [hq]; unfold outS; omega
theorem SR.way {t : List Nat} {p : Sp} (h : SR st t p) : p.b = bolT t t.length ∧ ∀ u : List Nat, (p.e = true → u.head? = some 10) → GWay (nfaG st) (t ++ u) p.s t.length := by
  obtain ⟨_, _, hok⟩ := svalid_ok hv
  have hlt := fun {t p} (h : SR st t p) => SR.lt hv h
  induction h with
  | start => exact ⟨rfl, fun u _ => .start 0 (Nat.zero_le _)⟩
  | eps t p q hp he ih =>
    obtain ⟨ih1, ih2⟩ := ih
    obtain ⟨k1, k2, k3, k4⟩ := hok p.s (hlt hp)
    rcases he with ⟨a, rfl | rfl⟩ | ⟨a, hb, rfl⟩ | ⟨a, rfl⟩
    · refine ⟨ih1, fun u hu => .eps _ _ _ (ih2 u hu) (Or.inl ⟨a, Or.inl ?_⟩)⟩
      have := k3 (by omega); show ((outS st p.s : Nat) : Int) = _; unfold outS; omega
    · refine ⟨ih1, fun u hu => .eps _ _ _ (ih2 u hu) (Or.inl ⟨a, Or.inr ?_⟩)⟩
      have := k4 a; show ((othS st p.s : Nat) : Int) = _; unfold othS; omega
    · refine ⟨ih1, fun u hu => .eps _ _ _ (ih2 u hu) (Or.inr (Or.inl ⟨a, ?_, ?_⟩))⟩
      · rw [bolT_app, ← ih1]; exact hb
      · have := k3 (by omega); show ((outS st p.s : Nat) : Int) = _; unfold outS; omega
    · refine ⟨ih1, fun u hu => .eps _ _ _ (ih2 u (fun _ => hu rfl)) (Or.inr (Or.inr ⟨a, eolT_head _ _ (hu rfl), ?_⟩))⟩
      have := k3 (by omega); show ((outS st p.s : Nat) : Int) = _; unfold outS; omega
  | byt t p q c hp hb ih =>
    obtain ⟨ih1, ih2⟩ := ih
    obtain ⟨k1, k2, k3, k4⟩ := hok p.s (hlt hp)
    obtain ⟨a, hc, _, hq⟩ := hb
    have hout : ((outS st p.s : Nat) : Int) = (nd st p.s).left := by have := k3 (by omega); unfold outS; omega
    have hget : ∀ u : List Nat, (t ++ c :: u).getD t.length 0 = c := fun u => by
      rw [List.getD_eq_getElem?_getD, List.getElem?_append_right (by omega)]
      simp
    have hstep : ∀ u : List Nat, (p.e = true → c = 10) → GWay (nfaG st) (t ++ [c] ++ u) (outS st p.s) (t ++ [c]).length := by
      intro u he
      have h1 := ih2 (c :: u) (fun h => by rw [he h]; rfl)
      have h2 := GWay.byte p.s (outS st p.s) t.length h1 (by simp) (by rw [hget]; exact ⟨a, hc, hout⟩)
      rw [List.append_assoc]
      simpa using h2
    rcases hq with ⟨rfl, rfl⟩ | ⟨hne, hpe, rfl⟩
    · exact ⟨by rw [bolT_snoc]; rfl, fun u _ => hstep u (fun _ => rfl)⟩
    · refine ⟨?_, fun u _ => hstep u (fun h => by rw [hpe] at h; cases h)⟩
      rw [bolT_snoc]
      show false = (c == 10)
      simpa using hne
/-- What is found is accepted. -/
theorem SAcc.acc {t : List Nat} (h : SAcc st t) : GAcc (nfaG st) t t.length := by
  rcases h with ⟨p, h, hk, he⟩ | ⟨t', p, rfl, h, hk, he⟩
  · refine ⟨p.s, t.length, ?_, hk⟩
    have := (h.way hv).2 [] (fun h => by rw [he] at h; cases h)
    rw [List.append_nil] at this
    rwa [List.take_length]
  · refine ⟨p.s, t'.length, ?_, hk⟩
    have := (h.way hv).2 [10] (fun _ => rfl)
    rwa [List.take_length]
omit hv in
/-- What is reached in a text is reached from the text's beginning, by no more bytes. -/
theorem way_sr {t : List Nat} {s k : Nat} (h : GWay (nfaG st) t s k) (h8 : ∀ x ∈ t, x < 256) : ∃ t' p, SR st t' p ∧ p.s = s ∧ t'.length ≤ k ∧ (bolT t k = true → p.b = true) ∧ (p.e = true → eolT t k = true) := by
  induction h with
  | start i hi => exact ⟨[], sp0, .start, rfl, Nat.zero_le _, fun _ => rfl, fun h => by cases h⟩
  | eps s s' i hw he ih =>
    obtain ⟨t', p, h1, rfl, h3, h4, h5⟩ := ih
    rcases he with ⟨a, hl | hr⟩ | ⟨a, hb, hl⟩ | ⟨a, hb, hl⟩
    · exact ⟨t', ⟨outS st p.s, p.b, p.e⟩, .eps _ _ _ h1 (Or.inl ⟨a, Or.inl rfl⟩), by show outS st p.s = s'; unfold outS; omega, h3, h4, h5⟩
    · exact ⟨t', ⟨othS st p.s, p.b, p.e⟩, .eps _ _ _ h1 (Or.inl ⟨a, Or.inr rfl⟩), by show othS st p.s = s'; unfold othS; omega, h3, h4, h5⟩
    · exact ⟨t', ⟨outS st p.s, p.b, p.e⟩, .eps _ _ _ h1 (Or.inr (Or.inl ⟨a, h4 hb, rfl⟩)), by show outS st p.s = s'; unfold outS; omega, h3, h4, h5⟩
    · exact ⟨t', ⟨outS st p.s, p.b, true⟩, .eps _ _ _ h1 (Or.inr (Or.inr ⟨a, rfl⟩)), by show outS st p.s = s'; unfold outS; omega, h3, h4, fun _ => hb⟩
  | byte s s' i hw hi hb ih =>
    obtain ⟨t', p, h1, rfl, h3, h4, h5⟩ := ih
    obtain ⟨a, hc, hl⟩ := hb
    have hc8 : t.getD i 0 < 256 := by rw [List.getD_eq_getElem?_getD, List.getElem?_eq_getElem hi]; exact h8 _ (List.getElem_mem hi)
    by_cases h10 : t.getD i 0 = 10
    · refine ⟨t' ++ [10], ⟨outS st p.s, true, false⟩, .byt _ _ _ _ h1 ⟨a, by rw [← h10]; exact hc, by omega, Or.inl ⟨rfl, rfl⟩⟩, by show outS st p.s = s'; unfold outS; omega, by rw [List.length_append, List.length_singleton]; omega, fun _ => rfl, fun h => by cases h⟩
    · have he : p.e = false := by
        cases hp : p.e with
        | false => rfl
        | true =>
          have := h5 hp
          unfold eolT at this
          rw [Bool.and_eq_true, beq_iff_eq] at this
          exact absurd this.2 h10
      refine ⟨t' ++ [t.getD i 0], ⟨outS st p.s, false, false⟩, .byt _ _ _ _ h1 ⟨a, hc, hc8, Or.inr ⟨h10, he, rfl⟩⟩, by show outS st p.s = s'; unfold outS; omega, by rw [List.length_append, List.length_singleton]; omega, fun h => ?_, fun h => by cases h⟩
      rw [bolT_next, beq_iff_eq] at h
      exact absurd h h10
omit hv in
theorem acc_sacc {t : List Nat} {n : Nat} (hn : n ≤ t.length) (h8 : ∀ x ∈ t, x < 256) (h : GAcc (nfaG st) t n) : ∃ t', SAcc st t' ∧ t'.length ≤ n := by
  obtain ⟨s, k, hw, hf⟩ := h
  have hk := hw.len
  rw [List.length_take] at hk
  obtain ⟨t', p, h1, h2, h3, _, h5⟩ := way_sr hw (fun x hx => h8 x (List.mem_of_mem_take hx))
  have hf' : (nd st p.s).kind = 5 := by rw [h2]; exact hf
  cases he : p.e with
  | false => exact ⟨t', Or.inl ⟨p, h1, hf', he⟩, by omega⟩
  | true =>
    have := h5 he
    unfold eolT at this
    rw [Bool.and_eq_true, decide_eq_true_iff, List.length_take] at this
    exact ⟨t' ++ [10], Or.inr ⟨t', p, rfl, h1, hf', he⟩, by rw [List.length_append, List.length_singleton]; omega⟩
/-- The sample is accepted as a whole. -/
theorem smin_run {a : List Nat} (h : SMin st (some a)) : nrunM st a = a.length := by
  refine GLeast.one (nrun_least hv a) (Or.inl ⟨a.length, Nat.le_refl _, rfl, SAcc.acc hv h.1, fun m hm ha => ?_⟩)
  obtain ⟨t', h1, h2⟩ := acc_sacc (by omega) h.1.bytes ha
  have := h.2 t' h1
  omega
end
theorem smin_same {st : List Nd} {r r' : Option (List Nat)} (h : SMin st r) (h' : SMin st r') : r.isSome = r'.isSome ∧ (r.getD []).length = (r'.getD []).length := by
  cases r with
  | none =>
    cases r' with
    | none => exact ⟨rfl, rfl⟩
    | some a => exact absurd h'.1 (h a)
  | some a =>
    cases r' with
    | none => exact absurd h.1 (h' a)
    | some b =>
      have h1 := h.2 b h'.1
      have h2 := h'.2 a h.1
      exact ⟨rfl, Nat.le_antisymm h1 h2⟩
end Go.Proofs.Ythadkjgadhbidaa
/-
  The runner of an automaton in memory (nfa); enter.
-/
namespace Go.Proofs.Ythadkjgadhbidaa
open Go.RowKit
set_option linter.unusedVariables false

def nrO (A : Option Addr) (n c gm : Nat) (lv : Value) (fd : Bool) : Obj := .cells #[.slice A n c, .slice (some ⟨gm, 0, none⟩) n n, lv, .bool fd] 70 (0, 0)
/-- The runner in memory: block g; its marks: block gm; M: the states that are marked, L: the list. -/
structure NK (w0 w : World) (B g gm : Nat) (st : List Nd) (A : Option Addr) (c : Nat) (lv : Value) (fd : Bool) (M L : List Nat) : Prop where
  old : Old w0 w
  nodes : Rs w0 A (ndsV st)
  blk : w.heap[g]? = some (nrO A st.length c gm lv fd)
  mks : w.heap[gm]? = some (.cells (mkm st.length M).toArray 4 (0, 0))
  own : Own w B 3 1 lv L.length (spm L)
  bg : w0.heap.size ≤ g
  bm : w0.heap.size ≤ gm
  lg : g < B
  lm : gm < B
  n2 : g ≠ gm
  lB : B ≤ w.heap.size
section
variable {w0 w w2 w' : World} {B g gm c : Nat} {st : List Nd} {A : Option Addr} {lv v' : Value} {fd : Bool} {M L L' : List Nat}
theorem NK.up (h : NK w0 w B g gm st A c lv fd M L) (ho : Old w w') : NK w0 w' B g gm st A c lv fd M L :=
  ⟨h.old.up ho, h.nodes, ho.block h.blk, ho.block h.mks, h.own.up ho, h.bg, h.bm, h.lg, h.lm, h.n2, Nat.le_trans h.lB ho.size⟩
theorem NK.mark (h : NK w0 w B g gm st A c lv fd M L) (s : Nat) : NK w0 (w.setCell ⟨gm, s, none⟩ (.bool true)) B g gm st A c lv fd (M ++ [s]) L := by
  refine ⟨h.old.setCell h.bm _, h.nodes, ?_, ?_, World.ownsRow.kept h.own (cell_gr w gm s _) (Or.inr (fun e => mown_far h.own h.lm e.symm)), h.bg, h.bm, h.lg, h.lm, h.n2, by simpa using h.lB⟩
  · rw [heap_setCell_other w ⟨gm, s, none⟩ g _ h.n2]; exact h.blk
  · rw [heap_setCell_same w gm s _ _ _ h.mks, List.setIfInBounds_toArray, mkm_set]
theorem NK.list (h : NK w0 w B g gm st A c lv fd M L) (ho : Own w2 B 3 1 v' L'.length (spm L')) (hg : w.grownBy w2 lv.ownBlock) : NK w0 (w2.setCell ⟨g, 2, none⟩ v') B g gm st A c v' fd M L' := by
  have hw : w0.heap.size ≤ B := Nat.le_trans h.bg (Nat.le_of_lt h.lg)
  have b1 : w2.heap[g]? = _ := (hg.block g (lt_of_block h.blk) (mown_far h.own h.lg)).trans h.blk
  have b3 : w2.heap[gm]? = _ := (hg.block gm (lt_of_block h.mks) (mown_far h.own h.lm)).trans h.mks
  refine ⟨(Own.grown_old h.old h.own hw hg).setCell h.bg _, h.nodes, ?_, ?_, World.ownsRow.kept ho (cell_gr w2 g 2 _) (Or.inr (fun e => mown_far ho h.lg e.symm)), h.bg, h.bm, h.lg, h.lm, h.n2, by simpa using Nat.le_trans h.lB hg.size⟩
  · exact heap_setCell_same w2 g 2 _ _ _ b1
  · rw [heap_setCell_other w2 ⟨g, 2, none⟩ gm _ (Ne.symm h.n2)]; exact b3
theorem NK.field {i : Nat} {v : Value} {fd' : Bool} (h : NK w0 w B g gm st A c lv fd M L) (he : (w.setCell ⟨g, i, none⟩ v).heap[g]? = some (nrO A st.length c gm lv fd')) : NK w0 (w.setCell ⟨g, i, none⟩ v) B g gm st A c lv fd' M L := by
  refine ⟨h.old.setCell h.bg _, h.nodes, he, ?_, World.ownsRow.kept h.own (cell_gr w g i _) (Or.inr (fun e => mown_far h.own h.lg e.symm)), h.bg, h.bm, h.lg, h.lm, h.n2, by simpa using h.lB⟩
  rw [heap_setCell_other w ⟨g, i, none⟩ gm _ (Ne.symm h.n2)]; exact h.mks
theorem NK.found (h : NK w0 w B g gm st A c lv fd M L) (b : Bool) : NK w0 (w.setCell ⟨g, 3, none⟩ (.bool b)) B g gm st A c lv b M L := h.field (heap_setCell_same w g 3 _ _ _ h.blk)
theorem NK.cells (h : NK w0 w B g gm st A c lv fd M L) : w.cell? ⟨g, 0, none⟩ = some (.slice A st.length c) ∧ w.cell? ⟨g, 1, none⟩ = some (.slice (some ⟨gm, 0, none⟩) st.length st.length) ∧ w.cell? ⟨g, 2, none⟩ = some lv ∧ w.cell? ⟨g, 3, none⟩ = some (.bool fd) :=
  ⟨by rw [cell_of_row w g 0 _ _ _ h.blk]; rfl, by rw [cell_of_row w g 1 _ _ _ h.blk]; rfl, by rw [cell_of_row w g 2 _ _ _ h.blk]; rfl, by rw [cell_of_row w g 3 _ _ _ h.blk]; rfl⟩
theorem NK.frz (h : NK w0 w B g gm st A c lv fd M L) (i : Nat) : w.frozen? ⟨g, i, none⟩ = false := frozen_of_row w g i _ _ h.blk
theorem NK.mk_ (h : NK w0 w B g gm st A c lv fd M L) {s : Nat} (hs : s < st.length) : w.cell? ⟨gm, s, none⟩ = some (.bool (decide (s ∈ M))) ∧ w.frozen? ⟨gm, s, none⟩ = false :=
  ⟨by rw [cell_of_row w gm s _ _ _ h.mks, List.getElem?_toArray, mkm_get _ _ _ hs], frozen_of_row w gm s _ _ h.mks⟩
end
def NrPost (w : World) (lv : Value) (w0 : World) (B g gm : Nat) (st : List Nd) (A : Option Addr) (c : Nat) (fd : Bool) (L : List Nat) (e : Ending) (w' : World) : Prop :=
  e = .returned (.tuple #[]) ∧ ∃ lv', NK w0 w' B g gm st A c lv' fd L L ∧ MKept w w' g gm lv lv'
set_option maxHeartbeats 2000000 in
set_option maxRecDepth 100000 in
theorem nenterC (w0 : World) (B g gm : Nat) (st : List Nd) (A : Option Addr) (c : Nat) (lv : Value) (fd : Bool) (L : List Nat) (w : World) (h : NK w0 w B g gm st A c lv fd L L) (hl : st.length ≤ 1000) (hL : Spots st.length L) (s : Nat) (hs : s < st.length) :
    Calls Try.prog 35 #[.pointer (some ⟨g, 0, none⟩), .int .i64 (s : Int)] w (NrPost w lv w0 B g gm st A c (fdM st L s fd) (enterM L s)) := by
  obtain ⟨_, x1, _, _⟩ := h.cells
  obtain ⟨cm, fm⟩ := h.mk_ hs
  have i1 : (0 : Int) ≤ (s : Int) := by omega
  have i2 : (s : Int) < (st.length : Int) := by omega
  have HH := Lib.hid h
  have hLl := hL.len
  by_cases hm : s ∈ L
  · have e : enterM L s = L := by unfold enterM; rw [if_pos hm]
    have e2 : fdM st L s fd = fd := if_pos hm
    rw [e, e2]
    rw [decide_eq_true hm] at cm
    clear e e2 h
    go_enter Try.func35, Try.ntmps35
    go_wp2_with fail
    go_end0
    exact ⟨rfl, lv, HH.out, MKept.refl _ _ _ _⟩
  · have e : enterM L s = L ++ [s] := by unfold enterM; rw [if_neg hm]
    have e2 : fdM st L s fd = (fd || decide ((nd st s).kind = 5)) := if_neg hm
    rw [e, e2]
    rw [decide_eq_false hm] at cm
    have h1 := h.mark s
    have HM := Lib.hid h1
    have HKM := Lib.hid (MKept.mark w g gm s lv (.bool true))
    obtain ⟨b, off, rfl, _, hcl⟩ := (h.nodes.up h.old).at_ (by rw [ndsV_length]; omega)
    generalize hw1 : w.setCell ⟨gm, s, none⟩ (.bool true) = w1 at *
    obtain ⟨_, _, x2, _⟩ := h1.cells
    have f3 := h1.frz 2
    have hlt := lt_of_block h1.blk
    have HB : Hid (B ≤ w1.heap.size) := Lib.hid h1.lB
    obtain ⟨Al, cl, rfl, _, _, _⟩ := h1.own.shape
    clear e e2 h h1 hcl
    go_enter Try.func35, Try.ntmps35
    go_upto_region 2 with fail
    go_wp2_with (at_builtin; refine wpList_pushS (wr := w1) rfl _ _ 22 rfl _ 3 (.int .i64 0) 1 8 Try.underlying22 info_i64v rfl (by decide) (by decide) _ _ _ rfl HM.out.own 1 1 [.int .i64 (s : Int)] rfl rfl rfl rfl ?pn1 HB.out (by decide) ?_)
    case pn1 => omega
    intro v' w2 ho hg hst
    have b2 : w2.heap[g]? = _ := (hg.block g hlt (mown_far HM.out.own HM.out.lg)).trans HM.out.blk
    have f4 : w2.frozen? ⟨g, 2, none⟩ = false := frozen_of_row w2 g 2 _ _ b2
    have c4 : w2.cell? ⟨g, 2, none⟩ = some (.slice Al L.length cl) := by rw [cell_of_row w2 g 2 _ _ _ b2]; rfl
    have hlt2 := lt_of_block b2
    obtain ⟨Av, cv, rfl, _, _, _⟩ := ho.shape
    have ho' : Own w2 B 3 1 (.slice Av (L.length + 1) cv) (L ++ [s]).length (spm (L ++ [s])) := by
      have e : spm (L ++ [s]) = spm L ++ [.int .i64 (s : Int)] := by unfold spm; rw [List.map_append]; rfl
      have e2 : (L ++ [s]).length = L.length + 1 := by simp
      rw [e, e2]
      exact ho
    have HF := Lib.hid (HM.out.list ho' hg)
    have HKF := Lib.hid (HKM.out.trans (MKept.list hg hst g gm))
    clear ho ho' hg hst b2 x1 x2 cm fm f3
    go_upto_region 3 with fail
    generalize w2.setCell ⟨g, 2, none⟩ (.slice Av (L.length + 1) cv) = w3 at *
    clear f4 c4 hlt hlt2
    obtain ⟨y0, _, _, y5⟩ := HF.out.cells
    have z5 := HF.out.frz 3
    have HG := Lib.hid (HF.out.found (fd || decide ((nd st s).kind = 5)))
    have HKG := Lib.hid (HKF.out.trans (MKept.fld w3 g gm 3 (.slice Av (L.length + 1) cv) (.bool (fd || decide ((nd st s).kind = 5)))))
    obtain ⟨b', off', he, _, hcl⟩ := (HF.out.nodes.up HF.out.old).at_ (by rw [ndsV_length]; omega)
    injection he with he
    injection he with he1 he2
    subst he1
    subst he2
    have hx : st[s]? = some (nd st s) := by unfold nd; rw [List.getD_eq_getElem?_getD, List.getElem?_eq_getElem hs]; rfl
    have k0 := hcl _ _ (ndsV_get st s _ hx 0 (by omega))
    rw [Nat.add_zero] at k0
    replace k0 : w3.cell? ⟨b, off + s * 7, none⟩ = some (.int .i64 (nd st s).kind) := k0
    clear hcl hx HF HKF HM HKM HB
    generalize (nd st s).kind = kd at *
    cases fd with
    | true =>
      go_wp2_with fail
      go_end0
      exact ⟨rfl, _, HG.out, HKG.out⟩
    | false =>
      have ek : (kd == 5) = decide (kd = 5) := by rw [Bool.eq_iff_iff, beq_iff_eq, decide_eq_true_iff]
      by_cases h5 : kd = 5
      · have b5 : (kd == 5) = true := by simpa using h5
        have HE : Hid ((false || decide (kd = 5)) = true) := Lib.hid (by simp [h5])
        rw [HE.out] at HG HKG ⊢
        clear ek h5
        go_wp2_with fail
        go_end0
        exact ⟨rfl, _, HG.out, HKG.out⟩
      · have b5 : (kd == 5) = false := by simpa using h5
        have HE : Hid ((false || decide (kd = 5)) = false) := Lib.hid (by simp [h5])
        rw [HE.out] at HG HKG ⊢
        clear ek h5
        go_wp2_with fail
        go_end0
        exact ⟨rfl, _, HG.out, HKG.out⟩
end Go.Proofs.Ythadkjgadhbidaa
/-
  The runner's spread (nfa).
-/
namespace Go.Proofs.Ythadkjgadhbidaa
open Go.RowKit
set_option linter.unusedVariables false

def NDone (w : World) (lv : Value) (w0 : World) (B g gm : Nat) (st : List Nd) (A : Option Addr) (c : Nat) (L : List Nat) (e : Ending) (w' : World) : Prop :=
  e = .returned (.tuple #[]) ∧ ∃ lv', NK w0 w' B g gm st A c lv'  (ndone st L) L L ∧ MKept w w' g gm lv lv'
theorem nenterD (w0 : World) (B g gm : Nat) (st : List Nd) (A : Option Addr) (c : Nat) (lv : Value) (L : List Nat) (w : World) (h : NK w0 w B g gm st A c lv  (ndone st L) L L) (hl : st.length ≤ 1000) (hL : Spots st.length L) (s : Nat) (hs : s < st.length) :
    Calls Try.prog 35 #[.pointer (some ⟨g, 0, none⟩), .int .i64 (s : Int)] w (NDone w lv w0 B g gm st A c  (enterM L s)) := by
  have := nenterC w0 B g gm st A c lv  (ndone st L) L w h hl hL s hs
  rw [fd_enter] at this
  exact this
def NSRel (w w0 : World) (B g gm : Nat) (st : List Nd) (A : Option Addr) (c : Nat) (lv : Value) (bol eol : Bool) (L : List Nat) (v : Value) (wr : World) : Prop :=
  ∃ (k : Nat) (L1 : List Nat) (lv1 : Value), v = .int .i64 k ∧ k ≤ st.length ∧ Hid (NK w0 wr B g gm st A c lv1  (ndone st L1) L1 L1) ∧ Hid (MKept w wr g gm lv lv1) ∧ Hid (Spots st.length L1) ∧ Hid (nspreadF st bol eol (st.length - k) k L1 = nspreadF st bol eol st.length 0 L)
set_option maxHeartbeats 8000000 in
set_option maxRecDepth 100000 in
theorem nspreadC (w0 : World) (B g gm : Nat) (st : List Nd) (A : Option Addr) (c : Nat) (lv : Value) (L : List Nat) (w : World) (h : NK w0 w B g gm st A c lv  (ndone st L) L L) (hv : svalid st = true) (hL : Spots st.length L) (bol eol : Bool) :
    Calls Try.prog 36 #[.pointer (some ⟨g, 0, none⟩), .bool bol, .bool eol] w (NDone w lv w0 B g gm st A c  (nspread st bol eol L)) := by
  unfold nspread
  have HH := Lib.hid h
  have HLL := Lib.hid hL
  have HV := Lib.hid hv
  have hsz := (svalid_ok hv).2.1
  have HSZ := Lib.hid hsz
  clear h hL hv hsz
  go_enter Try.func36, Try.ntmps36
  go_wp2_with fail
  go_loopw [6] (fun s4 wr => NSRel w w0 B g gm st A c lv bol eol L s4 wr) (fun s4 _ => st.length - (intOf s4).toNat)
  case atStart => exact ⟨0, L, lv, rfl, Nat.zero_le _, HH, Lib.hid (MKept.refl _ _ _ _), HLL, Lib.hid rfl⟩
  case round =>
    obtain ⟨k, L1, lv1, rfl, hk, HW, HKW, HS, HE⟩ := hrel
    have hlen := HS.out.len
    have hsz := HSZ.out
    obtain ⟨Al, cl, rfl, _, _, _⟩ := HW.out.own.shape
    obtain ⟨e0, _, e2, _⟩ := HW.out.cells
    by_cases hkl : k < L1.length
    · obtain ⟨ga, ca, hv, _, _, _, _⟩ := HW.out.own.form (by omega)
      injection hv with hA _ hc
      subst hA
      subst hc
      have es := (HW.out.own.cellAt (spm_get L1 k hkl)).1
      have i1 : (0 : Int) ≤ (k : Int) := by omega
      have i2 : (k : Int) < (L1.length : Int) := by omega
      have hsl : L1.getD k 0 < st.length := HS.out.2 _ (by rw [List.getD_eq_getElem?_getD, List.getElem?_eq_getElem hkl]; exact List.getElem_mem hkl)
      have hun : nspreadF st bol eol (st.length - k) k L1 = nspreadF st bol eol (st.length - (k + 1)) (k + 1) (nvisit st bol eol (L1.getD k 0) L1) := by
        obtain ⟨f, hf⟩ : ∃ f, st.length - k = f + 1 := ⟨st.length - k - 1, by omega⟩
        rw [hf, nspreadF, if_pos hkl, show st.length - (k + 1) = f by omega]
      have HU := Lib.hid (hun.symm.trans HE.out)
      clear HE hun
      generalize L1.getD k 0 = s at *
      have hok := (svalid_ok HV.out).2.2 s hsl
      have hx : st[s]? = some (nd st s) := by unfold nd; rw [List.getD_eq_getElem?_getD, List.getElem?_eq_getElem hsl]; rfl
      obtain ⟨b, off, rfl, _, hcl⟩ := (HW.out.nodes.up HW.out.old).at_ (by rw [ndsV_length]; omega)
      have hg := ndsV_get st s _ hx
      have c0 := hcl _ _ (hg 0 (by omega))
      have c1 := hcl _ _ (hg 1 (by omega))
      have c2 := hcl _ _ (hg 2 (by omega))
      have c3 := hcl _ _ (hg 3 (by omega))
      have c4 := hcl _ _ (hg 4 (by omega))
      have c5 := hcl _ _ (hg 5 (by omega))
      have c6 := hcl _ _ (hg 6 (by omega))
      rw [← Nat.add_assoc] at c0 c1 c2 c3 c4 c5 c6
      rw [Nat.add_zero] at c0
      have s1 : (0 : Int) ≤ (s : Int) := by omega
      have s2 : (s : Int) < (st.length : Int) := by omega
      have HVd : Hid (nvisit st bol eol s L1 = if (nd st s).kind = 2 then enterM (enterM L1 (nd st s).left.toNat) (nd st s).right.toNat
  else if ((nd st s).kind = 3 ∧ bol = true) ∨ ((nd st s).kind = 4 ∧ eol = true) then enterM L1 (nd st s).left.toNat else L1) := Lib.hid rfl
      have HSL := Lib.hid hsl
      clear hx hcl hg hsl
      generalize nd st s = y at *
      obtain ⟨kd, lf, rt, se⟩ := y
      replace c0 : wr.cell? ⟨b, off + s * 7, none⟩ = some (.int .i64 kd) := c0
      replace c1 : wr.cell? ⟨b, off + s * 7 + 1, none⟩ = some (.int .i64 lf) := c1
      replace c2 : wr.cell? ⟨b, off + s * 7 + 2, none⟩ = some (.int .i64 rt) := c2
      replace c3 : wr.cell? ⟨b, off + s * 7 + 3, none⟩ = some (.int .u64 (setW se 0)) := c3
      replace c4 : wr.cell? ⟨b, off + s * 7 + 4, none⟩ = some (.int .u64 (setW se 1)) := c4
      replace c5 : wr.cell? ⟨b, off + s * 7 + 5, none⟩ = some (.int .u64 (setW se 2)) := c5
      replace c6 : wr.cell? ⟨b, off + s * 7 + 6, none⟩ = some (.int .u64 (setW se 3)) := c6
      have n0 := World.new_ne wr _ e0
      have n1 := World.new_ne wr _ es
      have n2 := World.new_ne wr _ c0
      go_upto_region 3 with fail
      go_region_held3 (fun w' => w'.cell? ⟨g, 0, none⟩ = some (.slice (some ⟨b, off, none⟩) st.length c) ∧ w'.cell? ⟨g, 2, none⟩ = some (.slice (some ⟨ga, 0, none⟩) L1.length cl) ∧ w'.cell? ⟨ga, k, none⟩ = some (.int .i64 (s : Int)) ∧ w'.cell? ⟨b, off + s * 7, none⟩ = some (.int .i64 kd) ∧ w'.cell? ⟨b, off + s * 7 + 1, none⟩ = some (.int .i64 lf) ∧ w'.cell? ⟨b, off + s * 7 + 2, none⟩ = some (.int .i64 rt) ∧ w'.cell? ⟨b, off + s * 7 + 3, none⟩ = some (.int .u64 (setW se 0)) ∧ w'.cell? ⟨b, off + s * 7 + 4, none⟩ = some (.int .u64 (setW se 1)) ∧ w'.cell? ⟨b, off + s * 7 + 5, none⟩ = some (.int .u64 (setW se 2)) ∧ w'.cell? ⟨b, off + s * 7 + 6, none⟩ = some (.int .u64 (setW se 3))) (go_keep) (fail)
      have hk7 : StAt (wr.alloc (.cells (ndCells ⟨kd, lf, rt, se⟩).toArray 42)).drew wr.heap.size ⟨kd, lf, rt, se⟩ := heap_alloc_new wr _
      have hoW : Old wr (wr.alloc (.cells (ndCells ⟨kd, lf, rt, se⟩).toArray 42)).drew := ((Old.refl wr).alloc _).drew
      have hWe : (wr.alloc (.cells #[.int .i64 kd, .int .i64 lf, .int .i64 rt, .int .u64 (setW se 0), .int .u64 (setW se 1), .int .u64 (setW se 2), .int .u64 (setW se 3)] 42)).drew = (wr.alloc (.cells (ndCells ⟨kd, lf, rt, se⟩).toArray 42)).drew := rfl
      rw [hWe]
      have HWW := Lib.hid (HW.out.up hoW)
      have HKW2 := Lib.hid (HKW.out.trans (MKept.of_old hoW g gm (.slice (some ⟨ga, 0, none⟩) L1.length cl)))
      have HFR : Hid (wr.heap.size ≠ g ∧ wr.heap.size ≠ gm ∧ some wr.heap.size ≠ (Value.slice (some ⟨ga, 0, none⟩) L1.length cl).ownBlock) := Lib.hid ⟨by have := lt_of_block HW.out.blk; omega, by have := lt_of_block HW.out.mks; omega, fun e => by have := (World.ownsRow.lt HW.out.own _ e.symm).2; omega⟩
      generalize (wr.alloc (.cells (ndCells ⟨kd, lf, rt, se⟩).toArray 42)).drew = W at *
      generalize wr.heap.size = k7 at *
      clear c0 c1 c2 c3 c4 c5 c6 e0 e2 es n0 n1 n2 hWe hoW HW HKW s1 s2
      have HK7 := Lib.hid hk7
      obtain ⟨d0, d1, d2, _⟩ := hk7.cells
      simp only at d0 d1 d2
      clear hk7
      obtain ⟨o1, o2, o3, o4⟩ := hok
      simp only at o1 o2 o3 o4 HVd
      have hkc : kd = 1 ∨ kd = 2 ∨ kd = 3 ∨ kd = 4 ∨ kd = 5 := by omega
      rcases hkc with rfl | rfl | rfl | rfl | rfl
      · have HN : Hid (nvisit st bol eol s L1 = L1) := Lib.hid (by rw [HVd.out]; simp)
        go_wp2_with fail
        go_roundw
        case rel => exact ⟨k + 1, _, _, rfl, by omega, HWW, HKW2, HS, Lib.hid (by rw [← HN.out]; exact HU.out)⟩
        case measure => simp [intOf]; omega
      · obtain ⟨a, rfl⟩ := Int.eq_ofNat_of_zero_le (o3 (by decide)).1
        obtain ⟨e, rfl⟩ := Int.eq_ofNat_of_zero_le (o4 rfl).1
        have ha : a < st.length := by have := (o3 (by decide)).2; omega
        have he : e < st.length := by have := (o4 rfl).2; omega
        have HN : Hid (nvisit st bol eol s L1 = enterM (enterM L1 a) e) := Lib.hid (by rw [HVd.out]; simp)
        have HC := Lib.hid (nenterD w0 B g gm st _ c _  L1 W HWW.out (by omega) HS.out a ha)
        have HAL := Lib.hid ha
        have HEL := Lib.hid he
        clear HVd ha he o3 o4
        go_wp2_with fail
        refine (HC.out).mono ?_; rintro e w2 ⟨rfl, lv2, hm2, hk2⟩
        obtain ⟨hb2, hf2⟩ := hk2.block HK7.out HFR.out.1 HFR.out.2.1 HFR.out.2.2
        have hs2 := HS.out.enter HAL.out
        have HC2 := Lib.hid (nenterD w0 B g gm st _ c lv2  (enterM L1 a) w2 hm2 (by omega) hs2 e HEL.out)
        have HK2 := Lib.hid (HKW2.out.trans hk2)
        have HS2 := Lib.hid hs2
        obtain ⟨_, _, d2, _⟩ := (show StAt w2 k7 _ from hb2).cells
        simp only at d2
        clear hm2 hk2 hb2 hf2 hs2 HC
        go_wp2_with fail
        refine (HC2.out).mono ?_; rintro e w3 ⟨rfl, lv3, hm3, hk3⟩
        have HM3 := Lib.hid hm3
        have HK3 := Lib.hid (HK2.out.trans hk3)
        have HS3 := Lib.hid (HS2.out.enter HEL.out)
        clear hm3 hk3 HC2
        go_wp2_with fail
        go_roundw
        case rel => exact ⟨k + 1, _, lv3, rfl, by omega, HM3, HK3, HS3, Lib.hid (by rw [← HN.out]; exact HU.out)⟩
        case measure => simp [intOf]; omega
      · obtain ⟨a, rfl⟩ := Int.eq_ofNat_of_zero_le (o3 (by decide)).1
        have ha : a < st.length := by have := (o3 (by decide)).2; omega
        have HAL := Lib.hid ha
        cases bol with
        | false =>
          have HN : Hid (nvisit st false eol s L1 = L1) := Lib.hid (by rw [HVd.out]; simp)
          clear HVd ha o3 o4
          go_wp2_with fail
          go_roundw
          case rel => exact ⟨k + 1, _, _, rfl, by omega, HWW, HKW2, HS, Lib.hid (by rw [← HN.out]; exact HU.out)⟩
          case measure => simp [intOf]; omega
        | true =>
          have HN : Hid (nvisit st true eol s L1 = enterM L1 a) := Lib.hid (by rw [HVd.out]; simp)
          have HC := Lib.hid (nenterD w0 B g gm st _ c _ L1 W HWW.out (by omega) HS.out a ha)
          clear HVd ha o3 o4
          go_wp2_with fail
          refine (HC.out).mono ?_; rintro e w2 ⟨rfl, lv2, hm2, hk2⟩
          have HM2 := Lib.hid hm2
          have HK2 := Lib.hid (HKW2.out.trans hk2)
          have HS2 := Lib.hid (HS.out.enter HAL.out)
          clear hm2 hk2 HC
          go_wp2_with fail
          go_roundw
          case rel => exact ⟨k + 1, _, lv2, rfl, by omega, HM2, HK2, HS2, Lib.hid (by rw [← HN.out]; exact HU.out)⟩
          case measure => simp [intOf]; omega
      · obtain ⟨a, rfl⟩ := Int.eq_ofNat_of_zero_le (o3 (by decide)).1
        have ha : a < st.length := by have := (o3 (by decide)).2; omega
        have HAL := Lib.hid ha
        cases eol with
        | false =>
          have HN : Hid (nvisit st bol false s L1 = L1) := Lib.hid (by rw [HVd.out]; simp)
          clear HVd ha o3 o4
          go_wp2_with fail
          go_roundw
          case rel => exact ⟨k + 1, _, _, rfl, by omega, HWW, HKW2, HS, Lib.hid (by rw [← HN.out]; exact HU.out)⟩
          case measure => simp [intOf]; omega
        | true =>
          have HN : Hid (nvisit st bol true s L1 = enterM L1 a) := Lib.hid (by rw [HVd.out]; simp)
          have HC := Lib.hid (nenterD w0 B g gm st _ c _ L1 W HWW.out (by omega) HS.out a ha)
          clear HVd ha o3 o4
          go_wp2_with fail
          refine (HC.out).mono ?_; rintro e w2 ⟨rfl, lv2, hm2, hk2⟩
          have HM2 := Lib.hid hm2
          have HK2 := Lib.hid (HKW2.out.trans hk2)
          have HS2 := Lib.hid (HS.out.enter HAL.out)
          clear hm2 hk2 HC
          go_wp2_with fail
          go_roundw
          case rel => exact ⟨k + 1, _, lv2, rfl, by omega, HM2, HK2, HS2, Lib.hid (by rw [← HN.out]; exact HU.out)⟩
          case measure => simp [intOf]; omega
      · have HN : Hid (nvisit st bol eol s L1 = L1) := Lib.hid (by rw [HVd.out]; simp)
        go_wp2_with fail
        go_roundw
        case rel => exact ⟨k + 1, _, _, rfl, by omega, HWW, HKW2, HS, Lib.hid (by rw [← HN.out]; exact HU.out)⟩
        case measure => simp [intOf]; omega
    · have HR : Hid (nspreadF st bol eol st.length 0 L = L1) := Lib.hid (by rw [← HE.out]; exact nspreadF_end _ _ _ _ _ _ (by omega))
      go_wp2_with fail
      go_end0
      rw [HR.out]
      exact ⟨rfl, _, HW.out, HKW.out⟩
end Go.Proofs.Ythadkjgadhbidaa
/-
  The runner's step; Run (nfa).
-/
namespace Go.Proofs.Ythadkjgadhbidaa
open Go.RowKit
set_option linter.unusedVariables false

set_option maxRecDepth 100000 in
theorem nhasC (s : BSet) (b : Nat) (hb : b < 256) (w : World) : Calls Try.prog 62 #[setA s, .int .u8 b] w (ValOld (.bool (hasB s b)) w) := by
  have hi0 : (0 : Int) ≤ b := by omega
  have hi1 : (b : Int) < 256 := by omega
  have h0 := setW_lt s 0
  have h1 := setW_lt s 1
  have h2 := setW_lt s 2
  have h3 := setW_lt s 3
  have HH := Lib.hid (fun i hi => word_has3 s i b hb hi)
  unfold setA
  have hq : (b : Int) / 64 = 0 ∨ (b : Int) / 64 = 1 ∨ (b : Int) / 64 = 2 ∨ (b : Int) / 64 = 3 := by omega
  rcases hq with hq | hq | hq | hq
  all_goals
    go_enter Try.func62, Try.ntmps62
    go_wp2_with fail
    go_ret
    exact ⟨ret_bool' (HH.out _ (by omega)), (Old.refl w).alloc _⟩
theorem NK.clear {w0 w : World} {B g gm c : Nat} {st : List Nd} {A : Option Addr} {lv : Value} {fd : Bool} {M L : List Nat} (h : NK w0 w B g gm st A c lv fd M L) : NK w0 (w.setCells gm 0 (List.replicate st.length (.bool false))) B g gm st A c lv fd [] L := by
  have hgr := mgrown_setCells gm (List.replicate st.length (.bool false)) 0 w
  have hb : Old w0 (w.setCells gm 0 (List.replicate st.length (.bool false))) := Below.grown h.old hgr h.old.size (by intro k hk; injection hk with hk; subst hk; exact h.bm)
  have hz : List.replicate st.length (Value.bool false) = mkm st.length [] := by
    apply List.ext_getElem?
    intro i
    by_cases hi : i < st.length
    · rw [mkm_get _ _ _ hi, List.getElem?_replicate, if_pos hi]; simp
    · rw [List.getElem?_eq_none (by simp; omega), List.getElem?_eq_none (by simp [mkm_length]; omega)]
  refine ⟨hb, h.nodes, ?_, ?_, World.ownsRow.kept h.own hgr (Or.inr (fun e => mown_far h.own h.lm e.symm)), h.bg, h.bm, h.lg, h.lm, h.n2, Nat.le_trans h.lB hgr.size⟩
  · exact (hgr.block g (lt_of_block h.blk) (by intro e; injection e with e; exact h.n2 e)).trans h.blk
  · have := mheap_setCells (t := 4) (List.replicate st.length (.bool false)) w [] (mkm st.length M) h.mks (by simp [mkm_length])
    rw [List.nil_append, hz] at this
    rw [hz]
    exact this
def NFRel (w w2 w0 : World) (B g gm : Nat) (st : List Nd) (A : Option Addr) (c : Nat) (lv : Value) (ch : Nat) (L : List Nat) (v : Value) (wr : World) : Prop :=
  ∃ (k : Nat) (L1 : List Nat) (lv1 : Value), v = .int .i64 k ∧ k ≤ L.length ∧ Hid (NK w0 wr B g gm st A c lv1 (ndone st L1) L1 L1) ∧ Hid (MKept w wr g gm lv lv1) ∧ Hid (MKept w2 wr g gm (.slice none 0 0) lv1) ∧ Hid (Spots st.length L1) ∧ Hid ((L.take k).foldl (fun acc s => nover st ch s acc) [] = L1)
set_option maxHeartbeats 8000000 in
set_option maxRecDepth 100000 in
theorem nrstepC (w0 : World) (B g gm : Nat) (st : List Nd) (A : Option Addr) (c : Nat) (lv : Value) (Q : List Nat) (w : World) (h : NK w0 w B g gm st A c lv false Q Q) (hv : svalid st = true) (hL : Spots st.length Q) (ch : Nat) (hch : ch < 256) :
    Calls Try.prog 37 #[.pointer (some ⟨g, 0, none⟩), .int .u8 ch] w (NDone w lv w0 B g gm st A c (nstep st ch Q)) := by
  have HV := Lib.hid hv
  have HLQ := Lib.hid hL
  have HCH := Lib.hid hch
  have HSZ := Lib.hid (svalid_ok hv).2.1
  have HM1 := Lib.hid h
  clear h hv hL hch
  obtain ⟨_, y1, y2, y3⟩ := HM1.out.cells
  obtain ⟨Al, cl, rfl, _, _, _⟩ := HM1.out.own.shape
  have f2 := HM1.out.frz 2
  have hw1 := HM1.out.list (L' := []) (Own.nil_ _ _ _ _) (World.grownBy.refl w _)
  have hk1 : MKept w (w.setCell ⟨g, 2, none⟩ (.slice none 0 0)) g gm (.slice Al Q.length cl) (.slice none 0 0) := MKept.drop
  generalize hw1e : w.setCell ⟨g, 2, none⟩ (.slice none 0 0) = w1 at *
  obtain ⟨_, g1, _⟩ := hw1.cells
  have hsz := HSZ.out
  have hcl : ∀ ty, (Builtin.clear_ #[68] ty #[.slice (some ⟨gm, 0, none⟩) st.length st.length]).run Try.prog w1 = .ok (.tuple #[]) _ :=
    fun ty => Lib.run_clear_slice w1 _ _ ty _ Try.underlying68 Try.zeroValue4 rfl rfl gm 0 st.length st.length (by have := (svalid_ok HV.out).1; omega)
      (fun t ht => by rw [Nat.zero_add, cell_of_row w1 gm t _ _ _ hw1.mks, List.getElem?_toArray, mkm_get _ _ _ ht]; rfl) (fun t ht => frozen_of_row w1 gm _ _ _ hw1.mks)
  have HGA : Hid (∀ j, j < w.heap.size → j ≠ g → j ≠ gm → (w1.setCells gm 0 (List.replicate st.length (.bool false))).heap[j]? = w.heap[j]?) := Lib.hid (fun j hj j1 j2 => by
    rw [(mgrown_setCells gm _ 0 w1).block j (by rw [← hw1e]; simpa using hj) (by intro e; injection e with e; exact j2 e), ← hw1e]
    exact heap_setCell_other w ⟨g, 2, none⟩ j _ j1)
  have HW2 := Lib.hid hw1.clear
  have HK2 := Lib.hid (hk1.trans (MKept.clear w1 g gm st.length (.slice none 0 0)))
  clear hk1 hw1
  go_enter Try.func37, Try.ntmps37
  go_upto_region 3 with fail
  generalize w1.setCells gm 0 (List.replicate st.length (.bool false)) = w2 at *
  clear hcl g1 y1 y2 y3 f2 hw1e hsz
  go_wp2_with fail
  go_loopw [21] (fun s21 wr => NFRel w w2 w0 B g gm st A c (.slice Al Q.length cl) ch Q s21 wr) (fun s21 _ => Q.length - (intOf s21).toNat)
  case atStart => exact ⟨0, [], _, rfl, Nat.zero_le _, HW2, HK2, Lib.hid (MKept.refl _ _ _ _), Lib.hid (Spots.nil _), Lib.hid rfl⟩
  case round =>
    obtain ⟨k, L1, lv1, rfl, hk, HW, HKW, HKR, HS, HE⟩ := hrel
    have hLl := HLQ.out.len
    obtain ⟨e0, _⟩ := HW.out.cells
    have hsz := HSZ.out
    by_cases hkl : k < Q.length
    · obtain ⟨ga, ca, hvv, hBa, hla, _, _⟩ := HM1.out.own.form (by omega)
      injection hvv with hA _ hc
      subst hA
      subst hc
      have ec := (HM1.out.own.cellAt (spm_get Q k hkl)).1
      have eg : wr.heap[ga]? = w.heap[ga]? := by
        have n1 : ga ≠ g := fun e => by have := HM1.out.lg; omega
        have n2 : ga ≠ gm := fun e => by have := HM1.out.lm; omega
        rw [HKR.out.far ga (Nat.lt_of_lt_of_le hla HK2.out.size) n1 n2 (by simp [Value.ownBlock]), HGA.out ga hla n1 n2]
      have es : wr.cell? ⟨ga, k, none⟩ = some (.int .i64 (Q.getD k 0 : Nat)) := by rw [World.cell?_of_block (a := ⟨ga, k, none⟩) eg]; exact ec
      have hsl : Q.getD k 0 < st.length := HLQ.out.2 _ (by rw [List.getD_eq_getElem?_getD, List.getElem?_eq_getElem hkl]; exact List.getElem_mem hkl)
      have hun : (Q.take (k + 1)).foldl (fun acc s => nover st ch s acc) [] = nover st ch (Q.getD k 0) L1 := by
        rw [List.take_add_one, List.getElem?_eq_getElem hkl, List.foldl_append, HE.out, List.getD_eq_getElem?_getD, List.getElem?_eq_getElem hkl]
        rfl
      have HU := Lib.hid hun
      clear hun ec eg
      have i1 : (0 : Int) ≤ (k : Int) := by omega
      have i2 : (k : Int) < (Q.length : Int) := by omega
      generalize Q.getD k 0 = s at *
      have hok := (svalid_ok HV.out).2.2 s hsl
      have hx : st[s]? = some (nd st s) := by unfold nd; rw [List.getD_eq_getElem?_getD, List.getElem?_eq_getElem hsl]; rfl
      obtain ⟨b, off, rfl, _, hcl⟩ := (HW.out.nodes.up HW.out.old).at_ (by rw [ndsV_length]; omega)
      have hg := ndsV_get st s _ hx
      have c0 := hcl _ _ (hg 0 (by omega))
      have c1 := hcl _ _ (hg 1 (by omega))
      have c2 := hcl _ _ (hg 2 (by omega))
      have c3 := hcl _ _ (hg 3 (by omega))
      have c4 := hcl _ _ (hg 4 (by omega))
      have c5 := hcl _ _ (hg 5 (by omega))
      have c6 := hcl _ _ (hg 6 (by omega))
      rw [← Nat.add_assoc] at c0 c1 c2 c3 c4 c5 c6
      rw [Nat.add_zero] at c0
      have s1 : (0 : Int) ≤ (s : Int) := by omega
      have s2 : (s : Int) < (st.length : Int) := by omega
      have HVd : Hid (nover st ch s L1 = if (nd st s).kind = 1 ∧ hasB (nd st s).set ch = true then enterM L1 (nd st s).left.toNat else L1) := Lib.hid rfl
      clear hx hcl hg hsl
      generalize nd st s = y at *
      obtain ⟨kd, lf, rt, se⟩ := y
      replace c0 : wr.cell? ⟨b, off + s * 7, none⟩ = some (.int .i64 kd) := c0
      replace c1 : wr.cell? ⟨b, off + s * 7 + 1, none⟩ = some (.int .i64 lf) := c1
      replace c2 : wr.cell? ⟨b, off + s * 7 + 2, none⟩ = some (.int .i64 rt) := c2
      replace c3 : wr.cell? ⟨b, off + s * 7 + 3, none⟩ = some (.int .u64 (setW se 0)) := c3
      replace c4 : wr.cell? ⟨b, off + s * 7 + 4, none⟩ = some (.int .u64 (setW se 1)) := c4
      replace c5 : wr.cell? ⟨b, off + s * 7 + 5, none⟩ = some (.int .u64 (setW se 2)) := c5
      replace c6 : wr.cell? ⟨b, off + s * 7 + 6, none⟩ = some (.int .u64 (setW se 3)) := c6
      go_upto_region 7 with fail
      have hk7 : StAt (wr.alloc (.cells (ndCells ⟨kd, lf, rt, se⟩).toArray 42)) wr.heap.size ⟨kd, lf, rt, se⟩ := heap_alloc_new wr _
      have hoW : Old wr (wr.alloc (.cells (ndCells ⟨kd, lf, rt, se⟩).toArray 42)) := (Old.refl wr).alloc _
      have hWe : wr.alloc (.cells #[.int .i64 kd, .int .i64 lf, .int .i64 rt, .int .u64 (setW se 0), .int .u64 (setW se 1), .int .u64 (setW se 2), .int .u64 (setW se 3)] 42) = wr.alloc (.cells (ndCells ⟨kd, lf, rt, se⟩).toArray 42) := rfl
      rw [hWe]
      have HWA := Lib.hid (HW.out.up hoW)
      have HKWA := Lib.hid (HKW.out.trans (MKept.of_old hoW g gm lv1))
      have HKRA := Lib.hid (HKR.out.trans (MKept.of_old hoW g gm lv1))
      have HFR : Hid (wr.heap.size ≠ g ∧ wr.heap.size ≠ gm ∧ some wr.heap.size ≠ lv1.ownBlock) := Lib.hid ⟨by have := lt_of_block HW.out.blk; omega, by have := lt_of_block HW.out.mks; omega, fun e => by have := (World.ownsRow.lt HW.out.own _ e.symm).2; omega⟩
      generalize wr.alloc (.cells (ndCells ⟨kd, lf, rt, se⟩).toArray 42) = V0 at *
      generalize wr.heap.size = k7 at *
      clear c0 c1 c2 c3 c4 c5 c6 e0 es hWe hoW HW HKW HKR s1 s2
      obtain ⟨d0, d1, _, d3, d4, d5, d6⟩ := hk7.cells
      simp only at d0 d1 d3 d4 d5 d6
      have HK7 := Lib.hid hk7
      clear hk7
      obtain ⟨o1, o2, o3, o4⟩ := hok
      simp only at o1 o2 o3 o4 HVd
      by_cases hkd : kd = 1
      · subst hkd
        obtain ⟨a, rfl⟩ := Int.eq_ofNat_of_zero_le (o3 (by decide)).1
        have ha : a < st.length := by have := (o3 (by decide)).2; omega
        have HAL := Lib.hid ha
        have hcn := nhasC se ch HCH.out V0
        unfold setA at hcn
        have HCN := Lib.hid hcn
        clear ha o1 o2 o3 o4 hcn
        cases hbb : hasB se ch with
        | false =>
          have HVV : Hid (nover st ch s L1 = L1) := Lib.hid (by rw [HVd.out, if_neg (fun h => by rw [hbb] at h; cases h.2)])
          rw [hbb] at HCN
          clear HVd hbb
          go_wp2_with fail
          refine (HCN.out).mono ?_; rintro e V1 ⟨rfl, hd1⟩
          have HWB := Lib.hid (HWA.out.up hd1)
          have HKWB := Lib.hid (HKWA.out.trans (MKept.of_old hd1 g gm lv1))
          have HKRB := Lib.hid (HKRA.out.trans (MKept.of_old hd1 g gm lv1))
          clear hd1 HCN HWA HKWA HKRA
          go_wp2_with fail
          go_roundw
          case rel => exact ⟨k + 1, L1, lv1, rfl, by omega, HWB, HKWB, HKRB, HS, Lib.hid (HU.out.trans HVV.out)⟩
          case measure => simp [intOf]; omega
        | true =>
          have HVV : Hid (nover st ch s L1 = enterM L1 a) := Lib.hid (by rw [HVd.out, if_pos ⟨rfl, hbb⟩]; rfl)
          rw [hbb] at HCN
          clear HVd hbb
          go_wp2_with fail
          refine (HCN.out).mono ?_; rintro e V1 ⟨rfl, hd1⟩
          have HWB := Lib.hid (HWA.out.up hd1)
          have HKWB := Lib.hid (HKWA.out.trans (MKept.of_old hd1 g gm lv1))
          have HKRB := Lib.hid (HKRA.out.trans (MKept.of_old hd1 g gm lv1))
          have HEN := Lib.hid (nenterD w0 B g gm st _ c lv1 L1 V1 HWB.out (by omega) HS.out a HAL.out)
          obtain ⟨_, p1, _⟩ := (show StAt V1 k7 _ from hd1.block HK7.out).cells
          simp only at p1
          clear hd1 HCN HWA HKWA HKRA
          go_wp2_with fail
          refine (HEN.out).mono ?_; rintro e V ⟨rfl, lv', hw, hk'⟩
          have HV3 := Lib.hid hw
          have HKV := Lib.hid (HKWB.out.trans hk')
          have HKQ := Lib.hid (HKRB.out.trans hk')
          clear hw hk' HEN
          go_wp2_with fail
          go_roundw
          case rel => exact ⟨k + 1, _, lv', rfl, by omega, HV3, HKV, HKQ, Lib.hid (HS.out.enter HAL.out), Lib.hid (HU.out.trans HVV.out)⟩
          case measure => simp [intOf]; omega
      · have hb1 : (kd == 1) = false := by simpa using hkd
        have HVV : Hid (nover st ch s L1 = L1) := Lib.hid (by rw [HVd.out, if_neg (fun h => hkd h.1)])
        clear HVd hkd o1 o2 o3 o4
        go_wp2_with fail
        go_roundw
        case rel => exact ⟨k + 1, L1, lv1, rfl, by omega, HWA, HKWA, HKRA, HS, Lib.hid (HU.out.trans HVV.out)⟩
        case measure => simp [intOf]; omega
    · obtain rfl : k = Q.length := by omega
      have HN : Hid (nstep st ch Q = L1) := Lib.hid (by have := HE.out; rw [List.take_length] at this; exact this)
      clear HE HKR HW2 HK2 HGA HM1 hkl
      go_wp2_with fail
      go_end0
      rw [HN.out]
      exact ⟨rfl, _, HW.out, HKW.out⟩
end Go.Proofs.Ythadkjgadhbidaa
/-
  A search by layers, its spots kept with how they were reached; no program in sight.
-/
namespace Go.Proofs.Ythadkjgadhbidaa
open Go.RowKit
set_option linter.unusedVariables false

def lk : List (Sp × Og) → Sp → Option Og
  | [], _ => none
  | (q, o) :: r, p => if q = p then some o else lk r p
theorem lk_snoc (al : List (Sp × Og)) (q : Sp) (o : Og) (p : Sp) : lk (al ++ [(q, o)]) p = (lk al p).or (if q = p then some o else none) := by
  induction al with
  | nil => simp [lk]
  | cons x r ih =>
    obtain ⟨q', o'⟩ := x
    rw [List.cons_append, lk, lk, ih]
    split <;> rfl
theorem lk_keys {al : List (Sp × Og)} {p : Sp} : (lk al p).isSome = true ↔ p ∈ al.map Prod.fst := by
  induction al with
  | nil => simp [lk]
  | cons x r ih =>
    obtain ⟨q, o⟩ := x
    rw [lk, List.map_cons, List.mem_cons]
    split
    · rename_i e; exact ⟨fun _ => Or.inl e.symm, fun _ => rfl⟩
    · rename_i e; rw [ih]; exact ⟨Or.inr, fun h => h.resolve_left (fun h => e h.symm)⟩
def code (p : Sp) : Nat := 4 * p.s + (if p.b then 2 else 0) + (if p.e then 1 else 0)
theorem code_inj {p q : Sp} (h : code p = code q) : p = q := by
  obtain ⟨s, b, e⟩ := p
  obtain ⟨s', b', e'⟩ := q
  unfold code at h
  cases b <;> cases e <;> cases b' <;> cases e' <;> simp at h ⊢ <;> omega
theorem code_lt {p : Sp} {n : Nat} (h : p.s < n) : code p < 4 * n := by
  obtain ⟨s, b, e⟩ := p
  unfold code
  simp only at h ⊢
  cases b <;> cases e <;> simp <;> omega
/-- The text on the way back to the root. -/
inductive Bk (al : List (Sp × Og)) : Sp → List Nat → Nat → Prop
  | root (p : Sp) (o : Og) : lk al p = some o → o.root = true → Bk al p [] 0
  | eps (p : Sp) (o : Og) (t : List Nat) (n : Nat) : lk al p = some o → o.root = false → o.over = false → Bk al o.from_ t n → Bk al p t (n + 1)
  | over (p : Sp) (o : Og) (t : List Nat) (n : Nat) : lk al p = some o → o.root = false → o.over = true → Bk al o.from_ t n → Bk al p (t ++ [o.c]) (n + 1)
def Ext (al al' : List (Sp × Og)) : Prop := ∀ p o, lk al p = some o → lk al' p = some o
theorem Ext.refl (al : List (Sp × Og)) : Ext al al := fun _ _ h => h
theorem Ext.trans {a b c : List (Sp × Og)} (h : Ext a b) (k : Ext b c) : Ext a c := fun p o e => k p o (h p o e)
theorem Ext.some {a b : List (Sp × Og)} (h : Ext a b) {p : Sp} (k : (lk a p).isSome = true) : (lk b p).isSome = true := by
  obtain ⟨o, ho⟩ := Option.isSome_iff_exists.mp k
  rw [h p o ho]; rfl
theorem Bk.mono {a b : List (Sp × Og)} (h : Ext a b) {p : Sp} {t : List Nat} {n : Nat} (k : Bk a p t n) : Bk b p t n := by
  induction k with
  | root p o h1 h2 => exact .root p o (h p o h1) h2
  | eps p o t n h1 h2 h3 _ ih => exact .eps p o t n (h p o h1) h2 h3 ih
  | over p o t n h1 h2 h3 _ ih => exact .over p o t n (h p o h1) h2 h3 ih
def reachP (al : List (Sp × Og)) (L : List Sp) (q : Sp) (o : Og) : List (Sp × Og) × List Sp := if (lk al q).isSome = true then (al, L) else (al ++ [(q, o)], L ++ [q])
structure Srch (st : List Nd) (P : Sp → Prop) (D : Nat) (al : List (Sp × Og)) (L : List Sp) : Prop where
  k1 : ∀ p, (lk al p).isSome = true ↔ (P p ∨ p ∈ L)
  k2 : ∀ p ∈ L, ¬ P p
  k3 : ∀ p, (lk al p).isSome = true → ∃ t n, Bk al p t n ∧ SR st t p ∧ t.length ≤ D
  k4 : Spots (4 * st.length) (al.map fun x => code x.1)
  k5 : L.length ≤ al.length
theorem Srch.few {st : List Nd} {P : Sp → Prop} {D : Nat} {al : List (Sp × Og)} {L : List Sp} (h : Srch st P D al L) : al.length ≤ 4 * st.length := by
  have := h.k4.len
  rwa [List.length_map] at this
theorem Srch.reach {st : List Nd} {P : Sp → Prop} {D : Nat} {al : List (Sp × Og)} {L : List Sp} (h : Srch st P D al L) {q : Sp} (hq : q.s < st.length) (o : Og)
    (ho : lk al q = none → ∃ t n, Bk al o.from_ t n ∧ o.root = false ∧ ((o.over = false ∧ SR st t q ∧ t.length ≤ D) ∨ (o.over = true ∧ SR st (t ++ [o.c]) q ∧ t.length + 1 ≤ D))) :
    Srch st P D (reachP al L q o).1 (reachP al L q o).2 ∧ (lk (reachP al L q o).1 q).isSome = true ∧ Ext al (reachP al L q o).1 ∧ ∃ e, (reachP al L q o).2 = L ++ e := by
  unfold reachP
  by_cases hs : (lk al q).isSome = true
  · rw [if_pos hs]
    exact ⟨h, hs, Ext.refl _, [], by simp⟩
  · rw [if_neg hs]
    have hn : lk al q = none := by cases hh : lk al q with
      | none => rfl
      | some x => rw [hh] at hs; exact absurd rfl hs
    have hx : Ext al (al ++ [(q, o)]) := fun p x hp => by rw [lk_snoc, hp]; rfl
    have hqs : lk (al ++ [(q, o)]) q = some o := by rw [lk_snoc, hn, if_pos rfl]; rfl
    have hiff : ∀ p, (lk (al ++ [(q, o)]) p).isSome = true ↔ ((lk al p).isSome = true ∨ p = q) := by
      intro p
      rw [lk_keys, lk_keys, List.map_append, List.mem_append]
      simp
    have hnP : ¬ P q := fun hp => hs ((h.k1 q).2 (Or.inl hp))
    refine ⟨⟨fun p => ?_, fun p hp => ?_, fun p hp => ?_, ?_, ?_⟩, by rw [hqs]; rfl, hx, [q], rfl⟩
    · rw [hiff, h.k1, List.mem_append, List.mem_singleton, or_assoc]
    · rcases List.mem_append.mp hp with hp | hp
      · exact h.k2 p hp
      · simp at hp; subst hp; exact hnP
    · rcases (hiff p).1 hp with hp | rfl
      · obtain ⟨t, n, h1, h2, h3⟩ := h.k3 p hp
        exact ⟨t, n, h1.mono hx, h2, h3⟩
      · obtain ⟨t, n, h1, h2, h3⟩ := ho hn
        rcases h3 with ⟨g1, g2, g3⟩ | ⟨g1, g2, g3⟩
        · exact ⟨t, n + 1, .eps p o t n hqs h2 g1 (h1.mono hx), g2, g3⟩
        · exact ⟨t ++ [o.c], n + 1, .over p o t n hqs h2 g1 (h1.mono hx), g2, by rw [List.length_append, List.length_singleton]; exact g3⟩
    · rw [List.map_append]
      refine ⟨List.nodup_append.mpr ⟨h.k4.1, by simp, ?_⟩, fun s hs' => ?_⟩
      · intro a ha b hb e
        simp at hb
        subst hb
        subst e
        obtain ⟨x, hx1, hx2⟩ := List.mem_map.mp ha
        have := code_inj hx2
        exact hs (lk_keys.2 (List.mem_map.mpr ⟨x, hx1, this⟩))
      · rcases List.mem_append.mp hs' with hs' | hs'
        · exact h.k4.2 s hs'
        · simp at hs'; subst hs'; exact code_lt hq
    · rw [List.length_append, List.length_append, List.length_singleton, List.length_singleton]
      have := h.k5
      omega
def RBlt (st : List Nd) (d : Nat) (p : Sp) : Prop := ∃ t, SR st t p ∧ t.length < d
/-- Ahead of, and in, the steps without a byte of a layer. -/
structure Head (st : List Nd) (d : Nat) (al : List (Sp × Og)) (L : List Sp) : Prop where
  srch : Srch st (RBlt st d) d al L
  seed : (lk al sp0).isSome = true
  byt : ∀ p q c, RBlt st d p → SB st p c q → (lk al q).isSome = true
  nofin : ∀ p, RBlt st d p → (nd st p.s).kind ≠ 5
theorem Head.start {st : List Nd} (h1 : 1 ≤ st.length) (o : Og) (ho : o.root = true) : Head st 0 [(sp0, o)] [sp0] := by
  have hno : ∀ p, ¬ RBlt st 0 p := by rintro p ⟨t, _, h⟩; omega
  have hl : lk [(sp0, o)] sp0 = some o := by rw [lk, if_pos rfl]
  have hk : ∀ p, (lk [(sp0, o)] p).isSome = true ↔ p = sp0 := by intro p; rw [lk_keys]; simp
  refine ⟨⟨fun p => ?_, fun p _ => hno p, fun p hp => ?_, ?_, Nat.le_refl _⟩, by rw [hl]; rfl, fun p q c h => absurd h (hno p), fun p h => absurd h (hno p)⟩
  · rw [hk]; simp [hno p]
  · obtain rfl := (hk p).1 hp
    exact ⟨[], 0, .root _ _ hl ho, .start, Nat.le_refl _⟩
  · refine ⟨by simp, fun s hs => ?_⟩
    simp at hs
    subst hs
    exact code_lt h1
/-- A step without a byte. -/
theorem Head.fwd {st : List Nd} (hv : svalid st = true) {d : Nat} {al : List (Sp × Og)} {L : List Sp} (h : Head st d al L) {p q : Sp} (hp : p ∈ L) (he : SE st p q) :
    q.s < st.length ∧ Head st d (reachP al L q ⟨p, false, false, 0⟩).1 (reachP al L q ⟨p, false, false, 0⟩).2 ∧ (lk (reachP al L q ⟨p, false, false, 0⟩).1 q).isSome = true ∧ Ext al (reachP al L q ⟨p, false, false, 0⟩).1 ∧ ∃ e, (reachP al L q ⟨p, false, false, 0⟩).2 = L ++ e := by
  obtain ⟨t, n, h1, h2, h3⟩ := h.srch.k3 p ((h.srch.k1 p).2 (Or.inr hp))
  have hsr := SR.eps t p q h2 he
  have hq := SR.lt hv hsr
  obtain ⟨g1, g2, g3, g4⟩ := h.srch.reach hq ⟨p, false, false, 0⟩ (fun _ => ⟨t, n, h1, rfl, Or.inl ⟨rfl, hsr, h3⟩⟩)
  exact ⟨hq, ⟨g1, g3.some h.seed, fun p q c a b => g3.some (h.byt p q c a b), h.nofin⟩, g2, g3, g4⟩
/-- The layer is whole. -/
theorem Head.full {st : List Nd} {d : Nat} {al : List (Sp × Og)} {L : List Sp} (h : Head st d al L) (hc : ∀ p ∈ L, ∀ q, SE st p q → (lk al q).isSome = true) (p : Sp) : (lk al p).isSome = true ↔ RBlt st (d + 1) p := by
  constructor
  · intro hp
    obtain ⟨t, n, _, h2, h3⟩ := h.srch.k3 p hp
    exact ⟨t, h2, by omega⟩
  · rintro ⟨t, ht, hl⟩
    suffices hs : ∀ {t p}, SR st t p → t.length < d + 1 → (lk al p).isSome = true from hs ht hl
    intro t p ht
    induction ht with
    | start => intro _; exact h.seed
    | eps t p q hp he ih =>
      intro hl
      rcases (h.srch.k1 p).1 (ih hl) with hr | hr
      · obtain ⟨u, hu, hul⟩ := hr
        exact (h.srch.k1 q).2 (Or.inl ⟨u, .eps u p q hu he, hul⟩)
      · exact hc p hr q he
    | byt t p q c hp hb ih =>
      intro hl
      rw [List.length_append, List.length_singleton] at hl
      exact h.byt p q c ⟨t, hp, by omega⟩ hb
/-- In the steps over a byte: k spots of the layer are done. -/
structure Nxt (st : List Nd) (d : Nat) (L : List Sp) (k : Nat) (al : List (Sp × Og)) (N : List Sp) : Prop where
  srch : Srch st (RBlt st (d + 1)) (d + 1) al N
  seed : (lk al sp0).isSome = true
  byt : ∀ p q c, RBlt st d p → SB st p c q → (lk al q).isSome = true
  done : ∀ j, j < k → ∀ c q, SB st (L.getD j sp0) c q → (lk al q).isSome = true
  old : ∀ p, RBlt st (d + 1) p → ∃ t n, Bk al p t n ∧ SR st t p ∧ t.length ≤ d
theorem Head.nxt {st : List Nd} {d : Nat} {al : List (Sp × Og)} {L : List Sp} (h : Head st d al L) (hc : ∀ p ∈ L, ∀ q, SE st p q → (lk al q).isSome = true) : Nxt st d L 0 al [] := by
  refine ⟨⟨fun p => ?_, fun p hp => by simp at hp, fun p hp => ?_, h.srch.k4, Nat.zero_le _⟩, h.seed, h.byt, fun j hj => by omega, fun p hp => h.srch.k3 p ((h.full hc p).2 hp)⟩
  · rw [h.full hc]; simp
  · obtain ⟨t, n, h1, h2, h3⟩ := h.srch.k3 p hp
    exact ⟨t, n, h1, h2, by omega⟩
theorem Nxt.put {st : List Nd} (hv : svalid st = true) {d : Nat} {L : List Sp} {k : Nat} {al : List (Sp × Og)} {N : List Sp} (h : Nxt st d L k al N) {p q : Sp} {c : Nat} (hp : RBlt st (d + 1) p) (hb : SB st p c q) :
    q.s < st.length ∧ Nxt st d L k (reachP al N q ⟨p, false, true, c⟩).1 (reachP al N q ⟨p, false, true, c⟩).2 ∧ (lk (reachP al N q ⟨p, false, true, c⟩).1 q).isSome = true ∧ Ext al (reachP al N q ⟨p, false, true, c⟩).1 := by
  obtain ⟨t, n, h1, h2, h3⟩ := h.old p hp
  have hsr := SR.byt t p q c h2 hb
  have hq := SR.lt hv hsr
  obtain ⟨g1, g2, g3, _⟩ := h.srch.reach hq ⟨p, false, true, c⟩ (fun _ => ⟨t, n, h1, rfl, Or.inr ⟨rfl, hsr, by omega⟩⟩)
  refine ⟨hq, ⟨g1, g3.some h.seed, fun p q c a b => g3.some (h.byt p q c a b), fun j hj c q hs => g3.some (h.done j hj c q hs), fun p hp => ?_⟩, g2, g3⟩
  obtain ⟨t, n, a1, a2, a3⟩ := h.old p hp
  exact ⟨t, n, a1.mono g3, a2, a3⟩
theorem Nxt.next {st : List Nd} {d : Nat} {L : List Sp} {k : Nat} {al : List (Sp × Og)} {N : List Sp} (h : Nxt st d L k al N) (hk : ∀ c q, SB st (L.getD k sp0) c q → (lk al q).isSome = true) : Nxt st d L (k + 1) al N :=
  ⟨h.srch, h.seed, h.byt, fun j hj c q hs => by
    by_cases e : j = k
    · subst e; exact hk c q hs
    · exact h.done j (by omega) c q hs, h.old⟩
/-- The next layer begins. -/
theorem Nxt.head {st : List Nd} {d : Nat} {L : List Sp} {al : List (Sp × Og)} {N : List Sp} (h : Nxt st d L L.length al N) (h0 : ∀ p, RBlt st (d + 1) p → RBlt st d p ∨ p ∈ L) (hf : ∀ p, RBlt st d p → (nd st p.s).kind ≠ 5) (hL : ∀ p ∈ L, (nd st p.s).kind ≠ 5) : Head st (d + 1) al N := by
  refine ⟨h.srch, h.seed, fun p q c hp hb => ?_, fun p hp => ?_⟩
  · rcases h0 p hp with hp | hp
    · exact h.byt p q c hp hb
    · obtain ⟨j, hj, rfl⟩ := List.mem_iff_getElem.mp hp
      refine h.done j hj c q ?_
      rw [List.getD_eq_getElem?_getD, List.getElem?_eq_getElem hj]
      exact hb
  · rcases h0 p hp with hp | hp
    · exact hf p hp
    · exact hL p hp
/-- A spot of the layer accepts: it is a least text. -/
theorem Head.found {st : List Nd} {d : Nat} {al : List (Sp × Og)} {L : List Sp} (h : Head st d al L) {p : Sp} (hp : p ∈ L) (hk : (nd st p.s).kind = 5) (he : p.e = false) {t : List Nat} (ht : SR st t p) (hl : t.length ≤ d) : SMin st (some t) := by
  refine ⟨Or.inl ⟨p, ht, hk, he⟩, fun u hu => ?_⟩
  rcases hu with ⟨q, h1, h2, _⟩ | ⟨u', q, rfl, h1, h2, _⟩
  · by_cases hd : u.length < d
    · exact absurd h2 (h.nofin q ⟨u, h1, hd⟩)
    · omega
  · by_cases hd : u'.length < d
    · exact absurd h2 (h.nofin q ⟨u', h1, hd⟩)
    · rw [List.length_append, List.length_singleton]; omega
theorem Head.late {st : List Nd} {d : Nat} {al : List (Sp × Og)} {L : List Sp} (h : Head st d al L) (hc : ∀ p, RBlt st (d + 1) p → RBlt st d p ∨ p ∈ L) (hno : ∀ p ∈ L, (nd st p.s).kind = 5 → p.e = true) {p : Sp} (hp : p ∈ L) (hk : (nd st p.s).kind = 5) (he : p.e = true) {t : List Nat} (ht : SR st t p) (hl : t.length ≤ d) : SMin st (some (t ++ [10])) := by
  refine ⟨Or.inr ⟨t, p, rfl, ht, hk, he⟩, fun u hu => ?_⟩
  rw [List.length_append, List.length_singleton]
  rcases hu with ⟨q, h1, h2, h3⟩ | ⟨u', q, rfl, h1, h2, _⟩
  · by_cases hd : u.length < d + 1
    · rcases hc q ⟨u, h1, hd⟩ with hq | hq
      · exact absurd h2 (h.nofin q hq)
      · have := hno q hq h2; rw [h3] at this; cases this
    · omega
  · by_cases hd : u'.length < d
    · exact absurd h2 (h.nofin q ⟨u', h1, hd⟩)
    · rw [List.length_append, List.length_singleton]; omega
theorem Head.part {st : List Nd} {d : Nat} {al : List (Sp × Og)} {L : List Sp} (h : Head st d al L) (hc : ∀ p ∈ L, ∀ q, SE st p q → (lk al q).isSome = true) (p : Sp) (hp : RBlt st (d + 1) p) : RBlt st d p ∨ p ∈ L :=
  (h.srch.k1 p).1 ((h.full hc p).2 hp)
/-- No more spots: nothing is accepted. -/
theorem Head.none_ {st : List Nd} {d : Nat} {al : List (Sp × Og)} (h : Head st d al []) : SMin st none := by
  have key : ∀ {t p}, SR st t p → RBlt st d p := by
    intro t p ht
    have hs : ∀ {t p}, SR st t p → (lk al p).isSome = true := by
      intro t p ht
      induction ht with
      | start => exact h.seed
      | eps t p q hp he ih =>
        obtain ⟨u, hu, hul⟩ := ((h.srch.k1 p).1 ih).resolve_right (by simp)
        exact (h.srch.k1 q).2 (Or.inl ⟨u, .eps u p q hu he, hul⟩)
      | byt t p q c hp hb ih =>
        exact h.byt p q c (((h.srch.k1 p).1 ih).resolve_right (by simp)) hb
    exact ((h.srch.k1 p).1 (hs ht)).resolve_right (by simp)
  rintro t (⟨p, h1, h2, _⟩ | ⟨t', p, _, h1, h2, _⟩)
  · exact h.nofin p (key h1) h2
  · exact h.nofin p (key h1) h2
end Go.Proofs.Ythadkjgadhbidaa
/-
  The search's map in memory: spots to how they were reached (nfa).
-/
namespace Go.Proofs.Ythadkjgadhbidaa
open Go.RowKit Go.Maps Go.WideMaps
set_option linter.unusedVariables false

theorem laid_out : laidOutB Try.prog = true := by kernel_rfl
theorem spot_row : (90 : TypeId) < Try.prog.types.size := of_decide_eq_true (by kernel_rfl)
theorem spot_wide : (match Try.prog.underlying 90 with | some (.array _ _) | some (.struct _) => true | _ => false) = true := by rw [Try.underlying90]
set_option maxRecDepth 100000 in
theorem spot_law : Keyed Try.prog 90 := Keyed.of_law (deep_law_laid laid_out (m := 2) (by omega) spot_row (by kernel_rfl) spot_wide)
def spv (p : Sp) : Value := .agg #[.int .i64 (p.s : Int), .bool p.b, .bool p.e]
def klS (p : Sp) : Lit := .string (keyBytes [.int .i64 (p.s : Int), .bool p.b, .bool p.e])
theorem pos_size {n k : Nat} (h : k < n) : ∃ m, n = m + 1 := ⟨n - 1, by omega⟩
theorem spot_types : ∃ m, Try.prog.types.size = m + 1 := pos_size spot_row
theorem spot_cells : Try.prog.cellsOf 90 = 3 := by kernel_rfl
theorem spot_kt : Try.prog.keyType 90 = true := by kernel_rfl
theorem int_cells : Try.prog.cellsOf 3 = 1 := by kernel_rfl
theorem bool_cells : Try.prog.cellsOf 4 = 1 := by kernel_rfl
theorem keyOf_spot (p : Sp) (hp : p.s < 1000000) : keyOf Try.prog 90 (spv p) = some (klS p) := by
  obtain ⟨s, b, e⟩ := p
  simp only at hp
  have hw : (Lit.int .i64 (s : Int)).wf = true := WalkArith.wf_i64 (by omega)
  obtain ⟨m, hm⟩ := spot_types
  unfold keyOf spv klS
  simp only [Try.underlying90]
  rw [if_pos (by simp [spot_kt, Value.formed, Try.underlying90, spot_cells]), hm]
  unfold Program.keyLits
  simp only [Try.underlying90, Value.cells]
  rw [if_pos (by rw [spot_cells]; exact ⟨rfl, by decide +kernel⟩)]
  simp [Program.keyLits, int_cells, bool_cells, Try.underlying3, Try.underlying4, hw]
theorem klS_inj {p q : Sp} (hp : p.s < 1000000) (hq : q.s < 1000000) (h : klS p = klS q) : p = q := by
  have h1 := keyOf_spot p hp
  rw [h] at h1
  have := spot_law.inj h1 (keyOf_spot q hq)
  obtain ⟨s, b, e⟩ := p
  obtain ⟨s', b', e'⟩ := q
  unfold spv at this
  simp at this
  obtain ⟨h1, h2, h3⟩ := this
  rw [h2, h3, show s = s' by omega]
def orv (o : Og) : Value := .agg #[.int .i64 (o.from_.s : Int), .bool o.from_.b, .bool o.from_.e, .bool o.root, .bool o.over, .int .u8 (o.c : Int)]
def orD (o : Og) : DataW Unit := .agg [.lit (.int .i64 (o.from_.s : Int)), .lit (.bool o.from_.b), .lit (.bool o.from_.e), .lit (.bool o.root), .lit (.bool o.over), .lit (.int .u8 (o.c : Int))]
def orL : List Value → Option (DataW Unit × List MemPlace)
  | [.int .i64 s, .bool b, .bool e, .bool r, .bool v, .int .u8 c] => some (.agg [.lit (.int .i64 s), .lit (.bool b), .lit (.bool e), .lit (.bool r), .lit (.bool v), .lit (.int .u8 c)], [])
  | _ => none
def orR : Value → Option (DataW Unit × List MemPlace)
  | .agg cs => orL cs.toList
  | _ => none
theorem orR_mk (o : Og) : orR (orv o) = some (orD o, []) := rfl
theorem orR_inv {v : Value} {z : DataW Unit × List MemPlace} (h : orR v = some z) : ∃ s b e r o c, v = .agg #[.int .i64 s, .bool b, .bool e, .bool r, .bool o, .int .u8 c] ∧ z = (.agg [.lit (.int .i64 s), .lit (.bool b), .lit (.bool e), .lit (.bool r), .lit (.bool o), .lit (.int .u8 c)], []) := by
  cases v <;> try (cases h; done)
  rename_i cs
  obtain ⟨l⟩ := cs
  change orL l = some z at h
  unfold orL at h
  split at h
  · cases h; exact ⟨_, _, _, _, _, _, rfl, rfl⟩
  · cases h
/-- Block b is a map of these spots. -/
def SMap (w : World) (b : Nat) (al : List (Sp × Og)) : Prop :=
  ∃ D : DataW Unit, w.ownsMap Try.prog 90 orR b al.length D ∧ ∀ p : Sp, p.s < 1000000 → Maps.has D (klS p) = (lk al p).isSome ∧ ∀ o, lk al p = some o → D.atKey (klS p) (orD ⟨⟨0, false, false⟩, false, false, 0⟩) = orD o
theorem SMap.up {w w' : World} {b : Nat} {al : List (Sp × Og)} (h : SMap w b al) (ho : Old w w') : SMap w' b al := by
  obtain ⟨D, h1, h2⟩ := h
  refine ⟨D, h1.kept (row := none) ⟨ho.out.os, ho.out.tape, ho.out.output, ho.out.size, fun k hk _ => ho.out.block k hk⟩ (by simp), h2⟩
theorem SMap.made (w : World) : SMap (w.alloc (.map #[] 0)) w.heap.size [] := ⟨.map [], World.ownsMap_made w _ _ _, fun p _ => ⟨rfl, fun o h => by cases h⟩⟩
theorem SMap.lt {w : World} {b : Nat} {al : List (Sp × Og)} (h : SMap w b al) : b < w.heap.size := by obtain ⟨D, h1, _⟩ := h; exact h1.lt
theorem zero_origin (w : World) : (zeroValue 92).run Try.prog w = .ok (orv ⟨⟨0, false, false⟩, false, false, 0⟩) w := by kernel_rfl
/-- 'v, ok := m[p]'. -/
theorem SMap.look_ok {w : World} {b : Nat} {al : List (Sp × Og)} (h : SMap w b al) {p : Sp} (hp : p.s < 1000000) :
    ∃ s bb e r o c, (Instr.lookup 84 (.map (some b)) (spv p) true).run Try.prog w = .ok (.tuple #[.agg #[.int .i64 s, .bool bb, .bool e, .bool r, .bool o, .int .u8 c], .bool (lk al p).isSome]) w := by
  obtain ⟨D, h1, h2⟩ := h
  obtain ⟨v, ps, hrun, hv⟩ := h1.look_ok spot_law Try.underlying84 (zero_origin w) (orR_mk _) (keyOf_spot p hp)
  obtain ⟨s, bb, e, r, o, c, rfl, _⟩ := orR_inv hv
  rw [(h2 p hp).1] at hrun
  exact ⟨s, bb, e, r, o, c, hrun⟩
/-- 'm[p]' of a spot that is there. -/
theorem SMap.look {w : World} {b : Nat} {al : List (Sp × Og)} (h : SMap w b al) {p : Sp} (hp : p.s < 1000000) {o : Og} (ho : lk al p = some o) :
    (Instr.lookup 84 (.map (some b)) (spv p) false).run Try.prog w = .ok (orv o) w := by
  obtain ⟨D, h1, h2⟩ := h
  obtain ⟨v, ps, hrun, hv⟩ := h1.lookup spot_law Try.underlying84 (zero_origin w) (orR_mk _) (keyOf_spot p hp)
  obtain ⟨s, bb, e, r, o', c, rfl, hz⟩ := orR_inv hv
  rw [(h2 p hp).2 o ho] at hz
  unfold orD at hz
  simp at hz
  obtain ⟨⟨q1, q2, q3, q4, q5, q6⟩, _⟩ := hz
  rw [hrun]
  unfold orv
  rw [q1, q2, q3, q4, q5, q6]
/-- 'm[p] = o' of a spot that is not there. -/
theorem SMap.put {w : World} {b : Nat} {al : List (Sp × Og)} (h : SMap w b al) (hn : al.length < 1000000) {p : Sp} (hp : p.s < 1000000) (o : Og) (hno : lk al p = none) :
    ∃ w', (Instr.mapUpdate 84 (.map (some b)) (spv p) (orv o)).run Try.prog w = .ok () w' ∧ SMap w' b (al ++ [(p, o)]) ∧ w.grownBy w' (some b) := by
  obtain ⟨D, h1, h2⟩ := h
  obtain ⟨w', hrun, h3, hg⟩ := h1.update spot_law Try.underlying84 (by unfold maxLen; omega) (keyOf_spot p hp) (orR_mk o)
  refine ⟨w', hrun, ⟨_, by simpa using h3, fun q hq => ?_⟩, hg⟩
  by_cases e : p = q
  · subst e
    have hk := spot_law.key (keyOf_spot p hp)
    rw [has_put_same h1.isMap hk, lk_snoc, hno, if_pos rfl]
    refine ⟨rfl, fun o' ho' => ?_⟩
    simp at ho'
    subst ho'
    exact atKey_put_same h1.isMap hk _ _
  · have hne : klS q ≠ klS p := fun h => e (klS_inj hp hq h.symm)
    rw [has_put_other hne, lk_snoc, if_neg e, (h2 q hq).1]
    refine ⟨by simp, fun o' ho' => ?_⟩
    rw [atKey_put_other hne]
    exact (h2 q hq).2 o' (by simpa using ho')
end Go.Proofs.Ythadkjgadhbidaa
/-
  The search's reach (nfa).
-/
namespace Go.Proofs.Ythadkjgadhbidaa
open Go.RowKit
set_option linter.unusedVariables false

def spCells (p : Sp) : List Value := [.int .i64 (p.s : Int), .bool p.b, .bool p.e]
def spsV (L : List Sp) : List Value := L.flatMap spCells
theorem asz (w : World) (o : Obj) : (w.alloc o).heap.size = w.heap.size + 1 := by simp
theorem spsV_length (L : List Sp) : (spsV L).length = L.length * 3 := by
  induction L with
  | nil => rfl
  | cons p L ih => unfold spsV at *; rw [List.flatMap_cons, List.length_append, ih, List.length_cons]; simp [spCells]; omega
theorem spsV_one (L : List Sp) : (spsV L).all Value.oneCell' = true := by
  rw [List.all_eq_true]
  intro v hv
  obtain ⟨p, _, hp⟩ := List.mem_flatMap.mp hv
  simp [spCells] at hp
  rcases hp with rfl | rfl | rfl <;> rfl
theorem spsV_snoc (L : List Sp) (p : Sp) : spsV (L ++ [p]) = spsV L ++ spCells p := by unfold spsV; rw [List.flatMap_append]; simp
theorem spsV_get (L : List Sp) (i : Nat) (h : i < L.length) (j : Nat) (hj : j < 3) : (spsV L)[i * 3 + j]? = (spCells (L.getD i sp0))[j]? := by
  induction L generalizing i with
  | nil => simp at h
  | cons p L ih =>
    have e : spsV (p :: L) = spCells p ++ spsV L := by unfold spsV; rw [List.flatMap_cons]
    rw [e]
    cases i with
    | zero =>
      rw [Nat.zero_mul, Nat.zero_add, List.getElem?_append_left (by simp [spCells]; omega)]
      rfl
    | succ i =>
      have hl : (spCells p).length = 3 := rfl
      rw [List.getElem?_append_right (by rw [hl]; omega), hl, show (i + 1) * 3 + j - 3 = i * 3 + j by omega, ih i (by simpa using h)]
      simp
/-- The search in memory: block g; its map: block b. -/
structure SK (w0 w : World) (B g b : Nat) (st : List Nd) (A : Option Addr) (c : Nat) (al : List (Sp × Og)) : Prop where
  old : Old w0 w
  nodes : Rs w0 A (ndsV st)
  blk : w.heap[g]? = some (.cells #[.slice A st.length c, .map (some b)] 86 (0, 0))
  map : SMap w b al
  bg : w0.heap.size ≤ g
  bb : w0.heap.size ≤ b
  lg : g < B
  lb : b < B
  ne : g ≠ b
  lB : B ≤ w.heap.size
section
variable {w0 w w' : World} {B g b c : Nat} {st : List Nd} {A : Option Addr} {al : List (Sp × Og)}
theorem SK.up (h : SK w0 w B g b st A c al) (ho : Old w w') : SK w0 w' B g b st A c al :=
  ⟨h.old.up ho, h.nodes, ho.block h.blk, h.map.up ho, h.bg, h.bb, h.lg, h.lb, h.ne, Nat.le_trans h.lB ho.size⟩
theorem SK.cells (h : SK w0 w B g b st A c al) : w.cell? ⟨g, 0, none⟩ = some (.slice A st.length c) ∧ w.cell? ⟨g, 1, none⟩ = some (.map (some b)) :=
  ⟨by rw [cell_of_row w g 0 _ _ _ h.blk]; rfl, by rw [cell_of_row w g 1 _ _ _ h.blk]; rfl⟩
theorem SMap.kept {row : Option Nat} (h : SMap w b al) (hg : w.grownBy w' row) (hne : some b ≠ row) : SMap w' b al := by
  obtain ⟨D, h1, h2⟩ := h
  exact ⟨D, h1.kept hg hne, h2⟩
theorem SK.put {al' : List (Sp × Og)} (h : SK w0 w B g b st A c al) (hm : SMap w' b al') (hg : w.grownBy w' (some b)) : SK w0 w' B g b st A c al' :=
  ⟨Below.grown h.old hg h.old.size (by intro k hk; injection hk with hk; subst hk; exact h.bb), h.nodes, (hg.block g (lt_of_block h.blk) (by intro e; injection e with e; exact h.ne e)).trans h.blk, hm, h.bg, h.bb, h.lg, h.lb, h.ne, Nat.le_trans h.lB hg.size⟩
theorem SK.row {lv : Value} {n : Nat} {xs : List Value} (h : SK w0 w B g b st A c al) (hl : Own w B 90 3 lv n xs) (hg : w.grownBy w' lv.ownBlock) : SK w0 w' B g b st A c al :=
  ⟨Own.grown_old h.old hl (Nat.le_trans h.bg (Nat.le_of_lt h.lg)) hg, h.nodes, (hg.block g (lt_of_block h.blk) (mown_far hl h.lg)).trans h.blk, h.map.kept hg (mown_far hl h.lb), h.bg, h.bb, h.lg, h.lb, h.ne, Nat.le_trans h.lB hg.size⟩
end
theorem MKept.map_ {w w' : World} {b : Nat} (hg : w.grownBy w' (some b)) (lv : Value) : MKept w w' b b lv lv :=
  ⟨hg.size, fun k hk h1 _ _ => hg.block k hk (by intro e; injection e with e; exact h1 e), fun _ h => Or.inl h⟩
theorem MKept.row_ {w w' : World} {lv v' : Value} (hg : w.grownBy w' lv.ownBlock) (hs : Stay w lv v') (b : Nat) : MKept w w' b b lv v' := by
  refine ⟨hg.size, fun k hk _ _ h3 => hg.block k hk h3, fun k hk => ?_⟩
  rcases hs with e | ⟨j, e, hj⟩
  · rw [← e]; exact Or.inl hk
  · rw [e] at hk; injection hk with hk; subst hk; exact Or.inr hj
def SReach (w : World) (lv : Value) (w0 : World) (B g b : Nat) (st : List Nd) (A : Option Addr) (c : Nat) (r : List (Sp × Og) × List Sp) (e : Ending) (w' : World) : Prop :=
  ∃ lv', e = .returned lv' ∧ SK w0 w' B g b st A c r.1 ∧ Own w' B 90 3 lv' r.2.length (spsV r.2) ∧ MKept w w' b b lv lv'
theorem info_spt : (Try.prog.info? 90).map (fun i => (i.zero, i.size, i.bytes)) = some (some (.agg #[.int .i64 0, .bool false, .bool false]), 3, 16) := by kernel_rfl
/-- 'v, ok := m[p]', told by the list. -/
def ogAt (al : List (Sp × Og)) (p : Sp) : Og := (lk al p).getD ⟨⟨0, false, false⟩, false, false, 0⟩
theorem SMap.look2 {w : World} {b : Nat} {al : List (Sp × Og)} (h : SMap w b al) {p : Sp} (hp : p.s < 1000000) :
    (Instr.lookup 84 (.map (some b)) (spv p) true).run Try.prog w = .ok (.tuple #[orv (ogAt al p), .bool (lk al p).isSome]) w := by
  obtain ⟨D, h1, h2⟩ := h
  obtain ⟨v, ps, hrun, hv⟩ := h1.look_ok spot_law Try.underlying84 (zero_origin w) (orR_mk _) (keyOf_spot p hp)
  obtain ⟨s, bb, e, r, o', c, rfl, hz⟩ := orR_inv hv
  obtain ⟨q1, q2⟩ := h2 p hp
  have hD : D.atKey (klS p) (orD ⟨⟨0, false, false⟩, false, false, 0⟩) = orD (ogAt al p) := by
    unfold ogAt
    cases hl : lk al p with
    | none => rw [hl] at q1; exact Maps.atKey_of_not_has q1 _
    | some o => exact q2 o hl
  rw [hD] at hz
  rw [q1] at hrun
  unfold orD at hz
  simp at hz
  obtain ⟨⟨q1, q2, q3, q4, q5, q6⟩, _⟩ := hz
  rw [hrun]
  unfold orv
  rw [q1, q2, q3, q4, q5, q6]
set_option maxHeartbeats 4000000 in
set_option maxRecDepth 100000 in
theorem sreachC (w0 : World) (B g b : Nat) (st : List Nd) (A : Option Addr) (c : Nat) (lv : Value) (al : List (Sp × Og)) (L : List Sp) (w : World) (h : SK w0 w B g b st A c al) (hl : Own w B 90 3 lv L.length (spsV L)) (hn : al.length ≤ 100000) (hL : L.length ≤ 100000) (q : Sp) (hq : q.s < 1000000) (o : Og) (hc : o.c < 256) :
    Calls Try.prog 45 #[.pointer (some ⟨g, 0, none⟩), lv, spv q, orv o] w (SReach w lv w0 B g b st A c (reachP al L q o)) := by
  have HH := Lib.hid h
  have HLL := Lib.hid hl
  obtain ⟨Al, cl, rfl, htl, _, _⟩ := hl.shape
  have HP : Hid (reachP al L q o = if (lk al q).isSome = true then (al, L) else (al ++ [(q, o)], L ++ [q])) := Lib.hid rfl
  have HQS := Lib.hid hq
  have hb6 := heap_alloc_new w (.cells (spCells q).toArray 90)
  have ho6 := (Old.refl w).alloc (.cells (spCells q).toArray 90)
  have hb7 := heap_alloc_new (w.alloc (.cells (spCells q).toArray 90)) (.cells #[.int .i64 (o.from_.s : Int), .bool o.from_.b, .bool o.from_.e, .bool o.root, .bool o.over, .int .u8 (o.c : Int)] 92)
  have ho7 := ho6.alloc (.cells #[.int .i64 (o.from_.s : Int), .bool o.from_.b, .bool o.from_.e, .bool o.root, .bool o.over, .int .u8 (o.c : Int)] 92)
  have hb6' := ((Old.refl (w.alloc (.cells (spCells q).toArray 90))).alloc (.cells #[.int .i64 (o.from_.s : Int), .bool o.from_.b, .bool o.from_.e, .bool o.root, .bool o.over, .int .u8 (o.c : Int)] 92)).block hb6
  have hlk := fun W (h : SMap W b al) => h.look2 hq
  have HORV := Lib.hid (rfl : ogAt al q = ogAt al q)
  generalize hoa : ogAt al q = oa at hlk
  clear HORV hoa htl h hl hb6 ho6
  obtain ⟨qs, qb, qe⟩ := q
  obtain ⟨⟨fs, fb, fe⟩, rt, ov, ch⟩ := o
  obtain ⟨⟨zs, zb, ze⟩, zr, zo, zc⟩ := oa
  unfold spv orv spCells at *
  simp only at *
  go_enter Try.func45, Try.ntmps45
  go_upto_region 1 with fail
  rw [asz] at hb7
  have HOB : Hid (Own ((w.alloc (.cells #[.int .i64 (qs : Int), .bool qb, .bool qe] 90)).alloc (.cells #[.int .i64 (fs : Int), .bool fb, .bool fe, .bool rt, .bool ov, .int .u8 (ch : Int)] 92)) B 90 3 (.slice Al L.length cl) L.length (spsV L)) := Lib.hid (HLL.out.up ho7)
  have HKW : Hid (MKept w ((w.alloc (.cells #[.int .i64 (qs : Int), .bool qb, .bool qe] 90)).alloc (.cells #[.int .i64 (fs : Int), .bool fb, .bool fe, .bool rt, .bool ov, .int .u8 (ch : Int)] 92)) b b (.slice Al L.length cl) (.slice Al L.length cl)) := Lib.hid (MKept.of_old ho7 b b _)
  have HHW := Lib.hid (HH.out.up ho7)
  generalize (w.alloc (.cells #[.int .i64 (qs : Int), .bool qb, .bool qe] 90)).alloc (.cells #[.int .i64 (fs : Int), .bool fb, .bool fe, .bool rt, .bool ov, .int .u8 (ch : Int)] 92) = W at *
  have HB6 := Lib.hid hb6'
  have HB7 := Lib.hid hb7
  have HLK := Lib.hid hlk
  have HKB : Hid (b < w.heap.size) := Lib.hid (by have := HH.out.lb; have := HH.out.lB; omega)
  generalize w.heap.size = k6 at *
  clear hb6' hb7 ho7 hlk HH HLL
  have HALL : Hid (∀ w', Old W w' → Old W w' ∧ w'.cell? ⟨g, 1, none⟩ = some (.map (some b)) ∧ w'.cell? ⟨k6, 0, none⟩ = some (.int .i64 (qs : Int)) ∧ w'.cell? ⟨k6, 1, none⟩ = some (.bool qb) ∧ w'.cell? ⟨k6, 2, none⟩ = some (.bool qe) ∧
      (Instr.lookup 84 (.map (some b)) (.agg #[.int .i64 (qs : Int), .bool qb, .bool qe]) true).run Try.prog w' = .ok (.tuple #[.agg #[.int .i64 (zs : Int), .bool zb, .bool ze, .bool zr, .bool zo, .int .u8 (zc : Int)], .bool (lk al ⟨qs, qb, qe⟩).isSome]) w') := Lib.hid (fun w' ho =>
    ⟨ho, (HHW.out.up ho).cells.2, by rw [cell_of_row w' k6 0 _ _ _ (ho.block HB6.out)]; rfl, by rw [cell_of_row w' k6 1 _ _ _ (ho.block HB6.out)]; rfl, by rw [cell_of_row w' k6 2 _ _ _ (ho.block HB6.out)]; rfl, HLK.out w' (HHW.out.up ho).map⟩)
  generalize hsome : (lk al ⟨qs, qb, qe⟩).isSome = sm at *
  go_cut [10] (fun v wx => v = .bool sm ∧ Hid (Old W wx))
  case first =>
    clear HP HOB HKW HHW HB6 HB7 HLK hsome HKB
    go_region_held3 (fun w' => Old W w' ∧ w'.cell? ⟨g, 1, none⟩ = some (.map (some b)) ∧ w'.cell? ⟨k6, 0, none⟩ = some (.int .i64 (qs : Int)) ∧ w'.cell? ⟨k6, 1, none⟩ = some (.bool qb) ∧ w'.cell? ⟨k6, 2, none⟩ = some (.bool qe) ∧
      (Instr.lookup 84 (.map (some b)) (.agg #[.int .i64 (qs : Int), .bool qb, .bool qe]) true).run Try.prog w' = .ok (.tuple #[.agg #[.int .i64 (zs : Int), .bool zb, .bool ze, .bool zr, .bool zo, .int .u8 (zc : Int)], .bool sm]) w') ((refine HALL.out _ ?_; first | exact (Old.refl _).drew | exact ((Old.refl _).alloc _).drew)) (fail)
    all_goals (go_wp2_with fail; go_meet; exact ⟨rfl, Lib.hid (((Old.refl _).alloc _).drew)⟩)
  case rest =>
    clear HALL HLK
    obtain ⟨rfl, HO⟩ := hcut
    have HHC := Lib.hid (HHW.out.up HO.out)
    have HOC := Lib.hid (HOB.out.up HO.out)
    have HKC := Lib.hid (HKW.out.trans (MKept.of_old HO.out b b _))
    have HC6 := Lib.hid (HO.out.block HB6.out)
    have HC7 := Lib.hid (HO.out.block HB7.out)
    clear HHW HOB HKW HB6 HB7 HO
    cases sm with
    | true =>
      have HE : Hid (reachP al L ⟨qs, qb, qe⟩ ⟨⟨fs, fb, fe⟩, rt, ov, ch⟩ = (al, L)) := Lib.hid (by rw [HP.out]; rfl)
      clear HP hsome
      go_wp2_with fail
      go_ret
      rw [HE.out]
      exact ⟨_, rfl, HHC.out, HOC.out, HKC.out⟩
    | false =>
      have HE : Hid (reachP al L ⟨qs, qb, qe⟩ ⟨⟨fs, fb, fe⟩, rt, ov, ch⟩ = (al ++ [(⟨qs, qb, qe⟩, ⟨⟨fs, fb, fe⟩, rt, ov, ch⟩)], L ++ [⟨qs, qb, qe⟩])) := Lib.hid (by rw [HP.out]; rfl)
      have hno : lk al ⟨qs, qb, qe⟩ = none := by
        cases hh : lk al ⟨qs, qb, qe⟩ with
        | none => rfl
        | some x => rw [hh] at hsome; cases hsome
      obtain ⟨w5, hrun, hm5, hg5⟩ := (HHC.out.up (Old.refl _).drew).map.put (by omega) HQS.out ⟨⟨fs, fb, fe⟩, rt, ov, ch⟩ hno
      unfold spv orv at hrun
      simp only at hrun
      obtain ⟨_, c1⟩ := HHC.out.cells
      have c60 : wc.cell? ⟨k6, 0, none⟩ = some (.int .i64 (qs : Int)) := by rw [cell_of_row wc k6 0 _ _ _ HC6.out]; rfl
      have c61 : wc.cell? ⟨k6, 1, none⟩ = some (.bool qb) := by rw [cell_of_row wc k6 1 _ _ _ HC6.out]; rfl
      have c62 : wc.cell? ⟨k6, 2, none⟩ = some (.bool qe) := by rw [cell_of_row wc k6 2 _ _ _ HC6.out]; rfl
      have c70 : wc.cell? ⟨k6 + 1, 0, none⟩ = some (.int .i64 (fs : Int)) := by rw [cell_of_row wc (k6 + 1) 0 _ _ _ HC7.out]; rfl
      have c71 : wc.cell? ⟨k6 + 1, 1, none⟩ = some (.bool fb) := by rw [cell_of_row wc (k6 + 1) 1 _ _ _ HC7.out]; rfl
      have c72 : wc.cell? ⟨k6 + 1, 2, none⟩ = some (.bool fe) := by rw [cell_of_row wc (k6 + 1) 2 _ _ _ HC7.out]; rfl
      have c73 : wc.cell? ⟨k6 + 1, 3, none⟩ = some (.bool rt) := by rw [cell_of_row wc (k6 + 1) 3 _ _ _ HC7.out]; rfl
      have c74 : wc.cell? ⟨k6 + 1, 4, none⟩ = some (.bool ov) := by rw [cell_of_row wc (k6 + 1) 4 _ _ _ HC7.out]; rfl
      have c75 : wc.cell? ⟨k6 + 1, 5, none⟩ = some (.int .u8 (ch : Int)) := by rw [cell_of_row wc (k6 + 1) 5 _ _ _ HC7.out]; rfl
      have HH5 := Lib.hid (SK.put (HHC.out.up (Old.refl _).drew) hm5 hg5)
      have HO5 : Hid (Own w5 B 90 3 (.slice Al L.length cl) L.length (spsV L)) := Lib.hid (World.ownsRow.kept (HOC.out.up (Old.refl _).drew) hg5 (Or.inr (fun e => mown_far HOC.out HHC.out.lb e.symm)))
      have HK5 := Lib.hid (HKC.out.trans ((MKept.of_old (Old.refl _).drew b b _).trans (MKept.map_ hg5 (.slice Al L.length cl))))
      have hc6 : w5.heap[k6]? = some (.cells #[.int .i64 (qs : Int), .bool qb, .bool qe] 90 (0, 0)) := (hg5.block k6 (lt_of_block HC6.out) (by intro e; injection e with e; have := HKB.out; omega)).trans HC6.out
      have d0 : w5.cell? ⟨k6, 0, none⟩ = some (.int .i64 (qs : Int)) := by rw [cell_of_row w5 k6 0 _ _ _ hc6]; rfl
      have d1 : w5.cell? ⟨k6, 1, none⟩ = some (.bool qb) := by rw [cell_of_row w5 k6 1 _ _ _ hc6]; rfl
      have d2 : w5.cell? ⟨k6, 2, none⟩ = some (.bool qe) := by rw [cell_of_row w5 k6 2 _ _ _ hc6]; rfl
      have HB5 := Lib.hid HH5.out.lB
      clear HP hsome hno hm5 hg5 hc6 HHC HOC HKC HC6 HC7
      go_upto_region 4 with fail
      refine wp_region_still_tail 6 (by kernel_rfl) (by kernel_rfl) ?_
      simp only [List.take_succ_cons, List.take_zero, List.drop_succ_cons, List.drop_zero]
      refine still_open (fun S HSW HSS HSN => ?_)
      iterate 6 (refine HSW.out _ _ _ (by kernel_rfl) (fun K hK => ?_); go_simp; refine hK _ ?_; clear hK K)
      refine HSN.out _ ?_
      clear HSW HSS HSN
      go_upto_region 5 with fail
      clear hrun c1 c60 c61 c62 c70 c71 c72 c73 c74 c75
      go_wp2_with (at_builtin; refine wpList_pushS (wr := w5) rfl _ _ 87 rfl _ 90 (.agg #[.int .i64 0, .bool false, .bool false]) 3 16 Try.underlying87 info_spt rfl (by decide) (by decide) _ _ _ rfl HO5.out 1 1 [.int .i64 (qs : Int), .bool qb, .bool qe] rfl rfl rfl rfl ?pn1 HB5.out (by decide) ?_)
      case pn1 => omega
      intro v' w6 ho hg hst
      have ho' : Own w6 B 90 3 v' (L.length + 1) (spsV (L ++ [⟨qs, qb, qe⟩])) := by rw [spsV_snoc]; exact ho
      have HO6 := Lib.hid ho'
      have HH6 := Lib.hid (HH5.out.row HO5.out hg)
      have HK6 := Lib.hid (HK5.out.trans (MKept.row_ hg hst b))
      clear ho ho' hg hst HO5 HH5 HK5 d0 d1 d2
      go_wp2_with fail
      go_ret
      rw [HE.out]
      exact ⟨_, rfl, HH6.out, by rw [List.length_append, List.length_singleton]; exact HO6.out, HK6.out⟩
end Go.Proofs.Ythadkjgadhbidaa
/-
  The search's forward (a function literal in spread; nfa).
-/
namespace Go.Proofs.Ythadkjgadhbidaa
open Go.RowKit
set_option linter.unusedVariables false

theorem own_kind {w : World} {B : Nat} {e e' : TypeId} {s : Nat} {v : Value} {n k : Nat} {xs : List Value} {cs : Array Value} {fz : Nat × Nat} (h : Own w B e s v n xs) (hk : w.heap[k]? = some (.cells cs e' fz)) (hne : e' ≠ e) : some k ≠ v.ownBlock := by
  rcases h with ⟨_, ⟨rfl, _⟩ | ⟨g, cap, cu, rfl, _, hgg, _⟩⟩
  · simp [Value.ownBlock]
  · intro h
    simp [Value.ownBlock] at h
    subst h
    rw [hk] at hgg
    simp at hgg
    exact hne hgg.2.1
theorem SK.box {w0 w : World} {B g b c k : Nat} {st : List Nd} {A : Option Addr} {al : List (Sp × Og)} (h : SK w0 w B g b st A c al) (hk : w0.heap.size ≤ k) (h1 : k ≠ g) (h2 : k ≠ b) (i : Nat) (v : Value) : SK w0 (w.setCell ⟨k, i, none⟩ v) B g b st A c al :=
  ⟨h.old.setCell hk _, h.nodes, by rw [heap_setCell_other w ⟨k, i, none⟩ g v (Ne.symm h1)]; exact h.blk, h.map.kept (cell_gr w k i v) (by intro e; injection e with e; exact h2 e.symm), h.bg, h.bb, h.lg, h.lb, h.ne, by simpa using h.lB⟩
theorem MKept.wide {w w' : World} {b k : Nat} {lv lv' : Value} (h : MKept w w' b b lv lv') : MKept w w' b k lv lv' := ⟨h.size, fun j hj h1 _ h3 => h.far j hj h1 h1 h3, h.row⟩
def SFwd (w : World) (lv : Value) (w0 : World) (B g b k3 : Nat) (st : List Nd) (A : Option Addr) (c : Nat) (r : List (Sp × Og) × List Sp) (e : Ending) (w' : World) : Prop :=
  e = .returned (.tuple #[]) ∧ ∃ lv', SK w0 w' B g b st A c r.1 ∧ Own w' B 90 3 lv' r.2.length (spsV r.2) ∧ w'.heap[k3]? = some (.cells #[lv'] 87 (0, 0)) ∧ MKept w w' b k3 lv lv'
set_option maxHeartbeats 4000000 in
set_option maxRecDepth 100000 in
theorem sfwdC (w0 : World) (B g b k2 k3 k6 : Nat) (st : List Nd) (A : Option Addr) (c : Nat) (lv : Value) (al : List (Sp × Og)) (L : List Sp) (w : World) (h : SK w0 w B g b st A c al) (hl : Own w B 90 3 lv L.length (spsV L))
    (hb2 : w.heap[k2]? = some (.cells #[.pointer (some ⟨g, 0, none⟩)] 83 (0, 0))) (hb3 : w.heap[k3]? = some (.cells #[lv] 87 (0, 0))) (p : Sp) (hb6 : w.heap[k6]? = some (.cells (spCells p).toArray 90 (0, 0)))
    (hk3 : w0.heap.size ≤ k3) (hn : al.length ≤ 100000) (hL : L.length ≤ 100000) (x : Nat) (hx : x < 1000000) (e : Bool) :
    Calls Try.prog 69 #[.int .i64 (x : Int), .bool e, .pointer (some ⟨k2, 0, none⟩), .pointer (some ⟨k3, 0, none⟩), .pointer (some ⟨k6, 0, none⟩)] w (SFwd w lv w0 B g b k3 st A c (reachP al L ⟨x, p.b, e⟩ ⟨p, false, false, 0⟩)) := by
  obtain ⟨Al, cl, rfl, _, _, _⟩ := hl.shape
  have HC := Lib.hid (sreachC w0 B g b st A c _ al L w h hl hn hL ⟨x, p.b, e⟩ hx ⟨p, false, false, 0⟩ (show (0 : Nat) < 256 by decide))
  have hne3 := own_kind hl hb3 (by decide)
  have n1 : k3 ≠ g := fun e => by have := h.blk; rw [← e, hb3] at this; simp at this
  have n2 : k3 ≠ b := fun e => by
    obtain ⟨D, ⟨es, clock, h1, _⟩, _⟩ := h.map
    rw [← e, hb3] at h1; cases h1
  have N := Lib.hid (And.intro hne3 (And.intro n1 n2))
  have HB3 := Lib.hid hb3
  have HK3 := Lib.hid hk3
  have a2 : w.cell? ⟨k2, 0, none⟩ = some (.pointer (some ⟨g, 0, none⟩)) := by rw [cell_of_row w k2 0 _ _ _ hb2]; rfl
  have a3 : w.cell? ⟨k3, 0, none⟩ = some (.slice Al L.length cl) := by rw [cell_of_row w k3 0 _ _ _ hb3]; rfl
  have a60 : w.cell? ⟨k6, 0, none⟩ = some (.int .i64 (p.s : Int)) := by rw [cell_of_row w k6 0 _ _ _ hb6]; rfl
  have a61 : w.cell? ⟨k6, 1, none⟩ = some (.bool p.b) := by rw [cell_of_row w k6 1 _ _ _ hb6]; rfl
  have a62 : w.cell? ⟨k6, 2, none⟩ = some (.bool p.e) := by rw [cell_of_row w k6 2 _ _ _ hb6]; rfl
  obtain ⟨ps, pb, pe⟩ := p
  unfold spv orv at HC
  simp only at *
  clear h hl hb2 hb3 hb6 hne3 n1 n2 hk3
  generalize reachP al L ⟨x, pb, e⟩ ⟨⟨ps, pb, pe⟩, false, false, 0⟩ = r at *
  go_enter Try.func69, Try.ntmps69
  go_wp2_with fail
  refine (HC.out).mono ?_; rintro e w2 ⟨lv2, rfl, hs2, ho2, hk2⟩
  obtain ⟨A2, c2, rfl, _, _, _⟩ := ho2.shape
  have hq := hk2.block HB3.out N.out.2.2 N.out.2.2 N.out.1
  have hb := hq.1
  have f3 : w2.frozen? ⟨k3, 0, none⟩ = false := frozen_of_row w2 k3 0 _ _ hb
  have c3 : w2.cell? ⟨k3, 0, none⟩ = some (.slice Al L.length cl) := by rw [cell_of_row w2 k3 0 _ _ _ hb]; rfl
  have HS := Lib.hid (hs2.box HK3.out N.out.2.1 N.out.2.2 0 (.slice A2 r.2.length c2))
  have HO := Lib.hid (World.ownsRow.kept ho2 (cell_gr w2 k3 0 (.slice A2 r.2.length c2)) (Or.inr (fun e => hq.2 e.symm)))
  have HBB := Lib.hid (heap_setCell_same w2 k3 0 _ _ (.slice A2 r.2.length c2) hb)
  have HKK := Lib.hid ((hk2.wide (k := k3)).trans (MKept.mark w2 b k3 0 (.slice A2 r.2.length c2) (.slice A2 r.2.length c2)))
  clear hs2 ho2 hk2 hq hb HC a2 a3 a60 a61 a62
  go_wp2_with fail
  go_end0
  exact ⟨rfl, _, HS.out, HO.out, HBB.out, HKK.out⟩
end Go.Proofs.Ythadkjgadhbidaa
/-
  The search's spread (nfa).
-/
namespace Go.Proofs.Ythadkjgadhbidaa
open Go.RowKit
set_option linter.unusedVariables false

/-- The layer is whole: its steps without a byte lead to nothing new. -/
def Whole (st : List Nd) (al : List (Sp × Og)) (L : List Sp) : Prop := ∀ p ∈ L, ∀ q, SE st p q → (lk al q).isSome = true
def SSpread (w : World) (w0 : World) (B g b : Nat) (st : List Nd) (A : Option Addr) (c d : Nat) (n0 : Nat) (e : Ending) (w' : World) : Prop :=
  ∃ lv' al L, e = .returned lv' ∧ SK w0 w' B g b st A c al ∧ Own w' B 90 3 lv' L.length (spsV L) ∧ Head st d al L ∧ Whole st al L ∧ L ≠ [] ∧ n0 ≤ al.length
def SsRel (w0 : World) (B g b k2 k3 : Nat) (st : List Nd) (A : Option Addr) (c d n0 : Nat) (v : Value) (wr : World) : Prop :=
  ∃ (i : Nat) (al : List (Sp × Og)) (L : List Sp) (lv : Value), v = .int .i64 i ∧ i ≤ L.length ∧ Hid (SK w0 wr B g b st A c al) ∧ Hid (Own wr B 90 3 lv L.length (spsV L)) ∧
    Hid (wr.heap[k2]? = some (.cells #[.pointer (some ⟨g, 0, none⟩)] 83 (0, 0))) ∧ Hid (wr.heap[k3]? = some (.cells #[lv] 87 (0, 0))) ∧
    Hid (Head st d al L) ∧ Hid (∀ j, j < i → ∀ q, SE st (L.getD j sp0) q → (lk al q).isSome = true) ∧ Hid (1 ≤ L.length ∧ n0 ≤ al.length)
theorem reach_more (al : List (Sp × Og)) (L : List Sp) (q : Sp) (o : Og) : al.length ≤ (reachP al L q o).1.length := by
  unfold reachP
  split
  · exact Nat.le_refl _
  · simp
theorem getD_pre {L L' e : List Sp} (h : L' = L ++ e) {j : Nat} (hj : j < L.length) : L'.getD j sp0 = L.getD j sp0 := by
  rw [h, List.getD_eq_getElem?_getD, List.getElem?_append_left hj, ← List.getD_eq_getElem?_getD]
theorem se_none {st : List Nd} {p : Sp} (h1 : (nd st p.s).kind ≠ 2) (h2 : (nd st p.s).kind = 3 → p.b = false) (h3 : (nd st p.s).kind ≠ 4) (q : Sp) : ¬ SE st p q := by
  rintro (⟨a, _⟩ | ⟨a, b, _⟩ | ⟨a, _⟩)
  · exact h1 a
  · rw [h2 a] at b; cases b
  · exact h3 a
theorem SsRel.next {w0 w' : World} {B g b k2 k3 c d n0 i : Nat} {st : List Nd} {A : Option Addr} {al al' : List (Sp × Og)} {L L' : List Sp} {lv : Value} (hs : SK w0 w' B g b st A c al') (ho : Own w' B 90 3 lv L'.length (spsV L'))
    (h2 : w'.heap[k2]? = some (.cells #[.pointer (some ⟨g, 0, none⟩)] 83 (0, 0))) (h3 : w'.heap[k3]? = some (.cells #[lv] 87 (0, 0))) (hd : Head st d al' L') (hx : Ext al al') (hex : ∃ e, L' = L ++ e) (hil : i < L.length)
    (hcl : ∀ j, j < i → ∀ q, SE st (L.getD j sp0) q → (lk al q).isSome = true) (hone : ∀ q, SE st (L.getD i sp0) q → (lk al' q).isSome = true) (hnn : 1 ≤ L.length ∧ n0 ≤ al.length) (hmore : al.length ≤ al'.length) :
    SsRel w0 B g b k2 k3 st A c d n0 (.int .i64 ((i + 1 : Nat) : Int)) w' := by
  obtain ⟨ex, hex⟩ := hex
  have hll : L'.length = L.length + ex.length := by rw [hex, List.length_append]
  refine ⟨i + 1, al', L', lv, rfl, by omega, Lib.hid hs, Lib.hid ho, Lib.hid h2, Lib.hid h3, Lib.hid hd, Lib.hid (fun j hj q hq => ?_), Lib.hid ⟨by omega, Nat.le_trans hnn.2 hmore⟩⟩
  rw [getD_pre hex (by omega)] at hq
  by_cases e : j = i
  · subst e
    exact hone q hq
  · exact hx.some (hcl j (by omega) q hq)
theorem mkept_blk {w w' : World} {b k3 k : Nat} {lv lv' : Value} {o : Obj} (h : MKept w w' b k3 lv lv') (hk : w.heap[k]? = some o) (h1 : k ≠ b) (h2 : k ≠ k3) (h3 : some k ≠ lv.ownBlock) : w'.heap[k]? = some o := (h.block hk h1 h2 h3).1
theorem se_split {st : List Nd} {p : Sp} {y : Nd} (hy : nd st p.s = y) (hk : y.kind = 2) (q : Sp) : SE st p q ↔ (q = ⟨y.left.toNat, p.b, p.e⟩ ∨ q = ⟨y.right.toNat, p.b, p.e⟩) := by
  subst hy
  constructor
  · rintro (⟨_, h⟩ | ⟨a, _⟩ | ⟨a, _⟩)
    · exact h
    · omega
    · omega
  · intro h; exact Or.inl ⟨hk, h⟩
theorem se_bol {st : List Nd} {p : Sp} {y : Nd} (hy : nd st p.s = y) (hk : y.kind = 3) (hb : p.b = true) (q : Sp) : SE st p q ↔ q = ⟨y.left.toNat, p.b, p.e⟩ := by
  subst hy
  constructor
  · rintro (⟨a, _⟩ | ⟨_, _, h⟩ | ⟨a, _⟩)
    · omega
    · exact h
    · omega
  · intro h; exact Or.inr (Or.inl ⟨hk, hb, h⟩)
theorem se_eol {st : List Nd} {p : Sp} {y : Nd} (hy : nd st p.s = y) (hk : y.kind = 4) (q : Sp) : SE st p q ↔ q = ⟨y.left.toNat, p.b, true⟩ := by
  subst hy
  constructor
  · rintro (⟨a, _⟩ | ⟨a, _⟩ | ⟨_, h⟩)
    · omega
    · omega
    · exact h
  · intro h; exact Or.inr (Or.inr ⟨hk, h⟩)
set_option maxHeartbeats 8000000 in
set_option maxRecDepth 100000 in
theorem sspreadC (w0 : World) (B g b : Nat) (st : List Nd) (A : Option Addr) (c d : Nat) (lv : Value) (al : List (Sp × Og)) (L : List Sp) (w : World) (h : SK w0 w B g b st A c al) (hl : Own w B 90 3 lv L.length (spsV L)) (hv : svalid st = true) (hh : Head st d al L) (h1 : 1 ≤ L.length) :
    Calls Try.prog 46 #[.pointer (some ⟨g, 0, none⟩), lv] w (SSpread w w0 B g b st A c d al.length) := by
  have HV := Lib.hid hv
  have HSZ := Lib.hid (svalid_ok hv).2.1
  obtain ⟨Al, cl, rfl, _, _, _⟩ := hl.shape
  have hb2 := heap_alloc_new w (.cells #[.pointer (some ⟨g, 0, none⟩)] 83)
  have hb3 := heap_alloc_new (w.alloc (.cells #[.pointer (some ⟨g, 0, none⟩)] 83)) (.cells #[.slice Al L.length cl] 87)
  have ho2 := (Old.refl w).alloc (.cells #[.pointer (some ⟨g, 0, none⟩)] 83)
  have ho3 := ho2.alloc (.cells #[.slice Al L.length cl] 87)
  have hb2' := ((Old.refl (w.alloc (.cells #[.pointer (some ⟨g, 0, none⟩)] 83))).alloc (.cells #[.slice Al L.length cl] 87)).block hb2
  rw [asz] at hb3
  have HI : Hid (SsRel w0 B g b w.heap.size (w.heap.size + 1) st A c d al.length (.int .i64 0) ((w.alloc (.cells #[.pointer (some ⟨g, 0, none⟩)] 83)).alloc (.cells #[.slice Al L.length cl] 87))) :=
    Lib.hid ⟨0, al, L, _, rfl, Nat.zero_le _, Lib.hid (h.up ho3), Lib.hid (hl.up ho3), Lib.hid hb2', Lib.hid hb3, Lib.hid hh, Lib.hid (fun j hj => by omega), Lib.hid ⟨h1, Nat.le_refl _⟩⟩
  have HK3 : Hid (w0.heap.size ≤ w.heap.size + 1) := Lib.hid (by have := h.old.size; omega)
  have HN2 : Hid (w.heap.size ≠ b ∧ w.heap.size ≠ w.heap.size + 1) := Lib.hid ⟨by have := h.lb; have := h.lB; omega, by omega⟩
  clear hb2 hb3 hb2' ho2 ho3 hv
  go_enter Try.func46, Try.ntmps46
  go_upto_region 1 with fail
  generalize (w.alloc (.cells #[.pointer (some ⟨g, 0, none⟩)] 83)).alloc (.cells #[.slice Al L.length cl] 87) = w1 at *
  generalize hk3e : w.heap.size + 1 = k3 at *
  generalize w.heap.size = k2 at *
  clear h hl hh h1 hk3e
  have HPO : Hid (∀ lv' al' L' w', SK w0 w' B g b st A c al' → Own w' B 90 3 lv' L'.length (spsV L') → Head st d al' L' → Whole st al' L' → L' ≠ [] → al.length ≤ al'.length → SSpread w w0 B g b st A c d al.length (.returned lv') w') :=
    Lib.hid (fun lv' al' L' w' a1 a2 a3 a4 a5 a6 => ⟨lv', al', L', rfl, a1, a2, a3, a4, a5, a6⟩)
  generalize al.length = n0 at *
  clear al
  go_wp2_with fail
  go_loopw [5] (fun s5 wr => SsRel w0 B g b k2 k3 st A c d n0 s5 wr) (fun s5 _ => 4 * st.length - (intOf s5).toNat)
  case atStart => exact HI.out
  case round =>
    clear HI
    obtain ⟨i, al, L, lv, rfl, hi, HS, HO, H2, H3, HHD, HCL, HNN⟩ := hrel
    obtain ⟨Al, cl, rfl, _, _, _⟩ := HO.out.shape
    have hfew := HHD.out.srch.few
    have hk5 := HHD.out.srch.k5
    have hsz := HSZ.out
    have a2 : wr.cell? ⟨k2, 0, none⟩ = some (.pointer (some ⟨g, 0, none⟩)) := by rw [cell_of_row wr k2 0 _ _ _ H2.out]; rfl
    have a3 : wr.cell? ⟨k3, 0, none⟩ = some (.slice Al L.length cl) := by rw [cell_of_row wr k3 0 _ _ _ H3.out]; rfl
    by_cases hil : i < L.length
    · have i1 : (i : Int) < (L.length : Int) := by omega
      have i0 : (0 : Int) ≤ (i : Int) := by omega
      obtain ⟨ga, ca, hvv, hBa, hla, _, _⟩ := HO.out.form (by omega)
      injection hvv with hA _ hc
      subst hA
      subst hc
      have q0 := (HO.out.cellAt ((spsV_get L i hil 0 (by omega)).trans rfl)).1
      have q1 := (HO.out.cellAt ((spsV_get L i hil 1 (by omega)).trans rfl)).1
      have q2 := (HO.out.cellAt ((spsV_get L i hil 2 (by omega)).trans rfl)).1
      rw [Nat.add_zero] at q0
      have hin : L.getD i sp0 ∈ L := by rw [List.getD_eq_getElem?_getD, List.getElem?_eq_getElem hil]; exact List.getElem_mem hil
      obtain ⟨p, hpe⟩ : ∃ p, L.getD i sp0 = p := ⟨_, rfl⟩
      rw [hpe] at q0 q1 q2 hin
      have HPE := Lib.hid hpe
      have hps : p.s < st.length := by
        obtain ⟨t, n, _, hsr, _⟩ := HHD.out.srch.k3 p ((HHD.out.srch.k1 p).2 (Or.inr hin))
        exact SR.lt HV.out hsr
      have HIN := Lib.hid hin
      clear hpe hin
      obtain ⟨ps, pb, pe⟩ := p
      simp only at q0 q1 q2 hps
      have hb6 := heap_alloc_new wr (.cells #[.int .i64 (ps : Int), .bool pb, .bool pe] 90)
      have ho6 := (Old.refl wr).alloc (.cells #[.int .i64 (ps : Int), .bool pb, .bool pe] 90)
      have HN6 : Hid (wr.heap.size ≠ b ∧ wr.heap.size ≠ k3 ∧ some wr.heap.size ≠ (Value.slice (some ⟨ga, 0, none⟩) L.length cl).ownBlock) := Lib.hid ⟨by have := HS.out.lb; have := HS.out.lB; omega, by have := lt_of_block H3.out; omega, fun e => by have := (World.ownsRow.lt HO.out _ e.symm).2; omega⟩
      go_upto_region 5 with fail
      generalize wr.alloc (.cells #[.int .i64 (ps : Int), .bool pb, .bool pe] 90) = W6 at *
      have HS6 := Lib.hid (HS.out.up ho6)
      have HO6 := Lib.hid (HO.out.up ho6)
      have H26 := Lib.hid (ho6.block H2.out)
      have H36 := Lib.hid (ho6.block H3.out)
      have H66 := Lib.hid hb6
      have HW6 : Hid (wr.heap.size < W6.heap.size) := Lib.hid (lt_of_block hb6)
      generalize wr.heap.size = k6 at *
      clear HS HO H2 H3 a2 a3 q0 q1 q2 hb6 ho6 hla
      have hok := (svalid_ok HV.out).2.2 ps hps
      have hx : st[ps]? = some (nd st ps) := by unfold nd; rw [List.getD_eq_getElem?_getD, List.getElem?_eq_getElem hps]; rfl
      obtain ⟨bs, off, rfl, _, hcl⟩ := (HS6.out.nodes.up HS6.out.old).at_ (by rw [ndsV_length]; omega)
      have hg := ndsV_get st ps _ hx
      have c0 := hcl _ _ (hg 0 (by omega))
      have c1 := hcl _ _ (hg 1 (by omega))
      have c2 := hcl _ _ (hg 2 (by omega))
      have c3 := hcl _ _ (hg 3 (by omega))
      have c4 := hcl _ _ (hg 4 (by omega))
      have c5 := hcl _ _ (hg 5 (by omega))
      have c6 := hcl _ _ (hg 6 (by omega))
      rw [← Nat.add_assoc] at c0 c1 c2 c3 c4 c5 c6
      rw [Nat.add_zero] at c0
      have s1 : (0 : Int) ≤ (ps : Int) := by omega
      have s2 : (ps : Int) < (st.length : Int) := by omega
      have HND : Hid (nd st ps = nd st ps) := Lib.hid rfl
      obtain ⟨y, hy⟩ : ∃ y, nd st ps = y := ⟨_, rfl⟩
      rw [hy] at hok c0 c1 c2 c3 c4 c5 c6
      have HY := Lib.hid hy
      clear hx hcl hg hy HND
      obtain ⟨kd, lf, rt, se⟩ := y
      replace c0 : W6.cell? ⟨bs, off + ps * 7, none⟩ = some (.int .i64 kd) := c0
      replace c1 : W6.cell? ⟨bs, off + ps * 7 + 1, none⟩ = some (.int .i64 lf) := c1
      replace c2 : W6.cell? ⟨bs, off + ps * 7 + 2, none⟩ = some (.int .i64 rt) := c2
      replace c3 : W6.cell? ⟨bs, off + ps * 7 + 3, none⟩ = some (.int .u64 (setW se 0)) := c3
      replace c4 : W6.cell? ⟨bs, off + ps * 7 + 4, none⟩ = some (.int .u64 (setW se 1)) := c4
      replace c5 : W6.cell? ⟨bs, off + ps * 7 + 5, none⟩ = some (.int .u64 (setW se 2)) := c5
      replace c6 : W6.cell? ⟨bs, off + ps * 7 + 6, none⟩ = some (.int .u64 (setW se 3)) := c6
      have HALL : Hid (∀ w', Old W6 w' → Old W6 w' ∧ w'.cell? ⟨k2, 0, none⟩ = some (.pointer (some ⟨g, 0, none⟩)) ∧ w'.cell? ⟨g, 0, none⟩ = some (.slice (some ⟨bs, off, none⟩) st.length c) ∧ w'.cell? ⟨k6, 0, none⟩ = some (.int .i64 (ps : Int)) ∧
          w'.cell? ⟨bs, off + ps * 7, none⟩ = some (.int .i64 kd) ∧ w'.cell? ⟨bs, off + ps * 7 + 1, none⟩ = some (.int .i64 lf) ∧ w'.cell? ⟨bs, off + ps * 7 + 2, none⟩ = some (.int .i64 rt) ∧ w'.cell? ⟨bs, off + ps * 7 + 3, none⟩ = some (.int .u64 (setW se 0)) ∧ w'.cell? ⟨bs, off + ps * 7 + 4, none⟩ = some (.int .u64 (setW se 1)) ∧ w'.cell? ⟨bs, off + ps * 7 + 5, none⟩ = some (.int .u64 (setW se 2)) ∧ w'.cell? ⟨bs, off + ps * 7 + 6, none⟩ = some (.int .u64 (setW se 3))) := Lib.hid (fun w' ho =>
        ⟨ho, by rw [cell_of_row w' k2 0 _ _ _ (ho.block H26.out)]; rfl, (HS6.out.up ho).cells.1, by rw [cell_of_row w' k6 0 _ _ _ (ho.block H66.out)]; rfl, ho.cell c0, ho.cell c1, ho.cell c2, ho.cell c3, ho.cell c4, ho.cell c5, ho.cell c6⟩)
      clear c0 c1 c2 c3 c4 c5 c6
      go_region_held3 (fun w' => Old W6 w' ∧ w'.cell? ⟨k2, 0, none⟩ = some (.pointer (some ⟨g, 0, none⟩)) ∧ w'.cell? ⟨g, 0, none⟩ = some (.slice (some ⟨bs, off, none⟩) st.length c) ∧ w'.cell? ⟨k6, 0, none⟩ = some (.int .i64 (ps : Int)) ∧
          w'.cell? ⟨bs, off + ps * 7, none⟩ = some (.int .i64 kd) ∧ w'.cell? ⟨bs, off + ps * 7 + 1, none⟩ = some (.int .i64 lf) ∧ w'.cell? ⟨bs, off + ps * 7 + 2, none⟩ = some (.int .i64 rt) ∧ w'.cell? ⟨bs, off + ps * 7 + 3, none⟩ = some (.int .u64 (setW se 0)) ∧ w'.cell? ⟨bs, off + ps * 7 + 4, none⟩ = some (.int .u64 (setW se 1)) ∧ w'.cell? ⟨bs, off + ps * 7 + 5, none⟩ = some (.int .u64 (setW se 2)) ∧ w'.cell? ⟨bs, off + ps * 7 + 6, none⟩ = some (.int .u64 (setW se 3))) ((refine HALL.out _ ?_; first | exact (Old.refl _).drew | exact ((Old.refl _).alloc _).drew)) (fail)
      have hk7 : StAt (W6.alloc (.cells (ndCells ⟨kd, lf, rt, se⟩).toArray 42)).drew W6.heap.size ⟨kd, lf, rt, se⟩ := heap_alloc_new W6 _
      have hoW : Old W6 (W6.alloc (.cells (ndCells ⟨kd, lf, rt, se⟩).toArray 42)).drew := ((Old.refl W6).alloc _).drew
      have hWe : (W6.alloc (.cells #[.int .i64 kd, .int .i64 lf, .int .i64 rt, .int .u64 (setW se 0), .int .u64 (setW se 1), .int .u64 (setW se 2), .int .u64 (setW se 3)] 42)).drew = (W6.alloc (.cells (ndCells ⟨kd, lf, rt, se⟩).toArray 42)).drew := rfl
      rw [hWe]
      have HSW := Lib.hid (HS6.out.up hoW)
      have HOW := Lib.hid (HO6.out.up hoW)
      have H2W := Lib.hid (hoW.block H26.out)
      have H3W := Lib.hid (hoW.block H36.out)
      have H6W := Lib.hid (hoW.block H66.out)
      have HN7 : Hid (W6.heap.size ≠ b ∧ W6.heap.size ≠ k3) := Lib.hid ⟨by have := HS6.out.lb; have := HS6.out.lB; omega, by have := lt_of_block H36.out; omega⟩
      generalize (W6.alloc (.cells (ndCells ⟨kd, lf, rt, se⟩).toArray 42)).drew = W at *
      generalize W6.heap.size = k7 at *
      have H7W := Lib.hid hk7
      obtain ⟨d0, d1, d2, _⟩ := hk7.cells
      simp only at d0 d1 d2
      have e0 : W.cell? ⟨k6, 0, none⟩ = some (.int .i64 (ps : Int)) := by rw [cell_of_row W k6 0 _ _ _ H6W.out]; rfl
      have e1 : W.cell? ⟨k6, 1, none⟩ = some (.bool pb) := by rw [cell_of_row W k6 1 _ _ _ H6W.out]; rfl
      have e2 : W.cell? ⟨k6, 2, none⟩ = some (.bool pe) := by rw [cell_of_row W k6 2 _ _ _ H6W.out]; rfl
      clear hWe hoW HS6 HO6 H26 H36 H66 hk7 s1 s2 HALL
      obtain ⟨o1, o2, o3, o4⟩ := hok
      simp only at o1 o2 o3 o4
      have hkc : kd = 1 ∨ kd = 2 ∨ kd = 3 ∨ kd = 4 ∨ kd = 5 := by omega
      rcases hkc with rfl | rfl | rfl | rfl | rfl
      · have HNO : Hid (∀ q, ¬ SE st (L.getD i sp0) q) := Lib.hid (fun q => by rw [HPE.out]; exact se_none (by rw [HY.out]; intro h; cases h) (by rw [HY.out]; intro h; cases h) (by rw [HY.out]; intro h; cases h) q)
        have HW := Lib.hid (SsRel.next (k2 := k2) (k3 := k3) (n0 := n0) (i := i) HSW.out HOW.out H2W.out H3W.out HHD.out (Ext.refl al) ⟨[], by simp⟩ hil HCL.out (fun q hq => absurd hq (HNO.out q)) HNN.out (Nat.le_refl _))
        clear HSW HOW H2W H3W H6W H7W HNO HPO
        go_wp2_with fail
        go_roundw
        case rel => exact HW.out
        case measure => simp [intOf]; omega
      · obtain ⟨a, rfl⟩ := Int.eq_ofNat_of_zero_le (o3 (by decide)).1
        obtain ⟨z, rfl⟩ := Int.eq_ofNat_of_zero_le (o4 rfl).1
        have HSE := Lib.hid (se_split (p := ⟨ps, pb, pe⟩) HY.out rfl)
        have HUN : Hid (∀ q, SE st ⟨ps, pb, pe⟩ q → q = ⟨a, pb, pe⟩ ∨ q = ⟨z, pb, pe⟩) := Lib.hid (fun q hq => by have := (HSE.out q).1 hq; simpa using this)
        have HSA : Hid (SE st ⟨ps, pb, pe⟩ ⟨a, pb, pe⟩) := Lib.hid ((HSE.out _).2 (Or.inl (by simp)))
        have HSZ2 : Hid (SE st ⟨ps, pb, pe⟩ ⟨z, pb, pe⟩) := Lib.hid ((HSE.out _).2 (Or.inr (by simp)))
        have HFW := Lib.hid (HHD.out.fwd HV.out HIN.out (q := ⟨a, pb, pe⟩) (HSA.out))
        have HC := Lib.hid (sfwdC w0 B g b k2 k3 k6 st _ c _ al L W HSW.out HOW.out H2W.out H3W.out ⟨ps, pb, pe⟩ H6W.out HK3.out (by omega) (by omega) a (by have := HFW.out.1; simp only at this; omega) pe)
        have HMR := Lib.hid (reach_more al L ⟨a, pb, pe⟩ ⟨⟨ps, pb, pe⟩, false, false, 0⟩)
        generalize reachP al L ⟨a, pb, pe⟩ ⟨⟨ps, pb, pe⟩, false, false, 0⟩ = r at *
        obtain ⟨al2, L2⟩ := r
        simp only at HC HFW HMR
        go_wp2_with fail
        refine (HC.out).mono ?_; rintro e w2 ⟨rfl, lv2, hs2, ho2, hb3', hk2'⟩
        have HS2 := Lib.hid hs2
        have HO2 := Lib.hid ho2
        have H32 := Lib.hid hb3'
        have H22 := Lib.hid (mkept_blk hk2' H2W.out HN2.out.1 HN2.out.2 (own_kind HOW.out H2W.out (by decide)))
        obtain ⟨h6b, h6r⟩ := hk2'.block H6W.out HN6.out.1 HN6.out.2.1 HN6.out.2.2
        have h7b := mkept_blk hk2' H7W.out HN7.out.1 HN7.out.2 (own_kind HOW.out H7W.out (by decide))
        obtain ⟨_, _, d22, _⟩ := (show StAt w2 k7 _ from h7b).cells
        simp only at d22
        have e22 : w2.cell? ⟨k6, 2, none⟩ = some (.bool pe) := by rw [cell_of_row w2 k6 2 _ _ _ h6b]; rfl
        have HX2 := Lib.hid HFW.out.2.2.2.1
        have HE2 := Lib.hid HFW.out.2.2.2.2
        have HSA2 := Lib.hid HFW.out.2.2.1
        have HD2 := Lib.hid HFW.out.2.1
        have hfew2 := HD2.out.srch.few
        have hk52 := HD2.out.srch.k5
        have HIN2 : Hid ((⟨ps, pb, pe⟩ : Sp) ∈ L2) := Lib.hid (by obtain ⟨ex, hex⟩ := HE2.out; rw [hex]; exact List.mem_append_left _ HIN.out)
        have HFW2 := Lib.hid (HD2.out.fwd HV.out HIN2.out HSZ2.out)
        have HC2 := Lib.hid (sfwdC w0 B g b k2 k3 k6 st _ c lv2 al2 L2 w2 HS2.out HO2.out H22.out H32.out ⟨ps, pb, pe⟩ h6b HK3.out (by omega) (by omega) z (by have := HFW2.out.1; simp only at this; omega) pe)
        have HMR2 := Lib.hid (reach_more al2 L2 ⟨z, pb, pe⟩ ⟨⟨ps, pb, pe⟩, false, false, 0⟩)
        generalize reachP al2 L2 ⟨z, pb, pe⟩ ⟨⟨ps, pb, pe⟩, false, false, 0⟩ = r at *
        obtain ⟨al3, L3⟩ := r
        simp only at HC2 HFW2 HMR2
        clear hs2 ho2 hb3' hk2' HC h6b h6r h7b
        go_wp2_with fail
        refine (HC2.out).mono ?_; rintro e w3 ⟨rfl, lv3, hs3, ho3, hb33, hk3'⟩
        have HS3 := Lib.hid hs3
        have HO3 := Lib.hid ho3
        have H33 := Lib.hid hb33
        have H23 := Lib.hid (mkept_blk hk3' H22.out HN2.out.1 HN2.out.2 (own_kind HO2.out H22.out (by decide)))
        have HEX : Hid (∃ e, L3 = L ++ e) := Lib.hid (by
          obtain ⟨e1, he1⟩ := HE2.out
          obtain ⟨e2, he2⟩ := HFW2.out.2.2.2.2
          exact ⟨e1 ++ e2, by rw [he2, he1, List.append_assoc]⟩)
        have HW := Lib.hid (SsRel.next (k2 := k2) (k3 := k3) (n0 := n0) (i := i) HS3.out HO3.out H23.out H33.out HFW2.out.2.1 (HX2.out.trans HFW2.out.2.2.2.1) HEX.out hil HCL.out (fun q hq => by
          rw [HPE.out] at hq
          rcases HUN.out q hq with e | e
          · rw [e]; exact HFW2.out.2.2.2.1.some HSA2.out
          · rw [e]; exact HFW2.out.2.2.1) HNN.out (Nat.le_trans HMR.out HMR2.out))
        clear hs3 ho3 hb33 hk3' HC2 HS2 HO2 H32 H22 HFW HFW2 HS3 HO3 H33 H23 HSW HOW H2W H3W H6W H7W HPO HX2 HE2 HSA2 HD2 HIN2 d22 e22 hfew2 hk52
        go_wp2_with fail
        go_roundw
        case rel => exact HW.out
        case measure => simp [intOf]; omega
      · obtain ⟨a, rfl⟩ := Int.eq_ofNat_of_zero_le (o3 (by decide)).1
        cases pb with
        | false =>
          have HNO : Hid (∀ q, ¬ SE st (L.getD i sp0) q) := Lib.hid (fun q => by rw [HPE.out]; exact se_none (by rw [HY.out]; intro h; cases h) (fun _ => rfl) (by rw [HY.out]; intro h; cases h) q)
          have HW := Lib.hid (SsRel.next (k2 := k2) (k3 := k3) (n0 := n0) (i := i) HSW.out HOW.out H2W.out H3W.out HHD.out (Ext.refl al) ⟨[], by simp⟩ hil HCL.out (fun q hq => absurd hq (HNO.out q)) HNN.out (Nat.le_refl _))
          clear HSW HOW H2W H3W H6W H7W HNO HPO
          go_wp2_with fail
          go_roundw
          case rel => exact HW.out
          case measure => simp [intOf]; omega
        | true =>
          have HSE := Lib.hid (se_bol (p := ⟨ps, true, pe⟩) HY.out rfl rfl)
          have HUN : Hid (∀ q, SE st ⟨ps, true, pe⟩ q → q = ⟨a, true, pe⟩) := Lib.hid (fun q hq => by have := (HSE.out q).1 hq; simpa using this)
          have HFW := Lib.hid (HHD.out.fwd HV.out HIN.out (q := ⟨a, true, pe⟩) ((HSE.out _).2 (by simp)))
          have HC := Lib.hid (sfwdC w0 B g b k2 k3 k6 st _ c _ al L W HSW.out HOW.out H2W.out H3W.out ⟨ps, true, pe⟩ H6W.out HK3.out (by omega) (by omega) a (by have := HFW.out.1; simp only at this; omega) pe)
          have HMR := Lib.hid (reach_more al L ⟨a, true, pe⟩ ⟨⟨ps, true, pe⟩, false, false, 0⟩)
          generalize reachP al L ⟨a, true, pe⟩ ⟨⟨ps, true, pe⟩, false, false, 0⟩ = r at *
          obtain ⟨al2, L2⟩ := r
          simp only at HC HFW HMR
          go_wp2_with fail
          refine (HC.out).mono ?_; rintro e w2 ⟨rfl, lv2, hs2, ho2, hb3', hk2'⟩
          have HS2 := Lib.hid hs2
          have HO2 := Lib.hid ho2
          have H32 := Lib.hid hb3'
          have H22 := Lib.hid (mkept_blk hk2' H2W.out HN2.out.1 HN2.out.2 (own_kind HOW.out H2W.out (by decide)))
          have HW := Lib.hid (SsRel.next (k2 := k2) (k3 := k3) (n0 := n0) (i := i) HS2.out HO2.out H22.out H32.out HFW.out.2.1 HFW.out.2.2.2.1 HFW.out.2.2.2.2 hil HCL.out (fun q hq => by rw [HPE.out] at hq; rw [HUN.out q hq]; exact HFW.out.2.2.1) HNN.out HMR.out)
          clear hs2 ho2 hb3' hk2' HC HS2 HO2 H32 H22 HFW HSW HOW H2W H3W H6W H7W HPO
          go_wp2_with fail
          go_roundw
          case rel => exact HW.out
          case measure => simp [intOf]; omega
      · obtain ⟨a, rfl⟩ := Int.eq_ofNat_of_zero_le (o3 (by decide)).1
        have HSE := Lib.hid (se_eol (p := ⟨ps, pb, pe⟩) HY.out rfl)
        have HUN : Hid (∀ q, SE st ⟨ps, pb, pe⟩ q → q = ⟨a, pb, true⟩) := Lib.hid (fun q hq => by have := (HSE.out q).1 hq; simpa using this)
        have HFW := Lib.hid (HHD.out.fwd HV.out HIN.out (q := ⟨a, pb, true⟩) ((HSE.out _).2 (by simp)))
        have HC := Lib.hid (sfwdC w0 B g b k2 k3 k6 st _ c _ al L W HSW.out HOW.out H2W.out H3W.out ⟨ps, pb, pe⟩ H6W.out HK3.out (by omega) (by omega) a (by have := HFW.out.1; simp only at this; omega) true)
        have HMR := Lib.hid (reach_more al L ⟨a, pb, true⟩ ⟨⟨ps, pb, pe⟩, false, false, 0⟩)
        generalize reachP al L ⟨a, pb, true⟩ ⟨⟨ps, pb, pe⟩, false, false, 0⟩ = r at *
        obtain ⟨al2, L2⟩ := r
        simp only at HC HFW HMR
        go_wp2_with fail
        refine (HC.out).mono ?_; rintro e w2 ⟨rfl, lv2, hs2, ho2, hb3', hk2'⟩
        have HS2 := Lib.hid hs2
        have HO2 := Lib.hid ho2
        have H32 := Lib.hid hb3'
        have H22 := Lib.hid (mkept_blk hk2' H2W.out HN2.out.1 HN2.out.2 (own_kind HOW.out H2W.out (by decide)))
        have HW := Lib.hid (SsRel.next (k2 := k2) (k3 := k3) (n0 := n0) (i := i) HS2.out HO2.out H22.out H32.out HFW.out.2.1 HFW.out.2.2.2.1 HFW.out.2.2.2.2 hil HCL.out (fun q hq => by rw [HPE.out] at hq; rw [HUN.out q hq]; exact HFW.out.2.2.1) HNN.out HMR.out)
        clear hs2 ho2 hb3' hk2' HC HS2 HO2 H32 H22 HFW HSW HOW H2W H3W H6W H7W HPO
        go_wp2_with fail
        go_roundw
        case rel => exact HW.out
        case measure => simp [intOf]; omega
      · have HNO : Hid (∀ q, ¬ SE st (L.getD i sp0) q) := Lib.hid (fun q => by rw [HPE.out]; exact se_none (by rw [HY.out]; intro h; cases h) (by rw [HY.out]; intro h; cases h) (by rw [HY.out]; intro h; cases h) q)
        have HW := Lib.hid (SsRel.next (k2 := k2) (k3 := k3) (n0 := n0) (i := i) HSW.out HOW.out H2W.out H3W.out HHD.out (Ext.refl al) ⟨[], by simp⟩ hil HCL.out (fun q hq => absurd hq (HNO.out q)) HNN.out (Nat.le_refl _))
        clear HSW HOW H2W H3W H6W H7W HNO HPO
        go_wp2_with fail
        go_roundw
        case rel => exact HW.out
        case measure => simp [intOf]; omega
    · have HE := Lib.hid (HPO.out (.slice Al L.length cl) al L wr HS.out HO.out HHD.out (fun p hp q hq => by
        obtain ⟨j, hj, rfl⟩ := List.mem_iff_getElem.mp hp
        refine HCL.out j (by omega) q ?_
        rw [List.getD_eq_getElem?_getD, List.getElem?_eq_getElem hj]
        exact hq) (fun e => by have := HNN.out.1; rw [e] at this; simp at this) HNN.out.2)
      clear HPO
      go_wp2_with fail
      go_ret
      exact HE.out
end Go.Proofs.Ythadkjgadhbidaa
/-
  The search's other (nfa): the least byte of a set that is no line feed.
-/
namespace Go.Proofs.Ythadkjgadhbidaa
open Go.RowKit
set_option linter.unusedVariables false

def OtherR (s : BSet) (r : Int) : Prop := (r = -1 ∧ ∀ c, c < 256 → c ≠ 10 → hasB s c = false) ∨ ∃ c : Nat, r = c ∧ c < 256 ∧ c ≠ 10 ∧ hasB s c = true
def OtRel (s : BSet) (w1 : World) (v : Value) (wr : World) : Prop := ∃ k : Nat, v = .int .i64 k ∧ k ≤ 256 ∧ Hid (∀ c, c < k → c ≠ 10 → hasB s c = false) ∧ Hid (Old w1 wr)
set_option maxHeartbeats 2000000 in
set_option maxRecDepth 100000 in
theorem sotherC (s : BSet) (w : World) : Calls Try.prog 73 #[setA s] w fun e w' => ∃ r, e = .returned (.int .i64 r) ∧ OtherR s r ∧ Old w w' := by
  have hb := heap_alloc_new w (setC s)
  have ho := (Old.refl w).alloc (setC s)
  have HPO : Hid (∀ r w', OtherR s r → Old w w' → ∃ r', Ending.returned (.int .i64 r) = .returned (.int .i64 r') ∧ OtherR s r' ∧ Old w w') := Lib.hid (fun r w' h1 h2 => ⟨r, rfl, h1, h2⟩)
  unfold setA
  unfold setC at hb ho
  go_enter Try.func73, Try.ntmps73
  go_upto_region 1 with fail
  generalize w.alloc (.cells #[.int .u64 (setW s 0), .int .u64 (setW s 1), .int .u64 (setW s 2), .int .u64 (setW s 3)] 40) = w1 at *
  generalize w.heap.size = kb at *
  have HB : Hid (w1.heap[kb]? = some (setC s)) := Lib.hid hb
  have HO := Lib.hid ho
  clear hb ho
  go_wp2_with fail
  go_loopw [4] (fun s4 wr => OtRel s w1 s4 wr) (fun s4 _ => 256 - (intOf s4).toNat)
  case atStart => exact ⟨0, rfl, by omega, Lib.hid (fun c hc => by omega), Lib.hid (Old.refl _)⟩
  case round =>
    obtain ⟨k, rfl, hk, HN, HR⟩ := hrel
    obtain ⟨c0, c1, c2, c3, _⟩ := setC_cells (HR.out.block HB.out)
    by_cases hlt : k < 256
    · have i1 : (k : Int) < 256 := by omega
      have i0 : (0 : Int) ≤ (k : Int) := by omega
      by_cases h10 : k = 10
      · subst h10
        have HW : Hid (OtRel s w1 (.int .i64 ((11 : Nat) : Int)) wr) := Lib.hid ⟨11, rfl, by omega, Lib.hid (fun c hc hne => HN.out c (by omega) hne), HR⟩
        clear HN
        go_wp2_with fail
        go_roundw
        case rel => exact HW.out
        case measure => simp [intOf]
      · have b10 : ((k : Int) != 10) = true := by simp; omega
        have hw8 : IntKind.u8.wrap (k : Int) = (k : Int) := IntWalk.u8_in _ (by omega)
        have hcn := nhasC s k hlt wr
        unfold setA at hcn
        have HC := Lib.hid hcn
        clear hcn
        cases hh : hasB s k with
        | true =>
          rw [hh] at HC
          have HR2 : Hid (OtherR s (k : Int)) := Lib.hid (Or.inr ⟨k, rfl, hlt, h10, hh⟩)
          clear hh h10 HN
          go_wp2_with fail
          refine (HC.out).mono ?_; rintro e w2 ⟨rfl, hd2⟩
          have HX := Lib.hid (HPO.out _ w2 HR2.out (HO.out.up (HR.out.up hd2)))
          clear hd2 HC HPO HR2
          go_wp2_with fail
          go_ret
          exact HX.out
        | false =>
          rw [hh] at HC
          have HHH := Lib.hid hh
          clear hh
          go_wp2_with fail
          refine (HC.out).mono ?_; rintro e w2 ⟨rfl, hd2⟩
          have HW : Hid (OtRel s w1 (.int .i64 ((k + 1 : Nat) : Int)) w2) := Lib.hid ⟨k + 1, rfl, by omega, Lib.hid (fun c hc hne => by
            by_cases e : c = k
            · subst e; exact HHH.out
            · exact HN.out c (by omega) hne), Lib.hid (HR.out.up hd2)⟩
          clear hd2 HC HN
          go_wp2_with fail
          go_roundw
          case rel => exact HW.out
          case measure => simp [intOf]; omega
    · obtain rfl : k = 256 := by omega
      have HX := Lib.hid (HPO.out (-1) wr (Or.inl ⟨rfl, HN.out⟩) (HO.out.up HR.out))
      clear HPO HN
      go_wp2_with fail
      go_ret
      exact HX.out
end Go.Proofs.Ythadkjgadhbidaa
/-
  The search's step (nfa).
-/
namespace Go.Proofs.Ythadkjgadhbidaa
open Go.RowKit
set_option linter.unusedVariables false

theorem reach_len (al : List (Sp × Og)) (L : List Sp) (q : Sp) (o : Og) : (reachP al L q o).1.length + L.length = al.length + (reachP al L q o).2.length := by
  unfold reachP
  split
  · rfl
  · simp; omega
def SStep (w w0 : World) (B g b : Nat) (st : List Nd) (A : Option Addr) (c d n0 : Nat) (L : List Sp) (e : Ending) (w' : World) : Prop :=
  ∃ lv' al N, e = .returned lv' ∧ SK w0 w' B g b st A c al ∧ Own w' B 90 3 lv' N.length (spsV N) ∧ Nxt st d L L.length al N ∧ al.length = n0 + N.length
def StRel (w w0 : World) (B g b : Nat) (st : List Nd) (A : Option Addr) (c d n0 : Nat) (L : List Sp) (nv v : Value) (wr : World) : Prop :=
  ∃ (k : Nat) (al : List (Sp × Og)) (N : List Sp), v = .int .i64 k ∧ k ≤ L.length ∧ Hid (SK w0 wr B g b st A c al) ∧ Hid (Own wr B 90 3 nv N.length (spsV N)) ∧ Hid (MKept w wr b b (.slice none 0 0) nv) ∧ Hid (Nxt st d L k al N) ∧ Hid (al.length = n0 + N.length)
/-- Behind the step over a line feed. -/
def StMid (w w0 : World) (B g b k7 k8 : Nat) (st : List Nd) (A : Option Addr) (c d n0 : Nat) (L : List Sp) (k : Nat) (p : Sp) (y : Nd) (nv : Value) (wr : World) : Prop :=
  ∃ (al : List (Sp × Og)) (N : List Sp), Hid (SK w0 wr B g b st A c al) ∧ Hid (Own wr B 90 3 nv N.length (spsV N)) ∧ Hid (MKept w wr b b (.slice none 0 0) nv) ∧ Hid (Nxt st d L k al N) ∧ Hid (al.length = n0 + N.length) ∧
    Hid (wr.heap[k7]? = some (.cells (spCells p).toArray 90 (0, 0))) ∧ Hid (StAt wr k8 y) ∧ Hid (hasB y.set 10 = true → (lk al ⟨y.left.toNat, true, false⟩).isSome = true)
theorem sb_kind {st : List Nd} {p q : Sp} {y : Nd} {c : Nat} (hy : nd st p.s = y) (hb : SB st p c q) : y.kind = 1 ∧ hasB y.set c = true ∧ c < 256 ∧ ((c = 10 ∧ q = ⟨y.left.toNat, true, false⟩) ∨ (c ≠ 10 ∧ p.e = false ∧ q = ⟨y.left.toNat, false, false⟩)) := by
  subst hy; exact hb
theorem sb_feed {st : List Nd} {p : Sp} {y : Nd} (hy : nd st p.s = y) (hk : y.kind = 1) (h : hasB y.set 10 = true) : SB st p 10 ⟨y.left.toNat, true, false⟩ := by
  subst hy; exact ⟨hk, h, by decide, Or.inl ⟨rfl, rfl⟩⟩
theorem sb_other {st : List Nd} {p : Sp} {y : Nd} {c : Nat} (hy : nd st p.s = y) (hk : y.kind = 1) (h : hasB y.set c = true) (hc : c < 256) (hne : c ≠ 10) (he : p.e = false) : SB st p c ⟨y.left.toNat, false, false⟩ := by
  subst hy; exact ⟨hk, h, hc, Or.inr ⟨hne, he, rfl⟩⟩
set_option maxHeartbeats 8000000 in
set_option maxRecDepth 100000 in
theorem sstepC (w0 : World) (B g b : Nat) (st : List Nd) (A : Option Addr) (c d : Nat) (lv : Value) (al : List (Sp × Og)) (L : List Sp) (w : World) (h : SK w0 w B g b st A c al) (hl : Own w B 90 3 lv L.length (spsV L)) (hv : svalid st = true) (hh : Nxt st d L 0 al []) (hrb : ∀ p ∈ L, RBlt st (d + 1) p) (hL : L.length ≤ 100000) :
    Calls Try.prog 49 #[.pointer (some ⟨g, 0, none⟩), lv] w (SStep w w0 B g b st A c d al.length L) := by
  have HV := Lib.hid hv
  have HSZ := Lib.hid (svalid_ok hv).2.1
  obtain ⟨Al, cl, rfl, _, _, _⟩ := hl.shape
  have HOL := Lib.hid hl
  have HRB := Lib.hid hrb
  have HLB : Hid (b < B) := Lib.hid h.lb
  have HI : Hid (StRel w w0 B g b st A c d al.length L (.slice none 0 0) (.int .i64 0) w) := Lib.hid ⟨0, al, [], rfl, Nat.zero_le _, Lib.hid h, Lib.hid (Own.nil_ _ _ _ _), Lib.hid (MKept.refl _ _ _ _), Lib.hid hh, Lib.hid (by simp)⟩
  have HPO : Hid (∀ lv' al' N' w', SK w0 w' B g b st A c al' → Own w' B 90 3 lv' N'.length (spsV N') → Nxt st d L L.length al' N' → al'.length = al.length + N'.length → SStep w w0 B g b st A c d al.length L (.returned lv') w') :=
    Lib.hid (fun lv' al' N' w' a1 a2 a3 a4 => ⟨lv', al', N', rfl, a1, a2, a3, a4⟩)
  generalize al.length = n0 at *
  clear h hl hh hv hrb al
  go_enter Try.func49, Try.ntmps49
  go_wp2_with fail
  go_loopw [5, 12] (fun s5 s12 wr => StRel w w0 B g b st A c d n0 L s5 s12 wr) (fun _ s12 _ => L.length - (intOf s12).toNat)
  case atStart => exact HI.out
  case round =>
    clear HI
    obtain ⟨k, al, N, rfl, hk, HS, HO, HK, HN, HNN⟩ := hrel
    have hfew := HN.out.srch.few
    have hk5 := HN.out.srch.k5
    have hsz := HSZ.out
    by_cases hkl : k < L.length
    · have i1 : (k : Int) < (L.length : Int) := by omega
      have i0 : (0 : Int) ≤ (k : Int) := by omega
      obtain ⟨ga, ca, hvv, hBa, hla, _, _⟩ := HOL.out.form (by omega)
      injection hvv with hA _ hc
      subst hA
      subst hc
      obtain ⟨An, cn, rfl, _, _, _⟩ := HO.out.shape
      have hga : wr.heap[ga]? = w.heap[ga]? := HK.out.far ga hla (by have := HLB.out; omega) (by have := HLB.out; omega) (by simp [Value.ownBlock])
      have q0 := (HOL.out.cellAt ((spsV_get L k hkl 0 (by omega)).trans rfl)).1
      have q1 := (HOL.out.cellAt ((spsV_get L k hkl 1 (by omega)).trans rfl)).1
      have q2 := (HOL.out.cellAt ((spsV_get L k hkl 2 (by omega)).trans rfl)).1
      rw [Nat.add_zero] at q0
      rw [← World.cell?_of_block (a := ⟨ga, k * 3, none⟩) hga] at q0
      rw [← World.cell?_of_block (a := ⟨ga, k * 3 + 1, none⟩) hga] at q1
      rw [← World.cell?_of_block (a := ⟨ga, k * 3 + 2, none⟩) hga] at q2
      have hin : L.getD k sp0 ∈ L := by rw [List.getD_eq_getElem?_getD, List.getElem?_eq_getElem hkl]; exact List.getElem_mem hkl
      obtain ⟨p, hpe⟩ : ∃ p, L.getD k sp0 = p := ⟨_, rfl⟩
      rw [hpe] at q0 q1 q2 hin
      have HPE := Lib.hid hpe
      have HRP := Lib.hid (HRB.out p hin)
      have hps : p.s < st.length := by obtain ⟨t, ht, _⟩ := HRB.out p hin; exact SR.lt HV.out ht
      clear hpe hin hga
      obtain ⟨ps, pb, pe⟩ := p
      simp only at q0 q1 q2 hps
      have hb7 := heap_alloc_new wr (.cells #[.int .i64 (ps : Int), .bool pb, .bool pe] 90)
      have ho7 := (Old.refl wr).alloc (.cells #[.int .i64 (ps : Int), .bool pb, .bool pe] 90)
      have HN7 : Hid (wr.heap.size ≠ b ∧ some wr.heap.size ≠ (Value.slice An N.length cn).ownBlock) := Lib.hid ⟨by have := HS.out.lb; have := HS.out.lB; omega, fun e => by have := (World.ownsRow.lt HO.out _ e.symm).2; omega⟩
      go_upto_region 5 with fail
      generalize wr.alloc (.cells #[.int .i64 (ps : Int), .bool pb, .bool pe] 90) = W7 at *
      have HS7 := Lib.hid (HS.out.up ho7)
      have HO7 := Lib.hid (HO.out.up ho7)
      have HK7 := Lib.hid (HK.out.trans (MKept.of_old ho7 b b _))
      have H77 := Lib.hid hb7
      have HW7 : Hid (wr.heap.size < W7.heap.size) := Lib.hid (lt_of_block hb7)
      generalize wr.heap.size = k7 at *
      clear HS HO HK q0 q1 q2 hb7 ho7
      have hok := (svalid_ok HV.out).2.2 ps hps
      have hx : st[ps]? = some (nd st ps) := by unfold nd; rw [List.getD_eq_getElem?_getD, List.getElem?_eq_getElem hps]; rfl
      obtain ⟨bs, off, rfl, _, hcl⟩ := (HS7.out.nodes.up HS7.out.old).at_ (by rw [ndsV_length]; omega)
      have hg := ndsV_get st ps _ hx
      have c0 := hcl _ _ (hg 0 (by omega))
      have c1 := hcl _ _ (hg 1 (by omega))
      have c2 := hcl _ _ (hg 2 (by omega))
      have c3 := hcl _ _ (hg 3 (by omega))
      have c4 := hcl _ _ (hg 4 (by omega))
      have c5 := hcl _ _ (hg 5 (by omega))
      have c6 := hcl _ _ (hg 6 (by omega))
      rw [← Nat.add_assoc] at c0 c1 c2 c3 c4 c5 c6
      rw [Nat.add_zero] at c0
      have s1 : (0 : Int) ≤ (ps : Int) := by omega
      have s2 : (ps : Int) < (st.length : Int) := by omega
      obtain ⟨y, hy⟩ : ∃ y, nd st ps = y := ⟨_, rfl⟩
      rw [hy] at hok c0 c1 c2 c3 c4 c5 c6
      have HY := Lib.hid hy
      clear hx hcl hg hy
      obtain ⟨kd, lf, rt, se⟩ := y
      replace c0 : W7.cell? ⟨bs, off + ps * 7, none⟩ = some (.int .i64 kd) := c0
      replace c1 : W7.cell? ⟨bs, off + ps * 7 + 1, none⟩ = some (.int .i64 lf) := c1
      replace c2 : W7.cell? ⟨bs, off + ps * 7 + 2, none⟩ = some (.int .i64 rt) := c2
      replace c3 : W7.cell? ⟨bs, off + ps * 7 + 3, none⟩ = some (.int .u64 (setW se 0)) := c3
      replace c4 : W7.cell? ⟨bs, off + ps * 7 + 4, none⟩ = some (.int .u64 (setW se 1)) := c4
      replace c5 : W7.cell? ⟨bs, off + ps * 7 + 5, none⟩ = some (.int .u64 (setW se 2)) := c5
      replace c6 : W7.cell? ⟨bs, off + ps * 7 + 6, none⟩ = some (.int .u64 (setW se 3)) := c6
      have HALL : Hid (∀ w', Old W7 w' → Old W7 w' ∧ w'.cell? ⟨g, 0, none⟩ = some (.slice (some ⟨bs, off, none⟩) st.length c) ∧ w'.cell? ⟨k7, 0, none⟩ = some (.int .i64 (ps : Int)) ∧
          w'.cell? ⟨bs, off + ps * 7, none⟩ = some (.int .i64 kd) ∧ w'.cell? ⟨bs, off + ps * 7 + 1, none⟩ = some (.int .i64 lf) ∧ w'.cell? ⟨bs, off + ps * 7 + 2, none⟩ = some (.int .i64 rt) ∧ w'.cell? ⟨bs, off + ps * 7 + 3, none⟩ = some (.int .u64 (setW se 0)) ∧ w'.cell? ⟨bs, off + ps * 7 + 4, none⟩ = some (.int .u64 (setW se 1)) ∧ w'.cell? ⟨bs, off + ps * 7 + 5, none⟩ = some (.int .u64 (setW se 2)) ∧ w'.cell? ⟨bs, off + ps * 7 + 6, none⟩ = some (.int .u64 (setW se 3))) := Lib.hid (fun w' ho =>
        ⟨ho, (HS7.out.up ho).cells.1, by rw [cell_of_row w' k7 0 _ _ _ (ho.block H77.out)]; rfl, ho.cell c0, ho.cell c1, ho.cell c2, ho.cell c3, ho.cell c4, ho.cell c5, ho.cell c6⟩)
      clear c0 c1 c2 c3 c4 c5 c6
      go_region_held3 (fun w' => Old W7 w' ∧ w'.cell? ⟨g, 0, none⟩ = some (.slice (some ⟨bs, off, none⟩) st.length c) ∧ w'.cell? ⟨k7, 0, none⟩ = some (.int .i64 (ps : Int)) ∧
          w'.cell? ⟨bs, off + ps * 7, none⟩ = some (.int .i64 kd) ∧ w'.cell? ⟨bs, off + ps * 7 + 1, none⟩ = some (.int .i64 lf) ∧ w'.cell? ⟨bs, off + ps * 7 + 2, none⟩ = some (.int .i64 rt) ∧ w'.cell? ⟨bs, off + ps * 7 + 3, none⟩ = some (.int .u64 (setW se 0)) ∧ w'.cell? ⟨bs, off + ps * 7 + 4, none⟩ = some (.int .u64 (setW se 1)) ∧ w'.cell? ⟨bs, off + ps * 7 + 5, none⟩ = some (.int .u64 (setW se 2)) ∧ w'.cell? ⟨bs, off + ps * 7 + 6, none⟩ = some (.int .u64 (setW se 3))) ((refine HALL.out _ ?_; first | exact (Old.refl _).drew | exact ((Old.refl _).alloc _).drew)) (fail)
      have hk8 : StAt (W7.alloc (.cells (ndCells ⟨kd, lf, rt, se⟩).toArray 42)).drew W7.heap.size ⟨kd, lf, rt, se⟩ := heap_alloc_new W7 _
      have hoW : Old W7 (W7.alloc (.cells (ndCells ⟨kd, lf, rt, se⟩).toArray 42)).drew := ((Old.refl W7).alloc _).drew
      have hWe : (W7.alloc (.cells #[.int .i64 kd, .int .i64 lf, .int .i64 rt, .int .u64 (setW se 0), .int .u64 (setW se 1), .int .u64 (setW se 2), .int .u64 (setW se 3)] 42)).drew = (W7.alloc (.cells (ndCells ⟨kd, lf, rt, se⟩).toArray 42)).drew := rfl
      rw [hWe]
      have HSW := Lib.hid (HS7.out.up hoW)
      have HOW := Lib.hid (HO7.out.up hoW)
      have HKW := Lib.hid (HK7.out.trans (MKept.of_old hoW b b _))
      have H7W := Lib.hid (hoW.block H77.out)
      have HN8 : Hid (W7.heap.size ≠ b) := Lib.hid (by have := HS7.out.lb; have := HS7.out.lB; omega)
      generalize (W7.alloc (.cells (ndCells ⟨kd, lf, rt, se⟩).toArray 42)).drew = W at *
      generalize W7.heap.size = k8 at *
      have H8W := Lib.hid hk8
      obtain ⟨d0, d1, d2, d3, d4, d5, d6⟩ := hk8.cells
      simp only at d0 d1 d2 d3 d4 d5 d6
      clear hWe hoW HS7 HO7 HK7 H77 hk8 s1 s2 HALL HW7
      obtain ⟨o1, o2, o3, o4⟩ := hok
      simp only at o1 o2 o3 o4
      by_cases hkd : kd = 1
      · subst hkd
        obtain ⟨a, rfl⟩ := Int.eq_ofNat_of_zero_le (o3 (by decide)).1
        clear o1 o2 o3 o4
        have hcn := nhasC se 10 (by decide) W
        unfold setA at hcn
        have HC := Lib.hid hcn
        clear hcn
        go_wp2_with fail
        refine (HC.out).mono ?_; rintro e W2 ⟨rfl, hd2⟩
        have HSV := Lib.hid (HSW.out.up hd2)
        have HOV := Lib.hid (HOW.out.up hd2)
        have HKV := Lib.hid (HKW.out.trans (MKept.of_old hd2 b b _))
        have H7V := Lib.hid (hd2.block H7W.out)
        have H8V := Lib.hid (show StAt W2 k8 _ from hd2.block H8W.out)
        clear hd2 HC HSW HOW HKW H7W H8W d0 d1 d2 d3 d4 d5 d6
        go_upto_if 29 with fail
        go_cut [5] (fun v5 wx => StMid w w0 B g b k7 k8 st (some ⟨bs, off, none⟩) c d n0 L k ⟨ps, pb, pe⟩ ⟨1, (a : Int), rt, se⟩ v5 wx)
        case first =>
          clear HPO HPE
          cases hbb : hasB se 10 with
          | false =>
            go_wp2_with fail
            go_meet
            exact ⟨al, N, HSV, HOV, HKV, HN, HNN, H7V, H8V, Lib.hid (fun h => by rw [hbb] at h; cases h)⟩
          | true =>
            have HSB : Hid (SB st ⟨ps, pb, pe⟩ 10 ⟨a, true, false⟩) := Lib.hid (sb_feed (p := ⟨ps, pb, pe⟩) HY.out rfl hbb)
            have HF := Lib.hid (HN.out.put HV.out HRP.out HSB.out)
            have hc := sreachC w0 B g b st _ c _ al N W2 HSV.out HOV.out (by omega) (by omega) ⟨a, true, false⟩ (by have := HF.out.1; simp only at this; show a < 1000000; omega) ⟨⟨ps, pb, pe⟩, false, true, 10⟩ (show (10 : Nat) < 256 by decide)
            have hlen := reach_len al N ⟨a, true, false⟩ ⟨⟨ps, pb, pe⟩, false, true, 10⟩
            unfold spv orv at hc
            simp only at hc
            rw [show ((10 : Nat) : Int) = 10 from rfl] at hc
            have HC := Lib.hid hc
            have HLN := Lib.hid hlen
            obtain ⟨p0, p1, _⟩ := H8V.out.cells
            simp only at p0 p1
            have e0 : W2.cell? ⟨k7, 0, none⟩ = some (.int .i64 (ps : Int)) := by rw [cell_of_row W2 k7 0 _ _ _ H7V.out]; rfl
            have e1 : W2.cell? ⟨k7, 1, none⟩ = some (.bool pb) := by rw [cell_of_row W2 k7 1 _ _ _ H7V.out]; rfl
            have e2 : W2.cell? ⟨k7, 2, none⟩ = some (.bool pe) := by rw [cell_of_row W2 k7 2 _ _ _ H7V.out]; rfl
            clear hc hlen hbb
            generalize reachP al N ⟨a, true, false⟩ ⟨⟨ps, pb, pe⟩, false, true, 10⟩ = r at *
            obtain ⟨al2, N2⟩ := r
            simp only at HC HF HLN
            go_wp2_with fail
            refine (HC.out).mono ?_; rintro e w3 ⟨lv3, rfl, hs3, ho3, hk3⟩
            have HM : Hid (StMid w w0 B g b k7 k8 st (some ⟨bs, off, none⟩) c d n0 L k ⟨ps, pb, pe⟩ ⟨1, (a : Int), rt, se⟩ lv3 w3) := Lib.hid
              ⟨al2, N2, Lib.hid hs3, Lib.hid ho3, Lib.hid (HKV.out.trans hk3), Lib.hid HF.out.2.1, Lib.hid (by have := HNN.out; have := HLN.out; omega), Lib.hid (mkept_blk hk3 H7V.out HN7.out.1 HN7.out.1 HN7.out.2), Lib.hid (mkept_blk hk3 H8V.out HN8.out HN8.out (own_kind HOV.out H8V.out (by decide))), Lib.hid (fun _ => HF.out.2.2.1)⟩
            obtain ⟨A3, c3, rfl, _, _, _⟩ := ho3.shape
            clear hs3 ho3 hk3 HC HF HLN p0 p1 e0 e1 e2 HSV HOV HKV H7V H8V HN HNN
            go_wp2_with fail
            go_meet
            exact HM.out
        case rest =>
          clear HSV HOV HKV H7V H8V HN HNN hfew hk5
          obtain ⟨al2, N2, HSV, HOV, HKV, HN, HNN, H7V, H8V, H10⟩ := hcut
          obtain ⟨A2, c2, rfl, _, _, _⟩ := HOV.out.shape
          have hfew := HN.out.srch.few
          have hk5 := HN.out.srch.k5
          obtain ⟨p0, p1, _, p3, p4, p5, p6⟩ := H8V.out.cells
          simp only at p0 p1 p3 p4 p5 p6
          have hco := sotherC se wc
          unfold setA at hco
          have HCO := Lib.hid hco
          clear hco
          go_wp2_with fail
          refine (HCO.out).mono ?_; rintro e w3 ⟨r, rfl, hor, hd3⟩
          have HS3 := Lib.hid (HSV.out.up hd3)
          have HO3 := Lib.hid (HOV.out.up hd3)
          have HK3 := Lib.hid (HKV.out.trans (MKept.of_old hd3 b b _))
          have H73 := Lib.hid (hd3.block H7V.out)
          have H83 := Lib.hid (show StAt w3 k8 _ from hd3.block H8V.out)
          clear hd3 HCO HSV HOV HKV H7V H8V p0 p1 p3 p4 p5 p6
          have e0 : w3.cell? ⟨k7, 0, none⟩ = some (.int .i64 (ps : Int)) := by rw [cell_of_row w3 k7 0 _ _ _ H73.out]; rfl
          have e1 : w3.cell? ⟨k7, 1, none⟩ = some (.bool pb) := by rw [cell_of_row w3 k7 1 _ _ _ H73.out]; rfl
          have e2 : w3.cell? ⟨k7, 2, none⟩ = some (.bool pe) := by rw [cell_of_row w3 k7 2 _ _ _ H73.out]; rfl
          rcases hor with ⟨rfl, hno⟩ | ⟨ch, rfl, hch, hne, hhas⟩
          · have HW : Hid (StRel w w0 B g b st (some ⟨bs, off, none⟩) c d n0 L (.slice A2 N2.length c2) (.int .i64 ((k + 1 : Nat) : Int)) w3) := Lib.hid ⟨k + 1, al2, N2, rfl, hkl, HS3, HO3, HK3, Lib.hid (HN.out.next (fun cc q hs => by
              rw [HPE.out] at hs
              obtain ⟨_, h2, h3, h4⟩ := sb_kind HY.out hs
              rcases h4 with ⟨rfl, rfl⟩ | ⟨h5, _, _⟩
              · exact H10.out h2
              · have := hno cc h3 h5; rw [this] at h2; cases h2)), HNN⟩
            clear HS3 HO3 HK3 H73 H83 hno HN
            go_wp2_with fail
            go_roundw
            case rel => exact HW.out
            case measure => simp [intOf]; omega
          · cases pe with
            | true =>
              have HW : Hid (StRel w w0 B g b st (some ⟨bs, off, none⟩) c d n0 L (.slice A2 N2.length c2) (.int .i64 ((k + 1 : Nat) : Int)) w3) := Lib.hid ⟨k + 1, al2, N2, rfl, hkl, HS3, HO3, HK3, Lib.hid (HN.out.next (fun cc q hs => by
                rw [HPE.out] at hs
                obtain ⟨_, h2, h3, h4⟩ := sb_kind HY.out hs
                rcases h4 with ⟨rfl, rfl⟩ | ⟨_, h6, _⟩
                · exact H10.out h2
                · cases h6)), HNN⟩
              have hc0 : (0 : Int) ≤ (ch : Int) := by omega
              clear HS3 HO3 HK3 H73 H83 hhas HN
              go_wp2_with fail
              go_roundw
              case rel => exact HW.out
              case measure => simp [intOf]; omega
            | false =>
              have hw8 : IntKind.u8.wrap (ch : Int) = (ch : Int) := IntWalk.u8_in _ (by omega)
              have hc0 : (0 : Int) ≤ (ch : Int) := by omega
              have HSB : Hid (SB st ⟨ps, pb, false⟩ ch ⟨a, false, false⟩) := Lib.hid (sb_other (p := ⟨ps, pb, false⟩) HY.out rfl hhas hch hne rfl)
              have HF := Lib.hid (HN.out.put HV.out HRP.out HSB.out)
              have hc := sreachC w0 B g b st _ c _ al2 N2 w3 HS3.out HO3.out (by omega) (by omega) ⟨a, false, false⟩ (by have := HF.out.1; simp only at this; show a < 1000000; omega) ⟨⟨ps, pb, false⟩, false, true, ch⟩ hch
              have hlen := reach_len al2 N2 ⟨a, false, false⟩ ⟨⟨ps, pb, false⟩, false, true, ch⟩
              unfold spv orv at hc
              simp only at hc
              have HC := Lib.hid hc
              have HLN := Lib.hid hlen
              obtain ⟨p0, p1, _⟩ := H83.out.cells
              simp only at p0 p1
              clear hc hlen hhas hne
              generalize reachP al2 N2 ⟨a, false, false⟩ ⟨⟨ps, pb, false⟩, false, true, ch⟩ = r at *
              obtain ⟨al3, N3⟩ := r
              simp only at HC HF HLN
              go_wp2_with fail
              refine (HC.out).mono ?_; rintro e w4 ⟨lv4, rfl, hs4, ho4, hk4⟩
              have HW : Hid (StRel w w0 B g b st (some ⟨bs, off, none⟩) c d n0 L lv4 (.int .i64 ((k + 1 : Nat) : Int)) w4) := Lib.hid ⟨k + 1, al3, N3, rfl, hkl, Lib.hid hs4, Lib.hid ho4, Lib.hid (HK3.out.trans hk4), Lib.hid (HF.out.2.1.next (fun cc q hs => by
                rw [HPE.out] at hs
                obtain ⟨_, h2, h3, h4⟩ := sb_kind HY.out hs
                rcases h4 with ⟨rfl, rfl⟩ | ⟨_, _, rfl⟩
                · exact HF.out.2.2.2.some (H10.out h2)
                · exact HF.out.2.2.1)), Lib.hid (by have := HNN.out; have := HLN.out; omega)⟩
              obtain ⟨A4, c4, rfl, _, _, _⟩ := ho4.shape
              clear hs4 ho4 hk4 HC HF HLN HS3 HO3 HK3 H73 H83 HN HNN p0 p1 e0 e1 e2
              go_wp2_with fail
              go_roundw
              case rel => exact HW.out
              case measure => simp [intOf]; omega
      · have hb1 : (kd != 1) = true := by simpa using hkd
        have HW : Hid (StRel w w0 B g b st (some ⟨bs, off, none⟩) c d n0 L (.slice An N.length cn) (.int .i64 ((k + 1 : Nat) : Int)) W) := Lib.hid ⟨k + 1, al, N, rfl, hkl, HSW, HOW, HKW, Lib.hid (HN.out.next (fun c q hs => by rw [HPE.out] at hs; exact absurd (sb_kind HY.out hs).1 hkd)), HNN⟩
        clear HSW HOW HKW H7W H8W hkd
        go_wp2_with fail
        go_roundw
        case rel => exact HW.out
        case measure => simp [intOf]; omega
    · obtain rfl : k = L.length := by omega
      obtain ⟨An, cn, rfl, _, _, _⟩ := HO.out.shape
      have HE := Lib.hid (HPO.out _ al N wr HS.out HO.out HN.out HNN.out)
      clear HPO HS HO HK HN
      go_wp2_with fail
      go_ret
      exact HE.out
end Go.Proofs.Ythadkjgadhbidaa
/-
  The reference's automaton of a pattern, on plain lists: it is valid, small, and wired as the nodes say. No program in sight.
-/
namespace Go.Proofs.Ythadkjgadhbidaa
open Go.RowKit
set_option linter.unusedVariables false

def rbF (l : List Nd) : Nat → Nat → Nat → List Nd
  | 0, _, _ => []
  | f + 1, n, at_ =>
    if (nd l n).kind = 2 then [⟨1, ((at_ + 1 : Nat) : Int), 0, (nd l n).set⟩]
    else if (nd l n).kind = 8 then [⟨3, ((at_ + 1 : Nat) : Int), 0, 0⟩]
    else if (nd l n).kind = 9 then [⟨4, ((at_ + 1 : Nat) : Int), 0, 0⟩]
    else if (nd l n).kind = 1 then [⟨2, ((at_ + 1 : Nat) : Int), ((at_ + 1 : Nat) : Int), 0⟩]
    else if (nd l n).kind = 3 then rbF l f (nd l n).left.toNat at_ ++ rbF l f (nd l n).right.toNat (at_ + (rbF l f (nd l n).left.toNat at_).length)
    else if (nd l n).kind = 4 then
      let a := rbF l f (nd l n).left.toNat (at_ + 1)
      let b := rbF l f (nd l n).right.toNat (at_ + 2 + a.length)
      [⟨2, ((at_ + 1 : Nat) : Int), ((at_ + 2 + a.length : Nat) : Int), 0⟩] ++ a ++ [⟨2, ((at_ + 2 + a.length + b.length : Nat) : Int), ((at_ + 2 + a.length + b.length : Nat) : Int), 0⟩] ++ b
    else if (nd l n).kind = 5 then
      let a := rbF l f (nd l n).left.toNat (at_ + 1)
      [⟨2, ((at_ + 1 : Nat) : Int), ((at_ + 2 + a.length : Nat) : Int), 0⟩] ++ a ++ [⟨2, (at_ : Int), (at_ : Int), 0⟩]
    else if (nd l n).kind = 6 then
      let a := rbF l f (nd l n).left.toNat at_
      a ++ [⟨2, (at_ : Int), ((at_ + 1 + a.length : Nat) : Int), 0⟩]
    else
      let a := rbF l f (nd l n).left.toNat (at_ + 1)
      [⟨2, ((at_ + 1 : Nat) : Int), ((at_ + 1 + a.length : Nat) : Int), 0⟩] ++ a
/-- The list lies in the states from a place on. -/
def Emb (st : List Nd) (at_ : Nat) (r : List Nd) : Prop := ∀ i, i < r.length → nd st (at_ + i) = nd r i
theorem Emb.left {st : List Nd} {at_ : Nat} {r s : List Nd} (h : Emb st at_ (r ++ s)) : Emb st at_ r := fun i hi => by
  rw [h i (by rw [List.length_append]; omega), nd_append_left hi]
theorem Emb.right {st : List Nd} {at_ : Nat} {r s : List Nd} (h : Emb st at_ (r ++ s)) : Emb st (at_ + r.length) s := fun i hi => by
  rw [Nat.add_assoc, h (r.length + i) (by rw [List.length_append]; omega)]
  unfold nd
  rw [List.getD_eq_getElem?_getD, List.getD_eq_getElem?_getD, List.getElem?_append_right (by omega), show r.length + i - r.length = i by omega]
theorem Emb.one {st : List Nd} {at_ : Nat} {y : Nd} (h : Emb st at_ [y]) : nd st at_ = y := h 0 (by simp)
structure RMade (l : List Nd) (n at_ w : Nat) (r : List Nd) : Prop where
  few : r.length ≤ 2 * w
  frag : ∀ st, Emb st at_ r → Frag l (nd st) (fun _ => True) n at_ (at_ + r.length)
  ok : ∀ B, at_ + r.length < B → ∀ y ∈ r, okSt B y
  sets : (∀ y ∈ l, setOk y.set) → ∀ y ∈ r, setOk y.set
theorem okSt_two {B a b : Nat} (ha : a < B) (hb : b < B) : okSt B ⟨2, (a : Int), (b : Int), 0⟩ := okSt_mk (by decide) (by decide) ha (fun _ => ⟨by omega, by omega⟩)
theorem rbF_made {l : List Nd} {a n : Nat} (h : Sub l a n) : ∀ (f at_ : Nat), n < f → RMade l n at_ (n + 1 - a) (rbF l f n at_) := by
  induction h with
  | leaf n h hk h1 h2 h3 =>
    intro f at_ hf
    obtain ⟨f, rfl⟩ : ∃ g, f = g + 1 := ⟨f - 1, by omega⟩
    rw [show n + 1 - n = 1 by omega, rbF]
    rcases hk with hk | hk | hk | hk
    · rw [if_neg (by omega), if_neg (by omega), if_neg (by omega), if_pos hk]
      refine ⟨by simp, fun st he => .empty n _ _ hk (Or.inr ⟨trivial, ?_⟩), fun B hB y hy => ?_, fun _ y hy => ?_⟩
      · rw [he.one]; exact ⟨rfl, rfl, rfl⟩
      · simp at hy hB; subst hy; exact okSt_two (by omega) (by omega)
      · simp at hy; subst hy; exact setOk_zero
    · rw [if_pos hk]
      refine ⟨by simp, fun st he => .set n _ _ hk trivial (by rw [he.one]) (by rw [he.one]; rfl) (by rw [he.one]), fun B hB y hy => ?_, fun hl y hy => ?_⟩
      · simp at hy hB; subst hy; exact okSt_mk (by decide) (by decide) (by omega) (fun e => by simp at e)
      · simp at hy; subst hy; exact (show setOk (nd l n).set from hl _ (nd_mem h))
    · rw [if_neg (by omega), if_pos hk]
      refine ⟨by simp, fun st he => .bol n _ _ hk trivial (by rw [he.one]) (by rw [he.one]; rfl), fun B hB y hy => ?_, fun _ y hy => ?_⟩
      · simp at hy hB; subst hy; exact okSt_mk (by decide) (by decide) (by omega) (fun e => by simp at e)
      · simp at hy; subst hy; exact setOk_zero
    · rw [if_neg (by omega), if_neg (by omega), if_pos hk]
      refine ⟨by simp, fun st he => .eol n _ _ hk trivial (by rw [he.one]) (by rw [he.one]; rfl), fun B hB y hy => ?_, fun _ y hy => ?_⟩
      · simp at hy hB; subst hy; exact okSt_mk (by decide) (by decide) (by omega) (fun e => by simp at e)
      · simp at hy; subst hy; exact setOk_zero
  | one a n h hk h1 h2 h3 hs ih =>
    intro f at_ hf
    obtain ⟨f, rfl⟩ : ∃ g, f = g + 1 := ⟨f - 1, by omega⟩
    have hle := hs.le
    have hL : (nd l (n + 1)).left.toNat = n := by omega
    rw [rbF, if_neg (by omega), if_neg (by omega), if_neg (by omega), if_neg (by omega), if_neg (by omega), if_neg (by omega), hL]
    have hw : n + 1 + 1 - a = (n + 1 - a) + 1 := by omega
    rw [hw]
    rcases hk with hk | hk | hk
    · rw [if_pos hk]
      have m := ih f (at_ + 1) (by omega)
      generalize rbF l f n (at_ + 1) = r at *
      simp only
      refine ⟨by have := m.few; simp; omega, fun st he => ?_, fun B hB y hy => ?_, fun hl y hy => ?_⟩
      · have e1 := he.left.left.one
        have e2 : Emb st (at_ + 1) r := he.left.right
        have e3 := he.right.one
        rw [show (([⟨2, ((at_ + 1 : Nat) : Int), ((at_ + 2 + r.length : Nat) : Int), 0⟩] : List Nd) ++ r).length = 1 + r.length by simp; omega] at e3
        rw [show at_ + (([⟨2, ((at_ + 1 : Nat) : Int), ((at_ + 2 + r.length : Nat) : Int), 0⟩] : List Nd) ++ r ++ [(⟨2, (at_ : Int), (at_ : Int), 0⟩ : Nd)]).length = at_ + 2 + r.length by simp; omega]
        refine .star (n + 1) n at_ (at_ + 1) (at_ + (1 + r.length)) _ hk h1 trivial (by rw [e1]) (by rw [e1]) (by rw [e1]) ?_ (Or.inr ⟨trivial, by rw [e3], by rw [e3], by rw [e3]⟩)
        have := m.frag st e2
        rwa [Nat.add_assoc] at this
      · simp only [List.length_append, List.length_cons, List.length_nil] at hB
        simp only [List.mem_append, List.mem_singleton] at hy
        rcases hy with (hy | hy) | hy
        · subst hy; exact okSt_two (by omega) (by omega)
        · exact m.ok B (by omega) y hy
        · subst hy; exact okSt_two (by omega) (by omega)
      · simp only [List.mem_append, List.mem_singleton] at hy
        rcases hy with (hy | hy) | hy
        · subst hy; exact setOk_zero
        · exact m.sets hl y hy
        · subst hy; exact setOk_zero
    · rw [if_neg (by omega), if_pos hk]
      have m := ih f at_ (by omega)
      generalize rbF l f n at_ = r at *
      simp only
      refine ⟨by have := m.few; simp; omega, fun st he => ?_, fun B hB y hy => ?_, fun hl y hy => ?_⟩
      · have e2 := he.left
        have e3 := he.right.one
        rw [show at_ + (r ++ [(⟨2, (at_ : Int), ((at_ + 1 + r.length : Nat) : Int), 0⟩ : Nd)]).length = at_ + 1 + r.length by simp; omega]
        exact .plus (n + 1) n at_ (at_ + r.length) _ hk h1 (m.frag st e2) trivial (by rw [e3]) (by rw [e3]) (by rw [e3])
      · simp only [List.length_append, List.length_cons, List.length_nil] at hB
        simp only [List.mem_append, List.mem_singleton] at hy
        rcases hy with hy | hy
        · exact m.ok B (by omega) y hy
        · subst hy; exact okSt_two (by omega) (by omega)
      · simp only [List.mem_append, List.mem_singleton] at hy
        rcases hy with hy | hy
        · exact m.sets hl y hy
        · subst hy; exact setOk_zero
    · rw [if_neg (by omega), if_neg (by omega)]
      have m := ih f (at_ + 1) (by omega)
      generalize rbF l f n (at_ + 1) = r at *
      simp only
      refine ⟨by have := m.few; simp; omega, fun st he => ?_, fun B hB y hy => ?_, fun hl y hy => ?_⟩
      · have e1 := he.left.one
        have e2 : Emb st (at_ + 1) r := he.right
        rw [show at_ + (([⟨2, ((at_ + 1 : Nat) : Int), ((at_ + 1 + r.length : Nat) : Int), 0⟩] : List Nd) ++ r).length = at_ + 1 + r.length by simp; omega]
        exact .opt (n + 1) n at_ (at_ + 1) _ hk h1 trivial (by rw [e1]) (by rw [e1]) (by rw [e1]) (m.frag st e2)
      · simp only [List.length_append, List.length_cons, List.length_nil] at hB
        simp only [List.mem_append, List.mem_singleton] at hy
        rcases hy with hy | hy
        · subst hy; exact okSt_two (by omega) (by omega)
        · exact m.ok B (by omega) y hy
      · simp only [List.mem_append, List.mem_singleton] at hy
        rcases hy with hy | hy
        · subst hy; exact setOk_zero
        · exact m.sets hl y hy
  | two a m n h hk h1 h2 h3 hs1 hs2 i1 i2 =>
    intro f at_ hf
    obtain ⟨f, rfl⟩ : ∃ g, f = g + 1 := ⟨f - 1, by omega⟩
    have hle1 := hs1.le
    have hle2 := hs2.le
    have hL : (nd l (n + 1)).left.toNat = m := by omega
    have hR : (nd l (n + 1)).right.toNat = n := by omega
    rw [rbF, if_neg (by omega), if_neg (by omega), if_neg (by omega), if_neg (by omega), hL, hR]
    rcases hk with hk | hk
    · rw [if_pos hk]
      have q1 := i1 f at_ (by omega)
      generalize rbF l f m at_ = r at *
      have q2 := i2 f (at_ + r.length) (by omega)
      generalize rbF l f n (at_ + r.length) = s at *
      refine ⟨by have := q1.few; have := q2.few; rw [List.length_append]; omega, fun st he => ?_, fun B hB y hy => ?_, fun hl y hy => ?_⟩
      · rw [List.length_append, ← Nat.add_assoc]
        exact .cat (n + 1) m n at_ _ _ hk h1 h2 (q1.frag st he.left) (q2.frag st he.right)
      · rw [List.length_append] at hB
        rcases List.mem_append.mp hy with hy | hy
        · exact q1.ok B (by omega) y hy
        · exact q2.ok B (by omega) y hy
      · rcases List.mem_append.mp hy with hy | hy
        · exact q1.sets hl y hy
        · exact q2.sets hl y hy
    · rw [if_neg (by omega), if_pos hk]
      have q1 := i1 f (at_ + 1) (by omega)
      generalize rbF l f m (at_ + 1) = r at *
      simp only
      have q2 := i2 f (at_ + 2 + r.length) (by omega)
      generalize rbF l f n (at_ + 2 + r.length) = s at *
      refine ⟨by have := q1.few; have := q2.few; simp; omega, fun st he => ?_, fun B hB y hy => ?_, fun hl y hy => ?_⟩
      · have e1 := he.left.left.left.one
        have e2 : Emb st (at_ + 1) r := he.left.left.right
        have e3 := he.left.right.one
        have e4 := he.right
        rw [show (([⟨2, ((at_ + 1 : Nat) : Int), ((at_ + 2 + r.length : Nat) : Int), 0⟩] : List Nd) ++ r).length = 1 + r.length by simp; omega] at e3
        rw [show at_ + (([⟨2, ((at_ + 1 : Nat) : Int), ((at_ + 2 + r.length : Nat) : Int), 0⟩] : List Nd) ++ r ++ [(⟨2, ((at_ + 2 + r.length + s.length : Nat) : Int), ((at_ + 2 + r.length + s.length : Nat) : Int), 0⟩ : Nd)]).length = at_ + 2 + r.length by simp; omega] at e4
        rw [show at_ + (([⟨2, ((at_ + 1 : Nat) : Int), ((at_ + 2 + r.length : Nat) : Int), 0⟩] : List Nd) ++ r ++ [(⟨2, ((at_ + 2 + r.length + s.length : Nat) : Int), ((at_ + 2 + r.length + s.length : Nat) : Int), 0⟩ : Nd)] ++ s).length = at_ + 2 + r.length + s.length by simp; omega]
        refine .alt (n + 1) m n at_ (at_ + 1) (at_ + 2 + r.length) (at_ + (1 + r.length)) (at_ + 2 + r.length + s.length) _ hk h1 h2 trivial (by rw [e1]) (by rw [e1]) (by rw [e1]) ?_ (Or.inr ⟨trivial, by rw [e3], by rw [e3], by rw [e3]⟩) (q2.frag st e4) (Or.inl rfl)
        have := q1.frag st e2
        rwa [Nat.add_assoc] at this
      · simp only [List.length_append, List.length_cons, List.length_nil] at hB
        simp only [List.mem_append, List.mem_singleton] at hy
        rcases hy with ((hy | hy) | hy) | hy
        · subst hy; exact okSt_two (by omega) (by omega)
        · exact q1.ok B (by omega) y hy
        · subst hy; exact okSt_two (by omega) (by omega)
        · exact q2.ok B (by omega) y hy
      · simp only [List.mem_append, List.mem_singleton] at hy
        rcases hy with ((hy | hy) | hy) | hy
        · subst hy; exact setOk_zero
        · exact q1.sets hl y hy
        · subst hy; exact setOk_zero
        · exact q2.sets hl y hy
def rcompM (l : List Nd) : List Nd := rbF l l.length (l.length - 1) 0 ++ [⟨5, 0, 0, 0⟩]
theorem rcomp_ok {l : List Nd} (hv : validM l = true) : Wired l (rcompM l) ∧ svalid (rcompM l) = true ∧ (rcompM l).length ≤ 513 ∧ 1 ≤ (rcompM l).length ∧ ((∀ y ∈ l, setOk y.set) → ∀ y ∈ rcompM l, setOk y.set) := by
  have hlen := validM_len hv
  have m := rbF_made (validM_sub hv) l.length 0 (by omega)
  unfold rcompM
  generalize rbF l l.length (l.length - 1) 0 = r at *
  have hf := m.few
  have hl : (r ++ [(⟨5, 0, 0, 0⟩ : Nd)]).length = r.length + 1 := by simp
  refine ⟨⟨fun _ => True, 0, 0 + r.length, Or.inl rfl, m.frag _ (fun i hi => ?_), ?_⟩, decide_eq_true ⟨?_, ?_, fun y hy => ?_⟩, ?_, ?_, fun hs y hy => ?_⟩
  · rw [Nat.zero_add, nd_append_left hi]
  · rw [Nat.zero_add, nd_last]
  · omega
  · omega
  · rw [hl]
    rcases List.mem_append.mp hy with hy | hy
    · exact m.ok _ (by omega) y hy
    · simp at hy; subst hy; exact okSt_match
  · omega
  · omega
  · rcases List.mem_append.mp hy with hy | hy
    · exact m.sets hs y hy
    · simp at hy; subst hy; exact setOk_zero
theorem rcomp_run {l : List Nd} (hv : validM l = true) (t : List Nat) : nrunM (rcompM l) t = rfirstM l t := by
  obtain ⟨hw, hs, _⟩ := rcomp_ok hv
  refine LeastHit.one (l := l) (t := t) ?_ (rfirst_least hv t)
  rw [← least_hit (g := nfaG (rcompM l)) (fun n hn => hw.hit t n hn)]
  exact nrun_least hs t
end Go.Proofs.Ythadkjgadhbidaa
/-
  The reference's test of a list of nodes, on plain lists: it comes to the program's test. No program in sight.
-/
namespace Go.Proofs.Ythadkjgadhbidaa
open Go.RowKit
set_option linter.unusedVariables false

theorem kidsN_bd2 (k : Int) : 0 ≤ kidsN k ∧ kidsN k ≤ 2 := by unfold kidsN; split <;> (try split) <;> omega
def badNd (x : Nd) : Prop := x.kind < 1 ∨ 9 < x.kind ∨ (x.kind ≠ 2 ∧ x.set ≠ 0)
instance (x : Nd) : Decidable (badNd x) := by unfold badNd; infer_instance
def bentNd (x : Nd) : Prop := (kidsN x.kind < 2 ∧ x.right ≠ 0) ∨ (kidsN x.kind < 1 ∧ x.left ≠ 0)
instance (x : Nd) : Decidable (bentNd x) := by unfold bentNd; infer_instance
def treeS (x : Nd) (k : Int) (g : Int → Int) : Int :=
  if badNd x ∨ bentNd x then -1
  else if kidsN x.kind = 0 then k
  else if kidsN x.kind = 2 then
    if x.right ≠ k - 1 then -1
    else if g (k - 1) - 1 < 0 ∨ x.left ≠ g (k - 1) - 1 then -1 else g (g (k - 1) - 1)
  else if k - 1 < 0 ∨ x.left ≠ k - 1 then -1 else g (k - 1)
/-- Where the tree whose root is node k begins, or -1. -/
def treeF (l : List Nd) : Nat → Int → Int
  | 0, _ => -1
  | f + 1, k => if k < 0 then -1 else treeS (nd l k.toNat) k (treeF l f)
theorem treeF_bd (l : List Nd) : ∀ (f : Nat) (k : Int), -1 ≤ treeF l f k ∧ (-1 ≤ k → treeF l f k ≤ k)
  | 0, k => ⟨Int.le_refl _, fun h => h⟩
  | f + 1, k => by
    have a1 := treeF_bd l f (k - 1)
    have a2 := treeF_bd l f (treeF l f (k - 1) - 1)
    rw [treeF]
    split
    · exact ⟨by omega, by omega⟩
    unfold treeS
    split
    · exact ⟨by omega, by omega⟩
    split
    · exact ⟨by omega, by omega⟩
    split
    · split
      · exact ⟨by omega, by omega⟩
      split
      · exact ⟨by omega, by omega⟩
      · exact ⟨a2.1, fun h => by have := a2.2 (by omega); have := a1.2 (by omega); omega⟩
    · split
      · exact ⟨by omega, by omega⟩
      · exact ⟨a1.1, fun h => by have := a1.2 (by omega); omega⟩
theorem treeF_neg (l : List Nd) (f : Nat) (k : Int) (h : k < 0) : treeF l f k = -1 := by
  cases f with
  | zero => rfl
  | succ f => rw [treeF, if_pos h]
theorem sub_treeF {l : List Nd} {a n : Nat} (h : Sub l a n) : ∀ f, n + 1 ≤ f → treeF l f n = a := by
  induction h with
  | leaf n h hk h1 h2 h3 =>
    intro f hf
    obtain ⟨f, rfl⟩ : ∃ g, f = g + 1 := ⟨f - 1, by omega⟩
    have hkk : kidsN (nd l n).kind = 0 := by unfold kidsN; rw [if_neg (by omega), if_neg (by omega)]
    rw [treeF, if_neg (by omega), Int.toNat_natCast]
    unfold treeS
    rw [if_neg, if_pos hkk]
    rintro (hb | hb)
    · rcases hb with hb | hb | ⟨hb, hc⟩
      · omega
      · omega
      · exact hc (h3 hb)
    · rcases hb with ⟨_, hb⟩ | ⟨_, hb⟩
      · exact hb h2
      · exact hb h1
  | one a n h hk h1 h2 h3 hs ih =>
    intro f hf
    obtain ⟨f, rfl⟩ : ∃ g, f = g + 1 := ⟨f - 1, by omega⟩
    have hkk : kidsN (nd l (n + 1)).kind = 1 := by unfold kidsN; rw [if_neg (by omega), if_pos (by omega)]
    have i1 := ih f (by omega)
    have e : ((n + 1 : Nat) : Int) - 1 = n := by omega
    rw [treeF, if_neg (by omega), Int.toNat_natCast]
    unfold treeS
    rw [e, if_neg, if_neg (by omega), if_neg (by omega), if_neg (by omega), i1]
    rintro (hb | hb)
    · rcases hb with hb | hb | ⟨hb, hc⟩
      · omega
      · omega
      · exact hc h3
    · rcases hb with ⟨_, hb⟩ | ⟨hb, _⟩
      · exact hb h2
      · omega
  | two a m n h hk h1 h2 h3 hs1 hs2 ih1 ih2 =>
    intro f hf
    obtain ⟨f, rfl⟩ : ∃ g, f = g + 1 := ⟨f - 1, by omega⟩
    have hkk : kidsN (nd l (n + 1)).kind = 2 := by unfold kidsN; rw [if_pos (by omega)]
    have b1 := hs1.le
    have b2 := hs2.le
    have i1 := ih1 f (by omega)
    have i2 := ih2 f (by omega)
    have e : ((n + 1 : Nat) : Int) - 1 = n := by omega
    have e2 : ((m + 1 : Nat) : Int) - 1 = m := by omega
    rw [treeF, if_neg (by omega), Int.toNat_natCast]
    unfold treeS
    rw [e, i2, e2, i1, if_neg, if_neg (by omega), if_pos hkk, if_neg (by omega), if_neg (by omega)]
    rintro (hb | hb)
    · rcases hb with hb | hb | ⟨hb, hc⟩
      · omega
      · omega
      · exact hc h3
    · rcases hb with ⟨hb, _⟩ | ⟨hb, _⟩ <;> omega
theorem treeF_sub {l : List Nd} : ∀ (f n : Nat), n < l.length → ∀ a : Nat, treeF l f n = a → Sub l a n
  | 0, n, hn, a, h => by rw [treeF] at h; omega
  | f + 1, n, hn, a, h => by
    rw [treeF, if_neg (by omega), Int.toNat_natCast] at h
    unfold treeS at h
    split at h
    · omega
    rename_i hb
    have hb1 : ¬ badNd (nd l n) := fun x => hb (Or.inl x)
    have hb2 : ¬ bentNd (nd l n) := fun x => hb (Or.inr x)
    unfold badNd at hb1
    unfold bentNd at hb2
    have hk1 : 1 ≤ (nd l n).kind := by omega
    have hk2 : (nd l n).kind ≤ 9 := by omega
    have hset : (nd l n).kind ≠ 2 → (nd l n).set = 0 := fun hx => Decidable.byContradiction fun hy => hb1 (Or.inr (Or.inr ⟨hx, hy⟩))
    split at h
    · rename_i hk
      obtain rfl : n = a := by omega
      have hkk : (nd l n).kind = 1 ∨ (nd l n).kind = 2 ∨ (nd l n).kind = 8 ∨ (nd l n).kind = 9 := by
        unfold kidsN at hk; split at hk
        · omega
        split at hk <;> omega
      exact .leaf n hn hkk (by omega) (by omega) hset
    split at h
    · rename_i hk
      have hkk : (nd l n).kind = 3 ∨ (nd l n).kind = 4 := by
        unfold kidsN at hk; split at hk
        · assumption
        split at hk <;> omega
      split at h
      · omega
      rename_i hr
      split at h
      · omega
      rename_i hl
      have hbd := treeF_bd l f ((n : Int) - 1)
      have h1 : 1 ≤ n := by
        have := hbd.2
        rcases Nat.eq_zero_or_pos n with e | e
        · subst e
          rw [treeF_neg l f _ (by omega)] at hl
          omega
        · exact e
      obtain ⟨n, rfl⟩ : ∃ k, n = k + 1 := ⟨n - 1, by omega⟩
      have e : ((n + 1 : Nat) : Int) - 1 = n := by omega
      rw [e] at h hl hr hbd
      obtain ⟨t, ht⟩ : ∃ t : Nat, treeF l f n = (t + 1 : Nat) := ⟨(treeF l f n - 1).toNat, by omega⟩
      have s2 := treeF_sub f n (by omega) _ ht
      rw [ht] at h hl
      have e2 : ((t + 1 : Nat) : Int) - 1 = t := by omega
      rw [e2] at h hl
      have := s2.le
      have s1 := treeF_sub f t (by omega) _ h
      exact .two a t n hn hkk (by omega) (by omega) (hset (by omega)) s1 s2
    · rename_i hk0 hk2'
      have hkk : (nd l n).kind = 5 ∨ (nd l n).kind = 6 ∨ (nd l n).kind = 7 := by
        unfold kidsN at hk0 hk2'; split at hk0
        · omega
        split at hk0 <;> omega
      have hk1' : kidsN (nd l n).kind = 1 := by unfold kidsN; rw [if_neg (by omega), if_pos (by omega)]
      split at h
      · omega
      rename_i hl
      obtain ⟨n, rfl⟩ : ∃ k, n = k + 1 := ⟨n - 1, by omega⟩
      have e : ((n + 1 : Nat) : Int) - 1 = n := by omega
      rw [e] at h hl
      have s1 := treeF_sub f n (by omega) _ h
      exact .one a n hn hkk (by omega) (by omega) (hset (by omega)) s1
/-- The reference's test. -/
def rvalidM (l : List Nd) : Bool := decide (1 ≤ l.length ∧ l.length ≤ 256 ∧ treeF l l.length ((l.length : Int) - 1) = 0)
theorem rvalid_eq (l : List Nd) : rvalidM l = validM l := by
  by_cases h : validM l = true
  · have hs := validM_sub h
    have hl := validM_len h
    rw [h]
    refine decide_eq_true ⟨by omega, by omega, ?_⟩
    have := sub_treeF hs l.length (by omega)
    rw [show ((l.length : Int) - 1) = ((l.length - 1 : Nat) : Int) by omega]
    exact this
  · have hf : validM l = false := by simpa using h
    rw [hf]
    refine decide_eq_false ?_
    rintro ⟨h1, h2, h3⟩
    rw [show ((l.length : Int) - 1) = ((l.length - 1 : Nat) : Int) by omega] at h3
    have hs := treeF_sub l.length (l.length - 1) (by omega) 0 h3
    exact h (Tr.valid ⟨by omega, hs⟩ h2)
end Go.Proofs.Ythadkjgadhbidaa
/-
  The reference's test of a list of nodes: one tree.
-/
namespace Go.Proofs.Ythadkjgadhbidaa
open Go.RowKit
set_option linter.unusedVariables false

set_option maxRecDepth 100000 in
theorem tree_neg (A : Option Addr) (c n : Nat) (k : Int) (w : World) (h : k < 0) : Calls Try.prog 40 #[.slice A n c, .int .i64 k] w (ValOld (.int .i64 (-1)) w) := by
  go_enter Try.func40, Try.ntmps40
  go_wp2_with fail
  go_ret
  exact ⟨rfl, Old.refl _⟩
set_option maxHeartbeats 8000000 in
set_option maxRecDepth 100000 in
theorem treeC (A : Option Addr) (c : Nat) (l : List Nd) (hm : l.length ≤ maxLen) (hso : ∀ x ∈ l, setOk x.set) : ∀ (f : Nat) (k : Int) (w : World), Rs w A (ndsV l) → k < l.length → k + 1 ≤ f →
    Calls Try.prog 40 #[.slice A l.length c, .int .i64 k] w (ValOld (.int .i64 (treeF l f k)) w) := by
  intro f
  induction f with
  | zero =>
    intro k w hr hk hf
    rw [treeF_neg l 0 k (by omega)]
    exact tree_neg A c l.length k w (by omega)
  | succ f ih =>
  intro k w hr hk hf
  by_cases h0 : k < 0
  · rw [treeF_neg l _ k h0]
    exact tree_neg A c l.length k w h0
  obtain ⟨k, rfl⟩ : ∃ n : Nat, k = (n : Int) := ⟨k.toNat, by omega⟩
  have hT : treeF l (f + 1) (k : Int) = treeS (nd l k) k (treeF l f) := by rw [treeF, if_neg h0, Int.toNat_natCast]
  have hkl : k < l.length := by omega
  have hx : l[k]? = some (nd l k) := by unfold nd; rw [List.getD_eq_getElem?_getD, List.getElem?_eq_getElem hkl]; rfl
  have hg := ndsV_get l k _ hx
  have hst : setOk (nd l k).set := hso _ (List.mem_of_getElem? hx)
  have IH := Lib.hid ih
  have HRW := Lib.hid hr
  obtain ⟨b, off, rfl, hbl, hcl⟩ := hr.at_ (by rw [ndsV_length]; omega)
  have c0 := hcl _ _ (hg 0 (by omega))
  have c1 := hcl _ _ (hg 1 (by omega))
  have c2 := hcl _ _ (hg 2 (by omega))
  have c3 := hcl _ _ (hg 3 (by omega))
  have c4 := hcl _ _ (hg 4 (by omega))
  have c5 := hcl _ _ (hg 5 (by omega))
  have c6 := hcl _ _ (hg 6 (by omega))
  rw [← Nat.add_assoc] at c0 c1 c2 c3 c4 c5 c6
  rw [Nat.add_zero] at c0
  clear hx hg hcl hr ih hbl hso
  have HT := Lib.hid hT
  clear hT
  generalize nd l k = nx at *
  obtain ⟨kd, lf, rt, st⟩ := nx
  replace c0 : w.cell? ⟨b, off + k * 7, none⟩ = some (.int .i64 kd) := c0
  replace c1 : w.cell? ⟨b, off + k * 7 + 1, none⟩ = some (.int .i64 lf) := c1
  replace c2 : w.cell? ⟨b, off + k * 7 + 2, none⟩ = some (.int .i64 rt) := c2
  replace c3 : w.cell? ⟨b, off + k * 7 + 3, none⟩ = some (.int .u64 (setW st 0)) := c3
  replace c4 : w.cell? ⟨b, off + k * 7 + 4, none⟩ = some (.int .u64 (setW st 1)) := c4
  replace c5 : w.cell? ⟨b, off + k * 7 + 5, none⟩ = some (.int .u64 (setW st 2)) := c5
  replace c6 : w.cell? ⟨b, off + k * 7 + 6, none⟩ = some (.int .u64 (setW st 3)) := c6
  have i0 : (0 : Int) ≤ (k : Int) := by omega
  have i1 : (k : Int) < (l.length : Int) := by omega
  have HF := Lib.hid hf
  have HMX := Lib.hid hm
  clear hf hm h0
  go_enter Try.func40, Try.ntmps40
  go_upto_region 4 with fail
  have hb5 := heap_alloc_new w (.cells #[.int .i64 kd, .int .i64 lf, .int .i64 rt, .int .u64 (setW st 0), .int .u64 (setW st 1), .int .u64 (setW st 2), .int .u64 (setW st 3)] 114)
  have HOW := Lib.hid ((Old.refl w).alloc (.cells #[.int .i64 kd, .int .i64 lf, .int .i64 rt, .int .u64 (setW st 0), .int .u64 (setW st 1), .int .u64 (setW st 2), .int .u64 (setW st 3)] 114))
  generalize w.alloc (.cells #[.int .i64 kd, .int .i64 lf, .int .i64 rt, .int .u64 (setW st 0), .int .u64 (setW st 1), .int .u64 (setW st 2), .int .u64 (setW st 3)] 114) = W at *
  clear c0 c1 c2 c3 c4 c5 c6
  have d0 : W.cell? ⟨w.heap.size, 0, none⟩ = some (.int .i64 kd) := by rw [cell_of_row W _ 0 _ _ _ hb5]; rfl
  have d1 : W.cell? ⟨w.heap.size, 1, none⟩ = some (.int .i64 lf) := by rw [cell_of_row W _ 1 _ _ _ hb5]; rfl
  have d2 : W.cell? ⟨w.heap.size, 2, none⟩ = some (.int .i64 rt) := by rw [cell_of_row W _ 2 _ _ _ hb5]; rfl
  have d3 : W.cell? ⟨w.heap.size, 3, none⟩ = some (.int .u64 (setW st 0)) := by rw [cell_of_row W _ 3 _ _ _ hb5]; rfl
  have d4 : W.cell? ⟨w.heap.size, 4, none⟩ = some (.int .u64 (setW st 1)) := by rw [cell_of_row W _ 4 _ _ _ hb5]; rfl
  have d5 : W.cell? ⟨w.heap.size, 5, none⟩ = some (.int .u64 (setW st 2)) := by rw [cell_of_row W _ 5 _ _ _ hb5]; rfl
  have d6 : W.cell? ⟨w.heap.size, 6, none⟩ = some (.int .u64 (setW st 3)) := by rw [cell_of_row W _ 6 _ _ _ hb5]; rfl
  have HB5 := Lib.hid hb5
  clear hb5
  have hz := fun W => set_zero st hst W
  clear hst
  have i9 : (k : Int) < 9223372036854775807 := by have := HMX.out; unfold maxLen at this; omega
  by_cases b1 : kd < 1
  · have HN : Hid (treeF l (f + 1) (k : Int) = -1) := Lib.hid (by rw [HT.out]; unfold treeS; rw [if_pos (by simp only [badNd]; omega)])
    clear HT
    go_wp2_with fail
    go_ret
    rw [HN.out]
    exact ⟨rfl, HOW.out⟩
  by_cases b2 : 9 < kd
  · have HN : Hid (treeF l (f + 1) (k : Int) = -1) := Lib.hid (by rw [HT.out]; unfold treeS; rw [if_pos (by simp only [badNd]; omega)])
    clear HT
    go_wp2_with fail
    go_ret
    rw [HN.out]
    exact ⟨rfl, HOW.out⟩
  by_cases b3 : kd = 2
  · have b4 : (kd != 2) = false := by simp [b3]
    clear HB5
    have HK0 : Hid (¬ badNd ⟨kd, lf, rt, st⟩) := Lib.hid (by rintro (h | h | ⟨h, h'⟩) <;> first | exact b1 h | exact b2 h | exact h b3 | exact h' b5)
    have hk3 : kidsN kd = 0 ∨ kidsN kd = 1 ∨ kidsN kd = 2 := by have := kidsN_bd2 kd; omega
    have HKC := Lib.hid (kidsC kd)
    have HBN : Hid (bentNd ⟨kd, lf, rt, st⟩ ↔ ((kidsN kd < 2 ∧ rt ≠ 0) ∨ (kidsN kd < 1 ∧ lf ≠ 0))) := Lib.hid Iff.rfl
    have HTS : Hid (treeF l (f + 1) (k : Int) = if bentNd ⟨kd, lf, rt, st⟩ then -1 else if kidsN kd = 0 then (k : Int) else if kidsN kd = 2 then if rt ≠ k - 1 then -1 else if treeF l f (k - 1) - 1 < 0 ∨ lf ≠ treeF l f (k - 1) - 1 then -1 else treeF l f (treeF l f (k - 1) - 1) else if (k : Int) - 1 < 0 ∨ lf ≠ k - 1 then -1 else treeF l f (k - 1)) := Lib.hid (by
      rw [HT.out]
      unfold treeS
      simp only [HK0.out, false_or])
    clear HT HK0
    generalize kidsN kd = kk at *
    try clear b5
    clear b3
    rcases hk3 with rfl | rfl | rfl
    · by_cases b7 : rt = 0
      · by_cases b8 : lf = 0
        · have HN : Hid (treeF l (f + 1) (k : Int) = k) := Lib.hid (by rw [HTS.out, if_neg (by rw [HBN.out]; omega), if_pos rfl])
          have b9 : (rt != 0) = false := by simp [b7]
          have b10 : (lf != 0) = false := by simp [b8]
          clear HTS HBN b7 b8
          go_wp2_with fail
          refine (HKC.out _).mono ?_; rintro e W8 ⟨rfl, rfl⟩
          go_wp2_with fail
          go_ret
          rw [HN.out]
          exact ⟨rfl, HOW.out⟩
        · have HN : Hid (treeF l (f + 1) (k : Int) = -1) := Lib.hid (by rw [HTS.out, if_pos (by rw [HBN.out]; omega)])
          have b9 : (rt != 0) = false := by simp [b7]
          have b10 : (lf != 0) = true := by simpa using b8
          clear HTS HBN b7 b8
          go_wp2_with fail
          refine (HKC.out _).mono ?_; rintro e W8 ⟨rfl, rfl⟩
          go_wp2_with fail
          go_ret
          rw [HN.out]
          exact ⟨rfl, HOW.out⟩
      · have HN : Hid (treeF l (f + 1) (k : Int) = -1) := Lib.hid (by rw [HTS.out, if_pos (by rw [HBN.out]; omega)])
        have b9 : (rt != 0) = true := by simpa using b7
        clear HTS HBN b7
        go_wp2_with fail
        refine (HKC.out _).mono ?_; rintro e W8 ⟨rfl, rfl⟩
        go_wp2_with fail
        go_ret
        rw [HN.out]
        exact ⟨rfl, HOW.out⟩
    · by_cases b7 : rt = 0
      · have b9 : (rt != 0) = false := by simp [b7]
        by_cases b8 : (k : Int) - 1 < 0
        · have HN : Hid (treeF l (f + 1) (k : Int) = -1) := Lib.hid (by rw [HTS.out, if_neg (by rw [HBN.out]; omega), if_neg (by omega), if_neg (by omega), if_pos (Or.inl b8)])
          clear HTS HBN b7
          go_wp2_with fail
          refine (HKC.out _).mono ?_; rintro e W8 ⟨rfl, rfl⟩
          go_wp2_with fail
          go_ret
          rw [HN.out]
          exact ⟨rfl, HOW.out⟩
        · obtain ⟨n, rfl⟩ : ∃ n : Nat, k = n + 1 := ⟨k - 1, by omega⟩
          have e9 : ((n + 1 : Nat) : Int) - 1 = (n : Int) := by omega
          have HE9 := Lib.hid e9
          clear e9
          by_cases b11 : lf = (n : Int)
          · have HN : Hid (treeF l (f + 1) ((n + 1 : Nat) : Int) = treeF l f n) := Lib.hid (by
              rw [HTS.out, HE9.out, if_neg (by rw [HBN.out]; omega), if_neg (by omega), if_neg (by omega), if_neg (by omega)])
            have HI := Lib.hid (IH.out (n : Int) _ (HRW.out.up HOW.out) (by omega) (by have := HF.out; omega))
            clear HTS HBN IH b7 b8
            subst b11
            generalize treeF l (f + 1) ((n + 1 : Nat) : Int) = TT at *
            have jd : decide ((n : Int) < 0) = false := decide_eq_false (by omega)
            go_wp2_with fail
            refine (HKC.out _).mono ?_; rintro e W8 ⟨rfl, rfl⟩
            go_wp2_with fail
            refine (HI.out).mono ?_; rintro e W9 ⟨rfl, o9⟩
            have HO9 := Lib.hid (HOW.out.up o9)
            clear o9
            go_wp2_with fail
            go_ret
            rw [HN.out]
            exact ⟨rfl, HO9.out⟩
          · have HN : Hid (treeF l (f + 1) ((n + 1 : Nat) : Int) = -1) := Lib.hid (by
              rw [HTS.out, HE9.out, if_neg (by rw [HBN.out]; omega), if_neg (by omega), if_neg (by omega), if_pos (Or.inr b11)])
            have b12 : (lf != (n : Int)) = true := by simpa using b11
            clear HTS HBN IH b7 b8 b11
            generalize treeF l (f + 1) ((n + 1 : Nat) : Int) = TT at *
            have jd : decide ((n : Int) < 0) = false := decide_eq_false (by omega)
            go_wp2_with fail
            refine (HKC.out _).mono ?_; rintro e W8 ⟨rfl, rfl⟩
            go_wp2_with fail
            go_ret
            rw [HN.out]
            exact ⟨rfl, HOW.out⟩
      · have HN : Hid (treeF l (f + 1) (k : Int) = -1) := Lib.hid (by rw [HTS.out, if_pos (by rw [HBN.out]; omega)])
        have b9 : (rt != 0) = true := by simpa using b7
        clear HTS HBN b7
        go_wp2_with fail
        refine (HKC.out _).mono ?_; rintro e W8 ⟨rfl, rfl⟩
        go_wp2_with fail
        go_ret
        rw [HN.out]
        exact ⟨rfl, HOW.out⟩
    · by_cases b7 : rt = (k : Int) - 1
      · have htb := treeF_bd l f ((k : Int) - 1)
        have HI := Lib.hid (IH.out ((k : Int) - 1) _ (HRW.out.up HOW.out) (by omega) (by have := HF.out; omega))
        have HI2 := Lib.hid (fun (t : Int) W' o => IH.out t W' (HRW.out.up (HOW.out.up o)))
        have HTS2 : Hid (treeF l (f + 1) (k : Int) = if treeF l f (k - 1) - 1 < 0 ∨ lf ≠ treeF l f (k - 1) - 1 then -1 else treeF l f (treeF l f (k - 1) - 1)) := Lib.hid (by rw [HTS.out, if_neg (by rw [HBN.out]; omega), if_neg (by omega), if_pos rfl, if_neg (by omega)])
        clear HTS HBN IH
        subst b7
        generalize treeF l f ((k : Int) - 1) = T1 at *
        obtain ⟨t1, t2⟩ := htb
        have HT2 := Lib.hid t2
        have HT1 := Lib.hid t1
        clear t1 t2
        go_wp2_with fail
        refine (HKC.out _).mono ?_; rintro e W8 ⟨rfl, rfl⟩
        go_wp2_with fail
        refine (HI.out).mono ?_; rintro e W9 ⟨rfl, o9⟩
        have HO9 := Lib.hid (HOW.out.up o9)
        have HI3 := Lib.hid (fun t => HI2.out t W9 o9)
        replace d1 := o9.cell d1
        clear o9 HI HI2 d0 d2 d3 d4 d5 d6
        have hT1 : T1 = -1 ∨ T1 = 0 ∨ ∃ t : Nat, T1 = (t : Int) + 1 := by
          have := HT1.out
          rcases Int.lt_or_le T1 1 with h | h
          · omega
          · exact Or.inr (Or.inr ⟨(T1 - 1).toNat, by omega⟩)
        rcases hT1 with rfl | rfl | ⟨t, rfl⟩
        · have HN : Hid (treeF l (f + 1) (k : Int) = -1) := Lib.hid (by rw [HTS2.out, if_pos (by omega)])
          clear HTS2 HT1 HT2 HI3
          go_wp2_with fail
          go_ret
          rw [HN.out]
          exact ⟨rfl, HO9.out⟩
        · have HN : Hid (treeF l (f + 1) (k : Int) = -1) := Lib.hid (by rw [HTS2.out, if_pos (by omega)])
          clear HTS2 HT1 HT2 HI3
          go_wp2_with fail
          go_ret
          rw [HN.out]
          exact ⟨rfl, HO9.out⟩
        · have htk : (t : Int) + 1 ≤ k - 1 := HT2.out (by omega)
          have HTK := Lib.hid htk
          clear HT1 HT2
          have i10 : ((t + 1 : Nat) : Int) < 9223372036854775807 := by omega
          have i11 : (0 : Int) ≤ ((t + 1 : Nat) : Int) := by omega
          clear htk
          have e9 : (t : Int) + 1 - 1 = (t : Int) := by omega
          by_cases b8 : lf = (t : Int)
          · have HN : Hid (treeF l (f + 1) (k : Int) = treeF l f t) := Lib.hid (by rw [HTS2.out, e9, if_neg (by omega)])
            have HI4 := Lib.hid (HI3.out (t : Int) (by have := HTK.out; omega) (by have := HF.out; have := HTK.out; omega))
            clear HTS2 HI3 e9
            subst b8
            generalize treeF l (f + 1) (k : Int) = TT at *
            have jd : decide ((t : Int) < 0) = false := decide_eq_false (by omega)
            go_wp2_with fail
            refine (HI4.out).mono ?_; rintro e W10 ⟨rfl, o10⟩
            have HO10 := Lib.hid (HO9.out.up o10)
            clear o10
            go_wp2_with fail
            go_ret
            rw [HN.out]
            exact ⟨rfl, HO10.out⟩
          · have HN : Hid (treeF l (f + 1) (k : Int) = -1) := Lib.hid (by rw [HTS2.out, e9, if_pos (Or.inr b8)])
            have b12 : (lf != (t : Int)) = true := by simpa using b8
            clear HTS2 HI3 e9 b8
            generalize treeF l (f + 1) (k : Int) = TT at *
            have jd : decide ((t : Int) < 0) = false := decide_eq_false (by omega)
            go_wp2_with fail
            go_ret
            rw [HN.out]
            exact ⟨rfl, HO9.out⟩
      · have HN : Hid (treeF l (f + 1) (k : Int) = -1) := Lib.hid (by rw [HTS.out, if_neg (by rw [HBN.out]; omega), if_neg (by omega), if_pos rfl, if_pos b7])
        have b9 : (rt != (k : Int) - 1) = true := by simpa using b7
        clear HTS HBN b7
        go_wp2_with fail
        refine (HKC.out _).mono ?_; rintro e W8 ⟨rfl, rfl⟩
        go_wp2_with fail
        go_ret
        rw [HN.out]
        exact ⟨rfl, HOW.out⟩
  · have b4 : (kd != 2) = true := by simpa using b3
    by_cases b5 : st = 0
    · have b6 : decide (st = 0) = true := by simp [b5]
      simp only [b6] at hz
      clear b6
      clear HB5
      have HK0 : Hid (¬ badNd ⟨kd, lf, rt, st⟩) := Lib.hid (by rintro (h | h | ⟨h, h'⟩) <;> first | exact b1 h | exact b2 h | exact h b3 | exact h' b5)
      have hk3 : kidsN kd = 0 ∨ kidsN kd = 1 ∨ kidsN kd = 2 := by have := kidsN_bd2 kd; omega
      have HKC := Lib.hid (kidsC kd)
      have HBN : Hid (bentNd ⟨kd, lf, rt, st⟩ ↔ ((kidsN kd < 2 ∧ rt ≠ 0) ∨ (kidsN kd < 1 ∧ lf ≠ 0))) := Lib.hid Iff.rfl
      have HTS : Hid (treeF l (f + 1) (k : Int) = if bentNd ⟨kd, lf, rt, st⟩ then -1 else if kidsN kd = 0 then (k : Int) else if kidsN kd = 2 then if rt ≠ k - 1 then -1 else if treeF l f (k - 1) - 1 < 0 ∨ lf ≠ treeF l f (k - 1) - 1 then -1 else treeF l f (treeF l f (k - 1) - 1) else if (k : Int) - 1 < 0 ∨ lf ≠ k - 1 then -1 else treeF l f (k - 1)) := Lib.hid (by
        rw [HT.out]
        unfold treeS
        simp only [HK0.out, false_or])
      clear HT HK0
      generalize kidsN kd = kk at *
      try clear b5
      clear b3
      rcases hk3 with rfl | rfl | rfl
      · by_cases b7 : rt = 0
        · by_cases b8 : lf = 0
          · have HN : Hid (treeF l (f + 1) (k : Int) = k) := Lib.hid (by rw [HTS.out, if_neg (by rw [HBN.out]; omega), if_pos rfl])
            have b9 : (rt != 0) = false := by simp [b7]
            have b10 : (lf != 0) = false := by simp [b8]
            clear HTS HBN b7 b8
            go_wp2_with fail
            refine (HKC.out _).mono ?_; rintro e W8 ⟨rfl, rfl⟩
            go_wp2_with fail
            go_ret
            rw [HN.out]
            exact ⟨rfl, HOW.out⟩
          · have HN : Hid (treeF l (f + 1) (k : Int) = -1) := Lib.hid (by rw [HTS.out, if_pos (by rw [HBN.out]; omega)])
            have b9 : (rt != 0) = false := by simp [b7]
            have b10 : (lf != 0) = true := by simpa using b8
            clear HTS HBN b7 b8
            go_wp2_with fail
            refine (HKC.out _).mono ?_; rintro e W8 ⟨rfl, rfl⟩
            go_wp2_with fail
            go_ret
            rw [HN.out]
            exact ⟨rfl, HOW.out⟩
        · have HN : Hid (treeF l (f + 1) (k : Int) = -1) := Lib.hid (by rw [HTS.out, if_pos (by rw [HBN.out]; omega)])
          have b9 : (rt != 0) = true := by simpa using b7
          clear HTS HBN b7
          go_wp2_with fail
          refine (HKC.out _).mono ?_; rintro e W8 ⟨rfl, rfl⟩
          go_wp2_with fail
          go_ret
          rw [HN.out]
          exact ⟨rfl, HOW.out⟩
      · by_cases b7 : rt = 0
        · have b9 : (rt != 0) = false := by simp [b7]
          by_cases b8 : (k : Int) - 1 < 0
          · have HN : Hid (treeF l (f + 1) (k : Int) = -1) := Lib.hid (by rw [HTS.out, if_neg (by rw [HBN.out]; omega), if_neg (by omega), if_neg (by omega), if_pos (Or.inl b8)])
            clear HTS HBN b7
            go_wp2_with fail
            refine (HKC.out _).mono ?_; rintro e W8 ⟨rfl, rfl⟩
            go_wp2_with fail
            go_ret
            rw [HN.out]
            exact ⟨rfl, HOW.out⟩
          · obtain ⟨n, rfl⟩ : ∃ n : Nat, k = n + 1 := ⟨k - 1, by omega⟩
            have e9 : ((n + 1 : Nat) : Int) - 1 = (n : Int) := by omega
            have HE9 := Lib.hid e9
            clear e9
            by_cases b11 : lf = (n : Int)
            · have HN : Hid (treeF l (f + 1) ((n + 1 : Nat) : Int) = treeF l f n) := Lib.hid (by
                rw [HTS.out, HE9.out, if_neg (by rw [HBN.out]; omega), if_neg (by omega), if_neg (by omega), if_neg (by omega)])
              have HI := Lib.hid (IH.out (n : Int) _ (HRW.out.up HOW.out) (by omega) (by have := HF.out; omega))
              clear HTS HBN IH b7 b8
              subst b11
              generalize treeF l (f + 1) ((n + 1 : Nat) : Int) = TT at *
              have jd : decide ((n : Int) < 0) = false := decide_eq_false (by omega)
              go_wp2_with fail
              refine (HKC.out _).mono ?_; rintro e W8 ⟨rfl, rfl⟩
              go_wp2_with fail
              refine (HI.out).mono ?_; rintro e W9 ⟨rfl, o9⟩
              have HO9 := Lib.hid (HOW.out.up o9)
              clear o9
              go_wp2_with fail
              go_ret
              rw [HN.out]
              exact ⟨rfl, HO9.out⟩
            · have HN : Hid (treeF l (f + 1) ((n + 1 : Nat) : Int) = -1) := Lib.hid (by
                rw [HTS.out, HE9.out, if_neg (by rw [HBN.out]; omega), if_neg (by omega), if_neg (by omega), if_pos (Or.inr b11)])
              have b12 : (lf != (n : Int)) = true := by simpa using b11
              clear HTS HBN IH b7 b8 b11
              generalize treeF l (f + 1) ((n + 1 : Nat) : Int) = TT at *
              have jd : decide ((n : Int) < 0) = false := decide_eq_false (by omega)
              go_wp2_with fail
              refine (HKC.out _).mono ?_; rintro e W8 ⟨rfl, rfl⟩
              go_wp2_with fail
              go_ret
              rw [HN.out]
              exact ⟨rfl, HOW.out⟩
        · have HN : Hid (treeF l (f + 1) (k : Int) = -1) := Lib.hid (by rw [HTS.out, if_pos (by rw [HBN.out]; omega)])
          have b9 : (rt != 0) = true := by simpa using b7
          clear HTS HBN b7
          go_wp2_with fail
          refine (HKC.out _).mono ?_; rintro e W8 ⟨rfl, rfl⟩
          go_wp2_with fail
          go_ret
          rw [HN.out]
          exact ⟨rfl, HOW.out⟩
      · by_cases b7 : rt = (k : Int) - 1
        · have htb := treeF_bd l f ((k : Int) - 1)
          have HI := Lib.hid (IH.out ((k : Int) - 1) _ (HRW.out.up HOW.out) (by omega) (by have := HF.out; omega))
          have HI2 := Lib.hid (fun (t : Int) W' o => IH.out t W' (HRW.out.up (HOW.out.up o)))
          have HTS2 : Hid (treeF l (f + 1) (k : Int) = if treeF l f (k - 1) - 1 < 0 ∨ lf ≠ treeF l f (k - 1) - 1 then -1 else treeF l f (treeF l f (k - 1) - 1)) := Lib.hid (by rw [HTS.out, if_neg (by rw [HBN.out]; omega), if_neg (by omega), if_pos rfl, if_neg (by omega)])
          clear HTS HBN IH
          subst b7
          generalize treeF l f ((k : Int) - 1) = T1 at *
          obtain ⟨t1, t2⟩ := htb
          have HT2 := Lib.hid t2
          have HT1 := Lib.hid t1
          clear t1 t2
          go_wp2_with fail
          refine (HKC.out _).mono ?_; rintro e W8 ⟨rfl, rfl⟩
          go_wp2_with fail
          refine (HI.out).mono ?_; rintro e W9 ⟨rfl, o9⟩
          have HO9 := Lib.hid (HOW.out.up o9)
          have HI3 := Lib.hid (fun t => HI2.out t W9 o9)
          replace d1 := o9.cell d1
          clear o9 HI HI2 d0 d2 d3 d4 d5 d6
          have hT1 : T1 = -1 ∨ T1 = 0 ∨ ∃ t : Nat, T1 = (t : Int) + 1 := by
            have := HT1.out
            rcases Int.lt_or_le T1 1 with h | h
            · omega
            · exact Or.inr (Or.inr ⟨(T1 - 1).toNat, by omega⟩)
          rcases hT1 with rfl | rfl | ⟨t, rfl⟩
          · have HN : Hid (treeF l (f + 1) (k : Int) = -1) := Lib.hid (by rw [HTS2.out, if_pos (by omega)])
            clear HTS2 HT1 HT2 HI3
            go_wp2_with fail
            go_ret
            rw [HN.out]
            exact ⟨rfl, HO9.out⟩
          · have HN : Hid (treeF l (f + 1) (k : Int) = -1) := Lib.hid (by rw [HTS2.out, if_pos (by omega)])
            clear HTS2 HT1 HT2 HI3
            go_wp2_with fail
            go_ret
            rw [HN.out]
            exact ⟨rfl, HO9.out⟩
          · have htk : (t : Int) + 1 ≤ k - 1 := HT2.out (by omega)
            have HTK := Lib.hid htk
            clear HT1 HT2
            have i10 : ((t + 1 : Nat) : Int) < 9223372036854775807 := by omega
            have i11 : (0 : Int) ≤ ((t + 1 : Nat) : Int) := by omega
            clear htk
            have e9 : (t : Int) + 1 - 1 = (t : Int) := by omega
            by_cases b8 : lf = (t : Int)
            · have HN : Hid (treeF l (f + 1) (k : Int) = treeF l f t) := Lib.hid (by rw [HTS2.out, e9, if_neg (by omega)])
              have HI4 := Lib.hid (HI3.out (t : Int) (by have := HTK.out; omega) (by have := HF.out; have := HTK.out; omega))
              clear HTS2 HI3 e9
              subst b8
              generalize treeF l (f + 1) (k : Int) = TT at *
              have jd : decide ((t : Int) < 0) = false := decide_eq_false (by omega)
              go_wp2_with fail
              refine (HI4.out).mono ?_; rintro e W10 ⟨rfl, o10⟩
              have HO10 := Lib.hid (HO9.out.up o10)
              clear o10
              go_wp2_with fail
              go_ret
              rw [HN.out]
              exact ⟨rfl, HO10.out⟩
            · have HN : Hid (treeF l (f + 1) (k : Int) = -1) := Lib.hid (by rw [HTS2.out, e9, if_pos (Or.inr b8)])
              have b12 : (lf != (t : Int)) = true := by simpa using b8
              clear HTS2 HI3 e9 b8
              generalize treeF l (f + 1) (k : Int) = TT at *
              have jd : decide ((t : Int) < 0) = false := decide_eq_false (by omega)
              go_wp2_with fail
              go_ret
              rw [HN.out]
              exact ⟨rfl, HO9.out⟩
        · have HN : Hid (treeF l (f + 1) (k : Int) = -1) := Lib.hid (by rw [HTS.out, if_neg (by rw [HBN.out]; omega), if_neg (by omega), if_pos rfl, if_pos b7])
          have b9 : (rt != (k : Int) - 1) = true := by simpa using b7
          clear HTS HBN b7
          go_wp2_with fail
          refine (HKC.out _).mono ?_; rintro e W8 ⟨rfl, rfl⟩
          go_wp2_with fail
          go_ret
          rw [HN.out]
          exact ⟨rfl, HOW.out⟩
    · have b6 : decide (st = 0) = false := by simp [b5]
      simp only [b6] at hz
      clear b6
      have HN : Hid (treeF l (f + 1) (k : Int) = -1) := Lib.hid (by rw [HT.out]; unfold treeS; exact if_pos (Or.inl (Or.inr (Or.inr ⟨b3, b5⟩))))
      clear HT
      go_wp2_with fail
      go_ret
      rw [HN.out]
      exact ⟨rfl, HOW.out⟩
end Go.Proofs.Ythadkjgadhbidaa
/-
  The reference's test of a list of nodes: its walk; it comes to the program's.
-/
namespace Go.Proofs.Ythadkjgadhbidaa
open Go.RowKit
set_option linter.unusedVariables false

set_option maxHeartbeats 4000000 in
set_option maxRecDepth 100000 in
theorem rvalidC (A : Option Addr) (c : Nat) (l : List Nd) (w : World) (hr : Rs w A (ndsV l)) (hm : l.length ≤ maxLen) (hso : ∀ x ∈ l, setOk x.set) :
    Calls Try.prog 16 #[.slice A l.length c] w (ValOld (.bool (validM l)) w) := by
  rw [← rvalid_eq]
  have HR := Lib.hid hr
  have HM := Lib.hid hm
  have HSO := Lib.hid hso
  clear hr hm hso
  by_cases h1 : 1 ≤ l.length
  · by_cases h2 : l.length ≤ 256
    · obtain ⟨n, hn⟩ : ∃ n, l.length = n + 1 := ⟨l.length - 1, by omega⟩
      have HT := Lib.hid (treeC A c l HM.out HSO.out l.length (n : Int) w HR.out (by omega) (by omega))
      have HV : Hid (rvalidM l = (treeF l l.length (n : Int) == 0)) := Lib.hid (by
        unfold rvalidM
        rw [Bool.eq_iff_iff, decide_eq_true_iff, beq_iff_eq, show (l.length : Int) - 1 = (n : Int) by omega]
        exact ⟨fun h => h.2.2, fun h => ⟨h1, h2, h⟩⟩)
      clear HR HM HSO
      generalize treeF l l.length (n : Int) = T at *
      generalize rvalidM l = R at *
      have i1 : (1 : Int) ≤ (l.length : Int) := by omega
      have i2 : (l.length : Int) ≤ 256 := by omega
      clear h1 h2
      generalize l.length = L at *
      subst hn
      by_cases hT : T = 0
      · have e : (T == 0) = true := by simpa using hT
        rw [e] at HV
        go_enter Try.func16, Try.ntmps16
        go_wp2_with fail
        refine (HT.out).mono ?_; rintro e w1 ⟨rfl, hd1⟩
        have HD := Lib.hid hd1
        clear hd1
        go_wp2_with fail
        go_ret
        rw [HV.out]
        exact ⟨rfl, HD.out⟩
      · have e : (T == 0) = false := by simpa using hT
        rw [e] at HV
        go_enter Try.func16, Try.ntmps16
        go_wp2_with fail
        refine (HT.out).mono ?_; rintro e w1 ⟨rfl, hd1⟩
        have HD := Lib.hid hd1
        clear hd1
        go_wp2_with fail
        go_ret
        rw [HV.out]
        exact ⟨rfl, HD.out⟩
    · have HV : Hid (rvalidM l = false) := Lib.hid (decide_eq_false (fun h => h2 h.2.1))
      have i1 : (1 : Int) ≤ (l.length : Int) := by omega
      have i2 : ¬ (l.length : Int) ≤ 256 := by omega
      go_enter Try.func16, Try.ntmps16
      go_wp2_with fail
      go_ret
      rw [HV.out]
      exact ⟨rfl, Old.refl _⟩
  · have HV : Hid (rvalidM l = false) := Lib.hid (decide_eq_false (fun h => h1 h.1))
    have i1 : ¬ (1 : Int) ≤ (l.length : Int) := by omega
    go_enter Try.func16, Try.ntmps16
    go_wp2_with fail
    go_ret
    rw [HV.out]
    exact ⟨rfl, Old.refl _⟩
end Go.Proofs.Ythadkjgadhbidaa
namespace Go.Proofs.Ythadkjgadhbidaa
open Go.RowKit
set_option linter.unusedVariables false

def StPost (w : World) (r : List Nd) (e : Ending) (w' : World) : Prop := ∃ v, e = .returned v ∧ Own w' w.heap.size 42 7 v r.length (ndsV r) ∧ Old w w'
theorem own_st (w : World) (x : Nd) : Own (w.alloc (.cells #[.int .i64 x.kind, .int .i64 x.left, .int .i64 x.right, .int .u64 (setW x.set 0), .int .u64 (setW x.set 1), .int .u64 (setW x.set 2), .int .u64 (setW x.set 3)] 42)) w.heap.size 42 7 (.slice (some ⟨w.heap.size, 0, none⟩) 1 1) 1 (ndsV [x]) :=
  own_new w #[.int .i64 x.kind, .int .i64 x.left, .int .i64 x.right, .int .u64 (setW x.set 0), .int .u64 (setW x.set 1), .int .u64 (setW x.set 2), .int .u64 (setW x.set 3)] 1 7 42 (by decide) rfl
theorem own_st0 (w : World) (k a b : Int) : Own (w.alloc (.cells #[.int .i64 k, .int .i64 a, .int .i64 b, .int .u64 0, .int .u64 0, .int .u64 0, .int .u64 0] 42)) w.heap.size 42 7 (.slice (some ⟨w.heap.size, 0, none⟩) 1 1) 1 (ndsV [⟨k, a, b, 0⟩]) := by
  have := own_st w ⟨k, a, b, 0⟩
  simp only [setW_zero] at this
  exact this
theorem ndsV_append (a b : List Nd) : ndsV (a ++ b) = ndsV a ++ ndsV b := by unfold ndsV; rw [List.flatMap_append]
theorem own_st_len {w : World} {B n : Nat} {v : Value} {R : List Nd} (h : Own w B 42 7 v n (ndsV R)) : Own w B 42 7 v R.length (ndsV R) := by
  have := h.len
  rw [ndsV_length] at this
  rwa [show R.length = n by omega]
set_option maxHeartbeats 8000000 in
set_option maxRecDepth 100000 in
theorem rbuildC (An : Option Addr) (cn : Nat) (l : List Nd) (hl : l.length ≤ 256) {a n : Nat} (hs : Sub l a n) :
    ∀ (f at_ : Nat) (w : World), n < f → at_ + 2 * (n + 1 - a) ≤ 1000 → Rs w An (ndsV l) →
    Calls Try.prog 41 #[.slice An l.length cn, .int .i64 (n : Int), .int .i64 (at_ : Int)] w (StPost w (rbF l f n at_)) := by
  have HLL := Lib.hid hl
  clear hl
  induction hs with
  | leaf n h hk h1 h2 h3 =>
    intro f at_ w hf hat hr
    obtain ⟨f, rfl⟩ : ∃ g, f = g + 1 := ⟨f - 1, by omega⟩
    have hP : rbF l (f + 1) n at_ = if (nd l n).kind = 2 then [⟨1, (at_ : Int) + 1, 0, (nd l n).set⟩] else if (nd l n).kind = 8 then [⟨3, (at_ : Int) + 1, 0, 0⟩] else if (nd l n).kind = 9 then [⟨4, (at_ : Int) + 1, 0, 0⟩] else if (nd l n).kind = 1 then [⟨2, (at_ : Int) + 1, (at_ : Int) + 1, 0⟩] else [] := by
      rw [rbF, if_neg (show ¬ (nd l n).kind = 3 by omega), if_neg (show ¬ (nd l n).kind = 4 by omega), if_neg (show ¬ (nd l n).kind = 5 by omega), if_neg (show ¬ (nd l n).kind = 6 by omega)]
      by_cases k1 : (nd l n).kind = 1
      · rw [if_pos k1, if_pos k1]; rfl
      · rw [if_neg k1, if_neg k1]
        by_cases k2 : (nd l n).kind = 2
        · rw [if_pos k2, if_pos k2]; rfl
        · rw [if_neg k2, if_neg k2]
          by_cases k8 : (nd l n).kind = 8
          · rw [if_pos k8, if_pos k8]; rfl
          · rw [if_neg k8, if_neg k8, if_pos (by omega), if_pos (by omega)]; rfl
    have HP := Lib.hid hP
    clear hP hf h1 h2 h3
    have hx : l[n]? = some (nd l n) := by unfold nd; rw [List.getD_eq_getElem?_getD, List.getElem?_eq_getElem h]; rfl
    have HRW := Lib.hid hr
    obtain ⟨b, off, rfl, hbl, hcl⟩ := hr.at_ (by rw [ndsV_length]; omega)
    have hg := ndsV_get l n _ hx
    have c0 := hcl _ _ (hg 0 (by omega))
    have c1 := hcl _ _ (hg 1 (by omega))
    have c2 := hcl _ _ (hg 2 (by omega))
    have c3 := hcl _ _ (hg 3 (by omega))
    have c4 := hcl _ _ (hg 4 (by omega))
    have c5 := hcl _ _ (hg 5 (by omega))
    have c6 := hcl _ _ (hg 6 (by omega))
    rw [← Nat.add_assoc] at c0 c1 c2 c3 c4 c5 c6
    rw [Nat.add_zero] at c0
    have i0 : (0 : Int) ≤ ((n : Nat) : Int) := by omega
    have i1 : ((n : Nat) : Int) < (l.length : Int) := by omega
    clear hx hg hcl hbl hr
    generalize nd l n = y at *
    obtain ⟨kd, lf, rt, st⟩ := y
    simp only at hk HP
    replace c0 : w.cell? ⟨b, off + n * 7, none⟩ = some (.int .i64 kd) := c0
    replace c1 : w.cell? ⟨b, off + n * 7 + 1, none⟩ = some (.int .i64 lf) := c1
    replace c2 : w.cell? ⟨b, off + n * 7 + 2, none⟩ = some (.int .i64 rt) := c2
    replace c3 : w.cell? ⟨b, off + n * 7 + 3, none⟩ = some (.int .u64 (setW st 0)) := c3
    replace c4 : w.cell? ⟨b, off + n * 7 + 4, none⟩ = some (.int .u64 (setW st 1)) := c4
    replace c5 : w.cell? ⟨b, off + n * 7 + 5, none⟩ = some (.int .u64 (setW st 2)) := c5
    replace c6 : w.cell? ⟨b, off + n * 7 + 6, none⟩ = some (.int .u64 (setW st 3)) := c6
    go_enter Try.func41, Try.ntmps41
    go_upto_region 2 with fail
    have hk7 : NdAt (w.alloc (.cells (ndCells ⟨kd, lf, rt, st⟩).toArray 114)) w.heap.size ⟨kd, lf, rt, st⟩ := heap_alloc_new w _
    have HOW := Lib.hid ((Old.refl w).alloc (.cells (ndCells ⟨kd, lf, rt, st⟩).toArray 114))
    generalize hWW : w.alloc (.cells #[.int .i64 kd, .int .i64 lf, .int .i64 rt, .int .u64 (setW st 0), .int .u64 (setW st 1), .int .u64 (setW st 2), .int .u64 (setW st 3)] 114) = W
    have hWW' : w.alloc (.cells (ndCells ⟨kd, lf, rt, st⟩).toArray 114) = W := hWW
    rw [hWW'] at hk7 HOW
    clear hWW hWW' c0 c1 c2 c3 c4 c5 c6
    obtain ⟨d0, d1, d2, d3, d4, d5, d6⟩ := hk7.cells
    simp only at d0 d1 d2 d3 d4 d5 d6
    have HK := Lib.hid hk7
    clear hk7
    have HBS := Lib.hid HOW.out.size
    generalize hk7 : w.heap.size = k7 at *
    rcases hk with rfl | rfl | rfl | rfl
    · have HE : Hid (rbF l (f + 1) n at_ = [⟨2, (at_ : Int) + 1, (at_ : Int) + 1, 0⟩]) := Lib.hid (by rw [HP.out]; rfl)
      have HO := Lib.hid (own_st0 W 2 ((at_ : Int) + 1) ((at_ : Int) + 1))
      clear HP HK
      go_wp2_with fail
      go_ret
      rw [HE.out]
      exact ⟨_, rfl, HO.out.base (by rw [hk7]; exact HBS.out), HOW.out.alloc _⟩
    · have HE : Hid (rbF l (f + 1) n at_ = [⟨1, (at_ : Int) + 1, 0, st⟩]) := Lib.hid (by rw [HP.out]; rfl)
      have HO := Lib.hid (own_st W ⟨1, (at_ : Int) + 1, 0, st⟩)
      clear HP HK
      go_wp2_with fail
      go_ret
      rw [HE.out]
      exact ⟨_, rfl, HO.out.base (by rw [hk7]; exact HBS.out), HOW.out.alloc _⟩
    · have HE : Hid (rbF l (f + 1) n at_ = [⟨3, (at_ : Int) + 1, 0, 0⟩]) := Lib.hid (by rw [HP.out]; rfl)
      have HO := Lib.hid (own_st0 W 3 ((at_ : Int) + 1) 0)
      clear HP HK
      go_wp2_with fail
      go_ret
      rw [HE.out]
      exact ⟨_, rfl, HO.out.base (by rw [hk7]; exact HBS.out), HOW.out.alloc _⟩
    · have HE : Hid (rbF l (f + 1) n at_ = [⟨4, (at_ : Int) + 1, 0, 0⟩]) := Lib.hid (by rw [HP.out]; rfl)
      have HO := Lib.hid (own_st0 W 4 ((at_ : Int) + 1) 0)
      clear HP HK
      go_wp2_with fail
      go_ret
      rw [HE.out]
      exact ⟨_, rfl, HO.out.base (by rw [hk7]; exact HBS.out), HOW.out.alloc _⟩
  | one a n h hk h1 h2 h3 hs ih =>
    intro f at_ w hf hat hr
    obtain ⟨f, rfl⟩ : ∃ g, f = g + 1 := ⟨f - 1, by omega⟩
    have hle := hs.le
    have hL : (nd l (n + 1)).left.toNat = n := by omega
    have hP : rbF l (f + 1) (n + 1) at_ = if (nd l (n + 1)).kind = 5 then [⟨2, (at_ : Int) + 1, (at_ : Int) + 2 + ((rbF l f n (at_ + 1)).length : Int), 0⟩] ++ rbF l f n (at_ + 1) ++ [⟨2, (at_ : Int), (at_ : Int), 0⟩] else if (nd l (n + 1)).kind = 6 then rbF l f n at_ ++ [⟨2, (at_ : Int), (at_ : Int) + 1 + ((rbF l f n at_).length : Int), 0⟩] else [⟨2, (at_ : Int) + 1, (at_ : Int) + 1 + ((rbF l f n (at_ + 1)).length : Int), 0⟩] ++ rbF l f n (at_ + 1) := by
      rw [rbF, if_neg (by omega), if_neg (by omega), if_neg (by omega), if_neg (by omega), if_neg (by omega), if_neg (by omega), hL]
      by_cases k5 : (nd l (n + 1)).kind = 5
      · rw [if_pos k5, if_pos k5]; rfl
      · rw [if_neg k5, if_neg k5]
        by_cases k6 : (nd l (n + 1)).kind = 6
        · rw [if_pos k6, if_pos k6]; rfl
        · rw [if_neg k6, if_neg k6]; rfl
    have HP := Lib.hid hP
    have HIH := Lib.hid ih
    have HMD := Lib.hid (fun at_ => rbF_made hs f at_ (by omega))
    have hal := hle.1
    have HSZ : Hid (at_ + 2 * (n + 1 - a) + 2 ≤ 1000 ∧ 2 * (n + 1 - a) ≤ 1000) := Lib.hid (by omega)
    have hat1 : at_ ≤ 1000 := by omega
    have HF0 : Hid (n < f) := Lib.hid (by omega)
    have H1 := Lib.hid h1
    clear hP hf hat hL ih h1 h2 h3
    have hx : l[(n + 1)]? = some (nd l (n + 1)) := by unfold nd; rw [List.getD_eq_getElem?_getD, List.getElem?_eq_getElem h]; rfl
    have HRW := Lib.hid hr
    obtain ⟨b, off, rfl, hbl, hcl⟩ := hr.at_ (by rw [ndsV_length]; omega)
    have hg := ndsV_get l (n + 1) _ hx
    have c0 := hcl _ _ (hg 0 (by omega))
    have c1 := hcl _ _ (hg 1 (by omega))
    have c2 := hcl _ _ (hg 2 (by omega))
    have c3 := hcl _ _ (hg 3 (by omega))
    have c4 := hcl _ _ (hg 4 (by omega))
    have c5 := hcl _ _ (hg 5 (by omega))
    have c6 := hcl _ _ (hg 6 (by omega))
    rw [← Nat.add_assoc] at c0 c1 c2 c3 c4 c5 c6
    rw [Nat.add_zero] at c0
    have i0 : (0 : Int) ≤ (((n + 1) : Nat) : Int) := by omega
    have i1 : (((n + 1) : Nat) : Int) < (l.length : Int) := by omega
    clear hx hg hcl hbl hr
    generalize nd l (n + 1) = y at *
    obtain ⟨kd, lf, rt, st⟩ := y
    simp only at hk HP
    replace c0 : w.cell? ⟨b, off + (n + 1) * 7, none⟩ = some (.int .i64 kd) := c0
    replace c1 : w.cell? ⟨b, off + (n + 1) * 7 + 1, none⟩ = some (.int .i64 lf) := c1
    replace c2 : w.cell? ⟨b, off + (n + 1) * 7 + 2, none⟩ = some (.int .i64 rt) := c2
    replace c3 : w.cell? ⟨b, off + (n + 1) * 7 + 3, none⟩ = some (.int .u64 (setW st 0)) := c3
    replace c4 : w.cell? ⟨b, off + (n + 1) * 7 + 4, none⟩ = some (.int .u64 (setW st 1)) := c4
    replace c5 : w.cell? ⟨b, off + (n + 1) * 7 + 5, none⟩ = some (.int .u64 (setW st 2)) := c5
    replace c6 : w.cell? ⟨b, off + (n + 1) * 7 + 6, none⟩ = some (.int .u64 (setW st 3)) := c6
    go_enter Try.func41, Try.ntmps41
    go_upto_region 2 with fail
    have hk7 : NdAt (w.alloc (.cells (ndCells ⟨kd, lf, rt, st⟩).toArray 114)) w.heap.size ⟨kd, lf, rt, st⟩ := heap_alloc_new w _
    have HOW := Lib.hid ((Old.refl w).alloc (.cells (ndCells ⟨kd, lf, rt, st⟩).toArray 114))
    generalize hWW : w.alloc (.cells #[.int .i64 kd, .int .i64 lf, .int .i64 rt, .int .u64 (setW st 0), .int .u64 (setW st 1), .int .u64 (setW st 2), .int .u64 (setW st 3)] 114) = W
    have hWW' : w.alloc (.cells (ndCells ⟨kd, lf, rt, st⟩).toArray 114) = W := hWW
    rw [hWW'] at hk7 HOW
    clear hWW hWW' c0 c1 c2 c3 c4 c5 c6
    obtain ⟨d0, d1, d2, d3, d4, d5, d6⟩ := hk7.cells
    simp only at d0 d1 d2 d3 d4 d5 d6
    have HK := Lib.hid hk7
    clear hk7
    have HBS := Lib.hid HOW.out.size
    generalize hk7 : w.heap.size = k7 at *
    have h1 : lf = (n : Int) := H1.out
    subst h1
    rcases hk with rfl | rfl | rfl
    · have HE0 : Hid (∀ r, rbF l f n (at_ + 1) = r → rbF l (f + 1) (n + 1) at_ = [⟨2, (at_ : Int) + 1, (at_ : Int) + 2 + (r.length : Int), 0⟩] ++ r ++ [⟨2, (at_ : Int), (at_ : Int), 0⟩]) := Lib.hid (fun r e => by rw [HP.out, e]; rfl)
      clear HP
      have HC : Calls Try.prog 41 #[.slice (some ⟨b, off, none⟩) l.length cn, .int .i64 (n : Int), .int .i64 ((at_ : Int) + 1)] W (StPost W (rbF l f n (at_ + 1))) := HIH.out f (at_ + 1) W HF0.out (by have := HSZ.out; omega) (HRW.out.up HOW.out)
      have hm := (HMD.out (at_ + 1)).few
      have he := HE0.out
      generalize rbF l f n (at_ + 1) = r at *
      have HE := Lib.hid (he r rfl)
      have hlr : r.length ≤ 1000 := by have := HSZ.out; omega
      have HCC := Lib.hid HC
      clear HC he HE0 HIH HMD hm HRW
      go_wp2_with fail
      refine (HCC.out).mono ?_; rintro e w2 ⟨v2, rfl, ho2, hd2⟩
      obtain ⟨A2, c2, rfl, ht2, _, _⟩ := ho2.shape
      have HO2 := Lib.hid ho2
      have HR2 := Lib.hid ht2.rs
      have HB2 := Lib.hid hd2.size
      have HD2 := Lib.hid (HOW.out.up hd2)
      have HW2 := Lib.hid HOW.out.size
      clear ho2 ht2 hd2 HCC HOW HK d0 d1 d2 d3 d4 d5 d6
      go_wp2_with (at_builtin; refine wpList_pushAll rfl _ _ 28 rfl _ 42 (.agg #[.int .i64 0, .int .i64 0, .int .i64 0, .int .u64 0, .int .u64 0, .int .u64 0, .int .u64 0]) 7 56 Try.underlying28 info_st rfl (by decide) (by decide) _ _ _ (by rfl) (own_st0 w2 2 ((at_ : Int) + 1) ((at_ : Int) + 2 + (r.length : Int))) _ _ _ _ (by rfl) (HR2.out.alloc _) (ndsV_length _) (ndsV_one _) ?pn4 (by simp) ?_)
      case pn4 => omega
      intro v3 w3 ho3 hg3 hd3
      rw [← ndsV_append] at ho3
      obtain ⟨A3, c3, rfl, ht3, _, _⟩ := ho3.shape
      have hd3' := hd3 w2 ((Old.refl w2).alloc _) (Nat.le_refl _)
      have HO3 := Lib.hid ho3
      have HD3 := Lib.hid hd3'
      have HB3 := Lib.hid hd3'.size
      clear ho3 ht3 hg3 hd3 hd3' HO2 HR2
      go_wp2_with (at_builtin; refine wpList_push (wr := w3) rfl _ _ 28 rfl _ 42 (.agg #[.int .i64 0, .int .i64 0, .int .i64 0, .int .u64 0, .int .u64 0, .int .u64 0, .int .u64 0]) 7 56 Try.underlying28 info_st rfl (by decide) (by decide) _ _ _ rfl HO3.out 1 1 [.int .i64 2, .int .i64 (at_ : Int), .int .i64 (at_ : Int), .int .u64 0, .int .u64 0, .int .u64 0, .int .u64 0] rfl rfl rfl rfl ?pn1 HB3.out ?_)
      case pn1 => omega
      intro v4 w4 ho4 hg4 hd4
      have ho4' : Own w4 w2.heap.size 42 7 v4 (1 + r.length + 1) (ndsV (([⟨2, (at_ : Int) + 1, (at_ : Int) + 2 + (r.length : Int), 0⟩] ++ r) ++ [⟨2, (at_ : Int), (at_ : Int), 0⟩])) := by
        rw [ndsV_append _ [_]]
        have e : ndsV [(⟨2, (at_ : Int), (at_ : Int), 0⟩ : Nd)] = [.int .i64 2, .int .i64 (at_ : Int), .int .i64 (at_ : Int), .int .u64 0, .int .u64 0, .int .u64 0, .int .u64 0] := by simp [ndsV, ndCells, setW_zero]
        rw [e]; exact ho4
      have HO4 := Lib.hid ho4'
      have HD4 := Lib.hid (hd4 w2 HD3.out (Nat.le_refl _))
      clear ho4 ho4' hg4 hd4 HO3 HD3
      go_wp2_with fail
      go_ret
      rw [HE.out]
      exact ⟨_, rfl, (own_st_len HO4.out).base (HD2.out.size), HD2.out.up HD4.out⟩
    · have HE0 : Hid (∀ r, rbF l f n at_ = r → rbF l (f + 1) (n + 1) at_ = r ++ [⟨2, (at_ : Int), (at_ : Int) + 1 + (r.length : Int), 0⟩]) := Lib.hid (fun r e => by rw [HP.out, e]; rfl)
      clear HP
      have HC : Calls Try.prog 41 #[.slice (some ⟨b, off, none⟩) l.length cn, .int .i64 (n : Int), .int .i64 ((at_ : Int))] W (StPost W (rbF l f n (at_))) := HIH.out f (at_) W HF0.out (by have := HSZ.out; omega) (HRW.out.up HOW.out)
      have hm := (HMD.out (at_)).few
      have he := HE0.out
      generalize rbF l f n (at_) = r at *
      have HE := Lib.hid (he r rfl)
      have hlr : r.length ≤ 1000 := by have := HSZ.out; omega
      have HCC := Lib.hid HC
      clear HC he HE0 HIH HMD hm HRW
      go_wp2_with fail
      refine (HCC.out).mono ?_; rintro e w2 ⟨v2, rfl, ho2, hd2⟩
      obtain ⟨A2, c2, rfl, ht2, _, _⟩ := ho2.shape
      have HO2 := Lib.hid ho2
      have HR2 := Lib.hid ht2.rs
      have HB2 := Lib.hid hd2.size
      have HD2 := Lib.hid (HOW.out.up hd2)
      have HW2 := Lib.hid HOW.out.size
      clear ho2 ht2 hd2 HCC HOW HK d0 d1 d2 d3 d4 d5 d6
      go_wp2_with (at_builtin; refine wpList_push (wr := w2) rfl _ _ 28 rfl _ 42 (.agg #[.int .i64 0, .int .i64 0, .int .i64 0, .int .u64 0, .int .u64 0, .int .u64 0, .int .u64 0]) 7 56 Try.underlying28 info_st rfl (by decide) (by decide) _ _ _ rfl HO2.out 1 1 [.int .i64 2, .int .i64 (at_ : Int), .int .i64 ((at_ : Int) + 1 + (r.length : Int)), .int .u64 0, .int .u64 0, .int .u64 0, .int .u64 0] rfl rfl rfl rfl ?pn2 HB2.out ?_)
      case pn2 => omega
      intro v4 w4 ho4 hg4 hd4
      have ho4' : Own w4 W.heap.size 42 7 v4 (r.length + 1) (ndsV (r ++ [⟨2, (at_ : Int), (at_ : Int) + 1 + (r.length : Int), 0⟩])) := by
        rw [ndsV_append _ [_]]
        have e : ndsV [(⟨2, (at_ : Int), (at_ : Int) + 1 + (r.length : Int), 0⟩ : Nd)] = [.int .i64 2, .int .i64 (at_ : Int), .int .i64 ((at_ : Int) + 1 + (r.length : Int)), .int .u64 0, .int .u64 0, .int .u64 0, .int .u64 0] := by simp [ndsV, ndCells, setW_zero]
        rw [e]; exact ho4
      have HO4 := Lib.hid ho4'
      have HD4 := Lib.hid (hd4 w HD2.out HW2.out)
      clear ho4 ho4' hg4 hd4 HO2
      go_wp2_with fail
      go_ret
      rw [HE.out]
      exact ⟨_, rfl, (own_st_len HO4.out).base (HW2.out), HD4.out⟩
    · have HE0 : Hid (∀ r, rbF l f n (at_ + 1) = r → rbF l (f + 1) (n + 1) at_ = [⟨2, (at_ : Int) + 1, (at_ : Int) + 1 + (r.length : Int), 0⟩] ++ r) := Lib.hid (fun r e => by rw [HP.out, e]; rfl)
      clear HP
      have HC : Calls Try.prog 41 #[.slice (some ⟨b, off, none⟩) l.length cn, .int .i64 (n : Int), .int .i64 ((at_ : Int) + 1)] W (StPost W (rbF l f n (at_ + 1))) := HIH.out f (at_ + 1) W HF0.out (by have := HSZ.out; omega) (HRW.out.up HOW.out)
      have hm := (HMD.out (at_ + 1)).few
      have he := HE0.out
      generalize rbF l f n (at_ + 1) = r at *
      have HE := Lib.hid (he r rfl)
      have hlr : r.length ≤ 1000 := by have := HSZ.out; omega
      have HCC := Lib.hid HC
      clear HC he HE0 HIH HMD hm HRW
      go_wp2_with fail
      refine (HCC.out).mono ?_; rintro e w2 ⟨v2, rfl, ho2, hd2⟩
      obtain ⟨A2, c2, rfl, ht2, _, _⟩ := ho2.shape
      have HO2 := Lib.hid ho2
      have HR2 := Lib.hid ht2.rs
      have HB2 := Lib.hid hd2.size
      have HD2 := Lib.hid (HOW.out.up hd2)
      have HW2 := Lib.hid HOW.out.size
      clear ho2 ht2 hd2 HCC HOW HK d0 d1 d2 d3 d4 d5 d6
      go_wp2_with (at_builtin; refine wpList_pushAll rfl _ _ 28 rfl _ 42 (.agg #[.int .i64 0, .int .i64 0, .int .i64 0, .int .u64 0, .int .u64 0, .int .u64 0, .int .u64 0]) 7 56 Try.underlying28 info_st rfl (by decide) (by decide) _ _ _ (by rfl) (own_st0 w2 2 ((at_ : Int) + 1) ((at_ : Int) + 1 + (r.length : Int))) _ _ _ _ (by rfl) (HR2.out.alloc _) (ndsV_length _) (ndsV_one _) ?pn5 (by simp) ?_)
      case pn5 => omega
      intro v3 w3 ho3 hg3 hd3
      rw [← ndsV_append] at ho3
      have HO3 := Lib.hid ho3
      have HD3 := Lib.hid (hd3 w2 ((Old.refl w2).alloc _) (Nat.le_refl _))
      clear ho3 hg3 hd3 HO2 HR2
      go_wp2_with fail
      go_ret
      rw [HE.out]
      exact ⟨_, rfl, (own_st_len HO3.out).base (HD2.out.size), HD2.out.up HD3.out⟩
  | two a m n h hk h1 h2 h3 hs1 hs2 i1 i2 =>
    intro f at_ w hf hat hr
    obtain ⟨f, rfl⟩ : ∃ g, f = g + 1 := ⟨f - 1, by omega⟩
    have hle1 := hs1.le
    have hle2 := hs2.le
    have hL : (nd l (n + 1)).left.toNat = m := by omega
    have hR : (nd l (n + 1)).right.toNat = n := by omega
    have hP : ∀ r s, rbF l f m (if (nd l (n + 1)).kind = 3 then at_ else at_ + 1) = r → rbF l f n (if (nd l (n + 1)).kind = 3 then at_ + r.length else at_ + 2 + r.length) = s → rbF l (f + 1) (n + 1) at_ = if (nd l (n + 1)).kind = 3 then r ++ s else [⟨2, (at_ : Int) + 1, (at_ : Int) + 2 + (r.length : Int), 0⟩] ++ r ++ [⟨2, (at_ : Int) + 2 + (r.length : Int) + (s.length : Int), (at_ : Int) + 2 + (r.length : Int) + (s.length : Int), 0⟩] ++ s := by
      intro r s hr1 hs1'
      rw [rbF, if_neg (by omega), if_neg (by omega), if_neg (by omega), if_neg (by omega), hL, hR]
      by_cases k3 : (nd l (n + 1)).kind = 3
      · rw [if_pos k3] at hr1 hs1'
        subst hr1
        subst hs1'
        rw [if_pos k3, if_pos k3]
      · rw [if_neg k3] at hr1 hs1'
        subst hr1
        subst hs1'
        rw [if_neg k3, if_neg k3, if_pos (by omega)]
        rfl
    have HP := Lib.hid hP
    have HI1 := Lib.hid i1
    have HI2 := Lib.hid i2
    have HM1 := Lib.hid (fun at_ => rbF_made hs1 f at_ (by omega))
    have HM2 := Lib.hid (fun at_ => rbF_made hs2 f at_ (by omega))
    have HSZ : Hid (at_ + 2 * (n + 1 + 1 - a) ≤ 1000) := Lib.hid hat
    have hat1 : at_ ≤ 1000 := by omega
    have HF0 : Hid (n < f ∧ m < f ∧ a ≤ m ∧ m < n) := Lib.hid (by omega)
    have H1 := Lib.hid h1
    have H2 := Lib.hid h2
    clear hP hf hat hL hR i1 i2 h1 h2 h3
    have hx : l[(n + 1)]? = some (nd l (n + 1)) := by unfold nd; rw [List.getD_eq_getElem?_getD, List.getElem?_eq_getElem h]; rfl
    have HRW := Lib.hid hr
    obtain ⟨b, off, rfl, hbl, hcl⟩ := hr.at_ (by rw [ndsV_length]; omega)
    have hg := ndsV_get l (n + 1) _ hx
    have c0 := hcl _ _ (hg 0 (by omega))
    have c1 := hcl _ _ (hg 1 (by omega))
    have c2 := hcl _ _ (hg 2 (by omega))
    have c3 := hcl _ _ (hg 3 (by omega))
    have c4 := hcl _ _ (hg 4 (by omega))
    have c5 := hcl _ _ (hg 5 (by omega))
    have c6 := hcl _ _ (hg 6 (by omega))
    rw [← Nat.add_assoc] at c0 c1 c2 c3 c4 c5 c6
    rw [Nat.add_zero] at c0
    have i0 : (0 : Int) ≤ (((n + 1) : Nat) : Int) := by omega
    have i1 : (((n + 1) : Nat) : Int) < (l.length : Int) := by omega
    clear hx hg hcl hbl hr
    generalize nd l (n + 1) = y at *
    obtain ⟨kd, lf, rt, st⟩ := y
    simp only at hk HP
    replace c0 : w.cell? ⟨b, off + (n + 1) * 7, none⟩ = some (.int .i64 kd) := c0
    replace c1 : w.cell? ⟨b, off + (n + 1) * 7 + 1, none⟩ = some (.int .i64 lf) := c1
    replace c2 : w.cell? ⟨b, off + (n + 1) * 7 + 2, none⟩ = some (.int .i64 rt) := c2
    replace c3 : w.cell? ⟨b, off + (n + 1) * 7 + 3, none⟩ = some (.int .u64 (setW st 0)) := c3
    replace c4 : w.cell? ⟨b, off + (n + 1) * 7 + 4, none⟩ = some (.int .u64 (setW st 1)) := c4
    replace c5 : w.cell? ⟨b, off + (n + 1) * 7 + 5, none⟩ = some (.int .u64 (setW st 2)) := c5
    replace c6 : w.cell? ⟨b, off + (n + 1) * 7 + 6, none⟩ = some (.int .u64 (setW st 3)) := c6
    go_enter Try.func41, Try.ntmps41
    go_upto_region 2 with fail
    have hk7 : NdAt (w.alloc (.cells (ndCells ⟨kd, lf, rt, st⟩).toArray 114)) w.heap.size ⟨kd, lf, rt, st⟩ := heap_alloc_new w _
    have HOW := Lib.hid ((Old.refl w).alloc (.cells (ndCells ⟨kd, lf, rt, st⟩).toArray 114))
    generalize hWW : w.alloc (.cells #[.int .i64 kd, .int .i64 lf, .int .i64 rt, .int .u64 (setW st 0), .int .u64 (setW st 1), .int .u64 (setW st 2), .int .u64 (setW st 3)] 114) = W
    have hWW' : w.alloc (.cells (ndCells ⟨kd, lf, rt, st⟩).toArray 114) = W := hWW
    rw [hWW'] at hk7 HOW
    clear hWW hWW' c0 c1 c2 c3 c4 c5 c6
    obtain ⟨d0, d1, d2, d3, d4, d5, d6⟩ := hk7.cells
    simp only at d0 d1 d2 d3 d4 d5 d6
    have HK := Lib.hid hk7
    clear hk7
    have HBS := Lib.hid HOW.out.size
    generalize hk7 : w.heap.size = k7 at *
    have h1 : lf = (m : Int) := H1.out
    have h2 : rt = (n : Int) := H2.out
    subst h1
    subst h2
    rcases hk with rfl | rfl
    · have HE0 : Hid (∀ r s, rbF l f m at_ = r → rbF l f n (at_ + r.length) = s → rbF l (f + 1) (n + 1) at_ = r ++ s) := Lib.hid (fun r s e1 e2 => HP.out r s e1 e2)
      clear HP
      have HC : Calls Try.prog 41 #[.slice (some ⟨b, off, none⟩) l.length cn, .int .i64 (m : Int), .int .i64 ((at_ : Int))] W (StPost W (rbF l f m (at_))) := HI1.out f (at_) W HF0.out.2.1 (by have := HSZ.out; have := HF0.out; omega) (HRW.out.up HOW.out)
      have hm := (HM1.out (at_)).few
      have he := HE0.out
      clear HE0 HI1
      generalize rbF l f m (at_) = r at *
      have hlr : r.length ≤ 1000 := by have := HSZ.out; have := HF0.out; omega
      have HC2 : ∀ w', Old w w' → Calls Try.prog 41 #[.slice (some ⟨b, off, none⟩) l.length cn, .int .i64 (n : Int), .int .i64 ((at_ : Int) + (r.length : Int))] w' (StPost w' (rbF l f n (at_ + r.length))) := fun w' h => HI2.out f (at_ + r.length) w' HF0.out.1 (by have := HSZ.out; have := HF0.out; omega) (HRW.out.up h)
      have hm2 := (HM2.out (at_ + r.length)).few
      replace he := he r _ rfl rfl
      generalize rbF l f n (at_ + r.length) = s at *
      have hls : s.length ≤ 1000 := by have := HSZ.out; have := HF0.out; omega
      have HE := Lib.hid he
      have HCC := Lib.hid HC
      have HCC2 := Lib.hid HC2
      clear HC HC2 he HI2 HM1 HM2 hm hm2 HRW
      go_wp2_with fail
      refine (HCC.out).mono ?_; rintro e w2 ⟨v2, rfl, ho2, hd2⟩
      obtain ⟨A2, c2, rfl, ht2, _, _⟩ := ho2.shape
      have e2 := hd2.cell d2
      have HO2 := Lib.hid ho2
      have HR2 := Lib.hid ht2.rs
      have HB2 := Lib.hid hd2.size
      have HD2 := Lib.hid (HOW.out.up hd2)
      have HW2 := Lib.hid HOW.out.size
      clear ho2 ht2 hd2 HCC HOW HK d0 d1 d2 d3 d4 d5 d6
      go_wp2_with fail
      refine ((HCC2.out _ HD2.out)).mono ?_; rintro e w3 ⟨v3, rfl, ho3, hd3⟩
      obtain ⟨A3, c3, rfl, ht3, _, _⟩ := ho3.shape
      have HR3 := Lib.hid ht3.rs
      have HB3 := Lib.hid hd3
      clear ho3 ht3 hd3 HCC2 e2
      go_wp2_with (at_builtin; refine wpList_pushAll rfl _ _ 28 rfl _ 42 (.agg #[.int .i64 0, .int .i64 0, .int .i64 0, .int .u64 0, .int .u64 0, .int .u64 0, .int .u64 0]) 7 56 Try.underlying28 info_st rfl (by decide) (by decide) _ _ _ (by rfl) (HO2.out.up HB3.out) _ _ _ _ (by rfl) HR3.out (ndsV_length _) (ndsV_one _) ?pn6 (Nat.le_trans HB2.out HB3.out.size) ?_)
      case pn6 => omega
      intro v4 w4 ho4 hg4 hd4
      rw [← ndsV_append] at ho4
      have HO4 := Lib.hid ho4
      have HD4 := Lib.hid (hd4 w (HD2.out.up HB3.out) HW2.out)
      clear ho4 hg4 hd4 HO2 HR2 HR3
      go_wp2_with fail
      go_ret
      rw [HE.out]
      exact ⟨_, rfl, (own_st_len HO4.out).base (HW2.out), HD4.out⟩
    · have HE0 : Hid (∀ r s, rbF l f m (at_ + 1) = r → rbF l f n (at_ + 2 + r.length) = s → rbF l (f + 1) (n + 1) at_ = [⟨2, (at_ : Int) + 1, (at_ : Int) + 2 + (r.length : Int), 0⟩] ++ r ++ [⟨2, (at_ : Int) + 2 + (r.length : Int) + (s.length : Int), (at_ : Int) + 2 + (r.length : Int) + (s.length : Int), 0⟩] ++ s) := Lib.hid (fun r s e1 e2 => HP.out r s e1 e2)
      clear HP
      have HC : Calls Try.prog 41 #[.slice (some ⟨b, off, none⟩) l.length cn, .int .i64 (m : Int), .int .i64 ((at_ : Int) + 1)] W (StPost W (rbF l f m (at_ + 1))) := HI1.out f (at_ + 1) W HF0.out.2.1 (by have := HSZ.out; have := HF0.out; omega) (HRW.out.up HOW.out)
      have hm := (HM1.out (at_ + 1)).few
      have he := HE0.out
      clear HE0 HI1
      generalize rbF l f m (at_ + 1) = r at *
      have hlr : r.length ≤ 1000 := by have := HSZ.out; have := HF0.out; omega
      have HC2 : ∀ w', Old w w' → Calls Try.prog 41 #[.slice (some ⟨b, off, none⟩) l.length cn, .int .i64 (n : Int), .int .i64 ((at_ : Int) + 2 + (r.length : Int))] w' (StPost w' (rbF l f n (at_ + 2 + r.length))) := fun w' h => HI2.out f (at_ + 2 + r.length) w' HF0.out.1 (by have := HSZ.out; have := HF0.out; omega) (HRW.out.up h)
      have hm2 := (HM2.out (at_ + 2 + r.length)).few
      replace he := he r _ rfl rfl
      generalize rbF l f n (at_ + 2 + r.length) = s at *
      have hls : s.length ≤ 1000 := by have := HSZ.out; have := HF0.out; omega
      have HE := Lib.hid he
      have HCC := Lib.hid HC
      have HCC2 := Lib.hid HC2
      clear HC HC2 he HI2 HM1 HM2 hm hm2 HRW
      go_wp2_with fail
      refine (HCC.out).mono ?_; rintro e w2 ⟨v2, rfl, ho2, hd2⟩
      obtain ⟨A2, c2, rfl, ht2, _, _⟩ := ho2.shape
      have e2 := hd2.cell d2
      have HO2 := Lib.hid ho2
      have HR2 := Lib.hid ht2.rs
      have HB2 := Lib.hid hd2.size
      have HD2 := Lib.hid (HOW.out.up hd2)
      have HW2 := Lib.hid HOW.out.size
      clear ho2 ht2 hd2 HCC HOW HK d0 d1 d2 d3 d4 d5 d6
      go_wp2_with fail
      refine ((HCC2.out _ HD2.out)).mono ?_; rintro e w3 ⟨v3, rfl, ho3, hd3⟩
      obtain ⟨A3, c3, rfl, ht3, _, _⟩ := ho3.shape
      have HR3 := Lib.hid ht3.rs
      have HB3 := Lib.hid hd3
      clear ho3 ht3 hd3 HCC2 e2
      go_wp2_with (at_builtin; refine wpList_pushAll rfl _ _ 28 rfl _ 42 (.agg #[.int .i64 0, .int .i64 0, .int .i64 0, .int .u64 0, .int .u64 0, .int .u64 0, .int .u64 0]) 7 56 Try.underlying28 info_st rfl (by decide) (by decide) _ _ _ (by rfl) (own_st0 w3 2 ((at_ : Int) + 1) ((at_ : Int) + 2 + (r.length : Int))) _ _ _ _ (by rfl) ((HR2.out.up HB3.out).alloc _) (ndsV_length _) (ndsV_one _) ?pn7 (by simp) ?_)
      case pn7 => omega
      intro v4 w4 ho4 hg4 hd4
      rw [← ndsV_append] at ho4
      obtain ⟨A4, c4, rfl, ht4, _, _⟩ := ho4.shape
      have hd4' := hd4 w3 ((Old.refl w3).alloc _) (Nat.le_refl _)
      have HO4 := Lib.hid ho4
      have HD4 := Lib.hid hd4'
      have HB4 := Lib.hid hd4'.size
      clear ho4 ht4 hg4 hd4 hd4' HO2 HR2
      go_wp2_with (at_builtin; refine wpList_push (wr := w4) rfl _ _ 28 rfl _ 42 (.agg #[.int .i64 0, .int .i64 0, .int .i64 0, .int .u64 0, .int .u64 0, .int .u64 0, .int .u64 0]) 7 56 Try.underlying28 info_st rfl (by decide) (by decide) _ _ _ rfl HO4.out 1 1 [.int .i64 2, .int .i64 ((at_ : Int) + 2 + (r.length : Int) + (s.length : Int)), .int .i64 ((at_ : Int) + 2 + (r.length : Int) + (s.length : Int)), .int .u64 0, .int .u64 0, .int .u64 0, .int .u64 0] rfl rfl rfl rfl ?pn3 HB4.out ?_)
      case pn3 => omega
      intro v5 w5 ho5 hg5 hd5
      have ho5' : Own w5 w3.heap.size 42 7 v5 (1 + r.length + 1) (ndsV (([⟨2, (at_ : Int) + 1, (at_ : Int) + 2 + (r.length : Int), 0⟩] ++ r) ++ [⟨2, (at_ : Int) + 2 + (r.length : Int) + (s.length : Int), (at_ : Int) + 2 + (r.length : Int) + (s.length : Int), 0⟩])) := by
        rw [ndsV_append _ [_]]
        have e : ndsV [(⟨2, (at_ : Int) + 2 + (r.length : Int) + (s.length : Int), (at_ : Int) + 2 + (r.length : Int) + (s.length : Int), 0⟩ : Nd)] = [.int .i64 2, .int .i64 ((at_ : Int) + 2 + (r.length : Int) + (s.length : Int)), .int .i64 ((at_ : Int) + 2 + (r.length : Int) + (s.length : Int)), .int .u64 0, .int .u64 0, .int .u64 0, .int .u64 0] := by simp [ndsV, ndCells, setW_zero]
        rw [e]; exact ho5
      obtain ⟨A5, c5, rfl, ht5, _, _⟩ := ho5'.shape
      have hd5' := hd5 w3 HD4.out (Nat.le_refl _)
      have HO5 := Lib.hid ho5'
      have HD5 := Lib.hid hd5'
      clear ho5 ho5' ht5 hg5 hd5 hd5' HO4 HD4
      go_wp2_with (at_builtin; refine wpList_pushAll rfl _ _ 28 rfl _ 42 (.agg #[.int .i64 0, .int .i64 0, .int .i64 0, .int .u64 0, .int .u64 0, .int .u64 0, .int .u64 0]) 7 56 Try.underlying28 info_st rfl (by decide) (by decide) _ _ _ (by rfl) HO5.out _ _ _ _ (by rfl) (HR3.out.up HD5.out) (ndsV_length _) (ndsV_one _) ?pn8 HD5.out.size ?_)
      case pn8 => omega
      intro v6 w6 ho6 hg6 hd6
      rw [← ndsV_append] at ho6
      have HO6 := Lib.hid ho6
      have HD6 := Lib.hid (hd6 w3 HD5.out (Nat.le_refl _))
      clear ho6 hg6 hd6 HO5 HR3
      go_wp2_with fail
      go_ret
      rw [HE.out]
      exact ⟨_, rfl, (own_st_len HO6.out).base (Nat.le_trans HD2.out.size HB3.out.size), (HD2.out.up HB3.out).up HD6.out⟩
end Go.Proofs.Ythadkjgadhbidaa
