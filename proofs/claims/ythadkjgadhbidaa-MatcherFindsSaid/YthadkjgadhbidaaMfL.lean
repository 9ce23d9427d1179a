/-
  The walks of the reference's build and Compile (automata).
-/
import Derived.Test.YthadkjgadhbidaaMtW
import Derived.Deep.RegionHeld3
import Derived.Deep.CutBlock
import Derived.Test.YthadkjgadhbidaaRgA
import Derived.Lib.SliceRun
import Derived.Deep.DeepCutAuto
import Derived.Test.YthadkjgadhbidaaNfR
import Derived.Test.YthadkjgadhbidaaRgN
import Derived.Test.YthadkjgadhbidaaRxM
import Derived.Test.YthadkjgadhbidaaStep
import Derived.Test.YthadkjgadhbidaaRegInvB
import Derived.Test.YthadkjgadhbidaaRgG
import Derived.Test.YthadkjgadhbidaaVlS
import Derived.Test.YthadkjgadhbidaaVlW
import Derived.Test.YthadkjgadhbidaaRxY
import Derived.Test.YthadkjgadhbidaaRxN
/-
  The matcher's spread, begin.
-/
namespace Go.Proofs.Ythadkjgadhbidaa
open Go.RowKit
set_option linter.unusedVariables false

theorem any_snoc (st : List Nd) (L : List Nat) (s : Nat) : ndone st (L ++ [s]) = (ndone st L || decide ((nd st s).kind = 5)) := by
  unfold ndone; rw [List.any_append]; simp
theorem fd_enter (st : List Nd) (L : List Nat) (s : Nat) : fdM st L s (ndone st L) = ndone st (enterM L s) := by
  unfold fdM enterM
  by_cases h : s ∈ L
  · rw [if_pos h, if_pos h]
  · rw [if_neg h, if_neg h, any_snoc]
theorem nspreadF_end (st : List Nd) (bol eol : Bool) (f i : Nat) (L : List Nat) (h : L.length ≤ i) : nspreadF st bol eol f i L = L := by
  cases f with
  | zero => rfl
  | succ f => rw [nspreadF, if_neg (by omega)]
def MDone (w : World) (lv : Value) (w0 : World) (B g gm : Nat) (st : List Nd) (A : Option Addr) (c : Nat) (bol : Bool) (cnt : Nat) (L : List Nat) (e : Ending) (w' : World) : Prop :=
  e = .returned (.tuple #[]) ∧ ∃ lv', MK w0 w' B g gm st A c lv' bol cnt (ndone st L) L L ∧ MKept w w' g gm lv lv'
theorem menterD (w0 : World) (B g gm : Nat) (st : List Nd) (A : Option Addr) (c : Nat) (lv : Value) (bol : Bool) (cnt : Nat) (L : List Nat) (w : World) (h : MK w0 w B g gm st A c lv bol cnt (ndone st L) L L) (hl : st.length ≤ 1000) (hL : Spots st.length L) (s : Nat) (hs : s < st.length) :
    Calls Try.prog 82 #[.pointer (some ⟨g, 0, none⟩), .int .i64 (s : Int)] w (MDone w lv w0 B g gm st A c bol cnt (enterM L s)) := by
  have := menterC w0 B g gm st A c lv bol cnt (ndone st L) L w h hl hL s hs
  rw [fd_enter] at this
  exact this
def MSRel (w w0 : World) (B g gm : Nat) (st : List Nd) (A : Option Addr) (c : Nat) (lv : Value) (bol eol : Bool) (cnt : Nat) (L : List Nat) (v : Value) (wr : World) : Prop :=
  ∃ (k : Nat) (L1 : List Nat) (lv1 : Value), v = .int .i64 k ∧ k ≤ st.length ∧ Hid (MK w0 wr B g gm st A c lv1 bol cnt (ndone st L1) L1 L1) ∧ Hid (MKept w wr g gm lv lv1) ∧ Hid (Spots st.length L1) ∧ Hid (nspreadF st bol eol (st.length - k) k L1 = nspreadF st bol eol st.length 0 L)
/-- A struct that lies in block k. -/
def StAt (w : World) (k : Nat) (x : Nd) : Prop := w.heap[k]? = some (.cells (ndCells x).toArray 42 (0, 0))
theorem StAt.cells {w : World} {k : Nat} {x : Nd} (h : StAt w k x) : w.cell? ⟨k, 0, none⟩ = some (.int .i64 x.kind) ∧ w.cell? ⟨k, 1, none⟩ = some (.int .i64 x.left) ∧ w.cell? ⟨k, 2, none⟩ = some (.int .i64 x.right) ∧
    w.cell? ⟨k, 3, none⟩ = some (.int .u64 (setW x.set 0)) ∧ w.cell? ⟨k, 4, none⟩ = some (.int .u64 (setW x.set 1)) ∧ w.cell? ⟨k, 5, none⟩ = some (.int .u64 (setW x.set 2)) ∧ w.cell? ⟨k, 6, none⟩ = some (.int .u64 (setW x.set 3)) :=
  ⟨by rw [cell_of_row w k 0 _ _ _ h]; rfl, by rw [cell_of_row w k 1 _ _ _ h]; rfl, by rw [cell_of_row w k 2 _ _ _ h]; rfl, by rw [cell_of_row w k 3 _ _ _ h]; rfl, by rw [cell_of_row w k 4 _ _ _ h]; rfl, by rw [cell_of_row w k 5 _ _ _ h]; rfl, by rw [cell_of_row w k 6 _ _ _ h]; rfl⟩
set_option maxHeartbeats 8000000 in
set_option maxRecDepth 100000 in
theorem mspreadC (w0 : World) (B g gm : Nat) (st : List Nd) (A : Option Addr) (c : Nat) (lv : Value) (bol : Bool) (cnt : Nat) (L : List Nat) (w : World) (h : MK w0 w B g gm st A c lv bol cnt (ndone st L) L L) (hv : svalid st = true) (hL : Spots st.length L) (eol : Bool) :
    Calls Try.prog 81 #[.pointer (some ⟨g, 0, none⟩), .bool eol] w (MDone w lv w0 B g gm st A c bol cnt (nspread st bol eol L)) := by
  unfold nspread
  have HH := Lib.hid h
  have HLL := Lib.hid hL
  have HV := Lib.hid hv
  have hsz := (svalid_ok hv).2.1
  have HSZ := Lib.hid hsz
  clear h hL hv hsz
  go_enter Try.func81, Try.ntmps81
  go_wp2_with fail
  go_loopw [4] (fun s4 wr => MSRel w w0 B g gm st A c lv bol eol cnt L s4 wr) (fun s4 _ => st.length - (intOf s4).toNat)
  case atStart => exact ⟨0, L, lv, rfl, Nat.zero_le _, HH, Lib.hid (MKept.refl _ _ _ _), HLL, Lib.hid rfl⟩
  case round =>
    obtain ⟨k, L1, lv1, rfl, hk, HW, HKW, HS, HE⟩ := hrel
    have hlen := HS.out.len
    have hsz := HSZ.out
    obtain ⟨Al, cl, rfl, _, _, _⟩ := HW.out.own.shape
    obtain ⟨e0, _, e2, e3, _, _⟩ := HW.out.cells
    by_cases hkl : k < L1.length
    · obtain ⟨ga, ca, hv, _, _, _, _⟩ := HW.out.own.form (by omega)
      injection hv with hA _ hc
      subst hA
      subst hc
      have es := (HW.out.own.cellAt (spm_get L1 k hkl)).1
      have i1 : (0 : Int) ≤ (k : Int) := by omega
      have i2 : (k : Int) < (L1.length : Int) := by omega
      have hsl : L1.getD k 0 < st.length := HS.out.2 _ (by rw [List.getD_eq_getElem?_getD, List.getElem?_eq_getElem hkl]; exact List.getElem_mem hkl)
      have hun : nspreadF st bol eol (st.length - k) k L1 = nspreadF st bol eol (st.length - (k + 1)) (k + 1) (nvisit st bol eol (L1.getD k 0) L1) := by
        obtain ⟨f, hf⟩ : ∃ f, st.length - k = f + 1 := ⟨st.length - k - 1, by omega⟩
        rw [hf, nspreadF, if_pos hkl, show st.length - (k + 1) = f by omega]
      have HU := Lib.hid (hun.symm.trans HE.out)
      clear HE hun
      generalize L1.getD k 0 = s at *
      have hok := (svalid_ok HV.out).2.2 s hsl
      have hx : st[s]? = some (nd st s) := by unfold nd; rw [List.getD_eq_getElem?_getD, List.getElem?_eq_getElem hsl]; rfl
      obtain ⟨b, off, rfl, _, hcl⟩ := (HW.out.nodes.up HW.out.old).at_ (by rw [ndsV_length]; omega)
      have hg := ndsV_get st s _ hx
      have c0 := hcl _ _ (hg 0 (by omega))
      have c1 := hcl _ _ (hg 1 (by omega))
      have c2 := hcl _ _ (hg 2 (by omega))
      have c3 := hcl _ _ (hg 3 (by omega))
      have c4 := hcl _ _ (hg 4 (by omega))
      have c5 := hcl _ _ (hg 5 (by omega))
      have c6 := hcl _ _ (hg 6 (by omega))
      rw [← Nat.add_assoc] at c0 c1 c2 c3 c4 c5 c6
      rw [Nat.add_zero] at c0
      have s1 : (0 : Int) ≤ (s : Int) := by omega
      have s2 : (s : Int) < (st.length : Int) := by omega
      have HVd : Hid (nvisit st bol eol s L1 = if (nd st s).kind = 2 then enterM (enterM L1 (nd st s).left.toNat) (nd st s).right.toNat
  else if ((nd st s).kind = 3 ∧ bol = true) ∨ ((nd st s).kind = 4 ∧ eol = true) then enterM L1 (nd st s).left.toNat else L1) := Lib.hid rfl
      have HSL := Lib.hid hsl
      clear hx hcl hg hsl
      generalize nd st s = y at *
      obtain ⟨kd, lf, rt, se⟩ := y
      replace c0 : wr.cell? ⟨b, off + s * 7, none⟩ = some (.int .i64 kd) := c0
      replace c1 : wr.cell? ⟨b, off + s * 7 + 1, none⟩ = some (.int .i64 lf) := c1
      replace c2 : wr.cell? ⟨b, off + s * 7 + 2, none⟩ = some (.int .i64 rt) := c2
      replace c3 : wr.cell? ⟨b, off + s * 7 + 3, none⟩ = some (.int .u64 (setW se 0)) := c3
      replace c4 : wr.cell? ⟨b, off + s * 7 + 4, none⟩ = some (.int .u64 (setW se 1)) := c4
      replace c5 : wr.cell? ⟨b, off + s * 7 + 5, none⟩ = some (.int .u64 (setW se 2)) := c5
      replace c6 : wr.cell? ⟨b, off + s * 7 + 6, none⟩ = some (.int .u64 (setW se 3)) := c6
      have n0 := World.new_ne wr _ e0
      have n1 := World.new_ne wr _ es
      have n2 := World.new_ne wr _ c0
      go_upto_region 3 with fail
      go_region_held3 (fun w' => w'.cell? ⟨g, 0, none⟩ = some (.slice (some ⟨b, off, none⟩) st.length c) ∧ w'.cell? ⟨g, 2, none⟩ = some (.slice (some ⟨ga, 0, none⟩) L1.length cl) ∧ w'.cell? ⟨ga, k, none⟩ = some (.int .i64 (s : Int)) ∧ w'.cell? ⟨b, off + s * 7, none⟩ = some (.int .i64 kd) ∧ w'.cell? ⟨b, off + s * 7 + 1, none⟩ = some (.int .i64 lf) ∧ w'.cell? ⟨b, off + s * 7 + 2, none⟩ = some (.int .i64 rt) ∧ w'.cell? ⟨b, off + s * 7 + 3, none⟩ = some (.int .u64 (setW se 0)) ∧ w'.cell? ⟨b, off + s * 7 + 4, none⟩ = some (.int .u64 (setW se 1)) ∧ w'.cell? ⟨b, off + s * 7 + 5, none⟩ = some (.int .u64 (setW se 2)) ∧ w'.cell? ⟨b, off + s * 7 + 6, none⟩ = some (.int .u64 (setW se 3))) (go_keep) (fail)
      have hk7 : StAt (wr.alloc (.cells (ndCells ⟨kd, lf, rt, se⟩).toArray 42)).drew wr.heap.size ⟨kd, lf, rt, se⟩ := heap_alloc_new wr _
      have hoW : Old wr (wr.alloc (.cells (ndCells ⟨kd, lf, rt, se⟩).toArray 42)).drew := ((Old.refl wr).alloc _).drew
      have hWe : (wr.alloc (.cells #[.int .i64 kd, .int .i64 lf, .int .i64 rt, .int .u64 (setW se 0), .int .u64 (setW se 1), .int .u64 (setW se 2), .int .u64 (setW se 3)] 42)).drew = (wr.alloc (.cells (ndCells ⟨kd, lf, rt, se⟩).toArray 42)).drew := rfl
      rw [hWe]
      have HWW := Lib.hid (HW.out.up hoW)
      have HKW2 := Lib.hid (HKW.out.trans (MKept.of_old hoW g gm (.slice (some ⟨ga, 0, none⟩) L1.length cl)))
      have HFR : Hid (wr.heap.size ≠ g ∧ wr.heap.size ≠ gm ∧ some wr.heap.size ≠ (Value.slice (some ⟨ga, 0, none⟩) L1.length cl).ownBlock) := Lib.hid ⟨by have := lt_of_block HW.out.blk; omega, by have := lt_of_block HW.out.mks; omega, fun e => by have := (World.ownsRow.lt HW.out.own _ e.symm).2; omega⟩
      generalize (wr.alloc (.cells (ndCells ⟨kd, lf, rt, se⟩).toArray 42)).drew = W at *
      generalize wr.heap.size = k7 at *
      clear c0 c1 c2 c3 c4 c5 c6 e0 e2 e3 es n0 n1 n2 hWe hoW HW HKW s1 s2
      have HK7 := Lib.hid hk7
      obtain ⟨d0, d1, d2, _⟩ := hk7.cells
      simp only at d0 d1 d2
      clear hk7
      obtain ⟨_, _, _, g3, _, _⟩ := HWW.out.cells
      obtain ⟨o1, o2, o3, o4⟩ := hok
      simp only at o1 o2 o3 o4 HVd
      have hkc : kd = 1 ∨ kd = 2 ∨ kd = 3 ∨ kd = 4 ∨ kd = 5 := by omega
      rcases hkc with rfl | rfl | rfl | rfl | rfl
      · have HN : Hid (nvisit st bol eol s L1 = L1) := Lib.hid (by rw [HVd.out]; simp)
        go_wp2_with fail
        go_roundw
        case rel => exact ⟨k + 1, _, _, rfl, by omega, HWW, HKW2, HS, Lib.hid (by rw [← HN.out]; exact HU.out)⟩
        case measure => simp [intOf]; omega
      · obtain ⟨a, rfl⟩ := Int.eq_ofNat_of_zero_le (o3 (by decide)).1
        obtain ⟨e, rfl⟩ := Int.eq_ofNat_of_zero_le (o4 rfl).1
        have ha : a < st.length := by have := (o3 (by decide)).2; omega
        have he : e < st.length := by have := (o4 rfl).2; omega
        have HN : Hid (nvisit st bol eol s L1 = enterM (enterM L1 a) e) := Lib.hid (by rw [HVd.out]; simp)
        have HC := Lib.hid (menterD w0 B g gm st _ c _ bol cnt L1 W HWW.out (by omega) HS.out a ha)
        have HAL := Lib.hid ha
        have HEL := Lib.hid he
        clear HVd ha he o3 o4
        go_wp2_with fail
        refine (HC.out).mono ?_; rintro e w2 ⟨rfl, lv2, hm2, hk2⟩
        obtain ⟨hb2, hf2⟩ := hk2.block HK7.out HFR.out.1 HFR.out.2.1 HFR.out.2.2
        have hs2 := HS.out.enter HAL.out
        have HC2 := Lib.hid (menterD w0 B g gm st _ c lv2 bol cnt (enterM L1 a) w2 hm2 (by omega) hs2 e HEL.out)
        have HK2 := Lib.hid (HKW2.out.trans hk2)
        have HS2 := Lib.hid hs2
        obtain ⟨_, _, d2, _⟩ := (show StAt w2 k7 _ from hb2).cells
        simp only at d2
        clear hm2 hk2 hb2 hf2 hs2 HC
        go_wp2_with fail
        refine (HC2.out).mono ?_; rintro e w3 ⟨rfl, lv3, hm3, hk3⟩
        have HM3 := Lib.hid hm3
        have HK3 := Lib.hid (HK2.out.trans hk3)
        have HS3 := Lib.hid (HS2.out.enter HEL.out)
        clear hm3 hk3 HC2
        go_wp2_with fail
        go_roundw
        case rel => exact ⟨k + 1, _, lv3, rfl, by omega, HM3, HK3, HS3, Lib.hid (by rw [← HN.out]; exact HU.out)⟩
        case measure => simp [intOf]; omega
      · obtain ⟨a, rfl⟩ := Int.eq_ofNat_of_zero_le (o3 (by decide)).1
        have ha : a < st.length := by have := (o3 (by decide)).2; omega
        have HAL := Lib.hid ha
        cases bol with
        | false =>
          have HN : Hid (nvisit st false eol s L1 = L1) := Lib.hid (by rw [HVd.out]; simp)
          clear HVd ha o3 o4
          go_wp2_with fail
          go_roundw
          case rel => exact ⟨k + 1, _, _, rfl, by omega, HWW, HKW2, HS, Lib.hid (by rw [← HN.out]; exact HU.out)⟩
          case measure => simp [intOf]; omega
        | true =>
          have HN : Hid (nvisit st true eol s L1 = enterM L1 a) := Lib.hid (by rw [HVd.out]; simp)
          have HC := Lib.hid (menterD w0 B g gm st _ c _ _ cnt L1 W HWW.out (by omega) HS.out a ha)
          clear HVd ha o3 o4
          go_wp2_with fail
          refine (HC.out).mono ?_; rintro e w2 ⟨rfl, lv2, hm2, hk2⟩
          have HM2 := Lib.hid hm2
          have HK2 := Lib.hid (HKW2.out.trans hk2)
          have HS2 := Lib.hid (HS.out.enter HAL.out)
          clear hm2 hk2 HC
          go_wp2_with fail
          go_roundw
          case rel => exact ⟨k + 1, _, lv2, rfl, by omega, HM2, HK2, HS2, Lib.hid (by rw [← HN.out]; exact HU.out)⟩
          case measure => simp [intOf]; omega
      · obtain ⟨a, rfl⟩ := Int.eq_ofNat_of_zero_le (o3 (by decide)).1
        have ha : a < st.length := by have := (o3 (by decide)).2; omega
        have HAL := Lib.hid ha
        cases eol with
        | false =>
          have HN : Hid (nvisit st bol false s L1 = L1) := Lib.hid (by rw [HVd.out]; simp)
          clear HVd ha o3 o4
          go_wp2_with fail
          go_roundw
          case rel => exact ⟨k + 1, _, _, rfl, by omega, HWW, HKW2, HS, Lib.hid (by rw [← HN.out]; exact HU.out)⟩
          case measure => simp [intOf]; omega
        | true =>
          have HN : Hid (nvisit st bol true s L1 = enterM L1 a) := Lib.hid (by rw [HVd.out]; simp)
          have HC := Lib.hid (menterD w0 B g gm st _ c _ _ cnt L1 W HWW.out (by omega) HS.out a ha)
          clear HVd ha o3 o4
          go_wp2_with fail
          refine (HC.out).mono ?_; rintro e w2 ⟨rfl, lv2, hm2, hk2⟩
          have HM2 := Lib.hid hm2
          have HK2 := Lib.hid (HKW2.out.trans hk2)
          have HS2 := Lib.hid (HS.out.enter HAL.out)
          clear hm2 hk2 HC
          go_wp2_with fail
          go_roundw
          case rel => exact ⟨k + 1, _, lv2, rfl, by omega, HM2, HK2, HS2, Lib.hid (by rw [← HN.out]; exact HU.out)⟩
          case measure => simp [intOf]; omega
      · have HN : Hid (nvisit st bol eol s L1 = L1) := Lib.hid (by rw [HVd.out]; simp)
        go_wp2_with fail
        go_roundw
        case rel => exact ⟨k + 1, _, _, rfl, by omega, HWW, HKW2, HS, Lib.hid (by rw [← HN.out]; exact HU.out)⟩
        case measure => simp [intOf]; omega
    · have HR : Hid (nspreadF st bol eol st.length 0 L = L1) := Lib.hid (by rw [← HE.out]; exact nspreadF_end _ _ _ _ _ _ (by omega))
      go_wp2_with fail
      go_end0
      rw [HR.out]
      exact ⟨rfl, _, HW.out, HKW.out⟩
end Go.Proofs.Ythadkjgadhbidaa
/-
  The matcher's begin, feed.
-/
namespace Go.Proofs.Ythadkjgadhbidaa
open Go.RowKit
set_option linter.unusedVariables false

theorem mheap_setCells {g : Nat} {t : TypeId} : ∀ (vs : List Value) (w : World) (pre old : List Value), w.heap[g]? = some (.cells (pre ++ old).toArray t (0, 0)) → old.length = vs.length → (w.setCells g pre.length vs).heap[g]? = some (.cells (pre ++ vs).toArray t (0, 0))
  | [], w, pre, old, h, hl => by
    obtain rfl := List.eq_nil_of_length_eq_zero hl
    exact h
  | v :: r, w, pre, old, h, hl => by
    cases old with
    | nil => simp at hl
    | cons x old =>
      have h1 := heap_setCell_same w g pre.length _ _ v h
      rw [List.setIfInBounds_toArray, List.set_append_right _ _ (Nat.le_refl _), Nat.sub_self, List.set_cons_zero] at h1
      have h2 := mheap_setCells (t := t) r (w.setCell ⟨g, pre.length, none⟩ v) (pre ++ [v]) old (by rw [h1]; simp) (by simpa using hl)
      rw [List.length_append, List.length_singleton] at h2
      show ((w.setCell ⟨g, pre.length, none⟩ v).setCells g (pre.length + 1) r).heap[g]? = _
      rw [h2]
      simp
theorem mgrown_setCells (g : Nat) : ∀ (vs : List Value) (o : Nat) (w : World), w.grownBy (w.setCells g o vs) (some g)
  | [], o, w => World.grownBy.refl _ _
  | v :: r, o, w => World.grownBy.trans (show w.grownBy (w.setCell ⟨g, o, none⟩ v) (some g) from ⟨rfl, rfl, rfl, by simp, fun k _ hk => heap_setCell_other w ⟨g, o, none⟩ k _ (fun e => hk (by simp [e]))⟩) (mgrown_setCells g r (o + 1) _)
theorem MK.clear {w0 w : World} {B g gm c cnt : Nat} {st : List Nd} {A : Option Addr} {lv : Value} {bol fd : Bool} {M L : List Nat} (h : MK w0 w B g gm st A c lv bol cnt fd M L) : MK w0 (w.setCells gm 0 (List.replicate st.length (.bool false))) B g gm st A c lv bol cnt fd [] L := by
  have hgr := mgrown_setCells gm (List.replicate st.length (.bool false)) 0 w
  have hb : Old w0 (w.setCells gm 0 (List.replicate st.length (.bool false))) := Below.grown h.old hgr h.old.size (by intro k hk; injection hk with hk; subst hk; exact h.bm)
  have hz : List.replicate st.length (Value.bool false) = mkm st.length [] := by
    apply List.ext_getElem?
    intro i
    by_cases hi : i < st.length
    · rw [mkm_get _ _ _ hi, List.getElem?_replicate, if_pos hi]; simp
    · rw [List.getElem?_eq_none (by simp; omega), List.getElem?_eq_none (by simp [mkm_length]; omega)]
  refine ⟨hb, h.nodes, ?_, ?_, World.ownsRow.kept h.own hgr (Or.inr (fun e => mown_far h.own h.lm e.symm)), h.bg, h.bm, h.lg, h.lm, h.n2, Nat.le_trans h.lB hgr.size⟩
  · exact (hgr.block g (lt_of_block h.blk) (by intro e; injection e with e; exact h.n2 e)).trans h.blk
  · have := mheap_setCells (t := 4) (List.replicate st.length (.bool false)) w [] (mkm st.length M) h.mks (by simp [mkm_length])
    rw [List.nil_append, hz] at this
    rw [hz]
    exact this
theorem MKept.clear (w : World) (g gm n : Nat) (lv : Value) : MKept w (w.setCells gm 0 (List.replicate n (.bool false))) g gm lv lv :=
  ⟨(mgrown_setCells gm _ 0 w).size, fun k hk _ h2 _ => (mgrown_setCells gm _ 0 w).block k hk (by intro e; injection e with e; exact h2 e), fun _ h => Or.inl h⟩
theorem MKept.drop {w : World} {g gm : Nat} {lv : Value} : MKept w (w.setCell ⟨g, 2, none⟩ (.slice none 0 0)) g gm lv (.slice none 0 0) :=
  ⟨by simp, fun k _ h1 _ _ => heap_setCell_other w ⟨g, 2, none⟩ k _ h1, fun k h => by cases h⟩
theorem word_has3 (s : BSet) (i b : Nat) (hb : b < 256) (hi : b / 64 = i) : (bits BinOp.and IntKind.u64 (((setW s i : Nat) : Int) / 2 ^ (b % 64)) 1 != 0) = hasB s b := by
  rw [← word_has s i b hb hi]
  have e : ((setW s i : Nat) : Int) / 2 ^ (b % 64) = ((setW s i / 2 ^ (b % 64) : Nat) : Int) := by push_cast; rfl
  have hl := setW_lt s i
  have hd : setW s i / 2 ^ (b % 64) < 18446744073709551616 := Nat.lt_of_le_of_lt (Nat.div_le_self _ _) hl
  have h1 := u64_and_nat (setW s i / 2 ^ (b % 64)) 1 hd (by decide)
  rw [nat_mask1] at h1
  rw [e]
  have h1' : bits BinOp.and IntKind.u64 ((setW s i / 2 ^ (b % 64) : Nat) : Int) 1 = ((setW s i / 2 ^ (b % 64) % 2 : Nat) : Int) := h1
  rw [h1']
  rw [Bool.eq_iff_iff, bne_iff_ne, beq_iff_eq]
  omega
set_option maxHeartbeats 2000000 in
set_option maxRecDepth 100000 in
theorem mbeginC (w0 : World) (B g gm : Nat) (st : List Nd) (A : Option Addr) (c : Nat) (lv : Value) (bol : Bool) (cnt : Nat) (L : List Nat) (w : World) (h : MK w0 w B g gm st A c lv bol cnt (ndone st L) L L) (hv : svalid st = true) (hL : Spots st.length L) :
    Calls Try.prog 80 #[.pointer (some ⟨g, 0, none⟩)] w (MDone w lv w0 B g gm st A c bol cnt (nspread st bol false (enterM L 0))) := by
  obtain ⟨h1, h2, _⟩ := svalid_ok hv
  have HE := Lib.hid (menterD w0 B g gm st A c lv bol cnt L w h (by omega) hL 0 (by omega))
  have HS := Lib.hid (hL.enter (s := 0) (by omega))
  have HV := Lib.hid hv
  clear h hL hv h1 h2
  go_enter Try.func80, Try.ntmps80
  go_wp2_with fail
  refine (HE.out).mono ?_; rintro e w1 ⟨rfl, lv1, hm, hk⟩
  have HC := Lib.hid (mspreadC w0 B g gm st A c lv1 bol cnt (enterM L 0) w1 hm HV.out HS.out false)
  have HK := Lib.hid hk
  clear hm hk HE
  go_wp2_with fail
  refine (HC.out).mono ?_; rintro e w2 ⟨rfl, lv2, hm, hk⟩
  have HM := Lib.hid hm
  have HK2 := Lib.hid (HK.out.trans hk)
  clear hm hk HC
  go_wp2_with fail
  go_end0
  exact ⟨rfl, lv2, HM.out, HK2.out⟩
def mL1 (st : List Nd) (bol : Bool) (ch : Nat) (L : List Nat) : List Nat := if ch = 10 then nspread st bol true L else L
def mL2 (st : List Nd) (bol : Bool) (ch : Nat) (L : List Nat) : List Nat := nspread st (ch == 10) false (enterM (nstep st ch (mL1 st bol ch L)) 0)
theorem Spots.mL1 {st : List Nd} (hv : svalid st = true) {bol : Bool} {ch : Nat} {L : List Nat} (h : Spots st.length L) : Spots st.length (mL1 st bol ch L) := by
  unfold Go.Proofs.Ythadkjgadhbidaa.mL1
  split
  · exact Spots.nspreadF hv _ _ _ h
  · exact h
def MFeed (w : World) (lv : Value) (w0 : World) (B g gm : Nat) (st : List Nd) (A : Option Addr) (c : Nat) (bol : Bool) (cnt ch : Nat) (L : List Nat) (e : Ending) (w' : World) : Prop :=
  e = .returned (.tuple #[]) ∧ (ndone st (mL1 st bol ch L) = true → ∃ lv', MK w0 w' B g gm st A c lv' bol (cnt + 1) true (mL1 st bol ch L) (mL1 st bol ch L) ∧ MKept w w' g gm lv lv') ∧
    (ndone st (mL1 st bol ch L) = false → ∃ lv', MK w0 w' B g gm st A c lv' (ch == 10) (cnt + 1) (ndone st (mL2 st bol ch L)) (mL2 st bol ch L) (mL2 st bol ch L) ∧ MKept w w' g gm lv lv')
def MFRel (w w2 w0 : World) (B g gm : Nat) (st : List Nd) (A : Option Addr) (c : Nat) (lv : Value) (bol : Bool) (cnt ch : Nat) (L : List Nat) (v : Value) (wr : World) : Prop :=
  ∃ (k : Nat) (L1 : List Nat) (lv1 : Value), v = .int .i64 k ∧ k ≤ L.length ∧ Hid (MK w0 wr B g gm st A c lv1 bol cnt (ndone st L1) L1 L1) ∧ Hid (MKept w wr g gm lv lv1) ∧ Hid (MKept w2 wr g gm (.slice none 0 0) lv1) ∧ Hid (Spots st.length L1) ∧ Hid ((L.take k).foldl (fun acc s => nover st ch s acc) [] = L1)
set_option maxHeartbeats 8000000 in
set_option maxRecDepth 100000 in
theorem mfeedC (w0 : World) (B g gm : Nat) (st : List Nd) (A : Option Addr) (c : Nat) (lv : Value) (bol : Bool) (cnt : Nat) (L : List Nat) (w : World) (h : MK w0 w B g gm st A c lv bol cnt (ndone st L) L L) (hv : svalid st = true) (hL : Spots st.length L) (hcnt : cnt < 1000000000) (ch : Nat) (hch : ch < 256) :
    Calls Try.prog 58 #[.pointer (some ⟨g, 0, none⟩), .int .u8 ch] w (MFeed w lv w0 B g gm st A c bol cnt ch L) := by
  obtain ⟨_, _, _, _, x4, _⟩ := h.cells
  have z4 := h.frz 4
  have HH := Lib.hid (h.cnt_ (cnt + 1))
  have HK0 := Lib.hid (MKept.fld w g gm 4 lv (.int .i64 ((cnt + 1 : Nat) : Int)))
  have HV := Lib.hid hv
  have HL := Lib.hid hL
  have hsz := (svalid_ok hv).2.1
  have HSZ := Lib.hid hsz
  have HCH := Lib.hid hch
  have hc0 : (0 : Int) ≤ (ch : Int) := by omega
  have hc1 : (ch : Int) < 256 := by omega
  clear h hv hL hsz
  go_enter Try.func58, Try.ntmps58
  go_upto_region 1 with fail
  have hWe : w.setCell ⟨g, 4, none⟩ (.int .i64 ((cnt : Int) + 1)) = w.setCell ⟨g, 4, none⟩ (.int .i64 ((cnt + 1 : Nat) : Int)) := rfl
  rw [hWe]
  generalize w.setCell ⟨g, 4, none⟩ (.int .i64 ((cnt + 1 : Nat) : Int)) = W at *
  clear hWe x4 z4 hcnt
  have HMF : Hid (∀ e w', (e = .returned (.tuple #[]) ∧ (ndone st (mL1 st bol ch L) = true → ∃ lv', MK w0 w' B g gm st A c lv' bol (cnt + 1) true (mL1 st bol ch L) (mL1 st bol ch L) ∧ MKept w w' g gm lv lv') ∧
    (ndone st (mL1 st bol ch L) = false → ∃ lv', MK w0 w' B g gm st A c lv' (ch == 10) (cnt + 1) (ndone st (mL2 st bol ch L)) (mL2 st bol ch L) (mL2 st bol ch L) ∧ MKept w w' g gm lv lv')) → MFeed w lv w0 B g gm st A c bol cnt ch L e w') := Lib.hid (fun _ _ h => h)
  have HSL := Lib.hid (HL.out.mL1 HV.out (bol := bol) (ch := ch))
  have HEQ : Hid (((ch : Int) == 10) = (ch == 10)) := Lib.hid (by rw [Bool.eq_iff_iff, beq_iff_eq, beq_iff_eq]; omega)
  go_upto_if 18 with fail
  go_cut [] (fun wx => ∃ lv1, Hid (MK w0 wx B g gm st A c lv1 bol (cnt + 1) (ndone st (mL1 st bol ch L)) (mL1 st bol ch L) (mL1 st bol ch L)) ∧ Hid (MKept w wx g gm lv lv1))
  case first =>
    clear HMF HSL
    by_cases h10 : ch = 10
    · subst h10
      have HN : Hid (mL1 st bol 10 L = nspread st bol true L) := Lib.hid (if_pos rfl)
      have HC := Lib.hid (mspreadC w0 B g gm st A c lv bol (cnt + 1) L W HH.out HV.out HL.out true)
      clear HH
      go_wp2_with fail
      refine (HC.out).mono ?_; rintro e w2 ⟨rfl, lv2, hm2, hk2⟩
      have HM2 := Lib.hid hm2
      have HK2 := Lib.hid (HK0.out.trans hk2)
      clear hm2 hk2 HC
      go_wp2_with fail
      go_meet
      exact ⟨lv2, by rw [HN.out]; exact HM2, HK2⟩
    · have b10 : ((ch : Int) == 10) = false := by simp; omega
      have HN : Hid (mL1 st bol ch L = L) := Lib.hid (if_neg h10)
      clear h10
      go_wp2_with fail
      go_meet
      exact ⟨lv, by rw [HN.out]; exact HH, HK0⟩
  case rest =>
    clear HH HK0 HL
    obtain ⟨lv1, HM1, HK1⟩ := hcut
    have HL2 : Hid (mL2 st bol ch L = nspread st (ch == 10) false (enterM (nstep st ch (mL1 st bol ch L)) 0)) := Lib.hid rfl
    generalize mL2 st bol ch L = R2 at *
    generalize mL1 st bol ch L = Q at *
    obtain ⟨_, y1, y2, _, _, y5⟩ := HM1.out.cells
    cases hd : ndone st Q with
    | true =>
      rw [hd] at HM1 HMF y5
      have HX := Lib.hid (HMF.out _ wc ⟨rfl, fun _ => ⟨lv1, HM1.out, HK1.out⟩, fun h => by cases h⟩)
      clear hd HMF HM1 HK1 HL2 y1 y2
      go_wp2_with fail
      go_end0
      exact HX.out
    | false =>
      rw [hd] at HM1 HMF y5
      have HX : Hid (∀ w' lv', MK w0 w' B g gm st A c lv' (ch == 10) (cnt + 1) (ndone st R2) R2 R2 → MKept w w' g gm lv lv' → MFeed w lv w0 B g gm st A c bol cnt ch L (.returned (.tuple #[])) w') := Lib.hid (fun w' lv' h1 h2 => HMF.out _ w' ⟨rfl, (fun h => by cases h), fun _ => ⟨lv', h1, h2⟩⟩)
      clear hd HMF
      obtain ⟨Al, cl, rfl, _, _, _⟩ := HM1.out.own.shape
      have f2 := HM1.out.frz 2
      have hw1 := HM1.out.list (L' := []) (Own.nil_ _ _ _ _) (World.grownBy.refl wc _)
      have hk1 : MKept wc (wc.setCell ⟨g, 2, none⟩ (.slice none 0 0)) g gm (.slice Al Q.length cl) (.slice none 0 0) := MKept.drop
      generalize hw1e : wc.setCell ⟨g, 2, none⟩ (.slice none 0 0) = w1 at *
      obtain ⟨_, g1, _⟩ := hw1.cells
      have hsz := HSZ.out
      have hcl : ∀ ty, (Builtin.clear_ #[68] ty #[.slice (some ⟨gm, 0, none⟩) st.length st.length]).run Try.prog w1 = .ok (.tuple #[]) _ :=
        fun ty => Lib.run_clear_slice w1 _ _ ty _ Try.underlying68 Try.zeroValue4 rfl rfl gm 0 st.length st.length (by have := (svalid_ok HV.out).1; omega)
          (fun t ht => by rw [Nat.zero_add, cell_of_row w1 gm t _ _ _ hw1.mks, List.getElem?_toArray, mkm_get _ _ _ ht]; rfl) (fun t ht => frozen_of_row w1 gm _ _ _ hw1.mks)
      have HGA : Hid (∀ j, j < wc.heap.size → j ≠ g → j ≠ gm → (w1.setCells gm 0 (List.replicate st.length (.bool false))).heap[j]? = wc.heap[j]?) := Lib.hid (fun j hj j1 j2 => by
        rw [(mgrown_setCells gm _ 0 w1).block j (by rw [← hw1e]; simpa using hj) (by intro e; injection e with e; exact j2 e), ← hw1e]
        exact heap_setCell_other wc ⟨g, 2, none⟩ j _ j1)
      have HW2 := Lib.hid hw1.clear
      have HK2 := Lib.hid (hk1.trans (MKept.clear w1 g gm st.length (.slice none 0 0)))
      clear hk1 hw1
      go_upto_region 8 with fail
      generalize w1.setCells gm 0 (List.replicate st.length (.bool false)) = w2 at *
      clear hcl g1 y1 y2 y5 f2 hw1e hsz
      have HLQ := HSL
      go_wp2_with fail
      go_loopw [38] (fun s38 wr => MFRel wc w2 w0 B g gm st A c (.slice Al Q.length cl) bol (cnt + 1) ch Q s38 wr) (fun s38 _ => Q.length - (intOf s38).toNat)
      case atStart => exact ⟨0, [], _, rfl, Nat.zero_le _, HW2, HK2, Lib.hid (MKept.refl _ _ _ _), Lib.hid (Spots.nil _), Lib.hid rfl⟩
      case round =>
        obtain ⟨k, L1, lv1, rfl, hk, HW, HKW, HKR, HS, HE⟩ := hrel
        have hLl := HLQ.out.len
        obtain ⟨e0, _⟩ := HW.out.cells
        have hsz := HSZ.out
        by_cases hkl : k < Q.length
        · obtain ⟨ga, ca, hvv, hBa, hla, _, _⟩ := HM1.out.own.form (by omega)
          injection hvv with hA _ hc
          subst hA
          subst hc
          have ec := (HM1.out.own.cellAt (spm_get Q k hkl)).1
          have eg : wr.heap[ga]? = wc.heap[ga]? := by
            have n1 : ga ≠ g := fun e => by have := HM1.out.lg; omega
            have n2 : ga ≠ gm := fun e => by have := HM1.out.lm; omega
            rw [HKR.out.far ga (Nat.lt_of_lt_of_le hla HK2.out.size) n1 n2 (by simp [Value.ownBlock]), HGA.out ga hla n1 n2]
          have es : wr.cell? ⟨ga, k, none⟩ = some (.int .i64 (Q.getD k 0 : Nat)) := by rw [World.cell?_of_block (a := ⟨ga, k, none⟩) eg]; exact ec
          have hsl : Q.getD k 0 < st.length := HLQ.out.2 _ (by rw [List.getD_eq_getElem?_getD, List.getElem?_eq_getElem hkl]; exact List.getElem_mem hkl)
          have hun : (Q.take (k + 1)).foldl (fun acc s => nover st ch s acc) [] = nover st ch (Q.getD k 0) L1 := by
            rw [List.take_add_one, List.getElem?_eq_getElem hkl, List.foldl_append, HE.out, List.getD_eq_getElem?_getD, List.getElem?_eq_getElem hkl]
            rfl
          have HU := Lib.hid hun
          clear hun ec eg
          have i1 : (0 : Int) ≤ (k : Int) := by omega
          have i2 : (k : Int) < (Q.length : Int) := by omega
          generalize Q.getD k 0 = s at *
          have hok := (svalid_ok HV.out).2.2 s hsl
          have hx : st[s]? = some (nd st s) := by unfold nd; rw [List.getD_eq_getElem?_getD, List.getElem?_eq_getElem hsl]; rfl
          obtain ⟨b, off, rfl, _, hcl⟩ := (HW.out.nodes.up HW.out.old).at_ (by rw [ndsV_length]; omega)
          have hg := ndsV_get st s _ hx
          have c0 := hcl _ _ (hg 0 (by omega))
          have c1 := hcl _ _ (hg 1 (by omega))
          have c2 := hcl _ _ (hg 2 (by omega))
          have c3 := hcl _ _ (hg 3 (by omega))
          have c4 := hcl _ _ (hg 4 (by omega))
          have c5 := hcl _ _ (hg 5 (by omega))
          have c6 := hcl _ _ (hg 6 (by omega))
          rw [← Nat.add_assoc] at c0 c1 c2 c3 c4 c5 c6
          rw [Nat.add_zero] at c0
          have s1 : (0 : Int) ≤ (s : Int) := by omega
          have s2 : (s : Int) < (st.length : Int) := by omega
          have HVd : Hid (nover st ch s L1 = if (nd st s).kind = 1 ∧ hasB (nd st s).set ch = true then enterM L1 (nd st s).left.toNat else L1) := Lib.hid rfl
          clear hx hcl hg hsl
          generalize nd st s = y at *
          obtain ⟨kd, lf, rt, se⟩ := y
          replace c0 : wr.cell? ⟨b, off + s * 7, none⟩ = some (.int .i64 kd) := c0
          replace c1 : wr.cell? ⟨b, off + s * 7 + 1, none⟩ = some (.int .i64 lf) := c1
          replace c2 : wr.cell? ⟨b, off + s * 7 + 2, none⟩ = some (.int .i64 rt) := c2
          replace c3 : wr.cell? ⟨b, off + s * 7 + 3, none⟩ = some (.int .u64 (setW se 0)) := c3
          replace c4 : wr.cell? ⟨b, off + s * 7 + 4, none⟩ = some (.int .u64 (setW se 1)) := c4
          replace c5 : wr.cell? ⟨b, off + s * 7 + 5, none⟩ = some (.int .u64 (setW se 2)) := c5
          replace c6 : wr.cell? ⟨b, off + s * 7 + 6, none⟩ = some (.int .u64 (setW se 3)) := c6
          go_upto_region 12 with fail
          have hk7 : StAt (wr.alloc (.cells (ndCells ⟨kd, lf, rt, se⟩).toArray 42)) wr.heap.size ⟨kd, lf, rt, se⟩ := heap_alloc_new wr _
          have hoW : Old wr (wr.alloc (.cells (ndCells ⟨kd, lf, rt, se⟩).toArray 42)) := (Old.refl wr).alloc _
          have hWe : wr.alloc (.cells #[.int .i64 kd, .int .i64 lf, .int .i64 rt, .int .u64 (setW se 0), .int .u64 (setW se 1), .int .u64 (setW se 2), .int .u64 (setW se 3)] 42) = wr.alloc (.cells (ndCells ⟨kd, lf, rt, se⟩).toArray 42) := rfl
          rw [hWe]
          have HWA := Lib.hid (HW.out.up hoW)
          have HKWA := Lib.hid (HKW.out.trans (MKept.of_old hoW g gm lv1))
          have HKRA := Lib.hid (HKR.out.trans (MKept.of_old hoW g gm lv1))
          generalize wr.alloc (.cells (ndCells ⟨kd, lf, rt, se⟩).toArray 42) = V0 at *
          generalize wr.heap.size = k7 at *
          clear c0 c1 c2 c3 c4 c5 c6 e0 es hWe hoW HW HKW HKR s1 s2
          obtain ⟨d0, d1, _, d3, d4, d5, d6⟩ := hk7.cells
          simp only at d0 d1 d3 d4 d5 d6
          clear hk7
          obtain ⟨o1, o2, o3, o4⟩ := hok
          simp only at o1 o2 o3 o4 HVd
          by_cases hkd : kd = 1
          · subst hkd
            obtain ⟨a, rfl⟩ := Int.eq_ofNat_of_zero_le (o3 (by decide)).1
            have ha : a < st.length := by have := (o3 (by decide)).2; omega
            have HAL := Lib.hid ha
            have HEN := Lib.hid (menterD w0 B g gm st _ c lv1 bol (cnt + 1) L1 V0 HWA.out (by omega) HS.out a ha)
            clear ha o1 o2 o3 o4
            have q0 := setW_lt se 0
            have q1 := setW_lt se 1
            have q2 := setW_lt se 2
            have q3 := setW_lt se 3
            have hq : (ch : Int) / 64 = 0 ∨ (ch : Int) / 64 = 1 ∨ (ch : Int) / 64 = 2 ∨ (ch : Int) / 64 = 3 := by omega
            have HWH := Lib.hid (fun i hi => word_has3 se i ch HCH.out hi)
            cases hbb : hasB se ch with
            | false =>
              have HVV : Hid (nover st ch s L1 = L1) := Lib.hid (by rw [HVd.out, if_neg (fun h => by rw [hbb] at h; cases h.2)])
              have HBB := Lib.hid hbb
              clear HVd hbb HEN
              rcases hq with hq | hq | hq | hq
              · have hwb := HWH.out 0 (by omega)
                rw [HBB.out] at hwb
                go_wp2_with fail
                go_roundw
                case rel => exact ⟨k + 1, L1, lv1, rfl, by omega, HWA, HKWA, HKRA, HS, Lib.hid (HU.out.trans HVV.out)⟩
                case measure => simp [intOf]; omega
              · have hwb := HWH.out 1 (by omega)
                rw [HBB.out] at hwb
                go_wp2_with fail
                go_roundw
                case rel => exact ⟨k + 1, L1, lv1, rfl, by omega, HWA, HKWA, HKRA, HS, Lib.hid (HU.out.trans HVV.out)⟩
                case measure => simp [intOf]; omega
              · have hwb := HWH.out 2 (by omega)
                rw [HBB.out] at hwb
                go_wp2_with fail
                go_roundw
                case rel => exact ⟨k + 1, L1, lv1, rfl, by omega, HWA, HKWA, HKRA, HS, Lib.hid (HU.out.trans HVV.out)⟩
                case measure => simp [intOf]; omega
              · have hwb := HWH.out 3 (by omega)
                rw [HBB.out] at hwb
                go_wp2_with fail
                go_roundw
                case rel => exact ⟨k + 1, L1, lv1, rfl, by omega, HWA, HKWA, HKRA, HS, Lib.hid (HU.out.trans HVV.out)⟩
                case measure => simp [intOf]; omega
            | true =>
              have HVV : Hid (nover st ch s L1 = enterM L1 a) := Lib.hid (by rw [HVd.out, if_pos ⟨rfl, hbb⟩]; rfl)
              have HBB := Lib.hid hbb
              clear HVd hbb
              rcases hq with hq | hq | hq | hq
              · have hwb := HWH.out 0 (by omega)
                rw [HBB.out] at hwb
                go_wp2_with fail
                refine (HEN.out).mono ?_; rintro e V ⟨rfl, lv', hw, hk'⟩
                have HV3 := Lib.hid hw
                have HKV := Lib.hid (HKWA.out.trans hk')
                have HKQ := Lib.hid (HKRA.out.trans hk')
                clear hw hk'
                go_wp2_with fail
                go_roundw
                case rel => exact ⟨k + 1, _, lv', rfl, by omega, HV3, HKV, HKQ, Lib.hid (HS.out.enter HAL.out), Lib.hid (HU.out.trans HVV.out)⟩
                case measure => simp [intOf]; omega
              · have hwb := HWH.out 1 (by omega)
                rw [HBB.out] at hwb
                go_wp2_with fail
                refine (HEN.out).mono ?_; rintro e V ⟨rfl, lv', hw, hk'⟩
                have HV3 := Lib.hid hw
                have HKV := Lib.hid (HKWA.out.trans hk')
                have HKQ := Lib.hid (HKRA.out.trans hk')
                clear hw hk'
                go_wp2_with fail
                go_roundw
                case rel => exact ⟨k + 1, _, lv', rfl, by omega, HV3, HKV, HKQ, Lib.hid (HS.out.enter HAL.out), Lib.hid (HU.out.trans HVV.out)⟩
                case measure => simp [intOf]; omega
              · have hwb := HWH.out 2 (by omega)
                rw [HBB.out] at hwb
                go_wp2_with fail
                refine (HEN.out).mono ?_; rintro e V ⟨rfl, lv', hw, hk'⟩
                have HV3 := Lib.hid hw
                have HKV := Lib.hid (HKWA.out.trans hk')
                have HKQ := Lib.hid (HKRA.out.trans hk')
                clear hw hk'
                go_wp2_with fail
                go_roundw
                case rel => exact ⟨k + 1, _, lv', rfl, by omega, HV3, HKV, HKQ, Lib.hid (HS.out.enter HAL.out), Lib.hid (HU.out.trans HVV.out)⟩
                case measure => simp [intOf]; omega
              · have hwb := HWH.out 3 (by omega)
                rw [HBB.out] at hwb
                go_wp2_with fail
                refine (HEN.out).mono ?_; rintro e V ⟨rfl, lv', hw, hk'⟩
                have HV3 := Lib.hid hw
                have HKV := Lib.hid (HKWA.out.trans hk')
                have HKQ := Lib.hid (HKRA.out.trans hk')
                clear hw hk'
                go_wp2_with fail
                go_roundw
                case rel => exact ⟨k + 1, _, lv', rfl, by omega, HV3, HKV, HKQ, Lib.hid (HS.out.enter HAL.out), Lib.hid (HU.out.trans HVV.out)⟩
                case measure => simp [intOf]; omega
          · have hb1 : (kd == 1) = false := by simpa using hkd
            have HVV : Hid (nover st ch s L1 = L1) := Lib.hid (by rw [HVd.out, if_neg (fun h => hkd h.1)])
            clear HVd hkd o1 o2 o3 o4
            go_wp2_with fail
            go_roundw
            case rel => exact ⟨k + 1, L1, lv1, rfl, by omega, HWA, HKWA, HKRA, HS, Lib.hid (HU.out.trans HVV.out)⟩
            case measure => simp [intOf]; omega
        · obtain rfl : k = Q.length := by omega
          have HN : Hid (nstep st ch Q = L1) := Lib.hid (by have := HE.out; rw [List.take_length] at this; exact this)
          obtain ⟨_, _, _, e3, _, _⟩ := HW.out.cells
          have z3 := HW.out.frz 3
          have HB := Lib.hid (HW.out.bol_ (ch == 10))
          have HKB := Lib.hid (HK1.out.trans (HKW.out.trans (MKept.fld wr g gm 3 lv1 (.bool (ch == 10)))))
          have hEQ := HEQ.out
          clear HE HKR HW2 HK2 HGA HM1 HK1 HKW hkl
          rw [HN.out] at HL2
          go_upto_region 16 with fail
          rw [hEQ]
          have HC := Lib.hid (mbeginC w0 B g gm st A c lv1 (ch == 10) (cnt + 1) L1 _ HB.out HV.out HS.out)
          rw [← HL2.out] at HC
          clear hEQ e3 z3 HB HN HL2 hsz
          go_wp2_with fail
          refine (HC.out).mono ?_; rintro e w5 ⟨rfl, lv5, hm5, hk5⟩
          have HY := Lib.hid (HX.out w5 lv5 hm5 (HKB.out.trans hk5))
          clear hm5 hk5 HC HX HKB
          go_wp2_with fail
          go_end0
          exact HY.out
end Go.Proofs.Ythadkjgadhbidaa
/-
  The program's automaton of a pattern, on plain lists: it is valid, small, and wired as the nodes say. No program in sight.
-/
namespace Go.Proofs.Ythadkjgadhbidaa
open Go.RowKit
set_option linter.unusedVariables false

def pbF (l : List Nd) : Nat → Nat → Nat → List Nd → List Nd × Nat
  | 0, _, x, S => (S, x)
  | f + 1, n, x, S =>
    if (nd l n).kind = 2 then (S ++ [⟨1, x, 0, (nd l n).set⟩], S.length)
    else if (nd l n).kind = 8 then (S ++ [⟨3, x, 0, 0⟩], S.length)
    else if (nd l n).kind = 9 then (S ++ [⟨4, x, 0, 0⟩], S.length)
    else if (nd l n).kind = 3 then pbF l f (nd l n).left.toNat (pbF l f (nd l n).right.toNat x S).2 (pbF l f (nd l n).right.toNat x S).1
    else if (nd l n).kind = 4 then
      ((pbF l f (nd l n).right.toNat x (pbF l f (nd l n).left.toNat x S).1).1 ++ [⟨2, (pbF l f (nd l n).left.toNat x S).2, (pbF l f (nd l n).right.toNat x (pbF l f (nd l n).left.toNat x S).1).2, 0⟩],
        (pbF l f (nd l n).right.toNat x (pbF l f (nd l n).left.toNat x S).1).1.length)
    else if (nd l n).kind = 7 then ((pbF l f (nd l n).left.toNat x S).1 ++ [⟨2, (pbF l f (nd l n).left.toNat x S).2, x, 0⟩], (pbF l f (nd l n).left.toNat x S).1.length)
    else if (nd l n).kind = 5 ∨ (nd l n).kind = 6 then
      ((pbF l f (nd l n).left.toNat S.length (S ++ [⟨2, 0, x, 0⟩])).1.set S.length ⟨2, (pbF l f (nd l n).left.toNat S.length (S ++ [⟨2, 0, x, 0⟩])).2, x, 0⟩,
        if (nd l n).kind = 6 then (pbF l f (nd l n).left.toNat S.length (S ++ [⟨2, 0, x, 0⟩])).2 else S.length)
    else (S, x)
theorem nd_set_self {l : List Nd} {i : Nat} (h : i < l.length) (x : Nd) : nd (l.set i x) i = x := by
  unfold nd; rw [List.getD_eq_getElem?_getD, List.getElem?_set_self h]; rfl
theorem nd_set_ne {l : List Nd} {i j : Nat} (h : i ≠ j) (x : Nd) : nd (l.set i x) j = nd l j := by
  unfold nd; rw [List.getD_eq_getElem?_getD, List.getD_eq_getElem?_getD, List.getElem?_set_ne h]
theorem okSt_mk {B : Nat} {k b : Int} {a : Nat} {z : BSet} (h1 : 1 ≤ k) (h2 : k ≤ 5) (ha : a < B) (hb : k = 2 → 0 ≤ b ∧ b < B) : okSt B ⟨k, (a : Int), b, z⟩ :=
  ⟨h1, h2, fun _ => ⟨by simp only; omega, by simp only; omega⟩, hb⟩
theorem okSt_match {B : Nat} : okSt B ⟨5, 0, 0, 0⟩ := ⟨by simp, by simp, fun h => absurd rfl h, fun h => by simp at h⟩
/-- What a step of the making gives. -/
structure Made_ (l S : List Nd) (n x : Nat) (w : Nat) (r : List Nd × Nat) : Prop where
  len : S.length ≤ r.1.length
  few : r.1.length ≤ S.length + w
  old : ∀ i, i < S.length → nd r.1 i = nd S i
  frag : Frag l (nd r.1) (fun i => S.length ≤ i ∧ i < r.1.length) n r.2 x
  out : r.2 = x ∨ r.2 < r.1.length
  ok : ∀ B : Nat, r.1.length ≤ B → x < B → ∀ i, S.length ≤ i → i < r.1.length → okSt B (nd r.1 i)
  sets : (∀ y ∈ l, setOk y.set) → (∀ y ∈ S, setOk y.set) → ∀ y ∈ r.1, setOk y.set
theorem nd_mem {l : List Nd} {n : Nat} (h : n < l.length) : nd l n ∈ l := by
  unfold nd
  rw [List.getD_eq_getElem?_getD, List.getElem?_eq_getElem h]
  exact List.getElem_mem h
theorem made_one {l S : List Nd} {n x : Nat} {y : Nd} (h1 : Frag l (nd (S ++ [y])) (fun i => S.length ≤ i ∧ i < (S ++ [y]).length) n S.length x) (h2 : ∀ B : Nat, S.length + 1 ≤ B → x < B → okSt B y) (h3 : (∀ z ∈ l, setOk z.set) → setOk y.set) : Made_ l S n x 1 (S ++ [y], S.length) := by
  refine ⟨by simp, by simp, fun i hi => nd_append_left hi, h1, Or.inr (by simp), fun B hB hx i hi1 hi2 => ?_, fun hl hS z hz => ?_⟩
  · have : i = S.length := by simp at hi2; omega
    subst this
    rw [nd_last]
    exact h2 B (by simpa using hB) hx
  · rcases List.mem_append.mp hz with hz | hz
    · exact hS z hz
    · simp at hz; subst hz; exact h3 hl
theorem Sub.len_pos {l : List Nd} {a n : Nat} (h : Sub l a n) : a ≤ n ∧ n < l.length := h.le
theorem pbF_made {l : List Nd} {a n : Nat} (h : Sub l a n) : ∀ (f x : Nat) (S : List Nd), n < f → Made_ l S n x (n + 1 - a) (pbF l f n x S) := by
  induction h with
  | leaf n h hk h1 h2 h3 =>
    intro f x S hf
    obtain ⟨f, rfl⟩ : ∃ g, f = g + 1 := ⟨f - 1, by omega⟩
    rw [show n + 1 - n = 1 by omega, pbF]
    have hP : S.length ≤ S.length ∧ S.length < (S ++ [(⟨1, x, 0, (nd l n).set⟩ : Nd)]).length := ⟨Nat.le_refl _, by simp⟩
    by_cases k2 : (nd l n).kind = 2
    · rw [if_pos k2]
      refine made_one (.set n _ x k2 ⟨Nat.le_refl _, by simp⟩ (by rw [nd_last]) (by rw [nd_last]) (by rw [nd_last])) (fun B hB hx => okSt_mk (by decide) (by decide) (by omega) (fun e => absurd e (by decide))) (fun hl => hl (nd l n) (nd_mem h))
    rw [if_neg k2]
    by_cases k8 : (nd l n).kind = 8
    · rw [if_pos k8]
      refine made_one (.bol n _ x k8 ⟨Nat.le_refl _, by simp⟩ (by rw [nd_last]) (by rw [nd_last])) (fun B hB hx => okSt_mk (by decide) (by decide) (by omega) (fun e => absurd e (by decide))) (fun _ => setOk_zero)
    rw [if_neg k8]
    by_cases k9 : (nd l n).kind = 9
    · rw [if_pos k9]
      refine made_one (.eol n _ x k9 ⟨Nat.le_refl _, by simp⟩ (by rw [nd_last]) (by rw [nd_last])) (fun B hB hx => okSt_mk (by decide) (by decide) (by omega) (fun e => absurd e (by decide))) (fun _ => setOk_zero)
    rw [if_neg k9, if_neg (by omega), if_neg (by omega), if_neg (by omega), if_neg (by omega)]
    exact ⟨Nat.le_refl _, by simp, fun _ _ => rfl, .empty n x x (by omega) (Or.inl rfl), Or.inl rfl, fun B _ _ i hi1 hi2 => by simp only at hi2; omega, fun _ hS => hS⟩
  | one a n h hk h1 h2 h3 hs ih =>
    intro f x S hf
    obtain ⟨f, rfl⟩ : ∃ g, f = g + 1 := ⟨f - 1, by omega⟩
    have hle := hs.le
    have hL : (nd l (n + 1)).left.toNat = n := by omega
    rw [pbF, if_neg (by omega), if_neg (by omega), if_neg (by omega), if_neg (by omega), if_neg (by omega), hL]
    by_cases k7 : (nd l (n + 1)).kind = 7
    · rw [if_pos k7]
      have m := ih f x S (by omega)
      generalize pbF l f n x S = r at *
      obtain ⟨R, v⟩ := r
      obtain ⟨m1, m2, m3, m4, m5, m6, m7⟩ := m
      simp only at *
      refine ⟨by simp; omega, by simp; omega, fun i hi => by rw [nd_append_left (by omega)]; exact m3 i hi, ?_, Or.inr (by simp), fun B hB hx i hi1 hi2 => ?_, fun hl hS z hz => ?_⟩
      · refine .opt (n + 1) n R.length v x k7 h1 ⟨m1, by simp⟩ (by rw [nd_last]) (by rw [nd_last]) (by rw [nd_last]) (m4.congr (fun i hi => ⟨(nd_append_left hi.2).symm, hi.1, by simp; omega⟩))
      · simp at hB hi2
        by_cases e : i = R.length
        · subst e
          rw [nd_last]
          exact okSt_mk (by decide) (by decide) (by rcases m5 with m5 | m5 <;> omega) (fun _ => ⟨by omega, by omega⟩)
        · rw [nd_append_left (by omega)]
          exact m6 B (by omega) hx i hi1 (by omega)
      · rcases List.mem_append.mp hz with hz | hz
        · exact m7 hl hS z hz
        · simp at hz; subst hz; exact setOk_zero
    rw [if_neg k7, if_pos (by omega)]
    have m := ih f S.length (S ++ [⟨2, 0, x, 0⟩]) (by omega)
    generalize pbF l f n S.length (S ++ [⟨2, 0, x, 0⟩]) = r at *
    obtain ⟨R, v⟩ := r
    obtain ⟨m1, m2, m3, m4, m5, m6, m7⟩ := m
    simp only [List.length_append, List.length_singleton] at *
    have hself : nd (R.set S.length ⟨2, v, x, 0⟩) S.length = ⟨2, v, x, 0⟩ := nd_set_self (by omega) _
    have hbody : Frag l (nd (R.set S.length ⟨2, v, x, 0⟩)) (fun i => S.length ≤ i ∧ i < (R.set S.length ⟨2, v, x, 0⟩).length) n v S.length :=
      m4.congr (fun i hi => ⟨(nd_set_ne (by omega) _).symm, by omega, by rw [List.length_set]; exact hi.2⟩)
    have hvl : v < R.length := by rcases m5 with m5 | m5 <;> omega
    refine ⟨by rw [List.length_set]; omega, by rw [List.length_set]; omega, fun i hi => ?_, ?_, Or.inr ?_, fun B hB hx i hi1 hi2 => ?_, fun hl hS z hz => ?_⟩
    · rw [nd_set_ne (by omega), m3 i (by omega), nd_append_left hi]
    · by_cases k6 : (nd l (n + 1)).kind = 6
      · rw [if_pos k6]
        exact .plus (n + 1) n v S.length x k6 h1 hbody ⟨Nat.le_refl _, by rw [List.length_set]; omega⟩ (by rw [hself]) (by rw [hself]) (by rw [hself])
      · rw [if_neg k6]
        exact .star (n + 1) n S.length v S.length x (by omega) h1 ⟨Nat.le_refl _, by rw [List.length_set]; omega⟩ (by rw [hself]) (by rw [hself]) (by rw [hself]) hbody (Or.inl rfl)
    · rw [List.length_set]
      split <;> omega
    · rw [List.length_set] at hB hi2
      by_cases e : i = S.length
      · subst e
        rw [hself]
        exact okSt_mk (by decide) (by decide) (by omega) (fun _ => ⟨by omega, by omega⟩)
      · rw [nd_set_ne (by omega)]
        exact m6 B hB (by omega) i (by omega) hi2
    · rcases List.mem_or_eq_of_mem_set hz with hz | hz
      · refine m7 hl (fun y hy => ?_) z hz
        rcases List.mem_append.mp hy with hy | hy
        · exact hS y hy
        · simp at hy; subst hy; exact setOk_zero
      · subst hz; exact setOk_zero
  | two a m n h hk h1 h2 h3 hs1 hs2 i1 i2 =>
    intro f x S hf
    obtain ⟨f, rfl⟩ : ∃ g, f = g + 1 := ⟨f - 1, by omega⟩
    have hle1 := hs1.le
    have hle2 := hs2.le
    have hL : (nd l (n + 1)).left.toNat = m := by omega
    have hR : (nd l (n + 1)).right.toNat = n := by omega
    rw [pbF, if_neg (by omega), if_neg (by omega), if_neg (by omega), hL, hR]
    by_cases k3 : (nd l (n + 1)).kind = 3
    · rw [if_pos k3]
      have p := i2 f x S (by omega)
      generalize pbF l f n x S = r at *
      obtain ⟨R, v⟩ := r
      have q := i1 f v R (by omega)
      simp only at *
      generalize pbF l f m v R = r2 at *
      obtain ⟨R2, v2⟩ := r2
      obtain ⟨p1, p2, p3, p4, p5, p6, p7⟩ := p
      obtain ⟨q1, q2, q3, q4, q5, q6, q7⟩ := q
      simp only at *
      refine ⟨by simp only; omega, by simp only; omega, fun i hi => by rw [q3 i (by omega)]; exact p3 i hi, ?_, ?_, fun B hB hx i hi1 hi2 => ?_, fun hl hS => q7 hl (p7 hl hS)⟩
      · exact .cat (n + 1) m n v2 v x k3 h1 h2 (q4.congr (fun i hi => ⟨rfl, by omega, hi.2⟩)) (p4.congr (fun i hi => ⟨(q3 i hi.2).symm, hi.1, by show i < R2.length; have := hi.2; omega⟩))
      · simp only
        rcases q5 with q5 | q5
        · rcases p5 with p5 | p5
          · exact Or.inl (by omega)
          · exact Or.inr (by omega)
        · exact Or.inr q5
      · simp only at hB hi2
        by_cases e : i < R.length
        · rw [q3 i e]
          exact p6 B (by omega) hx i hi1 e
        · refine q6 B hB ?_ i (by omega) hi2
          rcases p5 with p5 | p5 <;> omega
    · rw [if_neg k3, if_pos (by omega)]
      have p := i1 f x S (by omega)
      generalize pbF l f m x S = r at *
      obtain ⟨R, v⟩ := r
      have q := i2 f x R (by omega)
      simp only at *
      generalize pbF l f n x R = r2 at *
      obtain ⟨R2, v2⟩ := r2
      obtain ⟨p1, p2, p3, p4, p5, p6, p7⟩ := p
      obtain ⟨q1, q2, q3, q4, q5, q6, q7⟩ := q
      simp only at *
      refine ⟨by simp; omega, by simp; omega, fun i hi => by rw [nd_append_left (by omega), q3 i (by omega)]; exact p3 i hi, ?_, Or.inr (by simp), fun B hB hx i hi1 hi2 => ?_, fun hl hS z hz => ?_⟩
      · refine .alt (n + 1) m n R2.length v v2 x x x (by omega) h1 h2 ⟨by omega, by simp⟩ (by rw [nd_last]) (by rw [nd_last]) (by rw [nd_last]) (p4.congr (fun i hi => ⟨?_, hi.1, by simp; omega⟩)) (Or.inl rfl) (q4.congr (fun i hi => ⟨(nd_append_left hi.2).symm, by omega, by simp; omega⟩)) (Or.inl rfl)
        rw [nd_append_left (by omega), q3 i hi.2]
      · simp at hB hi2
        by_cases e : i = R2.length
        · subst e
          rw [nd_last]
          exact okSt_mk (by decide) (by decide) (by rcases p5 with p5 | p5 <;> omega) (fun _ => ⟨by omega, by rcases q5 with q5 | q5 <;> omega⟩)
        · rw [nd_append_left (by omega)]
          by_cases e2 : i < R.length
          · rw [q3 i e2]
            exact p6 B (by omega) hx i hi1 e2
          · exact q6 B (by omega) hx i (by omega) (by omega)
      · rcases List.mem_append.mp hz with hz | hz
        · exact q7 hl (p7 hl hS) z hz
        · simp at hz; subst hz; exact setOk_zero
/-- The program's automaton. -/
def pcompM (l : List Nd) : List Nd := (pbF l l.length (l.length - 1) 1 [⟨2, 0, 0, 0⟩, ⟨5, 0, 0, 0⟩]).1.set 0 ⟨2, (pbF l l.length (l.length - 1) 1 [⟨2, 0, 0, 0⟩, ⟨5, 0, 0, 0⟩]).2, (pbF l l.length (l.length - 1) 1 [⟨2, 0, 0, 0⟩, ⟨5, 0, 0, 0⟩]).2, 0⟩
theorem pcomp_ok {l : List Nd} (hv : validM l = true) : Wired l (pcompM l) ∧ svalid (pcompM l) = true ∧ (pcompM l).length ≤ l.length + 2 ∧ 2 ≤ (pcompM l).length ∧ ((∀ y ∈ l, setOk y.set) → ∀ y ∈ pcompM l, setOk y.set) := by
  have hlen := validM_len hv
  have m := pbF_made (validM_sub hv) l.length 1 [⟨2, 0, 0, 0⟩, ⟨5, 0, 0, 0⟩] (by omega)
  unfold pcompM
  generalize pbF l l.length (l.length - 1) 1 [⟨2, 0, 0, 0⟩, ⟨5, 0, 0, 0⟩] = r at *
  obtain ⟨R, v⟩ := r
  obtain ⟨m1, m2, m3, m4, m5, m6, m7⟩ := m
  simp only [List.length_cons, List.length_nil] at *
  have h0 : nd (R.set 0 ⟨2, v, v, 0⟩) 0 = ⟨2, v, v, 0⟩ := nd_set_self (by omega) _
  have h1 : nd (R.set 0 ⟨2, v, v, 0⟩) 1 = ⟨5, 0, 0, 0⟩ := by rw [nd_set_ne (by omega), m3 1 (by omega)]; rfl
  have hvl : v < R.length := by rcases m5 with m5 | m5 <;> omega
  refine ⟨⟨fun _ => True, v, 1, Or.inr ⟨trivial, by rw [h0], by rw [h0], by rw [h0]⟩, m4.congr (fun i hi => ⟨(nd_set_ne (by omega) _).symm, trivial⟩), by rw [h1]⟩, ?_, by rw [List.length_set]; omega, by rw [List.length_set]; omega, fun hl z hz => ?_⟩
  · refine decide_eq_true ⟨by rw [List.length_set]; omega, by rw [List.length_set]; omega, fun x hx => ?_⟩
    rw [List.length_set]
    obtain ⟨i, hi, rfl⟩ := List.mem_iff_getElem.mp hx
    rw [List.length_set] at hi
    have e : (R.set 0 ⟨2, v, v, 0⟩)[i]'(by rw [List.length_set]; exact hi) = nd (R.set 0 ⟨2, v, v, 0⟩) i := by
      unfold nd
      rw [List.getD_eq_getElem?_getD, List.getElem?_eq_getElem (by rw [List.length_set]; exact hi)]
      rfl
    rw [e]
    by_cases e0 : i = 0
    · subst e0
      rw [h0]
      exact okSt_mk (by decide) (by decide) (by omega) (fun _ => ⟨by omega, by omega⟩)
    · by_cases e1 : i = 1
      · subst e1
        rw [h1]
        exact okSt_match
      · rw [nd_set_ne (by omega)]
        exact m6 R.length (Nat.le_refl _) (by omega) i (by omega) hi
  · rcases List.mem_or_eq_of_mem_set hz with hz | hz
    · refine m7 hl (fun y hy => ?_) z hz
      simp at hy
      rcases hy with rfl | rfl <;> exact setOk_zero
    · subst hz; exact setOk_zero
/-- The automaton's run finds the least number of bytes within which the pattern matches. -/
theorem pcomp_run {l : List Nd} (hv : validM l = true) (t : List Nat) : nrunM (pcompM l) t = rfirstM l t := by
  obtain ⟨hw, hs, _⟩ := pcomp_ok hv
  refine LeastHit.one (l := l) (t := t) ?_ (rfirst_least hv t)
  rw [← least_hit (g := nfaG (pcompM l)) (fun n hn => hw.hit t n hn)]
  exact nrun_least hs t
end Go.Proofs.Ythadkjgadhbidaa
/-
  The walk of the builder's add (nfa): the builder in memory.
-/
namespace Go.Proofs.Ythadkjgadhbidaa
open Go.RowKit
set_option linter.unusedVariables false

theorem info_st : (Try.prog.info? 42).map (fun i => (i.zero, i.size, i.bytes)) = some (some (.agg #[.int .i64 0, .int .i64 0, .int .i64 0, .int .u64 0, .int .u64 0, .int .u64 0, .int .u64 0]), 7, 56) := by kernel_rfl
theorem nown_apart {w : World} {B : Nat} {e : TypeId} {s : Nat} {v : Value} {n : Nat} {xs : List Value} (h : Own w B e s v n xs) {k : Nat} (hk : k < B) : some k ≠ v.ownBlock := by
  intro e
  have := (World.ownsRow.lt h k e.symm).1
  omega
theorem nset_gr (w : World) (g i : Nat) (v : Value) : w.grownBy (w.setCell ⟨g, i, none⟩ v) (some g) := ⟨rfl, rfl, rfl, by simp, fun k _ hk => heap_setCell_other w ⟨g, i, none⟩ k _ (fun e => hk (by simp [e]))⟩
def nbO (An : Option Addr) (ln cn : Nat) (sv : Value) : Obj := .cells #[.slice An ln cn, sv] 65 (0, 0)
/-- The builder in memory: block g; the states that it has made. -/
structure NB (w0 w : World) (B g : Nat) (An : Option Addr) (ln cn : Nat) (sv : Value) (S : List Nd) : Prop where
  old : Old w0 w
  blk : w.heap[g]? = some (nbO An ln cn sv)
  own : Own w B 42 7 sv S.length (ndsV S)
  bg : w0.heap.size ≤ g
  lg : g < B
  lB : B ≤ w.heap.size
/-- Nothing has turned but the builder and its states' row. -/
def Far (w w' : World) (g : Nat) (sv sv' : Value) : Prop := w.heap.size ≤ w'.heap.size ∧ ∀ k, k < w.heap.size → k ≠ g → sv.ownBlock ≠ some k → w'.heap[k]? = w.heap[k]? ∧ sv'.ownBlock ≠ some k
theorem Far.refl (w : World) (g : Nat) (sv : Value) : Far w w g sv sv := ⟨Nat.le_refl _, fun k _ _ h => ⟨rfl, h⟩⟩
theorem Far.trans {a b c : World} {g : Nat} {s1 s2 s3 : Value} (h : Far a b g s1 s2) (k : Far b c g s2 s3) : Far a c g s1 s3 := by
  refine ⟨Nat.le_trans h.1 k.1, fun i hi hg hs => ?_⟩
  obtain ⟨q1, q2⟩ := h.2 i hi hg hs
  obtain ⟨q3, q4⟩ := k.2 i (Nat.lt_of_lt_of_le hi h.1) hg q2
  exact ⟨q3.trans q1, q4⟩
theorem Far.of_old {a b : World} (h : Old a b) (g : Nat) (sv : Value) : Far a b g sv sv := ⟨h.size, fun k hk _ hs => ⟨h.out.block k hk, hs⟩⟩
theorem Far.old_ {a b c : World} {g : Nat} {s1 s2 : Value} (h : Old a b) (k : Far b c g s1 s2) : Far a c g s1 s2 := (Far.of_old h g s1).trans k
theorem Far.blk {a b : World} {g : Nat} {s1 s2 : Value} (h : Far a b g s1 s2) {k : Nat} {o : Obj} (hk : a.heap[k]? = some o) (hg : k ≠ g) (hs : s1.ownBlock ≠ some k) : b.heap[k]? = some o ∧ s2.ownBlock ≠ some k := by
  obtain ⟨q1, q2⟩ := h.2 k (lt_of_block hk) hg hs
  exact ⟨q1.trans hk, q2⟩
theorem NB.up {w0 w w' : World} {B g ln cn : Nat} {An : Option Addr} {sv : Value} {S : List Nd} (h : NB w0 w B g An ln cn sv S) (ho : Old w w') : NB w0 w' B g An ln cn sv S :=
  ⟨h.old.up ho, ho.block h.blk, h.own.up ho, h.bg, h.lg, Nat.le_trans h.lB ho.size⟩
theorem NB.cells {w0 w : World} {B g ln cn : Nat} {An : Option Addr} {sv : Value} {S : List Nd} (h : NB w0 w B g An ln cn sv S) :
    w.cell? ⟨g, 0, none⟩ = some (.slice An ln cn) ∧ w.cell? ⟨g, 1, none⟩ = some sv ∧ w.frozen? ⟨g, 1, none⟩ = false :=
  ⟨by rw [cell_of_row w g 0 _ _ _ h.blk]; rfl, by rw [cell_of_row w g 1 _ _ _ h.blk]; rfl, frozen_of_row w g 1 _ _ h.blk⟩
theorem nds_snoc (S : List Nd) (x : Nd) : ndsV (S ++ [x]) = ndsV S ++ ndCells x := by unfold ndsV; rw [List.flatMap_append]; simp
/-- Before and behind the append. -/
structure NF (w0 : World) (B g ko : Nat) (An : Option Addr) (ln cn : Nat) (lv v12 : Value) (N : List Nd) (x : Nd) (b6 b7 b10 : Bool) (W ww : World) : Prop where
  base : b7 = false → NB w0 ww B g An ln cn lv N ∧ Old W ww
  row : b6 = true → b7 = false → ww.heap[ko]? = some (.cells (ndCells x).toArray 42 (0, 0))
  app : b7 = true → b10 = false → (w0.heap.size ≤ g ∧ g < B ∧ B ≤ ww.heap.size ∧ Old w0 ww ∧ ww.heap[g]? = some (nbO An ln cn lv) ∧ Own ww B 42 7 v12 (N.length + 1) (ndsV (N ++ [x]))) ∧ Far W ww g lv v12
  fin : b10 = true → NB w0 ww B g An ln cn v12 (N ++ [x]) ∧ Far W ww g lv v12
theorem NF.mk6 {w0 : World} {B g ko ln cn : Nat} {An : Option Addr} {lv v12 : Value} {N : List Nd} {x : Nd} {W ww : World} (h : NF w0 B g ko An ln cn lv v12 N x false false false W ww) :
    NF w0 B g ww.heap.size An ln cn lv v12 N x true false false W (ww.alloc (.cells (ndCells x).toArray 42)) :=
  ⟨fun _ => ⟨(h.base rfl).1.up ((Old.refl ww).alloc _), (h.base rfl).2.alloc _⟩, fun _ _ => heap_alloc_new _ _, fun e => (by cases e), fun e => (by cases e)⟩
theorem NF.mk7 {w0 : World} {B g ko ln cn : Nat} {An : Option Addr} {lv v12 : Value} {N : List Nd} {x : Nd} {W ww w' : World} {v' : Value} (h : NF w0 B g ko An ln cn lv v12 N x true false false W ww)
    (ho : Own w' B 42 7 v' (N.length + 1) (ndsV N ++ ndCells x)) (hg : ww.grownBy w' lv.ownBlock) (hst : v'.ownBlock = lv.ownBlock ∨ ∃ j, v'.ownBlock = some j ∧ ww.heap.size ≤ j) : NF w0 B g ko An ln cn lv v' N x true true false W w' := by
  have hR := (h.base rfl).1
  have hO := (h.base rfl).2
  refine ⟨fun e => (by cases e), fun _ e => (by cases e), fun _ _ => ⟨⟨hR.bg, hR.lg, Nat.le_trans hR.lB hg.size, Own.grown_old hR.old hR.own (Nat.le_trans hR.bg (Nat.le_of_lt hR.lg)) hg, (hg.block g (lt_of_block hR.blk) (nown_apart hR.own hR.lg)).trans hR.blk, ?_⟩, ?_⟩, fun e => (by cases e)⟩
  · rw [nds_snoc]; exact ho
  · refine ⟨Nat.le_trans hO.size hg.size, fun k hk hkg hks => ⟨(hg.block k (Nat.lt_of_lt_of_le hk hO.size) (fun e => hks e.symm)).trans (hO.out.block k hk), fun e => ?_⟩⟩
    rcases hst with hst | ⟨j, hj, hjl⟩
    · exact hks (hst.symm.trans e)
    · rw [hj] at e
      injection e with e
      have := hO.size
      omega
theorem NF.mk10 {w0 : World} {B g ko ln cn : Nat} {An : Option Addr} {lv v12 : Value} {N : List Nd} {x : Nd} {b6 : Bool} {W ww : World} (h : NF w0 B g ko An ln cn lv v12 N x b6 true false W ww) : NF w0 B g ko An ln cn lv v12 N x b6 true true W (ww.setCell ⟨g, 1, none⟩ v12) := by
  obtain ⟨⟨h1, h2, h3, h4, h5, h6⟩, hF⟩ := h.app rfl rfl
  have hl : (N ++ [x]).length = N.length + 1 := by simp
  refine ⟨fun e => (by cases e), fun _ e => (by cases e), fun _ e => (by cases e), fun _ => ⟨⟨h4.setCell h1 _, heap_setCell_same ww g 1 _ _ _ h5, ?_, h1, h2, by simpa using h3⟩, ?_⟩⟩
  · rw [hl]
    exact World.ownsRow.kept h6 (nset_gr ww g 1 _) (Or.inr (fun e => nown_apart h6 h2 e.symm))
  · refine ⟨by simpa using hF.1, fun k hk hkg hks => ?_⟩
    obtain ⟨q1, q2⟩ := hF.2 k hk hkg hks
    exact ⟨(heap_setCell_other ww ⟨g, 1, none⟩ k _ (fun e => hkg e)).trans q1, q2⟩
def NDI (w0 W : World) (B g k5 : Nat) (An : Option Addr) (ln cn : Nat) (lv : Value) (N : List Nd) (x : Nd) (listed : Array Bool) (aa : Act) (ww : World) : Prop :=
  ∃ (b0 b1 b2 b3 b4 b5 b6 b7 b8 b9 b10 : Bool) (ko : Nat) (v12 : Value), listed = #[b0, b1, b2, b3, b4, b5, b6, b7, b8, b9, b10] ∧
    aa = { tmps := #[.pointer (some ⟨g, 0, none⟩), .agg #[.int .i64 x.kind, .int .i64 x.left, .int .i64 x.right, .int .u64 (setW x.set 0), .int .u64 (setW x.set 1), .int .u64 (setW x.set 2), .int .u64 (setW x.set 3)], undef, .pointer (some ⟨k5, 0, none⟩), .int .i64 0, cond b0 (.pointer (some ⟨g, 0, none⟩)) (undef), cond b1 (.pointer (some ⟨g, 0, none⟩)) (undef), cond b2 (.pointer (some ⟨g, 0, none⟩)) (undef), cond b3 (.pointer (some ⟨g, 1, none⟩)) (undef), cond b4 (lv) (undef), cond b5 (.agg #[.int .i64 x.kind, .int .i64 x.left, .int .i64 x.right, .int .u64 (setW x.set 0), .int .u64 (setW x.set 1), .int .u64 (setW x.set 2), .int .u64 (setW x.set 3)]) (undef), cond b6 (.slice (some ⟨ko, 0, none⟩) 1 1) (undef), cond b7 (v12) (undef), cond b8 (.pointer (some ⟨g, 0, none⟩)) (undef), cond b9 (.pointer (some ⟨g, 1, none⟩)) (undef), undef, undef, undef, undef, undef, undef], defers := [] } ∧ NF w0 B g ko An ln cn lv v12 N x b6 b7 b10 W ww
def NAdd (w0 w : World) (B g : Nat) (An : Option Addr) (ln cn : Nat) (lv : Value) (N : List Nd) (x : Nd) (e : Ending) (w' : World) : Prop := e = .returned (.int .i64 (N.length : Int)) ∧ ∃ lv', NB w0 w' B g An ln cn lv' (N ++ [x]) ∧ Far w w' g lv lv'
def stA (x : Nd) : Value := .agg #[.int .i64 x.kind, .int .i64 x.left, .int .i64 x.right, .int .u64 (setW x.set 0), .int .u64 (setW x.set 1), .int .u64 (setW x.set 2), .int .u64 (setW x.set 3)]
set_option maxHeartbeats 4000000 in
set_option maxRecDepth 100000 in
theorem naddC (w0 : World) (B g : Nat) (An : Option Addr) (ln cn : Nat) (lv : Value) (N : List Nd) (w : World) (h : NB w0 w B g An ln cn lv N) (hn : N.length ≤ 100000) (x : Nd) :
    Calls Try.prog 32 #[.pointer (some ⟨g, 0, none⟩), stA x] w (NAdd w0 w B g An ln cn lv N x) := by
  unfold stA
  obtain ⟨kd, lf, rt, st⟩ := x
  obtain ⟨Al, cl, rfl, htl, _, _⟩ := h.own.shape
  have hb := heap_alloc_new w (.cells #[.int .i64 kd, .int .i64 lf, .int .i64 rt, .int .u64 (setW st 0), .int .u64 (setW st 1), .int .u64 (setW st 2), .int .u64 (setW st 3)] 42)
  have ho := (Old.refl w).alloc (.cells #[.int .i64 kd, .int .i64 lf, .int .i64 rt, .int .u64 (setW st 0), .int .u64 (setW st 1), .int .u64 (setW st 2), .int .u64 (setW st 3)] 42)
  have HR := Lib.hid (h.up ho)
  have HBX := Lib.hid hb
  have HOX := Lib.hid ho
  simp only
  clear h htl ho hb
  go_enter Try.func32, Try.ntmps32
  go_upto_region 1 with fail
  generalize hW : w.alloc (.cells #[.int .i64 kd, .int .i64 lf, .int .i64 rt, .int .u64 (setW st 0), .int .u64 (setW st 1), .int .u64 (setW st 2), .int .u64 (setW st 3)] 42) = W at *
  have hF0 : NF w0 B g 0 An ln cn (.slice Al N.length cl) undef N ⟨kd, lf, rt, st⟩ false false false W W.drew := ⟨fun _ => ⟨HR.out.up (Old.refl W).drew, (Old.refl W).drew⟩, (fun e => by cases e), (fun e => by cases e), (fun e => by cases e)⟩
  generalize hk5 : w.heap.size = k5 at *
  refine wp_region_steps2 (by kernel_rfl) (by kernel_rfl) (NDI w0 W B g k5 An ln cn (.slice Al N.length cl) N ⟨kd, lf, rt, st⟩) ?_ ?_ ⟨?_, ?_, ?_, ?_, ?_, ?_, ?_, ?_, ?_, ?_, ?_, trivial⟩
  · exact ⟨false, false, false, false, false, false, false, false, false, false, false, 0, undef, rfl, rfl, hF0⟩
  · rintro aa w1 ⟨b0, b1, b2, b3, b4, b5, b6, b7, b8, b9, b10, ko, v12, hl, rfl, hF⟩
    have hl' := congrArg Array.toList hl
    simp at hl'
    obtain ⟨rfl, rfl, rfl, rfl, rfl, rfl, rfl, rfl, rfl, rfl, rfl⟩ := hl'
    clear hl
    have HF1 := Lib.hid (hF.fin rfl)
    clear hF hF0
    obtain ⟨A9, c9, rfl, _, _, _⟩ := HF1.out.1.own.shape
    obtain ⟨_, d3, _⟩ := HF1.out.1.cells
    have hl : (N ++ [(⟨kd, lf, rt, st⟩ : Nd)]).length = N.length + 1 := by simp
    rw [hl] at d3
    clear hl
    go_wp2_with fail
    go_ret
    exact ⟨rfl, _, HF1.out.1, Far.old_ HOX.out HF1.out.2⟩
  · intro listed aa w1 K hs hcl hf hall hI hK
    obtain ⟨b0, b1, b2, b3, b4, b5, b6, b7, b8, b9, b10, ko, v12, rfl, rfl, hF⟩ := hI
    have hf' : b0 = false := hf
    subst hf'
    have hb8 : b8 = false := by
      cases b8
      · rfl
      · exact absurd (show false = true from hcl 8 _ rfl rfl ⟨0, .data⟩ (by first | exact .head _ | simp) rfl) (by decide)
    subst hb8
    have hb9 : b9 = false := by
      cases b9
      · rfl
      · exact absurd (show false = true from hcl 9 _ rfl rfl ⟨0, .phase⟩ (by first | exact .head _ | simp) rfl) (by decide)
    subst hb9
    have hb10 : b10 = false := by
      cases b10
      · rfl
      · exact absurd (show false = true from hcl 10 _ rfl rfl ⟨0, .phase⟩ (by first | exact .head _ | simp) rfl) (by decide)
    subst hb10
    clear hall hcl hs hf
    go_simp
    exact hK _ _ ⟨true, b1, b2, b3, b4, b5, b6, b7, false, false, false, ko, v12, rfl, rfl, hF⟩
  · intro listed aa w1 K hs hcl hf hall hI hK
    obtain ⟨b0, b1, b2, b3, b4, b5, b6, b7, b8, b9, b10, ko, v12, rfl, rfl, hF⟩ := hI
    have hf' : b1 = false := hf
    subst hf'
    have hb2 : b2 = false := by
      cases b2
      · rfl
      · exact absurd (show false = true from hcl 2 _ rfl rfl ⟨1, .data⟩ (by first | exact .head _ | simp) rfl) (by decide)
    subst hb2
    have hb8 : b8 = false := by
      cases b8
      · rfl
      · exact absurd (show false = true from hcl 8 _ rfl rfl ⟨1, .phase⟩ (by first | exact .head _ | simp) rfl) (by decide)
    subst hb8
    have hb9 : b9 = false := by
      cases b9
      · rfl
      · exact absurd (show false = true from hcl 9 _ rfl rfl ⟨1, .phase⟩ (by first | exact .head _ | simp) rfl) (by decide)
    subst hb9
    have hb10 : b10 = false := by
      cases b10
      · rfl
      · exact absurd (show false = true from hcl 10 _ rfl rfl ⟨1, .phase⟩ (by first | exact .head _ | simp) rfl) (by decide)
    subst hb10
    have hb3 : b3 = false := by
      cases b3
      · rfl
      · exact absurd (show false = true from hcl 3 _ rfl rfl ⟨2, .data⟩ (by first | exact .head _ | simp) rfl) (by decide)
    subst hb3
    have hb4 : b4 = false := by
      cases b4
      · rfl
      · exact absurd (show false = true from hcl 4 _ rfl rfl ⟨3, .data⟩ (by first | exact .head _ | simp) rfl) (by decide)
    subst hb4
    have hb7 : b7 = false := by
      cases b7
      · rfl
      · exact absurd (show false = true from hcl 7 _ rfl rfl ⟨4, .data⟩ (by first | exact .head _ | simp) rfl) (by decide)
    subst hb7
    clear hall hcl hs hf
    go_simp
    exact hK _ _ ⟨b0, true, false, false, false, b5, b6, false, false, false, false, ko, v12, rfl, rfl, hF⟩
  · intro listed aa w1 K hs hcl hf hall hI hK
    obtain ⟨b0, b1, b2, b3, b4, b5, b6, b7, b8, b9, b10, ko, v12, rfl, rfl, hF⟩ := hI
    have hf' : b2 = false := hf
    subst hf'
    have hq1 : b1 = true := hall ⟨1, .data⟩ (by first | exact .head _ | simp) rfl
    subst hq1
    have hb3 : b3 = false := by
      cases b3
      · rfl
      · exact absurd (show false = true from hcl 3 _ rfl rfl ⟨2, .data⟩ (by first | exact .head _ | simp) rfl) (by decide)
    subst hb3
    have hb8 : b8 = false := by
      cases b8
      · rfl
      · exact absurd (show false = true from hcl 8 _ rfl rfl ⟨2, .phase⟩ (by first | exact .head _ | simp) rfl) (by decide)
    subst hb8
    have hb9 : b9 = false := by
      cases b9
      · rfl
      · exact absurd (show false = true from hcl 9 _ rfl rfl ⟨2, .phase⟩ (by first | exact .head _ | simp) rfl) (by decide)
    subst hb9
    have hb10 : b10 = false := by
      cases b10
      · rfl
      · exact absurd (show false = true from hcl 10 _ rfl rfl ⟨2, .phase⟩ (by first | exact .head _ | simp) rfl) (by decide)
    subst hb10
    have hb4 : b4 = false := by
      cases b4
      · rfl
      · exact absurd (show false = true from hcl 4 _ rfl rfl ⟨3, .data⟩ (by first | exact .head _ | simp) rfl) (by decide)
    subst hb4
    have hb7 : b7 = false := by
      cases b7
      · rfl
      · exact absurd (show false = true from hcl 7 _ rfl rfl ⟨4, .data⟩ (by first | exact .head _ | simp) rfl) (by decide)
    subst hb7
    clear hall hcl hs hf
    go_simp
    exact hK _ _ ⟨b0, true, true, false, false, b5, b6, false, false, false, false, ko, v12, rfl, rfl, hF⟩
  · intro listed aa w1 K hs hcl hf hall hI hK
    obtain ⟨b0, b1, b2, b3, b4, b5, b6, b7, b8, b9, b10, ko, v12, rfl, rfl, hF⟩ := hI
    have hf' : b3 = false := hf
    subst hf'
    have hq2 : b2 = true := hall ⟨2, .data⟩ (by first | exact .head _ | simp) rfl
    subst hq2
    have hq1 : b1 = true := hcl 2 _ rfl rfl ⟨1, .data⟩ (by first | exact .head _ | simp) rfl
    subst hq1
    have hb4 : b4 = false := by
      cases b4
      · rfl
      · exact absurd (show false = true from hcl 4 _ rfl rfl ⟨3, .data⟩ (by first | exact .head _ | simp) rfl) (by decide)
    subst hb4
    have hb8 : b8 = false := by
      cases b8
      · rfl
      · exact absurd (show false = true from hcl 8 _ rfl rfl ⟨3, .phase⟩ (by first | exact .head _ | simp) rfl) (by decide)
    subst hb8
    have hb9 : b9 = false := by
      cases b9
      · rfl
      · exact absurd (show false = true from hcl 9 _ rfl rfl ⟨3, .phase⟩ (by first | exact .head _ | simp) rfl) (by decide)
    subst hb9
    have hb10 : b10 = false := by
      cases b10
      · rfl
      · exact absurd (show false = true from hcl 10 _ rfl rfl ⟨3, .phase⟩ (by first | exact .head _ | simp) rfl) (by decide)
    subst hb10
    have hb7 : b7 = false := by
      cases b7
      · rfl
      · exact absurd (show false = true from hcl 7 _ rfl rfl ⟨4, .data⟩ (by first | exact .head _ | simp) rfl) (by decide)
    subst hb7
    clear hall hcl hs hf
    go_simp
    exact hK _ _ ⟨b0, true, true, true, false, b5, b6, false, false, false, false, ko, v12, rfl, rfl, hF⟩
  · intro listed aa w1 K hs hcl hf hall hI hK
    obtain ⟨b0, b1, b2, b3, b4, b5, b6, b7, b8, b9, b10, ko, v12, rfl, rfl, hF⟩ := hI
    have hf' : b4 = false := hf
    subst hf'
    have hq3 : b3 = true := hall ⟨3, .data⟩ (by first | exact .head _ | simp) rfl
    subst hq3
    have hq2 : b2 = true := hcl 3 _ rfl rfl ⟨2, .data⟩ (by first | exact .head _ | simp) rfl
    subst hq2
    have hq1 : b1 = true := hcl 2 _ rfl rfl ⟨1, .data⟩ (by first | exact .head _ | simp) rfl
    subst hq1
    have hb7 : b7 = false := by
      cases b7
      · rfl
      · exact absurd (show false = true from hcl 7 _ rfl rfl ⟨4, .data⟩ (by first | exact .head _ | simp) rfl) (by decide)
    subst hb7
    have hb8 : b8 = false := by
      cases b8
      · rfl
      · exact absurd (show false = true from hcl 8 _ rfl rfl ⟨4, .phase⟩ (by first | exact .head _ | simp) rfl) (by decide)
    subst hb8
    have hb9 : b9 = false := by
      cases b9
      · rfl
      · exact absurd (show false = true from hcl 9 _ rfl rfl ⟨4, .phase⟩ (by first | exact .head _ | simp) rfl) (by decide)
    subst hb9
    have hb10 : b10 = false := by
      cases b10
      · rfl
      · exact absurd (show false = true from hcl 10 _ rfl rfl ⟨4, .phase⟩ (by first | exact .head _ | simp) rfl) (by decide)
    subst hb10
    clear hall hcl hs hf
    have q1 := (hF.base rfl).1.cells.2.1
    go_simp
    exact hK _ _ ⟨b0, true, true, true, true, b5, b6, false, false, false, false, ko, v12, rfl, rfl, hF⟩
  · intro listed aa w1 K hs hcl hf hall hI hK
    obtain ⟨b0, b1, b2, b3, b4, b5, b6, b7, b8, b9, b10, ko, v12, rfl, rfl, hF⟩ := hI
    have hf' : b5 = false := hf
    subst hf'
    have hb6 : b6 = false := by
      cases b6
      · rfl
      · exact absurd (show false = true from hcl 6 _ rfl rfl ⟨5, .data⟩ (by first | exact .head _ | simp) rfl) (by decide)
    subst hb6
    have hb8 : b8 = false := by
      cases b8
      · rfl
      · exact absurd (show false = true from hcl 8 _ rfl rfl ⟨5, .phase⟩ (by first | exact .head _ | simp) rfl) (by decide)
    subst hb8
    have hb9 : b9 = false := by
      cases b9
      · rfl
      · exact absurd (show false = true from hcl 9 _ rfl rfl ⟨5, .phase⟩ (by first | exact .head _ | simp) rfl) (by decide)
    subst hb9
    have hb10 : b10 = false := by
      cases b10
      · rfl
      · exact absurd (show false = true from hcl 10 _ rfl rfl ⟨5, .phase⟩ (by first | exact .head _ | simp) rfl) (by decide)
    subst hb10
    have hb7 : b7 = false := by
      cases b7
      · rfl
      · exact absurd (show false = true from hcl 7 _ rfl rfl ⟨6, .data⟩ (by first | exact .head _ | simp) rfl) (by decide)
    subst hb7
    clear hall hcl hs hf
    have hb5 := (hF.base rfl).2.block HBX.out
    have q0 : w1.cell? ⟨k5, 0, none⟩ = some (.int .i64 kd) := by rw [cell_of_row w1 _ 0 _ _ _ hb5]; rfl
    have q1 : w1.cell? ⟨k5, 1, none⟩ = some (.int .i64 lf) := by rw [cell_of_row w1 _ 1 _ _ _ hb5]; rfl
    have q2 : w1.cell? ⟨k5, 2, none⟩ = some (.int .i64 rt) := by rw [cell_of_row w1 _ 2 _ _ _ hb5]; rfl
    have q3 : w1.cell? ⟨k5, 3, none⟩ = some (.int .u64 (setW st 0)) := by rw [cell_of_row w1 _ 3 _ _ _ hb5]; rfl
    have q4 : w1.cell? ⟨k5, 4, none⟩ = some (.int .u64 (setW st 1)) := by rw [cell_of_row w1 _ 4 _ _ _ hb5]; rfl
    have q5 : w1.cell? ⟨k5, 5, none⟩ = some (.int .u64 (setW st 2)) := by rw [cell_of_row w1 _ 5 _ _ _ hb5]; rfl
    have q6 : w1.cell? ⟨k5, 6, none⟩ = some (.int .u64 (setW st 3)) := by rw [cell_of_row w1 _ 6 _ _ _ hb5]; rfl
    clear hb5
    go_simp
    exact hK _ _ ⟨b0, b1, b2, b3, b4, true, false, false, false, false, false, ko, v12, rfl, rfl, hF⟩
  · intro listed aa w1 K hs hcl hf hall hI hK
    obtain ⟨b0, b1, b2, b3, b4, b5, b6, b7, b8, b9, b10, ko, v12, rfl, rfl, hF⟩ := hI
    have hf' : b6 = false := hf
    subst hf'
    have hq5 : b5 = true := hall ⟨5, .data⟩ (by first | exact .head _ | simp) rfl
    subst hq5
    have hb7 : b7 = false := by
      cases b7
      · rfl
      · exact absurd (show false = true from hcl 7 _ rfl rfl ⟨6, .data⟩ (by first | exact .head _ | simp) rfl) (by decide)
    subst hb7
    have hb8 : b8 = false := by
      cases b8
      · rfl
      · exact absurd (show false = true from hcl 8 _ rfl rfl ⟨6, .phase⟩ (by first | exact .head _ | simp) rfl) (by decide)
    subst hb8
    have hb9 : b9 = false := by
      cases b9
      · rfl
      · exact absurd (show false = true from hcl 9 _ rfl rfl ⟨6, .phase⟩ (by first | exact .head _ | simp) rfl) (by decide)
    subst hb9
    have hb10 : b10 = false := by
      cases b10
      · rfl
      · exact absurd (show false = true from hcl 10 _ rfl rfl ⟨6, .phase⟩ (by first | exact .head _ | simp) rfl) (by decide)
    subst hb10
    clear hall hcl hs hf
    go_simp
    exact hK _ _ ⟨b0, b1, b2, b3, b4, true, true, false, false, false, false, w1.heap.size, v12, rfl, rfl, hF.mk6⟩
  · intro listed aa w1 K hs hcl hf hall hI hK
    obtain ⟨b0, b1, b2, b3, b4, b5, b6, b7, b8, b9, b10, ko, v12, rfl, rfl, hF⟩ := hI
    have hf' : b7 = false := hf
    subst hf'
    have hq4 : b4 = true := hall ⟨4, .data⟩ (by first | exact .head _ | simp) rfl
    subst hq4
    have hq6 : b6 = true := hall ⟨6, .data⟩ (by first | exact .head _ | simp) rfl
    subst hq6
    have hq3 : b3 = true := hcl 4 _ rfl rfl ⟨3, .data⟩ (by first | exact .head _ | simp) rfl
    subst hq3
    have hq5 : b5 = true := hcl 6 _ rfl rfl ⟨5, .data⟩ (by first | exact .head _ | simp) rfl
    subst hq5
    have hq2 : b2 = true := hcl 3 _ rfl rfl ⟨2, .data⟩ (by first | exact .head _ | simp) rfl
    subst hq2
    have hq1 : b1 = true := hcl 2 _ rfl rfl ⟨1, .data⟩ (by first | exact .head _ | simp) rfl
    subst hq1
    have hb8 : b8 = false := by
      cases b8
      · rfl
      · exact absurd (show false = true from hcl 8 _ rfl rfl ⟨7, .phase⟩ (by first | exact .head _ | simp) rfl) (by decide)
    subst hb8
    have hb9 : b9 = false := by
      cases b9
      · rfl
      · exact absurd (show false = true from hcl 9 _ rfl rfl ⟨7, .phase⟩ (by first | exact .head _ | simp) rfl) (by decide)
    subst hb9
    have hb10 : b10 = false := by
      cases b10
      · rfl
      · exact absurd (show false = true from hcl 10 _ rfl rfl ⟨7, .data⟩ (by first | exact .head _ | simp) rfl) (by decide)
    subst hb10
    clear hall hcl hs hf
    have hR := (hF.base rfl).1
    have hrow := hF.row rfl rfl
    refine step_appO w1 (by rfl) _ _ 28 (by rfl) B 42 (.agg #[.int .i64 0, .int .i64 0, .int .i64 0, .int .u64 0, .int .u64 0, .int .u64 0, .int .u64 0]) 7 56 Try.underlying28 info_st rfl (by decide) (by decide) (.slice Al N.length cl) N.length (ndsV N) (by rfl) hR.own (some ⟨ko, 0, none⟩) 1 1 (ndCells ⟨kd, lf, rt, st⟩) (by rfl) (Or.inr ⟨ko, 0, rfl, fun j u hu => by rw [Nat.zero_add, cell_of_row w1 ko j _ _ _ hrow, List.getElem?_toArray]; exact hu⟩) rfl rfl (by omega) hR.lB ?_
    intro v' w' ho hg hst
    exact hK _ _ ⟨b0, true, true, true, true, true, true, true, false, false, false, ko, v', rfl, rfl, hF.mk7 ho hg hst⟩
  · intro listed aa w1 K hs hcl hf hall hI hK
    obtain ⟨b0, b1, b2, b3, b4, b5, b6, b7, b8, b9, b10, ko, v12, rfl, rfl, hF⟩ := hI
    have hf' : b8 = false := hf
    subst hf'
    have hq0 : b0 = true := hall ⟨0, .data⟩ (by first | exact .head _ | simp) rfl
    subst hq0
    have hq1 : b1 = true := hall ⟨1, .phase⟩ (by first | exact .head _ | simp) rfl
    subst hq1
    have hq2 : b2 = true := hall ⟨2, .phase⟩ (by first | exact .head _ | simp) rfl
    subst hq2
    have hq3 : b3 = true := hall ⟨3, .phase⟩ (by first | exact .head _ | simp) rfl
    subst hq3
    have hq4 : b4 = true := hall ⟨4, .phase⟩ (by first | exact .head _ | simp) rfl
    subst hq4
    have hq5 : b5 = true := hall ⟨5, .phase⟩ (by first | exact .head _ | simp) rfl
    subst hq5
    have hq6 : b6 = true := hall ⟨6, .phase⟩ (by first | exact .head _ | simp) rfl
    subst hq6
    have hq7 : b7 = true := hall ⟨7, .phase⟩ (by first | exact .head _ | simp) rfl
    subst hq7
    have hb9 : b9 = false := by
      cases b9
      · rfl
      · exact absurd (show false = true from hcl 9 _ rfl rfl ⟨8, .data⟩ (by first | exact .head _ | simp) rfl) (by decide)
    subst hb9
    have hb10 : b10 = false := by
      cases b10
      · rfl
      · exact absurd (show false = true from hcl 10 _ rfl rfl ⟨9, .data⟩ (by first | exact .head _ | simp) rfl) (by decide)
    subst hb10
    clear hall hcl hs hf
    go_simp
    exact hK _ _ ⟨true, true, true, true, true, true, true, true, true, false, false, ko, v12, rfl, rfl, hF⟩
  · intro listed aa w1 K hs hcl hf hall hI hK
    obtain ⟨b0, b1, b2, b3, b4, b5, b6, b7, b8, b9, b10, ko, v12, rfl, rfl, hF⟩ := hI
    have hf' : b9 = false := hf
    subst hf'
    have hq8 : b8 = true := hall ⟨8, .data⟩ (by first | exact .head _ | simp) rfl
    subst hq8
    have hq0 : b0 = true := hall ⟨0, .phase⟩ (by first | exact .head _ | simp) rfl
    subst hq0
    have hq1 : b1 = true := hall ⟨1, .phase⟩ (by first | exact .head _ | simp) rfl
    subst hq1
    have hq2 : b2 = true := hall ⟨2, .phase⟩ (by first | exact .head _ | simp) rfl
    subst hq2
    have hq3 : b3 = true := hall ⟨3, .phase⟩ (by first | exact .head _ | simp) rfl
    subst hq3
    have hq4 : b4 = true := hall ⟨4, .phase⟩ (by first | exact .head _ | simp) rfl
    subst hq4
    have hq5 : b5 = true := hall ⟨5, .phase⟩ (by first | exact .head _ | simp) rfl
    subst hq5
    have hq6 : b6 = true := hall ⟨6, .phase⟩ (by first | exact .head _ | simp) rfl
    subst hq6
    have hq7 : b7 = true := hall ⟨7, .phase⟩ (by first | exact .head _ | simp) rfl
    subst hq7
    have hb10 : b10 = false := by
      cases b10
      · rfl
      · exact absurd (show false = true from hcl 10 _ rfl rfl ⟨9, .data⟩ (by first | exact .head _ | simp) rfl) (by decide)
    subst hb10
    clear hall hcl hs hf
    go_simp
    exact hK _ _ ⟨true, true, true, true, true, true, true, true, true, true, false, ko, v12, rfl, rfl, hF⟩
  · intro listed aa w1 K hs hcl hf hall hI hK
    obtain ⟨b0, b1, b2, b3, b4, b5, b6, b7, b8, b9, b10, ko, v12, rfl, rfl, hF⟩ := hI
    have hf' : b10 = false := hf
    subst hf'
    have hq9 : b9 = true := hall ⟨9, .data⟩ (by first | exact .head _ | simp) rfl
    subst hq9
    have hq7 : b7 = true := hall ⟨7, .data⟩ (by first | exact .head _ | simp) rfl
    subst hq7
    have hq0 : b0 = true := hall ⟨0, .phase⟩ (by first | exact .head _ | simp) rfl
    subst hq0
    have hq1 : b1 = true := hall ⟨1, .phase⟩ (by first | exact .head _ | simp) rfl
    subst hq1
    have hq2 : b2 = true := hall ⟨2, .phase⟩ (by first | exact .head _ | simp) rfl
    subst hq2
    have hq3 : b3 = true := hall ⟨3, .phase⟩ (by first | exact .head _ | simp) rfl
    subst hq3
    have hq4 : b4 = true := hall ⟨4, .phase⟩ (by first | exact .head _ | simp) rfl
    subst hq4
    have hq5 : b5 = true := hall ⟨5, .phase⟩ (by first | exact .head _ | simp) rfl
    subst hq5
    have hq6 : b6 = true := hall ⟨6, .phase⟩ (by first | exact .head _ | simp) rfl
    subst hq6
    have hq8 : b8 = true := hcl 9 _ rfl rfl ⟨8, .data⟩ (by first | exact .head _ | simp) rfl
    subst hq8
    clear hall hcl hs hf
    obtain ⟨⟨_, _, _, _, hb5, ho9⟩, _⟩ := hF.app rfl rfl
    obtain ⟨A9, c9, rfl, _, _, _⟩ := ho9.shape
    have f3 : w1.frozen? ⟨g, 1, none⟩ = false := frozen_of_row w1 g 1 _ _ hb5
    have c3 : w1.cell? ⟨g, 1, none⟩ = some (.slice Al N.length cl) := by rw [cell_of_row w1 g 1 _ _ _ hb5]; rfl
    clear hb5 ho9
    go_simp
    exact hK _ _ ⟨true, true, true, true, true, true, true, true, true, true, true, ko, .slice A9 (N.length + 1) c9, rfl, rfl, hF.mk10⟩
end Go.Proofs.Ythadkjgadhbidaa
/-
  The walk of the builder's build (nfa).
-/
namespace Go.Proofs.Ythadkjgadhbidaa
open Go.RowKit
set_option linter.unusedVariables false

def NBuild (w0 w : World) (B g : Nat) (An : Option Addr) (ln cn : Nat) (lv : Value) (r : List Nd × Nat) (e : Ending) (w' : World) : Prop := e = .returned (.int .i64 (r.2 : Int)) ∧ ∃ lv', NB w0 w' B g An ln cn lv' r.1 ∧ Far w w' g lv lv'
theorem NBuild.mono_ {w0 w W : World} {B g ln cn : Nat} {An : Option Addr} {lv : Value} {r : List Nd × Nat} {e : Ending} {w' : World} (h : NBuild w0 W B g An ln cn lv r e w') (ho : Old w W) : NBuild w0 w B g An ln cn lv r e w' := by
  obtain ⟨h1, lv', h2, h3⟩ := h
  exact ⟨h1, lv', h2, Far.old_ ho h3⟩
/-- A node that lies in block k, on from W. -/
def NdAt (w : World) (k : Nat) (x : Nd) : Prop := w.heap[k]? = some (.cells (ndCells x).toArray 114 (0, 0))
theorem NdAt.cells {w : World} {k : Nat} {x : Nd} (h : NdAt w k x) : w.cell? ⟨k, 0, none⟩ = some (.int .i64 x.kind) ∧ w.cell? ⟨k, 1, none⟩ = some (.int .i64 x.left) ∧ w.cell? ⟨k, 2, none⟩ = some (.int .i64 x.right) ∧
    w.cell? ⟨k, 3, none⟩ = some (.int .u64 (setW x.set 0)) ∧ w.cell? ⟨k, 4, none⟩ = some (.int .u64 (setW x.set 1)) ∧ w.cell? ⟨k, 5, none⟩ = some (.int .u64 (setW x.set 2)) ∧ w.cell? ⟨k, 6, none⟩ = some (.int .u64 (setW x.set 3)) :=
  ⟨by rw [cell_of_row w k 0 _ _ _ h]; rfl, by rw [cell_of_row w k 1 _ _ _ h]; rfl, by rw [cell_of_row w k 2 _ _ _ h]; rfl, by rw [cell_of_row w k 3 _ _ _ h]; rfl, by rw [cell_of_row w k 4 _ _ _ h]; rfl, by rw [cell_of_row w k 5 _ _ _ h]; rfl, by rw [cell_of_row w k 6 _ _ _ h]; rfl⟩
theorem nds_put : ∀ (l : List Nd) (j : Nat) (x x' : Nd) (i : Nat) (v : Value), l[j]? = some x → i < 7 → (ndCells x).set i v = ndCells x' → (ndsV l).set (j * 7 + i) v = ndsV (l.set j x')
  | [], j, x, x', i, v, h, _, _ => by simp at h
  | a :: l, 0, x, x', i, v, h, hi, hv => by
    simp at h; subst h
    have e : ∀ (a : Nd) l, ndsV (a :: l) = ndCells a ++ ndsV l := fun _ _ => rfl
    rw [List.set_cons_zero, e, e, ← hv, Nat.zero_mul, Nat.zero_add, List.set_append_left _ _ (by simpa [ndCells] using hi)]
  | a :: l, j + 1, x, x', i, v, h, hi, hv => by
    have ih := nds_put l j x x' i v (by simpa using h) hi hv
    have e : ∀ (a : Nd) l, ndsV (a :: l) = ndCells a ++ ndsV l := fun _ _ => rfl
    have hl : (ndCells a).length = 7 := rfl
    rw [List.set_cons_succ, e, e, List.set_append_right _ _ (by rw [hl]; omega), hl, show (j + 1) * 7 + i - 7 = j * 7 + i by omega, ih]
/-- The builder's states, one cell changed. -/
theorem NB.put_ {w0 w : World} {B g ln cn gb cb i c : Nat} {An : Option Addr} {S : List Nd} {x x' : Nd} (h : NB w0 w B g An ln cn (.slice (some ⟨gb, 0, none⟩) S.length cb) S) (hx : S[i]? = some x) (v : Value) (hc : c < 7) (hv : (ndCells x).set c v = ndCells x') :
    NB w0 (w.setCell ⟨gb, i * 7 + c, none⟩ v) B g An ln cn (.slice (some ⟨gb, 0, none⟩) S.length cb) (S.set i x') ∧ Far w (w.setCell ⟨gb, i * 7 + c, none⟩ v) g (.slice (some ⟨gb, 0, none⟩) S.length cb) (.slice (some ⟨gb, 0, none⟩) S.length cb) := by
  obtain ⟨h1, h2⟩ := h.own.set_ (i * 7 + c) v
  rw [nds_put S i x x' c v hx hc hv] at h1
  have hgb : B ≤ gb := (World.ownsRow.lt h.own gb rfl).1
  have hne : gb ≠ g := by have := h.lg; omega
  refine ⟨⟨h.old.setCell (by have := h.bg; have := h.lg; simp only; omega) _, ?_, by rw [List.length_set]; exact h1, h.bg, h.lg, by simpa using h.lB⟩, ?_⟩
  · rw [heap_setCell_other w ⟨gb, i * 7 + c, none⟩ g v (fun e => hne e.symm)]
    exact h.blk
  · refine ⟨by simp, fun k hk hkg hks => ⟨heap_setCell_other w ⟨gb, i * 7 + c, none⟩ k v (fun e => hks (by rw [e]; rfl)), hks⟩⟩
theorem NB.fresh {w0 w : World} {B g ln cn : Nat} {An : Option Addr} {sv : Value} {S : List Nd} (h : NB w0 w B g An ln cn sv S) : w.heap.size ≠ g ∧ sv.ownBlock ≠ some w.heap.size :=
  ⟨by have := h.lg; have := h.lB; omega, fun e => by have := (World.ownsRow.lt h.own _ e).2; omega⟩
theorem Far.nd {a b : World} {g k : Nat} {s1 s2 : Value} {x : Nd} (h : Far a b g s1 s2) (hk : NdAt a k x) (hg : k ≠ g ∧ s1.ownBlock ≠ some k) : NdAt b k x ∧ (k ≠ g ∧ s2.ownBlock ≠ some k) := by
  obtain ⟨q1, q2⟩ := h.blk hk hg.1 hg.2
  exact ⟨q1, hg.1, q2⟩
set_option maxHeartbeats 8000000 in
set_option maxRecDepth 100000 in
theorem nbuildC (w0 : World) (B g : Nat) (An : Option Addr) (cn : Nat) (l : List Nd) (hr : Rs w0 An (ndsV l)) (hl : l.length ≤ 256) (hso : ∀ x ∈ l, setOk x.set) {a n : Nat} (hs : Sub l a n) :
    ∀ (f x : Nat) (S : List Nd) (lv : Value) (w : World), n < f → S.length + (n + 1 - a) ≤ 1000 → x ≤ 1000 → NB w0 w B g An l.length cn lv S →
    Calls Try.prog 33 #[.pointer (some ⟨g, 0, none⟩), .int .i64 (n : Int), .int .i64 (x : Int)] w (NBuild w0 w B g An l.length cn lv (pbF l f n x S)) := by
  have HR := Lib.hid hr
  have HLL := Lib.hid hl
  have HSO := Lib.hid hso
  clear hr hl hso
  induction hs with
  | leaf n h hk h1 h2 h3 =>
    intro f x S lv w hf hsz hx1 hb
    obtain ⟨f, rfl⟩ : ∃ g, f = g + 1 := ⟨f - 1, by omega⟩
    have hP : pbF l (f + 1) n x S = if (nd l n).kind = 2 then (S ++ [⟨1, x, 0, (nd l n).set⟩], S.length) else if (nd l n).kind = 8 then (S ++ [⟨3, x, 0, 0⟩], S.length) else if (nd l n).kind = 9 then (S ++ [⟨4, x, 0, 0⟩], S.length) else (S, x) := by
      rw [pbF, if_neg (show ¬ (nd l n).kind = 3 by omega), if_neg (show ¬ (nd l n).kind = 4 by omega), if_neg (show ¬ (nd l n).kind = 7 by omega), if_neg (show ¬ ((nd l n).kind = 5 ∨ (nd l n).kind = 6) by omega)]
    have HP := Lib.hid hP
    have HSZ : Hid (S.length ≤ 100000) := Lib.hid (by omega)
    clear hP hf h1 h2 h3
    have HB := Lib.hid hb
    have hx : l[n]? = some (nd l n) := by unfold nd; rw [List.getD_eq_getElem?_getD, List.getElem?_eq_getElem h]; rfl
    obtain ⟨b, off, rfl, hbl, hcl⟩ := (HR.out.up hb.old).at_ (by rw [ndsV_length]; omega)
    have hg := ndsV_get l n _ hx
    have c0 := hcl _ _ (hg 0 (by omega))
    have c1 := hcl _ _ (hg 1 (by omega))
    have c2 := hcl _ _ (hg 2 (by omega))
    have c3 := hcl _ _ (hg 3 (by omega))
    have c4 := hcl _ _ (hg 4 (by omega))
    have c5 := hcl _ _ (hg 5 (by omega))
    have c6 := hcl _ _ (hg 6 (by omega))
    rw [← Nat.add_assoc] at c0 c1 c2 c3 c4 c5 c6
    rw [Nat.add_zero] at c0
    obtain ⟨e0, e1, _⟩ := hb.cells
    have i0 : (0 : Int) ≤ ((n : Nat) : Int) := by omega
    have i1 : ((n : Nat) : Int) < (l.length : Int) := by omega
    have HFR := Lib.hid hb.fresh
    clear hx hg hcl hbl hb
    generalize nd l n = y at *
    obtain ⟨kd, lf, rt, st⟩ := y
    simp only at hk HP
    replace c0 : w.cell? ⟨b, off + n * 7, none⟩ = some (.int .i64 kd) := c0
    replace c1 : w.cell? ⟨b, off + n * 7 + 1, none⟩ = some (.int .i64 lf) := c1
    replace c2 : w.cell? ⟨b, off + n * 7 + 2, none⟩ = some (.int .i64 rt) := c2
    replace c3 : w.cell? ⟨b, off + n * 7 + 3, none⟩ = some (.int .u64 (setW st 0)) := c3
    replace c4 : w.cell? ⟨b, off + n * 7 + 4, none⟩ = some (.int .u64 (setW st 1)) := c4
    replace c5 : w.cell? ⟨b, off + n * 7 + 5, none⟩ = some (.int .u64 (setW st 2)) := c5
    replace c6 : w.cell? ⟨b, off + n * 7 + 6, none⟩ = some (.int .u64 (setW st 3)) := c6
    go_enter Try.func33, Try.ntmps33
    go_upto_region 2 with fail
    have hk7 : NdAt (w.alloc (.cells (ndCells ⟨kd, lf, rt, st⟩).toArray 114)) w.heap.size ⟨kd, lf, rt, st⟩ := heap_alloc_new w _
    have HOW := Lib.hid ((Old.refl w).alloc (.cells (ndCells ⟨kd, lf, rt, st⟩).toArray 114))
    have HBW := Lib.hid (HB.out.up HOW.out)
    generalize hWW : w.alloc (.cells #[.int .i64 kd, .int .i64 lf, .int .i64 rt, .int .u64 (setW st 0), .int .u64 (setW st 1), .int .u64 (setW st 2), .int .u64 (setW st 3)] 114) = W
    have hWW' : w.alloc (.cells (ndCells ⟨kd, lf, rt, st⟩).toArray 114) = W := hWW
    rw [hWW'] at hk7 HOW HBW
    clear hWW hWW' c0 c1 c2 c3 c4 c5 c6 e0 e1 HB
    obtain ⟨d0, d1, d2, d3, d4, d5, d6⟩ := hk7.cells
    simp only at d0 d1 d2 d3 d4 d5 d6
    have HK := Lib.hid hk7
    clear hk7
    generalize w.heap.size = k7 at *
    rcases hk with rfl | rfl | rfl | rfl
    · have HE : Hid (pbF l (f + 1) n x S = (S, x)) := Lib.hid (by rw [HP.out]; rfl)
      clear HP
      go_wp2_with fail
      go_ret
      rw [HE.out]
      exact ⟨rfl, lv, HBW.out, Far.of_old HOW.out g lv⟩
    · have HE : Hid (pbF l (f + 1) n x S = (S ++ [⟨1, x, 0, st⟩], S.length)) := Lib.hid (by rw [HP.out]; rfl)
      clear HP
      have HA := naddC w0 B g (some ⟨b, off, none⟩) l.length cn lv S W HBW.out HSZ.out ⟨1, x, 0, st⟩
      unfold stA at HA
      have HAH := Lib.hid HA
      clear HA HBW
      go_wp2_with fail
      refine (HAH.out).mono ?_; rintro e w2 ⟨rfl, lv2, hb2, hf2⟩
      have HB2 := Lib.hid hb2
      have HF2 := Lib.hid hf2
      clear hb2 hf2 HAH
      go_wp2_with fail
      go_ret
      rw [HE.out]
      exact ⟨rfl, lv2, HB2.out, Far.old_ HOW.out HF2.out⟩
    · have HE : Hid (pbF l (f + 1) n x S = (S ++ [⟨3, x, 0, 0⟩], S.length)) := Lib.hid (by rw [HP.out]; rfl)
      clear HP
      have HA := naddC w0 B g (some ⟨b, off, none⟩) l.length cn lv S W HBW.out HSZ.out ⟨3, x, 0, 0⟩
      unfold stA at HA
      simp only [setW_zero] at HA
      have HAH := Lib.hid HA
      clear HA HBW
      go_wp2_with fail
      refine (HAH.out).mono ?_; rintro e w2 ⟨rfl, lv2, hb2, hf2⟩
      have HB2 := Lib.hid hb2
      have HF2 := Lib.hid hf2
      clear hb2 hf2 HAH
      go_wp2_with fail
      go_ret
      rw [HE.out]
      exact ⟨rfl, lv2, HB2.out, Far.old_ HOW.out HF2.out⟩
    · have HE : Hid (pbF l (f + 1) n x S = (S ++ [⟨4, x, 0, 0⟩], S.length)) := Lib.hid (by rw [HP.out]; rfl)
      clear HP
      have HA := naddC w0 B g (some ⟨b, off, none⟩) l.length cn lv S W HBW.out HSZ.out ⟨4, x, 0, 0⟩
      unfold stA at HA
      simp only [setW_zero] at HA
      have HAH := Lib.hid HA
      clear HA HBW
      go_wp2_with fail
      refine (HAH.out).mono ?_; rintro e w2 ⟨rfl, lv2, hb2, hf2⟩
      have HB2 := Lib.hid hb2
      have HF2 := Lib.hid hf2
      clear hb2 hf2 HAH
      go_wp2_with fail
      go_ret
      rw [HE.out]
      exact ⟨rfl, lv2, HB2.out, Far.old_ HOW.out HF2.out⟩
  | one a n h hk h1 h2 h3 hs ih =>
    intro f x S lv w hf hsz hx1 hb
    obtain ⟨f, rfl⟩ : ∃ g, f = g + 1 := ⟨f - 1, by omega⟩
    have hle := hs.le
    have hL : (nd l (n + 1)).left.toNat = n := by omega
    have hP : pbF l (f + 1) (n + 1) x S = if (nd l (n + 1)).kind = 7 then ((pbF l f n x S).1 ++ [⟨2, (pbF l f n x S).2, x, 0⟩], (pbF l f n x S).1.length) else ((pbF l f n S.length (S ++ [⟨2, 0, x, 0⟩])).1.set S.length ⟨2, (pbF l f n S.length (S ++ [⟨2, 0, x, 0⟩])).2, x, 0⟩, if (nd l (n + 1)).kind = 6 then (pbF l f n S.length (S ++ [⟨2, 0, x, 0⟩])).2 else S.length) := by
      rw [pbF, if_neg (show ¬ (nd l (n + 1)).kind = 2 by omega), if_neg (show ¬ (nd l (n + 1)).kind = 8 by omega), if_neg (show ¬ (nd l (n + 1)).kind = 9 by omega), if_neg (show ¬ (nd l (n + 1)).kind = 3 by omega), if_neg (show ¬ (nd l (n + 1)).kind = 4 by omega), hL]
      by_cases k7 : (nd l (n + 1)).kind = 7
      · rw [if_pos k7, if_pos k7]
      · rw [if_neg k7, if_neg k7, if_pos (by omega)]
    have HP := Lib.hid hP
    have HIH := Lib.hid ih
    have HMD := Lib.hid (fun x S => pbF_made hs f x S (by omega))
    have HSZ : Hid (S.length + (n + 1 + 1 - a) ≤ 1000) := Lib.hid hsz
    have HF0 : Hid (n < f) := Lib.hid (by omega)
    have hal := hle.1
    have H1 := Lib.hid h1
    clear hP hf hL ih h1 h2 h3
    have HB := Lib.hid hb
    have hx : l[(n + 1)]? = some (nd l (n + 1)) := by unfold nd; rw [List.getD_eq_getElem?_getD, List.getElem?_eq_getElem h]; rfl
    obtain ⟨b, off, rfl, hbl, hcl⟩ := (HR.out.up hb.old).at_ (by rw [ndsV_length]; omega)
    have hg := ndsV_get l (n + 1) _ hx
    have c0 := hcl _ _ (hg 0 (by omega))
    have c1 := hcl _ _ (hg 1 (by omega))
    have c2 := hcl _ _ (hg 2 (by omega))
    have c3 := hcl _ _ (hg 3 (by omega))
    have c4 := hcl _ _ (hg 4 (by omega))
    have c5 := hcl _ _ (hg 5 (by omega))
    have c6 := hcl _ _ (hg 6 (by omega))
    rw [← Nat.add_assoc] at c0 c1 c2 c3 c4 c5 c6
    rw [Nat.add_zero] at c0
    obtain ⟨e0, e1, _⟩ := hb.cells
    have i0 : (0 : Int) ≤ (((n + 1) : Nat) : Int) := by omega
    have i1 : (((n + 1) : Nat) : Int) < (l.length : Int) := by omega
    have HFR := Lib.hid hb.fresh
    clear hx hg hcl hbl hb
    generalize nd l (n + 1) = y at *
    obtain ⟨kd, lf, rt, st⟩ := y
    simp only at hk HP
    replace c0 : w.cell? ⟨b, off + (n + 1) * 7, none⟩ = some (.int .i64 kd) := c0
    replace c1 : w.cell? ⟨b, off + (n + 1) * 7 + 1, none⟩ = some (.int .i64 lf) := c1
    replace c2 : w.cell? ⟨b, off + (n + 1) * 7 + 2, none⟩ = some (.int .i64 rt) := c2
    replace c3 : w.cell? ⟨b, off + (n + 1) * 7 + 3, none⟩ = some (.int .u64 (setW st 0)) := c3
    replace c4 : w.cell? ⟨b, off + (n + 1) * 7 + 4, none⟩ = some (.int .u64 (setW st 1)) := c4
    replace c5 : w.cell? ⟨b, off + (n + 1) * 7 + 5, none⟩ = some (.int .u64 (setW st 2)) := c5
    replace c6 : w.cell? ⟨b, off + (n + 1) * 7 + 6, none⟩ = some (.int .u64 (setW st 3)) := c6
    go_enter Try.func33, Try.ntmps33
    go_upto_region 2 with fail
    have hk7 : NdAt (w.alloc (.cells (ndCells ⟨kd, lf, rt, st⟩).toArray 114)) w.heap.size ⟨kd, lf, rt, st⟩ := heap_alloc_new w _
    have HOW := Lib.hid ((Old.refl w).alloc (.cells (ndCells ⟨kd, lf, rt, st⟩).toArray 114))
    have HBW := Lib.hid (HB.out.up HOW.out)
    generalize hWW : w.alloc (.cells #[.int .i64 kd, .int .i64 lf, .int .i64 rt, .int .u64 (setW st 0), .int .u64 (setW st 1), .int .u64 (setW st 2), .int .u64 (setW st 3)] 114) = W
    have hWW' : w.alloc (.cells (ndCells ⟨kd, lf, rt, st⟩).toArray 114) = W := hWW
    rw [hWW'] at hk7 HOW HBW
    clear hWW hWW' c0 c1 c2 c3 c4 c5 c6 e0 e1 HB
    obtain ⟨d0, d1, d2, d3, d4, d5, d6⟩ := hk7.cells
    simp only at d0 d1 d2 d3 d4 d5 d6
    have HK := Lib.hid hk7
    clear hk7
    generalize w.heap.size = k7 at *
    have h1 : lf = (n : Int) := H1.out
    subst h1
    rcases hk with rfl | rfl | rfl
    · have HE0 : Hid (∀ R v, pbF l f n S.length (S ++ [⟨2, 0, x, 0⟩]) = (R, v) → pbF l (f + 1) (n + 1) x S = (R.set S.length ⟨2, v, x, 0⟩, S.length)) := Lib.hid (fun R v e => by rw [HP.out, e]; rfl)
      clear HP
      have HA := naddC w0 B g (some ⟨b, off, none⟩) l.length cn lv S W HBW.out (by have := HSZ.out; omega) ⟨2, 0, x, 0⟩
      unfold stA at HA
      simp only [setW_zero] at HA
      have HAH := Lib.hid HA
      clear HA HBW
      go_wp2_with fail
      refine (HAH.out).mono ?_; rintro e w2 ⟨rfl, lv2, hb2, hf2⟩
      have hm := HMD.out S.length (S ++ [⟨2, 0, x, 0⟩])
      have HC := HIH.out f S.length (S ++ [⟨2, 0, x, 0⟩]) lv2 w2 HF0.out (by have := HSZ.out; rw [List.length_append, List.length_singleton]; omega) (by have := HSZ.out; omega) hb2
      obtain ⟨hk2, hfr2⟩ := hf2.nd HK.out HFR.out
      have HF2 := Lib.hid hf2
      have HK2 := Lib.hid hk2
      have HFR2 := Lib.hid hfr2
      clear hb2 hf2 HAH HIH HMD hk2 hfr2 HK HFR d0 d1 d2 d3 d4 d5 d6
      have he := HE0.out
      generalize pbF l f n S.length (S ++ [⟨2, 0, x, 0⟩]) = r at *
      obtain ⟨R, v⟩ := r
      have HE := Lib.hid (he R v rfl)
      have HM := Lib.hid hm
      have HCC := Lib.hid HC
      clear hm HC he HE0
      obtain ⟨_, d1, _⟩ := HK2.out.cells
      simp only at d1
      go_wp2_with fail
      refine (HCC.out).mono ?_; rintro e w3 ⟨rfl, lv3, hb3, hf3⟩
      have hlR : S.length + 1 ≤ R.length := by have h5 := HM.out.len; rw [List.length_append, List.length_singleton] at h5; exact h5
      obtain ⟨gb, cb, rfl, _, _, _, _⟩ := hb3.own.form (show 0 < R.length by omega)
      have hxR : R[S.length]? = some ⟨2, 0, x, 0⟩ := by
        have h5 := HM.out.old S.length (by simp)
        have h6 : nd R S.length = nd (S ++ [⟨2, 0, x, 0⟩]) S.length := h5
        rw [nd_last] at h6
        unfold nd at h6
        have hlt : S.length < R.length := hlR
        rw [List.getD_eq_getElem?_getD, List.getElem?_eq_getElem hlt] at h6
        rw [List.getElem?_eq_getElem hlt]
        exact congrArg some h6
      obtain ⟨q1, q2⟩ := hb3.own.cellAt (j := S.length * 7 + 1) (u := .int .i64 0) (by rw [ndsV_get R S.length _ hxR 1 (by omega)]; rfl)
      obtain ⟨hb4, hf4⟩ := hb3.put_ hxR (x' := ⟨2, v, x, 0⟩) (.int .i64 (v : Int)) (c := 1) (by omega) rfl
      obtain ⟨_, e1, _⟩ := hb3.cells
      obtain ⟨hk3, hfr3⟩ := hf3.nd HK2.out HFR2.out
      obtain ⟨hk4, hfr4⟩ := hf4.nd hk3 hfr3
      obtain ⟨d0, _⟩ := hk4.cells
      simp only at d0
      have j0 : (0 : Int) ≤ (S.length : Int) := by omega
      have j1 : (S.length : Int) < (R.length : Int) := by omega
      have HB9 := Lib.hid hb4
      have HF9 := Lib.hid (Far.old_ HOW.out (HF2.out.trans (hf3.trans hf4)))
      clear hb3 hf3 hb4 hf4 hk3 hfr3 hk4 hfr4 HK2 HFR2 HF2 HCC HM HOW hxR d1
      go_wp2_with fail
      go_ret
      rw [HE.out]
      exact ⟨rfl, _, HB9.out, HF9.out⟩
    · have HE0 : Hid (∀ R v, pbF l f n S.length (S ++ [⟨2, 0, x, 0⟩]) = (R, v) → pbF l (f + 1) (n + 1) x S = (R.set S.length ⟨2, v, x, 0⟩, v)) := Lib.hid (fun R v e => by rw [HP.out, e]; rfl)
      clear HP
      have HA := naddC w0 B g (some ⟨b, off, none⟩) l.length cn lv S W HBW.out (by have := HSZ.out; omega) ⟨2, 0, x, 0⟩
      unfold stA at HA
      simp only [setW_zero] at HA
      have HAH := Lib.hid HA
      clear HA HBW
      go_wp2_with fail
      refine (HAH.out).mono ?_; rintro e w2 ⟨rfl, lv2, hb2, hf2⟩
      have hm := HMD.out S.length (S ++ [⟨2, 0, x, 0⟩])
      have HC := HIH.out f S.length (S ++ [⟨2, 0, x, 0⟩]) lv2 w2 HF0.out (by have := HSZ.out; rw [List.length_append, List.length_singleton]; omega) (by have := HSZ.out; omega) hb2
      obtain ⟨hk2, hfr2⟩ := hf2.nd HK.out HFR.out
      have HF2 := Lib.hid hf2
      have HK2 := Lib.hid hk2
      have HFR2 := Lib.hid hfr2
      clear hb2 hf2 HAH HIH HMD hk2 hfr2 HK HFR d0 d1 d2 d3 d4 d5 d6
      have he := HE0.out
      generalize pbF l f n S.length (S ++ [⟨2, 0, x, 0⟩]) = r at *
      obtain ⟨R, v⟩ := r
      have HE := Lib.hid (he R v rfl)
      have HM := Lib.hid hm
      have HCC := Lib.hid HC
      clear hm HC he HE0
      obtain ⟨_, d1, _⟩ := HK2.out.cells
      simp only at d1
      go_wp2_with fail
      refine (HCC.out).mono ?_; rintro e w3 ⟨rfl, lv3, hb3, hf3⟩
      have hlR : S.length + 1 ≤ R.length := by have h5 := HM.out.len; rw [List.length_append, List.length_singleton] at h5; exact h5
      obtain ⟨gb, cb, rfl, _, _, _, _⟩ := hb3.own.form (show 0 < R.length by omega)
      have hxR : R[S.length]? = some ⟨2, 0, x, 0⟩ := by
        have h5 := HM.out.old S.length (by simp)
        have h6 : nd R S.length = nd (S ++ [⟨2, 0, x, 0⟩]) S.length := h5
        rw [nd_last] at h6
        unfold nd at h6
        have hlt : S.length < R.length := hlR
        rw [List.getD_eq_getElem?_getD, List.getElem?_eq_getElem hlt] at h6
        rw [List.getElem?_eq_getElem hlt]
        exact congrArg some h6
      obtain ⟨q1, q2⟩ := hb3.own.cellAt (j := S.length * 7 + 1) (u := .int .i64 0) (by rw [ndsV_get R S.length _ hxR 1 (by omega)]; rfl)
      obtain ⟨hb4, hf4⟩ := hb3.put_ hxR (x' := ⟨2, v, x, 0⟩) (.int .i64 (v : Int)) (c := 1) (by omega) rfl
      obtain ⟨_, e1, _⟩ := hb3.cells
      obtain ⟨hk3, hfr3⟩ := hf3.nd HK2.out HFR2.out
      obtain ⟨hk4, hfr4⟩ := hf4.nd hk3 hfr3
      obtain ⟨d0, _⟩ := hk4.cells
      simp only at d0
      have j0 : (0 : Int) ≤ (S.length : Int) := by omega
      have j1 : (S.length : Int) < (R.length : Int) := by omega
      have HB9 := Lib.hid hb4
      have HF9 := Lib.hid (Far.old_ HOW.out (HF2.out.trans (hf3.trans hf4)))
      clear hb3 hf3 hb4 hf4 hk3 hfr3 hk4 hfr4 HK2 HFR2 HF2 HCC HM HOW hxR d1
      go_wp2_with fail
      go_ret
      rw [HE.out]
      exact ⟨rfl, _, HB9.out, HF9.out⟩
    · have hm := HMD.out x S
      have HC := HIH.out f x S lv W HF0.out (by have := HSZ.out; omega) hx1 HBW.out
      have HE : Hid (pbF l (f + 1) (n + 1) x S = ((pbF l f n x S).1 ++ [⟨2, (pbF l f n x S).2, x, 0⟩], (pbF l f n x S).1.length)) := Lib.hid (by rw [HP.out]; rfl)
      clear HP HIH HMD
      generalize pbF l f n x S = r at *
      obtain ⟨R, v⟩ := r
      have HM := Lib.hid hm
      have HCC := Lib.hid HC
      clear hm HC
      go_wp2_with fail
      refine (HCC.out).mono ?_; rintro e w2 ⟨rfl, lv2, hb2, hf2⟩
      have HA := naddC w0 B g (some ⟨b, off, none⟩) l.length cn lv2 R w2 hb2 (by have h5 := HM.out.few; have := HSZ.out; have h6 : R.length ≤ S.length + (n + 1 - a) := h5; omega) ⟨2, v, x, 0⟩
      unfold stA at HA
      simp only [setW_zero] at HA
      have HAH := Lib.hid HA
      have HF2 := Lib.hid hf2
      clear HA hb2 hf2 HCC HBW
      go_wp2_with fail
      refine (HAH.out).mono ?_; rintro e w9 ⟨rfl, lv9, hb9, hf9⟩
      clear HAH
      have HB9 := Lib.hid hb9
      have HF9 := Lib.hid hf9
      clear hb9 hf9
      go_wp2_with fail
      go_ret
      rw [HE.out]
      exact ⟨rfl, lv9, HB9.out, Far.old_ HOW.out (HF2.out.trans HF9.out)⟩
  | two a m n h hk h1 h2 h3 hs1 hs2 i1 i2 =>
    intro f x S lv w hf hsz hx1 hb
    obtain ⟨f, rfl⟩ : ∃ g, f = g + 1 := ⟨f - 1, by omega⟩
    have hle1 := hs1.le
    have hle2 := hs2.le
    have hL : (nd l (n + 1)).left.toNat = m := by omega
    have hR : (nd l (n + 1)).right.toNat = n := by omega
    have hP : pbF l (f + 1) (n + 1) x S = if (nd l (n + 1)).kind = 3 then pbF l f m (pbF l f n x S).2 (pbF l f n x S).1 else ((pbF l f n x (pbF l f m x S).1).1 ++ [⟨2, (pbF l f m x S).2, (pbF l f n x (pbF l f m x S).1).2, 0⟩], (pbF l f n x (pbF l f m x S).1).1.length) := by
      rw [pbF, if_neg (show ¬ (nd l (n + 1)).kind = 2 by omega), if_neg (show ¬ (nd l (n + 1)).kind = 8 by omega), if_neg (show ¬ (nd l (n + 1)).kind = 9 by omega), hL, hR]
      by_cases k7 : (nd l (n + 1)).kind = 3
      · rw [if_pos k7, if_pos k7]
      · rw [if_neg k7, if_neg k7, if_pos (by omega)]
    have HP := Lib.hid hP
    have HI1 := Lib.hid i1
    have HI2 := Lib.hid i2
    have HM1 := Lib.hid (fun x S => pbF_made hs1 f x S (by omega))
    have HM2 := Lib.hid (fun x S => pbF_made hs2 f x S (by omega))
    have HSZ : Hid (S.length + (n + 1 + 1 - a) ≤ 1000) := Lib.hid hsz
    have HF0 : Hid (n < f ∧ m < f ∧ a ≤ m ∧ m < n) := Lib.hid (by omega)
    have H1 := Lib.hid h1
    have H2 := Lib.hid h2
    clear hP hf hL hR i1 i2 h1 h2 h3
    have HB := Lib.hid hb
    have hx : l[(n + 1)]? = some (nd l (n + 1)) := by unfold nd; rw [List.getD_eq_getElem?_getD, List.getElem?_eq_getElem h]; rfl
    obtain ⟨b, off, rfl, hbl, hcl⟩ := (HR.out.up hb.old).at_ (by rw [ndsV_length]; omega)
    have hg := ndsV_get l (n + 1) _ hx
    have c0 := hcl _ _ (hg 0 (by omega))
    have c1 := hcl _ _ (hg 1 (by omega))
    have c2 := hcl _ _ (hg 2 (by omega))
    have c3 := hcl _ _ (hg 3 (by omega))
    have c4 := hcl _ _ (hg 4 (by omega))
    have c5 := hcl _ _ (hg 5 (by omega))
    have c6 := hcl _ _ (hg 6 (by omega))
    rw [← Nat.add_assoc] at c0 c1 c2 c3 c4 c5 c6
    rw [Nat.add_zero] at c0
    obtain ⟨e0, e1, _⟩ := hb.cells
    have i0 : (0 : Int) ≤ (((n + 1) : Nat) : Int) := by omega
    have i1 : (((n + 1) : Nat) : Int) < (l.length : Int) := by omega
    have HFR := Lib.hid hb.fresh
    clear hx hg hcl hbl hb
    generalize nd l (n + 1) = y at *
    obtain ⟨kd, lf, rt, st⟩ := y
    simp only at hk HP
    replace c0 : w.cell? ⟨b, off + (n + 1) * 7, none⟩ = some (.int .i64 kd) := c0
    replace c1 : w.cell? ⟨b, off + (n + 1) * 7 + 1, none⟩ = some (.int .i64 lf) := c1
    replace c2 : w.cell? ⟨b, off + (n + 1) * 7 + 2, none⟩ = some (.int .i64 rt) := c2
    replace c3 : w.cell? ⟨b, off + (n + 1) * 7 + 3, none⟩ = some (.int .u64 (setW st 0)) := c3
    replace c4 : w.cell? ⟨b, off + (n + 1) * 7 + 4, none⟩ = some (.int .u64 (setW st 1)) := c4
    replace c5 : w.cell? ⟨b, off + (n + 1) * 7 + 5, none⟩ = some (.int .u64 (setW st 2)) := c5
    replace c6 : w.cell? ⟨b, off + (n + 1) * 7 + 6, none⟩ = some (.int .u64 (setW st 3)) := c6
    go_enter Try.func33, Try.ntmps33
    go_upto_region 2 with fail
    have hk7 : NdAt (w.alloc (.cells (ndCells ⟨kd, lf, rt, st⟩).toArray 114)) w.heap.size ⟨kd, lf, rt, st⟩ := heap_alloc_new w _
    have HOW := Lib.hid ((Old.refl w).alloc (.cells (ndCells ⟨kd, lf, rt, st⟩).toArray 114))
    have HBW := Lib.hid (HB.out.up HOW.out)
    generalize hWW : w.alloc (.cells #[.int .i64 kd, .int .i64 lf, .int .i64 rt, .int .u64 (setW st 0), .int .u64 (setW st 1), .int .u64 (setW st 2), .int .u64 (setW st 3)] 114) = W
    have hWW' : w.alloc (.cells (ndCells ⟨kd, lf, rt, st⟩).toArray 114) = W := hWW
    rw [hWW'] at hk7 HOW HBW
    clear hWW hWW' c0 c1 c2 c3 c4 c5 c6 e0 e1 HB
    obtain ⟨d0, d1, d2, d3, d4, d5, d6⟩ := hk7.cells
    simp only at d0 d1 d2 d3 d4 d5 d6
    have HK := Lib.hid hk7
    clear hk7
    generalize w.heap.size = k7 at *
    have h1 : lf = (m : Int) := H1.out
    have h2 : rt = (n : Int) := H2.out
    subst h1
    subst h2
    rcases hk with rfl | rfl
    · have hm := HM2.out x S
      have HC := fun w' (h : Old W w') => HI2.out f x S lv w' HF0.out.1 (by have := HSZ.out; have := HF0.out; omega) hx1 (HBW.out.up h)
      have HE0 : Hid (pbF l (f + 1) (n + 1) x S = pbF l f m (pbF l f n x S).2 (pbF l f n x S).1) := Lib.hid (by rw [HP.out]; rfl)
      clear HP HI2 HM1 HM2
      generalize pbF l f n x S = r at *
      obtain ⟨R, v⟩ := r
      have HM := Lib.hid hm
      have HCC := Lib.hid HC
      clear hm HC
      have hv : v ≤ 1000 := by
        have h5 : R.length ≤ S.length + (n + 1 - (m + 1)) := HM.out.few
        have h6 : v = x ∨ v < R.length := HM.out.out
        have := HSZ.out
        have := HF0.out
        omega
      have HC2 := Lib.hid (fun lv2 w2 hb2 => HI1.out f v R lv2 w2 HF0.out.2.1 (by have h5 : R.length ≤ S.length + (n + 1 - (m + 1)) := HM.out.few; have := HSZ.out; have := HF0.out; omega) hv hb2)
      have HE : Hid (pbF l (f + 1) (n + 1) x S = pbF l f m v R) := HE0
      have HKD : Hid (NdAt W.drew k7 ⟨3, (m : Int), (n : Int), st⟩) := Lib.hid HK.out
      clear HE0 HI1 hv HK
      go_upto_region 10 with fail
      go_region_held3 (fun w' => w'.cell? ⟨k7, 1, none⟩ = some (.int .i64 (m : Int)) ∧ w'.cell? ⟨k7, 2, none⟩ = some (.int .i64 (n : Int))) (first | exact ⟨d1, d2⟩ | exact ⟨q1, q2⟩ | exact ⟨q3, q4⟩) (first | (go_at_call_of 33 n; refine (HCC.out _ (Old.refl W).drew).mono ?_; rintro e w2 ⟨rfl, lv2, hb2, hf2⟩; obtain ⟨hk2, hfr2⟩ := hf2.nd HKD.out HFR.out; obtain ⟨_, q1, q2, _⟩ := hk2.cells; simp only at q1 q2) | (go_at_call_of 33 m; refine (HC2.out lv2 w2 hb2).mono ?_; rintro e w3 ⟨rfl, lv3, hb3, hf3⟩; obtain ⟨_, q3, q4, _⟩ := (hf3.nd hk2 hfr2).1.cells; simp only at q3 q4))
      have hb9 := hb3
      have hf9 := Far.old_ (HOW.out.up (Old.refl W).drew) (hf2.trans hf3)
      clear hb3 hf3 hb2 hf2 hk2 hfr2 q1 q2 q3 q4 HCC HC2 d0 d1 d2 d3 d4 d5 d6
      have HB9 := Lib.hid hb9
      have HF9 := Lib.hid hf9
      clear hb9 hf9
      go_wp2_with fail
      go_ret
      rw [HE.out]
      exact ⟨rfl, lv3, HB9.out, HF9.out⟩
    · have hm := HM1.out x S
      have HC := HI1.out f x S lv W HF0.out.2.1 (by have := HSZ.out; have := HF0.out; omega) hx1 HBW.out
      have HE0 : Hid (pbF l (f + 1) (n + 1) x S = ((pbF l f n x (pbF l f m x S).1).1 ++ [⟨2, (pbF l f m x S).2, (pbF l f n x (pbF l f m x S).1).2, 0⟩], (pbF l f n x (pbF l f m x S).1).1.length)) := Lib.hid (by rw [HP.out]; rfl)
      clear HP HI1 HM1
      generalize pbF l f m x S = r at *
      obtain ⟨R, v⟩ := r
      have HM := Lib.hid hm
      have HCC := Lib.hid HC
      clear hm HC
      go_wp2_with fail
      refine (HCC.out).mono ?_; rintro e w2 ⟨rfl, lv2, hb2, hf2⟩
      have hlR : R.length ≤ S.length + (m + 1 - a) := HM.out.few
      have hm := HM2.out x R
      have HC := HI2.out f x R lv2 w2 HF0.out.1 (by have := HSZ.out; have := HF0.out; omega) hx1 hb2
      obtain ⟨hk2, hfr2⟩ := hf2.nd HK.out HFR.out
      have HF2 := Lib.hid hf2
      clear hb2 hf2 HCC HI2 HM2 HBW HK HFR d0 d1 d2 d3 d4 d5 d6 hfr2
      generalize pbF l f n x R = r at *
      obtain ⟨R2, v2⟩ := r
      have HE : Hid (pbF l (f + 1) (n + 1) x S = (R2 ++ [⟨2, v, v2, 0⟩], R2.length)) := HE0
      have HMM := Lib.hid hm
      have HCC := Lib.hid HC
      clear hm HC HE0
      obtain ⟨_, _, d2, _⟩ := hk2.cells
      simp only at d2
      clear hk2
      go_wp2_with fail
      refine (HCC.out).mono ?_; rintro e w3 ⟨rfl, lv3, hb3, hf3⟩
      have HA := naddC w0 B g (some ⟨b, off, none⟩) l.length cn lv3 R2 w3 hb3 (by have h5 : R2.length ≤ R.length + (n + 1 - (m + 1)) := HMM.out.few; have := HSZ.out; omega) ⟨2, v, v2, 0⟩
      unfold stA at HA
      simp only [setW_zero] at HA
      have HAH := Lib.hid HA
      have HF3 := Lib.hid hf3
      clear HA hb3 hf3 HCC d2
      go_wp2_with fail
      refine (HAH.out).mono ?_; rintro e w9 ⟨rfl, lv9, hb9, hf9⟩
      clear HAH
      have HB9 := Lib.hid hb9
      have HF9 := Lib.hid hf9
      clear hb9 hf9
      go_wp2_with fail
      go_ret
      rw [HE.out]
      exact ⟨rfl, lv9, HB9.out, Far.old_ HOW.out (HF2.out.trans (HF3.out.trans HF9.out))⟩
end Go.Proofs.Ythadkjgadhbidaa
/-
  The program's reader of patterns: what its functions leave, and the walk of group.
-/
namespace Go.Proofs.Ythadkjgadhbidaa
open Go.RowKit
set_option linter.unusedVariables false

theorem shiftNd_shiftNd (n m : Int) (x : Nd) : shiftNd n (shiftNd m x) = shiftNd (n + m) x := by
  unfold shiftNd shiftN
  simp only
  congr 1
  · split <;> omega
  · split <;> omega
theorem shift_leaf (k : Int) (z : BSet) (n : Int) (hk : kidsN k = 0) : (leafN k z).map (shiftNd n) = [⟨k, 0, 0, z⟩] := by
  unfold leafN shiftNd shiftN
  simp [hk]
theorem shift_join1 (k : Int) (l : List Nd) (n : Nat) (hk : kidsN k = 1) : (joinN k l []).map (shiftNd n) = l.map (shiftNd n) ++ [⟨k, (n : Int) + l.length - 1, 0, 0⟩] := by
  unfold joinN
  simp [shiftNd, shiftN, hk]
  omega
theorem shift_join2 (k : Int) (l r : List Nd) (n : Nat) (hk : kidsN k = 2) (hr : 0 < r.length) : (joinN k l r).map (shiftNd n) = l.map (shiftNd n) ++ r.map (shiftNd ((n + l.length : Nat) : Int)) ++ [⟨k, (n : Int) + l.length - 1, (n : Int) + l.length + r.length - 1, 0⟩] := by
  unfold joinN
  rw [List.map_append, List.map_append, List.map_map]
  have e : (shiftNd (n : Int) ∘ shiftNd (l.length : Int)) = shiftNd ((n + l.length : Nat) : Int) := by
    funext x
    simp only [Function.comp]
    rw [shiftNd_shiftNd]
    congr 1
  rw [e]
  congr 1
  simp only [List.map_cons, List.map_nil, shiftNd, shiftN, hk]
  rw [if_pos (by decide), if_pos (by decide), if_pos hr]
  congr 2 <;> omega
/-- Where the last of the nodes lies. -/
def plc (N l : List Nd) : Int := (N.length : Int) + l.length - 1
structure GPost (w0 : World) (B g : Nat) (s : ByteArray) (d : Nat) (N : List Nd) (R : List Nd × Ps) (e : Ending) (w' : World) : Prop where
  ok : R.2.e = 0 → e = .returned (.tuple #[.int .i64 (plc N R.1), .int .i64 0]) ∧ ∃ lv', RP w0 w' B g s R.2.at_ d lv' (N ++ R.1.map (shiftNd (N.length : Int)))
  no : R.2.e ≠ 0 → ∃ v, e = .returned (.tuple #[.int .i64 v, .int .i64 R.2.e]) ∧ Old w0 w'
/-- Room for what is still to come. -/
def Room (s : ByteArray) (a : Nat) (N : List Nd) : Prop := N.length + 4 * (s.size + 1 - a) ≤ 100000
theorem Room.len {s : ByteArray} {a : Nat} {N : List Nd} (h : Room s a N) : N.length ≤ 100000 := by unfold Room at h; omega
def PatG (f : Nat) : Prop := ∀ (w0 : World) (B g : Nat) (s : ByteArray) (a d : Nat) (lv : Value) (N : List Nd) (w : World) (R : List Nd × Ps), RP w0 w B g s a d lv N → s.size ≤ 10000 → a ≤ s.size → d ≤ 24 → Room s a N → altP (bs s) f ⟨a, d, 0⟩ = some R →
  Calls Try.prog 78 #[.pointer (some ⟨g, 0, none⟩)] w (GPost w0 B g s d N R)
def AltG (f : Nat) : Prop := ∀ (w0 : World) (B g : Nat) (s : ByteArray) (a d : Nat) (lv : Value) (N : List Nd) (w : World) (R : List Nd × Ps), RP w0 w B g s a d lv N → s.size ≤ 10000 → a ≤ s.size → d ≤ 24 → Room s a N → catP (bs s) f ⟨a, d, 0⟩ = some R →
  Calls Try.prog 87 #[.pointer (some ⟨g, 0, none⟩)] w (GPost w0 B g s d N R)
def PartG (f : Nat) : Prop := ∀ (w0 : World) (B g : Nat) (s : ByteArray) (a d : Nat) (lv : Value) (N : List Nd) (w : World) (R : List Nd × Ps), RP w0 w B g s a d lv N → s.size ≤ 10000 → a < s.size → d ≤ 24 → Room s a N → partP (bs s) f ⟨a, d, 0⟩ = some R →
  Calls Try.prog 90 #[.pointer (some ⟨g, 0, none⟩)] w (GPost w0 B g s d N R)
def AtomG (f : Nat) : Prop := ∀ (w0 : World) (B g : Nat) (s : ByteArray) (a d : Nat) (lv : Value) (N : List Nd) (w : World) (R : List Nd × Ps), RP w0 w B g s a d lv N → s.size ≤ 10000 → a < s.size → d ≤ 24 → Room s a N → atomP (bs s) f ⟨a, d, 0⟩ = some R →
  Calls Try.prog 95 #[.pointer (some ⟨g, 0, none⟩)] w (GPost w0 B g s d N R)
/-- What the reference does in parentheses. -/
def grpR (B : List Nat) (f : Nat) (a d : Nat) : Option (List Nd × Ps) :=
  if 24 < d + 1 then some ([], ⟨a + 1, d + 1, 84⟩)
  else match altP B f ⟨a + 1, d + 1, 0⟩ with
    | none => none
    | some (l, r) => some (l, { (if r.e = 0 ∧ B.length ≤ r.at_ then failP r 83 else r) with at_ := (if r.e = 0 ∧ B.length ≤ r.at_ then failP r 83 else r).at_ + 1, deep := (if r.e = 0 ∧ B.length ≤ r.at_ then failP r 83 else r).deep - 1 })
set_option maxHeartbeats 8000000 in
set_option maxRecDepth 100000 in
theorem groupG (f : Nat) (hP : PatG f) (w0 : World) (B g : Nat) (s : ByteArray) (a d : Nat) (lv : Value) (N : List Nd) (w : World) (R : List Nd × Ps) (h : RP w0 w B g s a d lv N) (hs : s.size ≤ 10000) (ha : a < s.size) (hd : d ≤ 24) (hN : Room s a N) (hR : grpR (bs s) f a d = some R) :
    Calls Try.prog 99 #[.pointer (some ⟨g, 0, none⟩)] w (GPost w0 B g s d N R) := by
  have HP := Lib.hid h
  unfold grpR at hR
  by_cases h24 : d = 24
  · have HE : Hid (R = ([], ⟨a + 1, d + 1, 84⟩)) := Lib.hid (by rw [if_pos (by omega)] at hR; exact (Option.some.inj hR).symm)
    subst h24
    have HO := Lib.hid h.old
    clear h hR
    obtain ⟨c0, c1, c2, c3, f1, f2, f3⟩ := HP.out.cells
    clear c3 f3
    go_enter Try.func99, Try.ntmps99
    go_wp2_with fail
    go_ret2
    rw [HE.out]
    exact ⟨fun e => absurd e (by simp), fun _ => ⟨_, rfl, HO.out⟩⟩
  rw [if_neg (by omega)] at hR
  cases hq : altP (bs s) f ⟨a + 1, d + 1, 0⟩ with
  | none => rw [hq] at hR; cases hR
  | some lr =>
  rw [hq] at hR
  obtain ⟨l, r⟩ := lr
  obtain ⟨a1, d1, e1⟩ := r
  have HR : Hid (R = (l, { (if e1 = 0 ∧ (bs s).length ≤ a1 then failP ⟨a1, d1, e1⟩ 83 else ⟨a1, d1, e1⟩ : Ps) with at_ := (if e1 = 0 ∧ (bs s).length ≤ a1 then failP ⟨a1, d1, e1⟩ 83 else ⟨a1, d1, e1⟩ : Ps).at_ + 1, deep := (if e1 = 0 ∧ (bs s).length ≤ a1 then failP ⟨a1, d1, e1⟩ 83 else ⟨a1, d1, e1⟩ : Ps).deep - 1 })) := Lib.hid (Option.some.inj hR).symm
  have hG : Good (bs s).length ⟨a + 1, d + 1, 0⟩ l ⟨a1, d1, e1⟩ 0 := (parse_good (bs s) f).1 ⟨a + 1, d + 1, 0⟩ (l, ⟨a1, d1, e1⟩) ⟨rfl, by rw [bs_length]; show a + 1 ≤ _; omega, by show d + 1 ≤ 24; omega⟩ hq
  rw [bs_length] at hG HR
  have HG := Lib.hid hG
  have n24 : ((d : Int) == 24) = false := by simp; omega
  have i0 : (0 : Int) ≤ (d : Int) := by omega
  have i1 : (d : Int) < 24 := by omega
  have i2 : (0 : Int) ≤ (a : Int) := by omega
  have i3 : (a : Int) < 10000 := by omega
  have HP2 : Hid (RP w0 ((w.setCell ⟨g, 2, none⟩ (.int .i64 ((d : Int) + 1))).setCell ⟨g, 1, none⟩ (.int .i64 ((a : Int) + 1))) B g s (a + 1) (d + 1) lv N) := Lib.hid (by
    have := (h.open_ (d + 1)).at_ (a + 1)
    rw [show ((d + 1 : Nat) : Int) = (d : Int) + 1 by omega, show ((a + 1 : Nat) : Int) = (a : Int) + 1 by omega] at this
    exact this)
  have HP1 : Hid (RP w0 (w.setCell ⟨g, 2, none⟩ (.int .i64 ((d : Int) + 1))) B g s a (d + 1) lv N) := Lib.hid (by
    have := h.open_ (d + 1)
    rw [show ((d + 1 : Nat) : Int) = (d : Int) + 1 by omega] at this
    exact this)
  have hN2 : Room s (a + 1) N := by unfold Room at hN ⊢; omega
  clear h hR hG h24 hN
  obtain ⟨c0, c1, c2, c3, f1, f2, f3⟩ := HP.out.cells
  clear c3 f3
  go_enter Try.func99, Try.ntmps99
  go_upto_region 4 with fail
  clear c0 c1 c2 f1 f2 n24
  generalize w.setCell ⟨g, 2, none⟩ (.int .i64 ((d : Int) + 1)) = W1 at *
  clear HP
  have HP := Lib.hid HP1.out
  clear HP1
  obtain ⟨c0, c1, c2, c3, f1, f2, f3⟩ := HP.out.cells
  clear c3 f3
  go_upto_region 5 with fail
  clear c0 c1 c2 f1 f2
  generalize W1.setCell ⟨g, 1, none⟩ (.int .i64 ((a : Int) + 1)) = W2 at *
  clear HP
  have HC := Lib.hid (hP w0 B g s (a + 1) (d + 1) lv N W2 (l, ⟨a1, d1, e1⟩) HP2.out hs (by omega) (by omega) hN2 hq)
  clear hq HP2
  by_cases he : e1 = 0
  · subst he
    have HC2 := Lib.hid (HC.out.mono fun e w' h => h.ok rfl)
    obtain ⟨g1, g2, g3, g4, g5⟩ := HG.out.ok rfl
    simp only at g1 g2 g3
    subst g1
    clear HC
    go_wp2_with fail
    refine (HC2.out).mono ?_; rintro e W3 ⟨rfl, lv3, hr⟩
    have HP3 := Lib.hid hr
    have hen := endedC w0 B g s a1 (d + 1) lv3 _ W3 hr (by omega)
    clear hr HC2
    by_cases hend : a1 = s.size
    · have HE : Hid (R.2.e = 83) := Lib.hid (by rw [HR.out]; simp [show s.size ≤ a1 by omega, failP])
      rw [decide_eq_true hend] at hen
      have HEN := Lib.hid hen
      clear hen hend HR
      go_wp2_with fail
      refine (HEN.out).mono ?_; rintro e W4 ⟨rfl, n4, rfl⟩
      go_wp2_with fail
      go_ret2
      exact ⟨fun e => absurd (HE.out.symm.trans e) (by decide), fun _ => ⟨0, by rw [HE.out]; rfl, HP3.out.old.drewN n4⟩⟩
    · have HE : Hid (R = (l, ⟨a1 + 1, d, 0⟩)) := Lib.hid (by rw [HR.out]; simp [show ¬ s.size ≤ a1 by omega])
      rw [decide_eq_false hend] at hen
      have HEN := Lib.hid hen
      have i4 : (0 : Int) ≤ (a1 : Int) := by omega
      have i5 : (a1 : Int) < 10000 := by omega
      clear hen hend HR
      go_wp2_with fail
      refine (HEN.out).mono ?_; rintro e W4 ⟨rfl, n4, rfl⟩
      have HP4 := Lib.hid (HP3.out.drewN n4)
      generalize W3.drewN n4 = W4 at *
      clear HP3 HEN
      have HP5 : Hid (RP w0 (W4.setCell ⟨g, 1, none⟩ (.int .i64 ((a1 : Int) + 1))) B g s (a1 + 1) (d + 1) lv3 (N ++ l.map (shiftNd (N.length : Int)))) := Lib.hid (by
        have := HP4.out.at_ (a1 + 1)
        rw [show ((a1 + 1 : Nat) : Int) = (a1 : Int) + 1 by omega] at this
        exact this)
      have HP := Lib.hid HP4.out
      obtain ⟨c0, c1, c2, c3, f1, f2, f3⟩ := HP.out.cells
      clear c3 f3
      go_upto_region 11 with fail
      clear c0 c1 c2 f1 f2 HP HP4
      generalize W4.setCell ⟨g, 1, none⟩ (.int .i64 ((a1 : Int) + 1)) = W5 at *
      have HP := Lib.hid HP5.out
      have HP6 := Lib.hid (HP5.out.open_ d)
      obtain ⟨c0, c1, c2, c3, f1, f2, f3⟩ := HP.out.cells
      clear c3 f3
      have c2' : W5.cell? ⟨g, 2, none⟩ = some (.int .i64 ((d : Int) + 1)) := by rw [c2]; congr 2
      clear c2 HP HP5
      have dd : (d : Int) + 1 - 1 = (d : Int) := by omega
      go_wp2_with fail
      go_ret2
      rw [HE.out]
      exact ⟨fun _ => ⟨rfl, lv3, HP6.out⟩, fun e => absurd rfl e⟩
  · have HC2 := Lib.hid (HC.out.mono fun e w' h => h.no he)
    have hne : (e1 != 0) = true := by simpa using he
    have HE : Hid (R.2.e = e1) := Lib.hid (by rw [HR.out]; simp [he])
    clear HC HR
    go_wp2_with fail
    refine (HC2.out).mono ?_; rintro e W3 ⟨v, rfl, ho⟩
    go_wp2_with fail
    go_ret2
    exact ⟨fun e => absurd (HE.out.symm.trans e) he, fun _ => ⟨0, by rw [HE.out]; rfl, ho⟩⟩
end Go.Proofs.Ythadkjgadhbidaa
/-
  The program's reader of patterns: atom.
-/
namespace Go.Proofs.Ythadkjgadhbidaa
open Go.RowKit
set_option linter.unusedVariables false

theorem plc_leaf (N : List Nd) (k : Int) (z : BSet) : plc N (leafN k z) = (N.length : Int) := by unfold plc leafN; simp
theorem addZ (w0 : World) (B g : Nat) (s : ByteArray) (a d : Nat) (lv : Value) (N : List Nd) (w : World) (h : RP w0 w B g s a d lv N) (hn : N.length ≤ 100000) (k lf rt : Int) :
    Calls Try.prog 88 #[.pointer (some ⟨g, 0, none⟩), .agg #[.int .i64 k, .int .i64 lf, .int .i64 rt, .int .u64 0, .int .u64 0, .int .u64 0, .int .u64 0]] w (AddPost w0 B g s a d N ⟨k, lf, rt, 0⟩) := by
  have := addC w0 B g s a d lv N w h hn ⟨k, lf, rt, 0⟩
  unfold ndA at this
  simp only [setW_zero] at this
  exact this
theorem addS (w0 : World) (B g : Nat) (s : ByteArray) (a d : Nat) (lv : Value) (N : List Nd) (w : World) (h : RP w0 w B g s a d lv N) (hn : N.length ≤ 100000) (z : BSet) :
    Calls Try.prog 88 #[.pointer (some ⟨g, 0, none⟩), .agg #[.int .i64 2, .int .i64 0, .int .i64 0, .int .u64 (setW z 0), .int .u64 (setW z 1), .int .u64 (setW z 2), .int .u64 (setW z 3)]] w (AddPost w0 B g s a d N ⟨2, 0, 0, z⟩) := addC w0 B g s a d lv N w h hn ⟨2, 0, 0, z⟩
theorem leaf_post {w0 w : World} {B g : Nat} {s : ByteArray} {a d d' : Nat} {N : List Nd} {R : List Nd × Ps} {k : Int} {z : BSet} {lv : Value} (hE : R = (leafN k z, ⟨a, d', 0⟩)) (hk : kidsN k = 0) (h : RP w0 w B g s a d lv (N ++ [⟨k, 0, 0, z⟩])) :
    GPost w0 B g s d N R (.returned (.tuple #[.int .i64 (N.length : Int), .int .i64 0])) w := by
  subst hE
  refine ⟨fun _ => ⟨by rw [plc_leaf], lv, ?_⟩, fun e => absurd rfl e⟩
  show RP w0 w B g s a d lv (N ++ (leafN k z).map (shiftNd (N.length : Int)))
  rw [shift_leaf _ _ _ hk]
  exact h
set_option maxHeartbeats 8000000 in
set_option maxRecDepth 100000 in
theorem atomG (f : Nat) (hP : PatG f) : AtomG (f + 1) := by
  intro w0 B g s a d lv N w R h hs ha hd hN hR
  have HG := Lib.hid (groupG f hP w0 B g s a d lv N)
  rw [atomP] at hR
  simp only at hR
  rw [show bAt (bs s) ⟨a, d, 0⟩ = s[a].toNat from bs_get s a ha] at hR
  have HRR := Lib.hid hR
  have hb : s[a].toNat < 256 := s[a].toNat_lt
  have HP := Lib.hid h
  have HO := Lib.hid h.old
  have i0 : (0 : Int) ≤ (a : Int) := by omega
  have i1 : (a : Int) < (s.size : Int) := by omega
  have i2 : (s.size : Int) ≤ 10000 := by omega
  have HL := Lib.hid hN.len
  obtain ⟨c0, c1, c2, c3, f1, f2, f3⟩ := h.cells
  clear h hR c2 c3 f1 f2 f3
  go_enter Try.func95, Try.ntmps95
  go_wp2_with fail
  go_quiet (fail)
  have HPQ := Lib.hid (HP.out.drewN nq)
  have HOQ : Hid (Old w0 (w.drewN nq)) := Lib.hid HPQ.out.old
  generalize w.drewN nq = W2 at *
  clear HP HO c0 c1
  have HP := Lib.hid HPQ.out
  have HO := Lib.hid HOQ.out
  clear HPQ HOQ
  generalize s[a].toNat = b at *
  have b0 : (0 : Int) ≤ (b : Int) := by omega
  have b1 : (b : Int) < 256 := by omega
  have hcase : b = 42 ∨ b = 43 ∨ b = 63 ∨ b = 93 ∨ b = 40 ∨ b = 91 ∨ b = 92 ∨ b = 94 ∨ b = 36 ∨ b = 46 ∨ (b ≠ 42 ∧ b ≠ 43 ∧ b ≠ 63 ∧ b ≠ 93 ∧ b ≠ 40 ∧ b ≠ 91 ∧ b ≠ 92 ∧ b ≠ 94 ∧ b ≠ 36 ∧ b ≠ 46) := by omega
  rcases hcase with rfl | rfl | rfl | rfl | rfl | rfl | rfl | rfl | rfl | rfl | ⟨n1, n2, n3, n4, n5, n6, n7, n8, n9, n10⟩
  · have HE : Hid (R.2.e = 81) := Lib.hid (by
      have h := HRR.out
      rw [if_neg (by decide), if_neg (by decide), if_neg (by decide), if_neg (by decide), if_neg (by decide), if_neg (by decide), if_pos (by decide)] at h
      rw [← Option.some.inj h]
      rfl)
    clear b0 b1 hb
    go_wp2_with fail
    go_ret2
    exact ⟨fun e => absurd (HE.out.symm.trans e) (by decide), fun _ => ⟨0, by rw [HE.out]; rfl, HO.out⟩⟩
  · have HE : Hid (R.2.e = 81) := Lib.hid (by
      have h := HRR.out
      rw [if_neg (by decide), if_neg (by decide), if_neg (by decide), if_neg (by decide), if_neg (by decide), if_neg (by decide), if_pos (by decide)] at h
      rw [← Option.some.inj h]
      rfl)
    clear b0 b1 hb
    go_wp2_with fail
    go_ret2
    exact ⟨fun e => absurd (HE.out.symm.trans e) (by decide), fun _ => ⟨0, by rw [HE.out]; rfl, HO.out⟩⟩
  · have HE : Hid (R.2.e = 81) := Lib.hid (by
      have h := HRR.out
      rw [if_neg (by decide), if_neg (by decide), if_neg (by decide), if_neg (by decide), if_neg (by decide), if_neg (by decide), if_pos (by decide)] at h
      rw [← Option.some.inj h]
      rfl)
    clear b0 b1 hb
    go_wp2_with fail
    go_ret2
    exact ⟨fun e => absurd (HE.out.symm.trans e) (by decide), fun _ => ⟨0, by rw [HE.out]; rfl, HO.out⟩⟩
  · have HE : Hid (R.2.e = 80) := Lib.hid (by
      have h := HRR.out
      rw [if_neg (by decide), if_neg (by decide), if_neg (by decide), if_neg (by decide), if_neg (by decide), if_pos (by decide)] at h
      rw [← Option.some.inj h]
      rfl)
    clear b0 b1 hb
    go_wp2_with fail
    go_ret2
    exact ⟨fun e => absurd (HE.out.symm.trans e) (by decide), fun _ => ⟨0, by rw [HE.out]; rfl, HO.out⟩⟩
  · have HGR : Hid (grpR (bs s) f a d = some R) := Lib.hid (by
      have h := HRR.out
      rw [if_neg (by decide), if_neg (by decide), if_neg (by decide), if_neg (by decide), if_neg (by decide), if_neg (by decide), if_neg (by decide), if_pos (by decide)] at h
      exact h)
    have HC := Lib.hid (HG.out W2 R HP.out hs ha hd hN HGR.out)
    clear HG b0 b1 hb
    by_cases he : R.2.e = 0
    · have HC2 := Lib.hid (HC.out.mono fun e w' h => h.ok he)
      clear HC
      go_wp2_with fail
      refine (HC2.out).mono ?_; rintro e W3 ⟨rfl, lv3, hr⟩
      have HR3 := Lib.hid hr
      clear hr
      go_wp2_with fail
      go_ret2
      exact ⟨fun _ => ⟨rfl, lv3, HR3.out⟩, fun e => absurd he e⟩
    · have HC2 := Lib.hid (HC.out.mono fun e w' h => h.no he)
      clear HC
      go_wp2_with fail
      refine (HC2.out).mono ?_; rintro e W3 ⟨v3, rfl, ho⟩
      have HO3 := Lib.hid ho
      clear ho
      go_wp2_with fail
      go_ret2
      exact ⟨fun e => absurd e he, fun _ => ⟨v3, rfl, HO3.out⟩⟩
  · obtain ⟨⟨z, q⟩, hq⟩ : ∃ r, classP (bs s) f ⟨a + 1, d, 0⟩ = some r := by
      have h := HRR.out
      rw [if_neg (by decide), if_neg (by decide), if_neg (by decide), if_neg (by decide), if_pos (by decide)] at h
      cases hc : classP (bs s) f ⟨a + 1, d, 0⟩ with
      | none =>
        rw [show upP ⟨a, d, 0⟩ = (⟨a + 1, d, 0⟩ : Ps) from rfl, hc] at h
        cases h
      | some r => exact ⟨r, rfl⟩
    have HE : Hid (R = (leafN 2 z, q)) := Lib.hid (by
      have h := HRR.out
      rw [if_neg (by decide), if_neg (by decide), if_neg (by decide), if_neg (by decide), if_pos (by decide), show upP ⟨a, d, 0⟩ = (⟨a + 1, d, 0⟩ : Ps) from rfl, hq] at h
      exact (Option.some.inj h).symm)
    clear b0 b1 hb HG
    obtain ⟨c0, c1, c2, c3, f1, f2, f3⟩ := HP.out.cells
    clear c0 c2 c3 f2 f3
    have HP1 : Hid (RP w0 (W2.setCell ⟨g, 1, none⟩ (.int .i64 ((a : Int) + 1))) B g s (a + 1) d lv N) := Lib.hid (by
      have := HP.out.at_ (a + 1)
      rw [show ((a + 1 : Nat) : Int) = (a : Int) + 1 by omega] at this
      exact this)
    go_upto_region 13 with fail
    clear c1 f1 HP
    generalize W2.setCell ⟨g, 1, none⟩ (.int .i64 ((a : Int) + 1)) = W3 at *
    have HP := Lib.hid HP1.out
    clear HP1
    have HC := Lib.hid (classG w0 B g s (a + 1) d lv N W3 HP.out (by omega) (by omega) d f (z, q) hq)
    clear hq
    obtain ⟨a2, d2, e2⟩ := q
    by_cases he : e2 = 0
    · subst he
      have HC2 := Lib.hid (HC.out.mono fun e w' h => (h.ok rfl))
      clear HC
      go_wp2_with fail
      refine (HC2.out).mono ?_; rintro e W4 ⟨rfl, hr, _, _⟩
      have HR4 := Lib.hid hr
      clear hr HC2
      unfold setA
      go_upto_region 16 with fail
      have hb5 := heap_alloc_new W4 (.cells #[.int .u64 (setW z 0), .int .u64 (setW z 1), .int .u64 (setW z 2), .int .u64 (setW z 3)] 40)
      have HPB := Lib.hid (HR4.out.up ((Old.refl W4).alloc (.cells #[.int .u64 (setW z 0), .int .u64 (setW z 1), .int .u64 (setW z 2), .int .u64 (setW z 3)] 40)))
      generalize W4.alloc (.cells #[.int .u64 (setW z 0), .int .u64 (setW z 1), .int .u64 (setW z 2), .int .u64 (setW z 3)] 40) = W5 at *
      obtain ⟨x0, x1, x2, x3, _, _, _, _⟩ := setC_cells (show W5.heap[W4.heap.size]? = some (setC z) from hb5)
      clear hb5 HR4
      have HA := Lib.hid (addS w0 B g s _ d lv N W5 HPB.out HL.out z)
      go_wp2_with fail
      refine (HA.out).mono ?_; rintro e W9 ⟨rfl, lv9, hr⟩
      have HR9 := Lib.hid hr
      clear hr HA
      go_wp2_with fail
      go_ret2
      exact leaf_post HE.out (by decide) HR9.out
    · have HC2 := Lib.hid (HC.out.mono fun e w' h => (h.no he))
      have hne : (e2 != 0) = true := by simpa using he
      clear HC
      go_wp2_with fail
      refine (HC2.out).mono ?_; rintro e W4 ⟨z9, rfl, ho, _, _⟩
      have HO4 := Lib.hid ((ho.alloc (.cells #[.int .u64 (setW z9 0), .int .u64 (setW z9 1), .int .u64 (setW z9 2), .int .u64 (setW z9 3)] 40)))
      clear ho HC2
      unfold setA
      go_wp2_with fail
      go_ret2
      rw [HE.out]
      exact ⟨fun e => absurd e he, fun _ => ⟨0, rfl, HO4.out⟩⟩
  · have HE : Hid (R = (leafN 2 (escP (bs s) ⟨a + 1, d, 0⟩).1.1, (escP (bs s) ⟨a + 1, d, 0⟩).2)) := Lib.hid (by
      have h := HRR.out
      rw [if_neg (by decide), if_neg (by decide), if_neg (by decide), if_pos (by decide), show upP ⟨a, d, 0⟩ = (⟨a + 1, d, 0⟩ : Ps) from rfl] at h
      exact (Option.some.inj h).symm)
    have HC := Lib.hid (escapeC w0 B g s a d lv N W2 HP.out (by omega) ha d)
    clear b0 b1 hb HG
    generalize escP (bs s) ⟨a + 1, d, 0⟩ = E at *
    obtain ⟨⟨z, one⟩, ⟨a2, d2, e2⟩⟩ := E
    by_cases he : e2 = 0
    · subst he
      have HC2 := Lib.hid (HC.out.mono fun e w' h => (h.ok rfl))
      clear HC HP
      go_wp2_with fail
      refine (HC2.out).mono ?_; rintro e W4 ⟨rfl, hr, _, _⟩
      generalize oneV z one = vv at *
      have HR4 := Lib.hid hr
      clear hr HC2
      unfold setA
      go_upto_region 21 with fail
      have hb5 := heap_alloc_new W4 (.cells #[.int .u64 (setW z 0), .int .u64 (setW z 1), .int .u64 (setW z 2), .int .u64 (setW z 3)] 40)
      have HPB := Lib.hid (HR4.out.up ((Old.refl W4).alloc (.cells #[.int .u64 (setW z 0), .int .u64 (setW z 1), .int .u64 (setW z 2), .int .u64 (setW z 3)] 40)))
      generalize W4.alloc (.cells #[.int .u64 (setW z 0), .int .u64 (setW z 1), .int .u64 (setW z 2), .int .u64 (setW z 3)] 40) = W5 at *
      obtain ⟨x0, x1, x2, x3, _, _, _, _⟩ := setC_cells (show W5.heap[W4.heap.size]? = some (setC z) from hb5)
      clear hb5 HR4
      have HA := Lib.hid (addS w0 B g s _ d lv N W5 HPB.out HL.out z)
      go_wp2_with fail
      refine (HA.out).mono ?_; rintro e W9 ⟨rfl, lv9, hr⟩
      have HR9 := Lib.hid hr
      clear hr HA
      go_wp2_with fail
      go_ret2
      exact leaf_post HE.out (by decide) HR9.out
    · have HC2 := Lib.hid (HC.out.mono fun e w' h => (h.no he))
      have hne : (e2 != 0) = true := by simpa using he
      clear HC
      go_wp2_with fail
      refine (HC2.out).mono ?_; rintro e W4 ⟨v9, z9, rfl, ho, _, _⟩
      have HO4 := Lib.hid ((ho.alloc (.cells #[.int .u64 (setW z9 0), .int .u64 (setW z9 1), .int .u64 (setW z9 2), .int .u64 (setW z9 3)] 40)))
      clear ho HC2
      unfold setA
      go_wp2_with fail
      go_ret2
      rw [HE.out]
      exact ⟨fun e => absurd e he, fun _ => ⟨0, rfl, HO4.out⟩⟩
  · have HE : Hid (R = (leafN 8 0, ⟨a + 1, d, 0⟩)) := Lib.hid (by
      have h := HRR.out
      rw [if_neg (by decide), if_pos (by decide)] at h
      exact (Option.some.inj h).symm)
    clear b0 b1 hb
    obtain ⟨c0, c1, c2, c3, f1, f2, f3⟩ := HP.out.cells
    clear c0 c2 c3 f2 f3
    have HP1 : Hid (RP w0 (W2.setCell ⟨g, 1, none⟩ (.int .i64 ((a : Int) + 1))) B g s (a + 1) d lv N) := Lib.hid (by
      have := HP.out.at_ (a + 1)
      rw [show ((a + 1 : Nat) : Int) = (a : Int) + 1 by omega] at this
      exact this)
    go_upto_region 25 with fail
    clear c1 f1 HP
    generalize W2.setCell ⟨g, 1, none⟩ (.int .i64 ((a : Int) + 1)) = W3 at *
    have HP := Lib.hid HP1.out
    clear HP1
    have HA := Lib.hid (addZ w0 B g s (a + 1) d lv N W3 HP.out HL.out 8 0 0)
    go_wp2_with fail
    refine (HA.out).mono ?_; rintro e W9 ⟨rfl, lv9, hr⟩
    have HR9 := Lib.hid hr
    clear hr HA
    go_wp2_with fail
    go_ret2
    exact leaf_post HE.out (by decide) HR9.out
  · have HE : Hid (R = (leafN 9 0, ⟨a + 1, d, 0⟩)) := Lib.hid (by
      have h := HRR.out
      rw [if_neg (by decide), if_neg (by decide), if_pos (by decide)] at h
      exact (Option.some.inj h).symm)
    clear b0 b1 hb
    obtain ⟨c0, c1, c2, c3, f1, f2, f3⟩ := HP.out.cells
    clear c0 c2 c3 f2 f3
    have HP1 : Hid (RP w0 (W2.setCell ⟨g, 1, none⟩ (.int .i64 ((a : Int) + 1))) B g s (a + 1) d lv N) := Lib.hid (by
      have := HP.out.at_ (a + 1)
      rw [show ((a + 1 : Nat) : Int) = (a : Int) + 1 by omega] at this
      exact this)
    go_upto_region 27 with fail
    clear c1 f1 HP
    generalize W2.setCell ⟨g, 1, none⟩ (.int .i64 ((a : Int) + 1)) = W3 at *
    have HP := Lib.hid HP1.out
    clear HP1
    have HA := Lib.hid (addZ w0 B g s (a + 1) d lv N W3 HP.out HL.out 9 0 0)
    go_wp2_with fail
    refine (HA.out).mono ?_; rintro e W9 ⟨rfl, lv9, hr⟩
    have HR9 := Lib.hid hr
    clear hr HA
    go_wp2_with fail
    go_ret2
    exact leaf_post HE.out (by decide) HR9.out
  · have HE : Hid (R = (leafN 2 (notB (withB 0 10)), ⟨a + 1, d, 0⟩)) := Lib.hid (by
      have h := HRR.out
      rw [if_pos (by decide)] at h
      exact (Option.some.inj h).symm)
    clear b0 b1 hb HG
    obtain ⟨c0, c1, c2, c3, f1, f2, f3⟩ := HP.out.cells
    clear c0 c2 c3 f2 f3
    have HP1 : Hid (RP w0 (W2.setCell ⟨g, 1, none⟩ (.int .i64 ((a : Int) + 1))) B g s (a + 1) d lv N) := Lib.hid (by
      have := HP.out.at_ (a + 1)
      rw [show ((a + 1 : Nat) : Int) = (a : Int) + 1 by omega] at this
      exact this)
    go_upto_region 29 with fail
    clear c1 f1 HP
    generalize W2.setCell ⟨g, 1, none⟩ (.int .i64 ((a : Int) + 1)) = W3 at *
    have HP := Lib.hid HP1.out
    clear HP1
    go_wp2_with fail
    refine (spanC 10 10 (by decide) (by decide) _).mono ?_; rintro e W4 ⟨rfl, ho4⟩
    rw [rangeB_one]
    have HOC := Lib.hid (othersC (withB 0 10))
    go_wp2_with fail
    refine (HOC.out _).mono ?_; rintro e W5 ⟨rfl, ho5⟩
    have HP5 := Lib.hid ((HP.out.up ho4).up ho5)
    clear ho4 ho5 HP HOC
    generalize notB (withB 0 10) = z at *
    have HA := Lib.hid (addS w0 B g s (a + 1) d lv N W5 HP5.out HL.out z)
    unfold setA
    go_wp2_with fail
    refine (HA.out).mono ?_; rintro e W9 ⟨rfl, lv9, hr⟩
    have HR9 := Lib.hid hr
    clear hr HA
    go_wp2_with fail
    go_ret2
    exact leaf_post HE.out (by decide) HR9.out
  · have q1 : ((b : Int) == 42) = false := by simp; omega
    have q2 : ((b : Int) == 43) = false := by simp; omega
    have q3 : ((b : Int) == 63) = false := by simp; omega
    have q4 : ((b : Int) == 93) = false := by simp; omega
    have q5 : ((b : Int) == 40) = false := by simp; omega
    have q6 : ((b : Int) == 91) = false := by simp; omega
    have q7 : ((b : Int) == 92) = false := by simp; omega
    have q8 : ((b : Int) == 94) = false := by simp; omega
    have q9 : ((b : Int) == 36) = false := by simp; omega
    have q10 : ((b : Int) == 46) = false := by simp; omega
    have HE : Hid (R = (leafN 2 (withB 0 b), ⟨a + 1, d, 0⟩)) := Lib.hid (by
      have h := HRR.out
      rw [if_neg n10, if_neg n8, if_neg n9, if_neg n7, if_neg n6, if_neg n4, if_neg (by omega), if_neg n5] at h
      exact (Option.some.inj h).symm)
    have HSP := Lib.hid (spanC b b hb hb)
    clear n1 n2 n3 n4 n5 n6 n7 n8 n9 n10 HG
    obtain ⟨c0, c1, c2, c3, f1, f2, f3⟩ := HP.out.cells
    clear c0 c2 c3 f2 f3
    have HP1 : Hid (RP w0 (W2.setCell ⟨g, 1, none⟩ (.int .i64 ((a : Int) + 1))) B g s (a + 1) d lv N) := Lib.hid (by
      have := HP.out.at_ (a + 1)
      rw [show ((a + 1 : Nat) : Int) = (a : Int) + 1 by omega] at this
      exact this)
    go_upto_region 30 with fail
    clear c1 f1 HP
    generalize W2.setCell ⟨g, 1, none⟩ (.int .i64 ((a : Int) + 1)) = W3 at *
    have HP := Lib.hid HP1.out
    clear HP1
    go_wp2_with fail
    refine (HSP.out _).mono ?_; rintro e W4 ⟨rfl, ho4⟩
    rw [rangeB_one]
    have HP5 := Lib.hid (HP.out.up ho4)
    clear ho4 HP HSP
    generalize withB 0 b = z at *
    have HA := Lib.hid (addS w0 B g s (a + 1) d lv N W4 HP5.out HL.out z)
    unfold setA
    go_wp2_with fail
    refine (HA.out).mono ?_; rintro e W9 ⟨rfl, lv9, hr⟩
    have HR9 := Lib.hid hr
    clear hr HA
    go_wp2_with fail
    go_ret2
    exact leaf_post HE.out (by decide) HR9.out
end Go.Proofs.Ythadkjgadhbidaa
/-
  The reference's automaton of a pattern, on plain lists: it is valid, small, and wired as the nodes say. No program in sight.
-/
namespace Go.Proofs.Ythadkjgadhbidaa
open Go.RowKit
set_option linter.unusedVariables false

def rbF (l : List Nd) : Nat → Nat → Nat → List Nd
  | 0, _, _ => []
  | f + 1, n, at_ =>
    if (nd l n).kind = 2 then [⟨1, ((at_ + 1 : Nat) : Int), 0, (nd l n).set⟩]
    else if (nd l n).kind = 8 then [⟨3, ((at_ + 1 : Nat) : Int), 0, 0⟩]
    else if (nd l n).kind = 9 then [⟨4, ((at_ + 1 : Nat) : Int), 0, 0⟩]
    else if (nd l n).kind = 1 then [⟨2, ((at_ + 1 : Nat) : Int), ((at_ + 1 : Nat) : Int), 0⟩]
    else if (nd l n).kind = 3 then rbF l f (nd l n).left.toNat at_ ++ rbF l f (nd l n).right.toNat (at_ + (rbF l f (nd l n).left.toNat at_).length)
    else if (nd l n).kind = 4 then
      let a := rbF l f (nd l n).left.toNat (at_ + 1)
      let b := rbF l f (nd l n).right.toNat (at_ + 2 + a.length)
      [⟨2, ((at_ + 1 : Nat) : Int), ((at_ + 2 + a.length : Nat) : Int), 0⟩] ++ a ++ [⟨2, ((at_ + 2 + a.length + b.length : Nat) : Int), ((at_ + 2 + a.length + b.length : Nat) : Int), 0⟩] ++ b
    else if (nd l n).kind = 5 then
      let a := rbF l f (nd l n).left.toNat (at_ + 1)
      [⟨2, ((at_ + 1 : Nat) : Int), ((at_ + 2 + a.length : Nat) : Int), 0⟩] ++ a ++ [⟨2, (at_ : Int), (at_ : Int), 0⟩]
    else if (nd l n).kind = 6 then
      let a := rbF l f (nd l n).left.toNat at_
      a ++ [⟨2, (at_ : Int), ((at_ + 1 + a.length : Nat) : Int), 0⟩]
    else
      let a := rbF l f (nd l n).left.toNat (at_ + 1)
      [⟨2, ((at_ + 1 : Nat) : Int), ((at_ + 1 + a.length : Nat) : Int), 0⟩] ++ a
/-- The list lies in the states from a place on. -/
def Emb (st : List Nd) (at_ : Nat) (r : List Nd) : Prop := ∀ i, i < r.length → nd st (at_ + i) = nd r i
theorem Emb.left {st : List Nd} {at_ : Nat} {r s : List Nd} (h : Emb st at_ (r ++ s)) : Emb st at_ r := fun i hi => by
  rw [h i (by rw [List.length_append]; omega), nd_append_left hi]
theorem Emb.right {st : List Nd} {at_ : Nat} {r s : List Nd} (h : Emb st at_ (r ++ s)) : Emb st (at_ + r.length) s := fun i hi => by
  rw [Nat.add_assoc, h (r.length + i) (by rw [List.length_append]; omega)]
  unfold nd
  rw [List.getD_eq_getElem?_getD, List.getD_eq_getElem?_getD, List.getElem?_append_right (by omega), show r.length + i - r.length = i by omega]
theorem Emb.one {st : List Nd} {at_ : Nat} {y : Nd} (h : Emb st at_ [y]) : nd st at_ = y := h 0 (by simp)
structure RMade (l : List Nd) (n at_ w : Nat) (r : List Nd) : Prop where
  few : r.length ≤ 2 * w
  frag : ∀ st, Emb st at_ r → Frag l (nd st) (fun _ => True) n at_ (at_ + r.length)
  ok : ∀ B, at_ + r.length < B → ∀ y ∈ r, okSt B y
  sets : (∀ y ∈ l, setOk y.set) → ∀ y ∈ r, setOk y.set
theorem okSt_two {B a b : Nat} (ha : a < B) (hb : b < B) : okSt B ⟨2, (a : Int), (b : Int), 0⟩ := okSt_mk (by decide) (by decide) ha (fun _ => ⟨by omega, by omega⟩)
theorem rbF_made {l : List Nd} {a n : Nat} (h : Sub l a n) : ∀ (f at_ : Nat), n < f → RMade l n at_ (n + 1 - a) (rbF l f n at_) := by
  induction h with
  | leaf n h hk h1 h2 h3 =>
    intro f at_ hf
    obtain ⟨f, rfl⟩ : ∃ g, f = g + 1 := ⟨f - 1, by omega⟩
    rw [show n + 1 - n = 1 by omega, rbF]
    rcases hk with hk | hk | hk | hk
    · rw [if_neg (by omega), if_neg (by omega), if_neg (by omega), if_pos hk]
      refine ⟨by simp, fun st he => .empty n _ _ hk (Or.inr ⟨trivial, ?_⟩), fun B hB y hy => ?_, fun _ y hy => ?_⟩
      · rw [he.one]; exact ⟨rfl, rfl, rfl⟩
      · simp at hy hB; subst hy; exact okSt_two (by omega) (by omega)
      · simp at hy; subst hy; exact setOk_zero
    · rw [if_pos hk]
      refine ⟨by simp, fun st he => .set n _ _ hk trivial (by rw [he.one]) (by rw [he.one]; rfl) (by rw [he.one]), fun B hB y hy => ?_, fun hl y hy => ?_⟩
      · simp at hy hB; subst hy; exact okSt_mk (by decide) (by decide) (by omega) (fun e => by simp at e)
      · simp at hy; subst hy; exact (show setOk (nd l n).set from hl _ (nd_mem h))
    · rw [if_neg (by omega), if_pos hk]
      refine ⟨by simp, fun st he => .bol n _ _ hk trivial (by rw [he.one]) (by rw [he.one]; rfl), fun B hB y hy => ?_, fun _ y hy => ?_⟩
      · simp at hy hB; subst hy; exact okSt_mk (by decide) (by decide) (by omega) (fun e => by simp at e)
      · simp at hy; subst hy; exact setOk_zero
    · rw [if_neg (by omega), if_neg (by omega), if_pos hk]
      refine ⟨by simp, fun st he => .eol n _ _ hk trivial (by rw [he.one]) (by rw [he.one]; rfl), fun B hB y hy => ?_, fun _ y hy => ?_⟩
      · simp at hy hB; subst hy; exact okSt_mk (by decide) (by decide) (by omega) (fun e => by simp at e)
      · simp at hy; subst hy; exact setOk_zero
  | one a n h hk h1 h2 h3 hs ih =>
    intro f at_ hf
    obtain ⟨f, rfl⟩ : ∃ g, f = g + 1 := ⟨f - 1, by omega⟩
    have hle := hs.le
    have hL : (nd l (n + 1)).left.toNat = n := by omega
    rw [rbF, if_neg (by omega), if_neg (by omega), if_neg (by omega), if_neg (by omega), if_neg (by omega), if_neg (by omega), hL]
    have hw : n + 1 + 1 - a = (n + 1 - a) + 1 := by omega
    rw [hw]
    rcases hk with hk | hk | hk
    · rw [if_pos hk]
      have m := ih f (at_ + 1) (by omega)
      generalize rbF l f n (at_ + 1) = r at *
      simp only
      refine ⟨by have := m.few; simp; omega, fun st he => ?_, fun B hB y hy => ?_, fun hl y hy => ?_⟩
      · have e1 := he.left.left.one
        have e2 : Emb st (at_ + 1) r := he.left.right
        have e3 := he.right.one
        rw [show (([⟨2, ((at_ + 1 : Nat) : Int), ((at_ + 2 + r.length : Nat) : Int), 0⟩] : List Nd) ++ r).length = 1 + r.length by simp; omega] at e3
        rw [show at_ + (([⟨2, ((at_ + 1 : Nat) : Int), ((at_ + 2 + r.length : Nat) : Int), 0⟩] : List Nd) ++ r ++ [(⟨2, (at_ : Int), (at_ : Int), 0⟩ : Nd)]).length = at_ + 2 + r.length by simp; omega]
        refine .star (n + 1) n at_ (at_ + 1) (at_ + (1 + r.length)) _ hk h1 trivial (by rw [e1]) (by rw [e1]) (by rw [e1]) ?_ (Or.inr ⟨trivial, by rw [e3], by rw [e3], by rw [e3]⟩)
        have := m.frag st e2
        rwa [Nat.add_assoc] at this
      · simp only [List.length_append, List.length_cons, List.length_nil] at hB
        simp only [List.mem_append, List.mem_singleton] at hy
        rcases hy with (hy | hy) | hy
        · subst hy; exact okSt_two (by omega) (by omega)
        · exact m.ok B (by omega) y hy
        · subst hy; exact okSt_two (by omega) (by omega)
      · simp only [List.mem_append, List.mem_singleton] at hy
        rcases hy with (hy | hy) | hy
        · subst hy; exact setOk_zero
        · exact m.sets hl y hy
        · subst hy; exact setOk_zero
    · rw [if_neg (by omega), if_pos hk]
      have m := ih f at_ (by omega)
      generalize rbF l f n at_ = r at *
      simp only
      refine ⟨by have := m.few; simp; omega, fun st he => ?_, fun B hB y hy => ?_, fun hl y hy => ?_⟩
      · have e2 := he.left
        have e3 := he.right.one
        rw [show at_ + (r ++ [(⟨2, (at_ : Int), ((at_ + 1 + r.length : Nat) : Int), 0⟩ : Nd)]).length = at_ + 1 + r.length by simp; omega]
        exact .plus (n + 1) n at_ (at_ + r.length) _ hk h1 (m.frag st e2) trivial (by rw [e3]) (by rw [e3]) (by rw [e3])
      · simp only [List.length_append, List.length_cons, List.length_nil] at hB
        simp only [List.mem_append, List.mem_singleton] at hy
        rcases hy with hy | hy
        · exact m.ok B (by omega) y hy
        · subst hy; exact okSt_two (by omega) (by omega)
      · simp only [List.mem_append, List.mem_singleton] at hy
        rcases hy with hy | hy
        · exact m.sets hl y hy
        · subst hy; exact setOk_zero
    · rw [if_neg (by omega), if_neg (by omega)]
      have m := ih f (at_ + 1) (by omega)
      generalize rbF l f n (at_ + 1) = r at *
      simp only
      refine ⟨by have := m.few; simp; omega, fun st he => ?_, fun B hB y hy => ?_, fun hl y hy => ?_⟩
      · have e1 := he.left.one
        have e2 : Emb st (at_ + 1) r := he.right
        rw [show at_ + (([⟨2, ((at_ + 1 : Nat) : Int), ((at_ + 1 + r.length : Nat) : Int), 0⟩] : List Nd) ++ r).length = at_ + 1 + r.length by simp; omega]
        exact .opt (n + 1) n at_ (at_ + 1) _ hk h1 trivial (by rw [e1]) (by rw [e1]) (by rw [e1]) (m.frag st e2)
      · simp only [List.length_append, List.length_cons, List.length_nil] at hB
        simp only [List.mem_append, List.mem_singleton] at hy
        rcases hy with hy | hy
        · subst hy; exact okSt_two (by omega) (by omega)
        · exact m.ok B (by omega) y hy
      · simp only [List.mem_append, List.mem_singleton] at hy
        rcases hy with hy | hy
        · subst hy; exact setOk_zero
        · exact m.sets hl y hy
  | two a m n h hk h1 h2 h3 hs1 hs2 i1 i2 =>
    intro f at_ hf
    obtain ⟨f, rfl⟩ : ∃ g, f = g + 1 := ⟨f - 1, by omega⟩
    have hle1 := hs1.le
    have hle2 := hs2.le
    have hL : (nd l (n + 1)).left.toNat = m := by omega
    have hR : (nd l (n + 1)).right.toNat = n := by omega
    rw [rbF, if_neg (by omega), if_neg (by omega), if_neg (by omega), if_neg (by omega), hL, hR]
    rcases hk with hk | hk
    · rw [if_pos hk]
      have q1 := i1 f at_ (by omega)
      generalize rbF l f m at_ = r at *
      have q2 := i2 f (at_ + r.length) (by omega)
      generalize rbF l f n (at_ + r.length) = s at *
      refine ⟨by have := q1.few; have := q2.few; rw [List.length_append]; omega, fun st he => ?_, fun B hB y hy => ?_, fun hl y hy => ?_⟩
      · rw [List.length_append, ← Nat.add_assoc]
        exact .cat (n + 1) m n at_ _ _ hk h1 h2 (q1.frag st he.left) (q2.frag st he.right)
      · rw [List.length_append] at hB
        rcases List.mem_append.mp hy with hy | hy
        · exact q1.ok B (by omega) y hy
        · exact q2.ok B (by omega) y hy
      · rcases List.mem_append.mp hy with hy | hy
        · exact q1.sets hl y hy
        · exact q2.sets hl y hy
    · rw [if_neg (by omega), if_pos hk]
      have q1 := i1 f (at_ + 1) (by omega)
      generalize rbF l f m (at_ + 1) = r at *
      simp only
      have q2 := i2 f (at_ + 2 + r.length) (by omega)
      generalize rbF l f n (at_ + 2 + r.length) = s at *
      refine ⟨by have := q1.few; have := q2.few; simp; omega, fun st he => ?_, fun B hB y hy => ?_, fun hl y hy => ?_⟩
      · have e1 := he.left.left.left.one
        have e2 : Emb st (at_ + 1) r := he.left.left.right
        have e3 := he.left.right.one
        have e4 := he.right
        rw [show (([⟨2, ((at_ + 1 : Nat) : Int), ((at_ + 2 + r.length : Nat) : Int), 0⟩] : List Nd) ++ r).length = 1 + r.length by simp; omega] at e3
        rw [show at_ + (([⟨2, ((at_ + 1 : Nat) : Int), ((at_ + 2 + r.length : Nat) : Int), 0⟩] : List Nd) ++ r ++ [(⟨2, ((at_ + 2 + r.length + s.length : Nat) : Int), ((at_ + 2 + r.length + s.length : Nat) : Int), 0⟩ : Nd)]).length = at_ + 2 + r.length by simp; omega] at e4
        rw [show at_ + (([⟨2, ((at_ + 1 : Nat) : Int), ((at_ + 2 + r.length : Nat) : Int), 0⟩] : List Nd) ++ r ++ [(⟨2, ((at_ + 2 + r.length + s.length : Nat) : Int), ((at_ + 2 + r.length + s.length : Nat) : Int), 0⟩ : Nd)] ++ s).length = at_ + 2 + r.length + s.length by simp; omega]
        refine .alt (n + 1) m n at_ (at_ + 1) (at_ + 2 + r.length) (at_ + (1 + r.length)) (at_ + 2 + r.length + s.length) _ hk h1 h2 trivial (by rw [e1]) (by rw [e1]) (by rw [e1]) ?_ (Or.inr ⟨trivial, by rw [e3], by rw [e3], by rw [e3]⟩) (q2.frag st e4) (Or.inl rfl)
        have := q1.frag st e2
        rwa [Nat.add_assoc] at this
      · simp only [List.length_append, List.length_cons, List.length_nil] at hB
        simp only [List.mem_append, List.mem_singleton] at hy
        rcases hy with ((hy | hy) | hy) | hy
        · subst hy; exact okSt_two (by omega) (by omega)
        · exact q1.ok B (by omega) y hy
        · subst hy; exact okSt_two (by omega) (by omega)
        · exact q2.ok B (by omega) y hy
      · simp only [List.mem_append, List.mem_singleton] at hy
        rcases hy with ((hy | hy) | hy) | hy
        · subst hy; exact setOk_zero
        · exact q1.sets hl y hy
        · subst hy; exact setOk_zero
        · exact q2.sets hl y hy
def rcompM (l : List Nd) : List Nd := rbF l l.length (l.length - 1) 0 ++ [⟨5, 0, 0, 0⟩]
theorem rcomp_ok {l : List Nd} (hv : validM l = true) : Wired l (rcompM l) ∧ svalid (rcompM l) = true ∧ (rcompM l).length ≤ 513 ∧ 1 ≤ (rcompM l).length ∧ ((∀ y ∈ l, setOk y.set) → ∀ y ∈ rcompM l, setOk y.set) := by
  have hlen := validM_len hv
  have m := rbF_made (validM_sub hv) l.length 0 (by omega)
  unfold rcompM
  generalize rbF l l.length (l.length - 1) 0 = r at *
  have hf := m.few
  have hl : (r ++ [(⟨5, 0, 0, 0⟩ : Nd)]).length = r.length + 1 := by simp
  refine ⟨⟨fun _ => True, 0, 0 + r.length, Or.inl rfl, m.frag _ (fun i hi => ?_), ?_⟩, decide_eq_true ⟨?_, ?_, fun y hy => ?_⟩, ?_, ?_, fun hs y hy => ?_⟩
  · rw [Nat.zero_add, nd_append_left hi]
  · rw [Nat.zero_add, nd_last]
  · omega
  · omega
  · rw [hl]
    rcases List.mem_append.mp hy with hy | hy
    · exact m.ok _ (by omega) y hy
    · simp at hy; subst hy; exact okSt_match
  · omega
  · omega
  · rcases List.mem_append.mp hy with hy | hy
    · exact m.sets hs y hy
    · simp at hy; subst hy; exact setOk_zero
theorem rcomp_run {l : List Nd} (hv : validM l = true) (t : List Nat) : nrunM (rcompM l) t = rfirstM l t := by
  obtain ⟨hw, hs, _⟩ := rcomp_ok hv
  refine LeastHit.one (l := l) (t := t) ?_ (rfirst_least hv t)
  rw [← least_hit (g := nfaG (rcompM l)) (fun n hn => hw.hit t n hn)]
  exact nrun_least hs t
end Go.Proofs.Ythadkjgadhbidaa
/-
  The reference's test of a list of nodes, on plain lists: it comes to the program's test. No program in sight.
-/
namespace Go.Proofs.Ythadkjgadhbidaa
open Go.RowKit
set_option linter.unusedVariables false

theorem kidsN_bd2 (k : Int) : 0 ≤ kidsN k ∧ kidsN k ≤ 2 := by unfold kidsN; split <;> (try split) <;> omega
def badNd (x : Nd) : Prop := x.kind < 1 ∨ 9 < x.kind ∨ (x.kind ≠ 2 ∧ x.set ≠ 0)
instance (x : Nd) : Decidable (badNd x) := by unfold badNd; infer_instance
def bentNd (x : Nd) : Prop := (kidsN x.kind < 2 ∧ x.right ≠ 0) ∨ (kidsN x.kind < 1 ∧ x.left ≠ 0)
instance (x : Nd) : Decidable (bentNd x) := by unfold bentNd; infer_instance
def treeS (x : Nd) (k : Int) (g : Int → Int) : Int :=
  if badNd x ∨ bentNd x then -1
  else if kidsN x.kind = 0 then k
  else if kidsN x.kind = 2 then
    if x.right ≠ k - 1 then -1
    else if g (k - 1) - 1 < 0 ∨ x.left ≠ g (k - 1) - 1 then -1 else g (g (k - 1) - 1)
  else if k - 1 < 0 ∨ x.left ≠ k - 1 then -1 else g (k - 1)
/-- Where the tree whose root is node k begins, or -1. -/
def treeF (l : List Nd) : Nat → Int → Int
  | 0, _ => -1
  | f + 1, k => if k < 0 then -1 else treeS (nd l k.toNat) k (treeF l f)
theorem treeF_bd (l : List Nd) : ∀ (f : Nat) (k : Int), -1 ≤ treeF l f k ∧ (-1 ≤ k → treeF l f k ≤ k)
  | 0, k => ⟨Int.le_refl _, fun h => h⟩
  | f + 1, k => by
    have a1 := treeF_bd l f (k - 1)
    have a2 := treeF_bd l f (treeF l f (k - 1) - 1)
    rw [treeF]
    split
    · exact ⟨by omega, by omega⟩
    unfold treeS
    split
    · exact ⟨by omega, by omega⟩
    split
    · exact ⟨by omega, by omega⟩
    split
    · split
      · exact ⟨by omega, by omega⟩
      split
      · exact ⟨by omega, by omega⟩
      · exact ⟨a2.1, fun h => by have := a2.2 (by omega); have := a1.2 (by omega); omega⟩
    · split
      · exact ⟨by omega, by omega⟩
      · exact ⟨a1.1, fun h => by have := a1.2 (by omega); omega⟩
theorem treeF_neg (l : List Nd) (f : Nat) (k : Int) (h : k < 0) : treeF l f k = -1 := by
  cases f with
  | zero => rfl
  | succ f => rw [treeF, if_pos h]
theorem sub_treeF {l : List Nd} {a n : Nat} (h : Sub l a n) : ∀ f, n + 1 ≤ f → treeF l f n = a := by
  induction h with
  | leaf n h hk h1 h2 h3 =>
    intro f hf
    obtain ⟨f, rfl⟩ : ∃ g, f = g + 1 := ⟨f - 1, by omega⟩
    have hkk : kidsN (nd l n).kind = 0 := by unfold kidsN; rw [if_neg (by omega), if_neg (by omega)]
    rw [treeF, if_neg (by omega), Int.toNat_natCast]
    unfold treeS
    rw [if_neg, if_pos hkk]
    rintro (hb | hb)
    · rcases hb with hb | hb | ⟨hb, hc⟩
      · omega
      · omega
      · exact hc (h3 hb)
    · rcases hb with ⟨_, hb⟩ | ⟨_, hb⟩
      · exact hb h2
      · exact hb h1
  | one a n h hk h1 h2 h3 hs ih =>
    intro f hf
    obtain ⟨f, rfl⟩ : ∃ g, f = g + 1 := ⟨f - 1, by omega⟩
    have hkk : kidsN (nd l (n + 1)).kind = 1 := by unfold kidsN; rw [if_neg (by omega), if_pos (by omega)]
    have i1 := ih f (by omega)
    have e : ((n + 1 : Nat) : Int) - 1 = n := by omega
    rw [treeF, if_neg (by omega), Int.toNat_natCast]
    unfold treeS
    rw [e, if_neg, if_neg (by omega), if_neg (by omega), if_neg (by omega), i1]
    rintro (hb | hb)
    · rcases hb with hb | hb | ⟨hb, hc⟩
      · omega
      · omega
      · exact hc h3
    · rcases hb with ⟨_, hb⟩ | ⟨hb, _⟩
      · exact hb h2
      · omega
  | two a m n h hk h1 h2 h3 hs1 hs2 ih1 ih2 =>
    intro f hf
    obtain ⟨f, rfl⟩ : ∃ g, f = g + 1 := ⟨f - 1, by omega⟩
    have hkk : kidsN (nd l (n + 1)).kind = 2 := by unfold kidsN; rw [if_pos (by omega)]
    have b1 := hs1.le
    have b2 := hs2.le
    have i1 := ih1 f (by omega)
    have i2 := ih2 f (by omega)
    have e : ((n + 1 : Nat) : Int) - 1 = n := by omega
    have e2 : ((m + 1 : Nat) : Int) - 1 = m := by omega
    rw [treeF, if_neg (by omega), Int.toNat_natCast]
    unfold treeS
    rw [e, i2, e2, i1, if_neg, if_neg (by omega), if_pos hkk, if_neg (by omega), if_neg (by omega)]
    rintro (hb | hb)
    · rcases hb with hb | hb | ⟨hb, hc⟩
      · omega
      · omega
      · exact hc h3
    · rcases hb with ⟨hb, _⟩ | ⟨hb, _⟩ <;> omega
theorem treeF_sub {l : List Nd} : ∀ (f n : Nat), n < l.length → ∀ a : Nat, treeF l f n = a → Sub l a n
  | 0, n, hn, a, h => by rw [treeF] at h; omega
  | f + 1, n, hn, a, h => by
    rw [treeF, if_neg (by omega), Int.toNat_natCast] at h
    unfold treeS at h
    split at h
    · omega
    rename_i hb
    have hb1 : ¬ badNd (nd l n) := fun x => hb (Or.inl x)
    have hb2 : ¬ bentNd (nd l n) := fun x => hb (Or.inr x)
    unfold badNd at hb1
    unfold bentNd at hb2
    have hk1 : 1 ≤ (nd l n).kind := by omega
    have hk2 : (nd l n).kind ≤ 9 := by omega
    have hset : (nd l n).kind ≠ 2 → (nd l n).set = 0 := fun hx => Decidable.byContradiction fun hy => hb1 (Or.inr (Or.inr ⟨hx, hy⟩))
    split at h
    · rename_i hk
      obtain rfl : n = a := by omega
      have hkk : (nd l n).kind = 1 ∨ (nd l n).kind = 2 ∨ (nd l n).kind = 8 ∨ (nd l n).kind = 9 := by
        unfold kidsN at hk; split at hk
        · omega
        split at hk <;> omega
      exact .leaf n hn hkk (by omega) (by omega) hset
    split at h
    · rename_i hk
      have hkk : (nd l n).kind = 3 ∨ (nd l n).kind = 4 := by
        unfold kidsN at hk; split at hk
        · assumption
        split at hk <;> omega
      split at h
      · omega
      rename_i hr
      split at h
      · omega
      rename_i hl
      have hbd := treeF_bd l f ((n : Int) - 1)
      have h1 : 1 ≤ n := by
        have := hbd.2
        rcases Nat.eq_zero_or_pos n with e | e
        · subst e
          rw [treeF_neg l f _ (by omega)] at hl
          omega
        · exact e
      obtain ⟨n, rfl⟩ : ∃ k, n = k + 1 := ⟨n - 1, by omega⟩
      have e : ((n + 1 : Nat) : Int) - 1 = n := by omega
      rw [e] at h hl hr hbd
      obtain ⟨t, ht⟩ : ∃ t : Nat, treeF l f n = (t + 1 : Nat) := ⟨(treeF l f n - 1).toNat, by omega⟩
      have s2 := treeF_sub f n (by omega) _ ht
      rw [ht] at h hl
      have e2 : ((t + 1 : Nat) : Int) - 1 = t := by omega
      rw [e2] at h hl
      have := s2.le
      have s1 := treeF_sub f t (by omega) _ h
      exact .two a t n hn hkk (by omega) (by omega) (hset (by omega)) s1 s2
    · rename_i hk0 hk2'
      have hkk : (nd l n).kind = 5 ∨ (nd l n).kind = 6 ∨ (nd l n).kind = 7 := by
        unfold kidsN at hk0 hk2'; split at hk0
        · omega
        split at hk0 <;> omega
      have hk1' : kidsN (nd l n).kind = 1 := by unfold kidsN; rw [if_neg (by omega), if_pos (by omega)]
      split at h
      · omega
      rename_i hl
      obtain ⟨n, rfl⟩ : ∃ k, n = k + 1 := ⟨n - 1, by omega⟩
      have e : ((n + 1 : Nat) : Int) - 1 = n := by omega
      rw [e] at h hl
      have s1 := treeF_sub f n (by omega) _ h
      exact .one a n hn hkk (by omega) (by omega) (hset (by omega)) s1
/-- The reference's test. -/
def rvalidM (l : List Nd) : Bool := decide (1 ≤ l.length ∧ l.length ≤ 256 ∧ treeF l l.length ((l.length : Int) - 1) = 0)
theorem rvalid_eq (l : List Nd) : rvalidM l = validM l := by
  by_cases h : validM l = true
  · have hs := validM_sub h
    have hl := validM_len h
    rw [h]
    refine decide_eq_true ⟨by omega, by omega, ?_⟩
    have := sub_treeF hs l.length (by omega)
    rw [show ((l.length : Int) - 1) = ((l.length - 1 : Nat) : Int) by omega]
    exact this
  · have hf : validM l = false := by simpa using h
    rw [hf]
    refine decide_eq_false ?_
    rintro ⟨h1, h2, h3⟩
    rw [show ((l.length : Int) - 1) = ((l.length - 1 : Nat) : Int) by omega] at h3
    have hs := treeF_sub l.length (l.length - 1) (by omega) 0 h3
    exact h (Tr.valid ⟨by omega, hs⟩ h2)
end Go.Proofs.Ythadkjgadhbidaa
/-
  The reference's test of a list of nodes: one tree.
-/
namespace Go.Proofs.Ythadkjgadhbidaa
open Go.RowKit
set_option linter.unusedVariables false

set_option maxRecDepth 100000 in
theorem tree_neg (A : Option Addr) (c n : Nat) (k : Int) (w : World) (h : k < 0) : Calls Try.prog 40 #[.slice A n c, .int .i64 k] w (ValOld (.int .i64 (-1)) w) := by
  go_enter Try.func40, Try.ntmps40
  go_wp2_with fail
  go_ret
  exact ⟨rfl, Old.refl _⟩
set_option maxHeartbeats 8000000 in
set_option maxRecDepth 100000 in
theorem treeC (A : Option Addr) (c : Nat) (l : List Nd) (hm : l.length ≤ maxLen) (hso : ∀ x ∈ l, setOk x.set) : ∀ (f : Nat) (k : Int) (w : World), Rs w A (ndsV l) → k < l.length → k + 1 ≤ f →
    Calls Try.prog 40 #[.slice A l.length c, .int .i64 k] w (ValOld (.int .i64 (treeF l f k)) w) := by
  intro f
  induction f with
  | zero =>
    intro k w hr hk hf
    rw [treeF_neg l 0 k (by omega)]
    exact tree_neg A c l.length k w (by omega)
  | succ f ih =>
  intro k w hr hk hf
  by_cases h0 : k < 0
  · rw [treeF_neg l _ k h0]
    exact tree_neg A c l.length k w h0
  obtain ⟨k, rfl⟩ : ∃ n : Nat, k = (n : Int) := ⟨k.toNat, by omega⟩
  have hT : treeF l (f + 1) (k : Int) = treeS (nd l k) k (treeF l f) := by rw [treeF, if_neg h0, Int.toNat_natCast]
  have hkl : k < l.length := by omega
  have hx : l[k]? = some (nd l k) := by unfold nd; rw [List.getD_eq_getElem?_getD, List.getElem?_eq_getElem hkl]; rfl
  have hg := ndsV_get l k _ hx
  have hst : setOk (nd l k).set := hso _ (List.mem_of_getElem? hx)
  have IH := Lib.hid ih
  have HRW := Lib.hid hr
  obtain ⟨b, off, rfl, hbl, hcl⟩ := hr.at_ (by rw [ndsV_length]; omega)
  have c0 := hcl _ _ (hg 0 (by omega))
  have c1 := hcl _ _ (hg 1 (by omega))
  have c2 := hcl _ _ (hg 2 (by omega))
  have c3 := hcl _ _ (hg 3 (by omega))
  have c4 := hcl _ _ (hg 4 (by omega))
  have c5 := hcl _ _ (hg 5 (by omega))
  have c6 := hcl _ _ (hg 6 (by omega))
  rw [← Nat.add_assoc] at c0 c1 c2 c3 c4 c5 c6
  rw [Nat.add_zero] at c0
  clear hx hg hcl hr ih hbl hso
  have HT := Lib.hid hT
  clear hT
  generalize nd l k = nx at *
  obtain ⟨kd, lf, rt, st⟩ := nx
  replace c0 : w.cell? ⟨b, off + k * 7, none⟩ = some (.int .i64 kd) := c0
  replace c1 : w.cell? ⟨b, off + k * 7 + 1, none⟩ = some (.int .i64 lf) := c1
  replace c2 : w.cell? ⟨b, off + k * 7 + 2, none⟩ = some (.int .i64 rt) := c2
  replace c3 : w.cell? ⟨b, off + k * 7 + 3, none⟩ = some (.int .u64 (setW st 0)) := c3
  replace c4 : w.cell? ⟨b, off + k * 7 + 4, none⟩ = some (.int .u64 (setW st 1)) := c4
  replace c5 : w.cell? ⟨b, off + k * 7 + 5, none⟩ = some (.int .u64 (setW st 2)) := c5
  replace c6 : w.cell? ⟨b, off + k * 7 + 6, none⟩ = some (.int .u64 (setW st 3)) := c6
  have i0 : (0 : Int) ≤ (k : Int) := by omega
  have i1 : (k : Int) < (l.length : Int) := by omega
  have HF := Lib.hid hf
  have HMX := Lib.hid hm
  clear hf hm h0
  go_enter Try.func40, Try.ntmps40
  go_upto_region 4 with fail
  have hb5 := heap_alloc_new w (.cells #[.int .i64 kd, .int .i64 lf, .int .i64 rt, .int .u64 (setW st 0), .int .u64 (setW st 1), .int .u64 (setW st 2), .int .u64 (setW st 3)] 114)
  have HOW := Lib.hid ((Old.refl w).alloc (.cells #[.int .i64 kd, .int .i64 lf, .int .i64 rt, .int .u64 (setW st 0), .int .u64 (setW st 1), .int .u64 (setW st 2), .int .u64 (setW st 3)] 114))
  generalize w.alloc (.cells #[.int .i64 kd, .int .i64 lf, .int .i64 rt, .int .u64 (setW st 0), .int .u64 (setW st 1), .int .u64 (setW st 2), .int .u64 (setW st 3)] 114) = W at *
  clear c0 c1 c2 c3 c4 c5 c6
  have d0 : W.cell? ⟨w.heap.size, 0, none⟩ = some (.int .i64 kd) := by rw [cell_of_row W _ 0 _ _ _ hb5]; rfl
  have d1 : W.cell? ⟨w.heap.size, 1, none⟩ = some (.int .i64 lf) := by rw [cell_of_row W _ 1 _ _ _ hb5]; rfl
  have d2 : W.cell? ⟨w.heap.size, 2, none⟩ = some (.int .i64 rt) := by rw [cell_of_row W _ 2 _ _ _ hb5]; rfl
  have d3 : W.cell? ⟨w.heap.size, 3, none⟩ = some (.int .u64 (setW st 0)) := by rw [cell_of_row W _ 3 _ _ _ hb5]; rfl
  have d4 : W.cell? ⟨w.heap.size, 4, none⟩ = some (.int .u64 (setW st 1)) := by rw [cell_of_row W _ 4 _ _ _ hb5]; rfl
  have d5 : W.cell? ⟨w.heap.size, 5, none⟩ = some (.int .u64 (setW st 2)) := by rw [cell_of_row W _ 5 _ _ _ hb5]; rfl
  have d6 : W.cell? ⟨w.heap.size, 6, none⟩ = some (.int .u64 (setW st 3)) := by rw [cell_of_row W _ 6 _ _ _ hb5]; rfl
  have HB5 := Lib.hid hb5
  clear hb5
  have hz := fun W => set_zero st hst W
  clear hst
  have i9 : (k : Int) < 9223372036854775807 := by have := HMX.out; unfold maxLen at this; omega
  by_cases b1 : kd < 1
  · have HN : Hid (treeF l (f + 1) (k : Int) = -1) := Lib.hid (by rw [HT.out]; unfold treeS; rw [if_pos (by simp only [badNd]; omega)])
    clear HT
    go_wp2_with fail
    go_ret
    rw [HN.out]
    exact ⟨rfl, HOW.out⟩
  by_cases b2 : 9 < kd
  · have HN : Hid (treeF l (f + 1) (k : Int) = -1) := Lib.hid (by rw [HT.out]; unfold treeS; rw [if_pos (by simp only [badNd]; omega)])
    clear HT
    go_wp2_with fail
    go_ret
    rw [HN.out]
    exact ⟨rfl, HOW.out⟩
  by_cases b3 : kd = 2
  · have b4 : (kd != 2) = false := by simp [b3]
    clear HB5
    have HK0 : Hid (¬ badNd ⟨kd, lf, rt, st⟩) := Lib.hid (by rintro (h | h | ⟨h, h'⟩) <;> first | exact b1 h | exact b2 h | exact h b3 | exact h' b5)
    have hk3 : kidsN kd = 0 ∨ kidsN kd = 1 ∨ kidsN kd = 2 := by have := kidsN_bd2 kd; omega
    have HKC := Lib.hid (kidsC kd)
    have HBN : Hid (bentNd ⟨kd, lf, rt, st⟩ ↔ ((kidsN kd < 2 ∧ rt ≠ 0) ∨ (kidsN kd < 1 ∧ lf ≠ 0))) := Lib.hid Iff.rfl
    have HTS : Hid (treeF l (f + 1) (k : Int) = if bentNd ⟨kd, lf, rt, st⟩ then -1 else if kidsN kd = 0 then (k : Int) else if kidsN kd = 2 then if rt ≠ k - 1 then -1 else if treeF l f (k - 1) - 1 < 0 ∨ lf ≠ treeF l f (k - 1) - 1 then -1 else treeF l f (treeF l f (k - 1) - 1) else if (k : Int) - 1 < 0 ∨ lf ≠ k - 1 then -1 else treeF l f (k - 1)) := Lib.hid (by
      rw [HT.out]
      unfold treeS
      simp only [HK0.out, false_or])
    clear HT HK0
    generalize kidsN kd = kk at *
    try clear b5
    clear b3
    rcases hk3 with rfl | rfl | rfl
    · by_cases b7 : rt = 0
      · by_cases b8 : lf = 0
        · have HN : Hid (treeF l (f + 1) (k : Int) = k) := Lib.hid (by rw [HTS.out, if_neg (by rw [HBN.out]; omega), if_pos rfl])
          have b9 : (rt != 0) = false := by simp [b7]
          have b10 : (lf != 0) = false := by simp [b8]
          clear HTS HBN b7 b8
          go_wp2_with fail
          refine (HKC.out _).mono ?_; rintro e W8 ⟨rfl, rfl⟩
          go_wp2_with fail
          go_ret
          rw [HN.out]
          exact ⟨rfl, HOW.out⟩
        · have HN : Hid (treeF l (f + 1) (k : Int) = -1) := Lib.hid (by rw [HTS.out, if_pos (by rw [HBN.out]; omega)])
          have b9 : (rt != 0) = false := by simp [b7]
          have b10 : (lf != 0) = true := by simpa using b8
          clear HTS HBN b7 b8
          go_wp2_with fail
          refine (HKC.out _).mono ?_; rintro e W8 ⟨rfl, rfl⟩
          go_wp2_with fail
          go_ret
          rw [HN.out]
          exact ⟨rfl, HOW.out⟩
      · have HN : Hid (treeF l (f + 1) (k : Int) = -1) := Lib.hid (by rw [HTS.out, if_pos (by rw [HBN.out]; omega)])
        have b9 : (rt != 0) = true := by simpa using b7
        clear HTS HBN b7
        go_wp2_with fail
        refine (HKC.out _).mono ?_; rintro e W8 ⟨rfl, rfl⟩
        go_wp2_with fail
        go_ret
        rw [HN.out]
        exact ⟨rfl, HOW.out⟩
    · by_cases b7 : rt = 0
      · have b9 : (rt != 0) = false := by simp [b7]
        by_cases b8 : (k : Int) - 1 < 0
        · have HN : Hid (treeF l (f + 1) (k : Int) = -1) := Lib.hid (by rw [HTS.out, if_neg (by rw [HBN.out]; omega), if_neg (by omega), if_neg (by omega), if_pos (Or.inl b8)])
          clear HTS HBN b7
          go_wp2_with fail
          refine (HKC.out _).mono ?_; rintro e W8 ⟨rfl, rfl⟩
          go_wp2_with fail
          go_ret
          rw [HN.out]
          exact ⟨rfl, HOW.out⟩
        · obtain ⟨n, rfl⟩ : ∃ n : Nat, k = n + 1 := ⟨k - 1, by omega⟩
          have e9 : ((n + 1 : Nat) : Int) - 1 = (n : Int) := by omega
          have HE9 := Lib.hid e9
          clear e9
          by_cases b11 : lf = (n : Int)
          · have HN : Hid (treeF l (f + 1) ((n + 1 : Nat) : Int) = treeF l f n) := Lib.hid (by
              rw [HTS.out, HE9.out, if_neg (by rw [HBN.out]; omega), if_neg (by omega), if_neg (by omega), if_neg (by omega)])
            have HI := Lib.hid (IH.out (n : Int) _ (HRW.out.up HOW.out) (by omega) (by have := HF.out; omega))
            clear HTS HBN IH b7 b8
            subst b11
            generalize treeF l (f + 1) ((n + 1 : Nat) : Int) = TT at *
            have jd : decide ((n : Int) < 0) = false := decide_eq_false (by omega)
            go_wp2_with fail
            refine (HKC.out _).mono ?_; rintro e W8 ⟨rfl, rfl⟩
            go_wp2_with fail
            refine (HI.out).mono ?_; rintro e W9 ⟨rfl, o9⟩
            have HO9 := Lib.hid (HOW.out.up o9)
            clear o9
            go_wp2_with fail
            go_ret
            rw [HN.out]
            exact ⟨rfl, HO9.out⟩
          · have HN : Hid (treeF l (f + 1) ((n + 1 : Nat) : Int) = -1) := Lib.hid (by
              rw [HTS.out, HE9.out, if_neg (by rw [HBN.out]; omega), if_neg (by omega), if_neg (by omega), if_pos (Or.inr b11)])
            have b12 : (lf != (n : Int)) = true := by simpa using b11
            clear HTS HBN IH b7 b8 b11
            generalize treeF l (f + 1) ((n + 1 : Nat) : Int) = TT at *
            have jd : decide ((n : Int) < 0) = false := decide_eq_false (by omega)
            go_wp2_with fail
            refine (HKC.out _).mono ?_; rintro e W8 ⟨rfl, rfl⟩
            go_wp2_with fail
            go_ret
            rw [HN.out]
            exact ⟨rfl, HOW.out⟩
      · have HN : Hid (treeF l (f + 1) (k : Int) = -1) := Lib.hid (by rw [HTS.out, if_pos (by rw [HBN.out]; omega)])
        have b9 : (rt != 0) = true := by simpa using b7
        clear HTS HBN b7
        go_wp2_with fail
        refine (HKC.out _).mono ?_; rintro e W8 ⟨rfl, rfl⟩
        go_wp2_with fail
        go_ret
        rw [HN.out]
        exact ⟨rfl, HOW.out⟩
    · by_cases b7 : rt = (k : Int) - 1
      · have htb := treeF_bd l f ((k : Int) - 1)
        have HI := Lib.hid (IH.out ((k : Int) - 1) _ (HRW.out.up HOW.out) (by omega) (by have := HF.out; omega))
        have HI2 := Lib.hid (fun (t : Int) W' o => IH.out t W' (HRW.out.up (HOW.out.up o)))
        have HTS2 : Hid (treeF l (f + 1) (k : Int) = if treeF l f (k - 1) - 1 < 0 ∨ lf ≠ treeF l f (k - 1) - 1 then -1 else treeF l f (treeF l f (k - 1) - 1)) := Lib.hid (by rw [HTS.out, if_neg (by rw [HBN.out]; omega), if_neg (by omega), if_pos rfl, if_neg (by omega)])
        clear HTS HBN IH
        subst b7
        generalize treeF l f ((k : Int) - 1) = T1 at *
        obtain ⟨t1, t2⟩ := htb
        have HT2 := Lib.hid t2
        have HT1 := Lib.hid t1
        clear t1 t2
        go_wp2_with fail
        refine (HKC.out _).mono ?_; rintro e W8 ⟨rfl, rfl⟩
        go_wp2_with fail
        refine (HI.out).mono ?_; rintro e W9 ⟨rfl, o9⟩
        have HO9 := Lib.hid (HOW.out.up o9)
        have HI3 := Lib.hid (fun t => HI2.out t W9 o9)
        replace d1 := o9.cell d1
        clear o9 HI HI2 d0 d2 d3 d4 d5 d6
        have hT1 : T1 = -1 ∨ T1 = 0 ∨ ∃ t : Nat, T1 = (t : Int) + 1 := by
          have := HT1.out
          rcases Int.lt_or_le T1 1 with h | h
          · omega
          · exact Or.inr (Or.inr ⟨(T1 - 1).toNat, by omega⟩)
        rcases hT1 with rfl | rfl | ⟨t, rfl⟩
        · have HN : Hid (treeF l (f + 1) (k : Int) = -1) := Lib.hid (by rw [HTS2.out, if_pos (by omega)])
          clear HTS2 HT1 HT2 HI3
          go_wp2_with fail
          go_ret
          rw [HN.out]
          exact ⟨rfl, HO9.out⟩
        · have HN : Hid (treeF l (f + 1) (k : Int) = -1) := Lib.hid (by rw [HTS2.out, if_pos (by omega)])
          clear HTS2 HT1 HT2 HI3
          go_wp2_with fail
          go_ret
          rw [HN.out]
          exact ⟨rfl, HO9.out⟩
        · have htk : (t : Int) + 1 ≤ k - 1 := HT2.out (by omega)
          have HTK := Lib.hid htk
          clear HT1 HT2
          have i10 : ((t + 1 : Nat) : Int) < 9223372036854775807 := by omega
          have i11 : (0 : Int) ≤ ((t + 1 : Nat) : Int) := by omega
          clear htk
          have e9 : (t : Int) + 1 - 1 = (t : Int) := by omega
          by_cases b8 : lf = (t : Int)
          · have HN : Hid (treeF l (f + 1) (k : Int) = treeF l f t) := Lib.hid (by rw [HTS2.out, e9, if_neg (by omega)])
            have HI4 := Lib.hid (HI3.out (t : Int) (by have := HTK.out; omega) (by have := HF.out; have := HTK.out; omega))
            clear HTS2 HI3 e9
            subst b8
            generalize treeF l (f + 1) (k : Int) = TT at *
            have jd : decide ((t : Int) < 0) = false := decide_eq_false (by omega)
            go_wp2_with fail
            refine (HI4.out).mono ?_; rintro e W10 ⟨rfl, o10⟩
            have HO10 := Lib.hid (HO9.out.up o10)
            clear o10
            go_wp2_with fail
            go_ret
            rw [HN.out]
            exact ⟨rfl, HO10.out⟩
          · have HN : Hid (treeF l (f + 1) (k : Int) = -1) := Lib.hid (by rw [HTS2.out, e9, if_pos (Or.inr b8)])
            have b12 : (lf != (t : Int)) = true := by simpa using b8
            clear HTS2 HI3 e9 b8
            generalize treeF l (f + 1) (k : Int) = TT at *
            have jd : decide ((t : Int) < 0) = false := decide_eq_false (by omega)
            go_wp2_with fail
            go_ret
            rw [HN.out]
            exact ⟨rfl, HO9.out⟩
      · have HN : Hid (treeF l (f + 1) (k : Int) = -1) := Lib.hid (by rw [HTS.out, if_neg (by rw [HBN.out]; omega), if_neg (by omega), if_pos rfl, if_pos b7])
        have b9 : (rt != (k : Int) - 1) = true := by simpa using b7
        clear HTS HBN b7
        go_wp2_with fail
        refine (HKC.out _).mono ?_; rintro e W8 ⟨rfl, rfl⟩
        go_wp2_with fail
        go_ret
        rw [HN.out]
        exact ⟨rfl, HOW.out⟩
  · have b4 : (kd != 2) = true := by simpa using b3
    by_cases b5 : st = 0
    · have b6 : decide (st = 0) = true := by simp [b5]
      simp only [b6] at hz
      clear b6
      clear HB5
      have HK0 : Hid (¬ badNd ⟨kd, lf, rt, st⟩) := Lib.hid (by rintro (h | h | ⟨h, h'⟩) <;> first | exact b1 h | exact b2 h | exact h b3 | exact h' b5)
      have hk3 : kidsN kd = 0 ∨ kidsN kd = 1 ∨ kidsN kd = 2 := by have := kidsN_bd2 kd; omega
      have HKC := Lib.hid (kidsC kd)
      have HBN : Hid (bentNd ⟨kd, lf, rt, st⟩ ↔ ((kidsN kd < 2 ∧ rt ≠ 0) ∨ (kidsN kd < 1 ∧ lf ≠ 0))) := Lib.hid Iff.rfl
      have HTS : Hid (treeF l (f + 1) (k : Int) = if bentNd ⟨kd, lf, rt, st⟩ then -1 else if kidsN kd = 0 then (k : Int) else if kidsN kd = 2 then if rt ≠ k - 1 then -1 else if treeF l f (k - 1) - 1 < 0 ∨ lf ≠ treeF l f (k - 1) - 1 then -1 else treeF l f (treeF l f (k - 1) - 1) else if (k : Int) - 1 < 0 ∨ lf ≠ k - 1 then -1 else treeF l f (k - 1)) := Lib.hid (by
        rw [HT.out]
        unfold treeS
        simp only [HK0.out, false_or])
      clear HT HK0
      generalize kidsN kd = kk at *
      try clear b5
      clear b3
      rcases hk3 with rfl | rfl | rfl
      · by_cases b7 : rt = 0
        · by_cases b8 : lf = 0
          · have HN : Hid (treeF l (f + 1) (k : Int) = k) := Lib.hid (by rw [HTS.out, if_neg (by rw [HBN.out]; omega), if_pos rfl])
            have b9 : (rt != 0) = false := by simp [b7]
            have b10 : (lf != 0) = false := by simp [b8]
            clear HTS HBN b7 b8
            go_wp2_with fail
            refine (HKC.out _).mono ?_; rintro e W8 ⟨rfl, rfl⟩
            go_wp2_with fail
            go_ret
            rw [HN.out]
            exact ⟨rfl, HOW.out⟩
          · have HN : Hid (treeF l (f + 1) (k : Int) = -1) := Lib.hid (by rw [HTS.out, if_pos (by rw [HBN.out]; omega)])
            have b9 : (rt != 0) = false := by simp [b7]
            have b10 : (lf != 0) = true := by simpa using b8
            clear HTS HBN b7 b8
            go_wp2_with fail
            refine (HKC.out _).mono ?_; rintro e W8 ⟨rfl, rfl⟩
            go_wp2_with fail
            go_ret
            rw [HN.out]
            exact ⟨rfl, HOW.out⟩
        · have HN : Hid (treeF l (f + 1) (k : Int) = -1) := Lib.hid (by rw [HTS.out, if_pos (by rw [HBN.out]; omega)])
          have b9 : (rt != 0) = true := by simpa using b7
          clear HTS HBN b7
          go_wp2_with fail
          refine (HKC.out _).mono ?_; rintro e W8 ⟨rfl, rfl⟩
          go_wp2_with fail
          go_ret
          rw [HN.out]
          exact ⟨rfl, HOW.out⟩
      · by_cases b7 : rt = 0
        · have b9 : (rt != 0) = false := by simp [b7]
          by_cases b8 : (k : Int) - 1 < 0
          · have HN : Hid (treeF l (f + 1) (k : Int) = -1) := Lib.hid (by rw [HTS.out, if_neg (by rw [HBN.out]; omega), if_neg (by omega), if_neg (by omega), if_pos (Or.inl b8)])
            clear HTS HBN b7
            go_wp2_with fail
            refine (HKC.out _).mono ?_; rintro e W8 ⟨rfl, rfl⟩
            go_wp2_with fail
            go_ret
            rw [HN.out]
            exact ⟨rfl, HOW.out⟩
          · obtain ⟨n, rfl⟩ : ∃ n : Nat, k = n + 1 := ⟨k - 1, by omega⟩
            have e9 : ((n + 1 : Nat) : Int) - 1 = (n : Int) := by omega
            have HE9 := Lib.hid e9
            clear e9
            by_cases b11 : lf = (n : Int)
            · have HN : Hid (treeF l (f + 1) ((n + 1 : Nat) : Int) = treeF l f n) := Lib.hid (by
                rw [HTS.out, HE9.out, if_neg (by rw [HBN.out]; omega), if_neg (by omega), if_neg (by omega), if_neg (by omega)])
              have HI := Lib.hid (IH.out (n : Int) _ (HRW.out.up HOW.out) (by omega) (by have := HF.out; omega))
              clear HTS HBN IH b7 b8
              subst b11
              generalize treeF l (f + 1) ((n + 1 : Nat) : Int) = TT at *
              have jd : decide ((n : Int) < 0) = false := decide_eq_false (by omega)
              go_wp2_with fail
              refine (HKC.out _).mono ?_; rintro e W8 ⟨rfl, rfl⟩
              go_wp2_with fail
              refine (HI.out).mono ?_; rintro e W9 ⟨rfl, o9⟩
              have HO9 := Lib.hid (HOW.out.up o9)
              clear o9
              go_wp2_with fail
              go_ret
              rw [HN.out]
              exact ⟨rfl, HO9.out⟩
            · have HN : Hid (treeF l (f + 1) ((n + 1 : Nat) : Int) = -1) := Lib.hid (by
                rw [HTS.out, HE9.out, if_neg (by rw [HBN.out]; omega), if_neg (by omega), if_neg (by omega), if_pos (Or.inr b11)])
              have b12 : (lf != (n : Int)) = true := by simpa using b11
              clear HTS HBN IH b7 b8 b11
              generalize treeF l (f + 1) ((n + 1 : Nat) : Int) = TT at *
              have jd : decide ((n : Int) < 0) = false := decide_eq_false (by omega)
              go_wp2_with fail
              refine (HKC.out _).mono ?_; rintro e W8 ⟨rfl, rfl⟩
              go_wp2_with fail
              go_ret
              rw [HN.out]
              exact ⟨rfl, HOW.out⟩
        · have HN : Hid (treeF l (f + 1) (k : Int) = -1) := Lib.hid (by rw [HTS.out, if_pos (by rw [HBN.out]; omega)])
          have b9 : (rt != 0) = true := by simpa using b7
          clear HTS HBN b7
          go_wp2_with fail
          refine (HKC.out _).mono ?_; rintro e W8 ⟨rfl, rfl⟩
          go_wp2_with fail
          go_ret
          rw [HN.out]
          exact ⟨rfl, HOW.out⟩
      · by_cases b7 : rt = (k : Int) - 1
        · have htb := treeF_bd l f ((k : Int) - 1)
          have HI := Lib.hid (IH.out ((k : Int) - 1) _ (HRW.out.up HOW.out) (by omega) (by have := HF.out; omega))
          have HI2 := Lib.hid (fun (t : Int) W' o => IH.out t W' (HRW.out.up (HOW.out.up o)))
          have HTS2 : Hid (treeF l (f + 1) (k : Int) = if treeF l f (k - 1) - 1 < 0 ∨ lf ≠ treeF l f (k - 1) - 1 then -1 else treeF l f (treeF l f (k - 1) - 1)) := Lib.hid (by rw [HTS.out, if_neg (by rw [HBN.out]; omega), if_neg (by omega), if_pos rfl, if_neg (by omega)])
          clear HTS HBN IH
          subst b7
          generalize treeF l f ((k : Int) - 1) = T1 at *
          obtain ⟨t1, t2⟩ := htb
          have HT2 := Lib.hid t2
          have HT1 := Lib.hid t1
          clear t1 t2
          go_wp2_with fail
          refine (HKC.out _).mono ?_; rintro e W8 ⟨rfl, rfl⟩
          go_wp2_with fail
          refine (HI.out).mono ?_; rintro e W9 ⟨rfl, o9⟩
          have HO9 := Lib.hid (HOW.out.up o9)
          have HI3 := Lib.hid (fun t => HI2.out t W9 o9)
          replace d1 := o9.cell d1
          clear o9 HI HI2 d0 d2 d3 d4 d5 d6
          have hT1 : T1 = -1 ∨ T1 = 0 ∨ ∃ t : Nat, T1 = (t : Int) + 1 := by
            have := HT1.out
            rcases Int.lt_or_le T1 1 with h | h
            · omega
            · exact Or.inr (Or.inr ⟨(T1 - 1).toNat, by omega⟩)
          rcases hT1 with rfl | rfl | ⟨t, rfl⟩
          · have HN : Hid (treeF l (f + 1) (k : Int) = -1) := Lib.hid (by rw [HTS2.out, if_pos (by omega)])
            clear HTS2 HT1 HT2 HI3
            go_wp2_with fail
            go_ret
            rw [HN.out]
            exact ⟨rfl, HO9.out⟩
          · have HN : Hid (treeF l (f + 1) (k : Int) = -1) := Lib.hid (by rw [HTS2.out, if_pos (by omega)])
            clear HTS2 HT1 HT2 HI3
            go_wp2_with fail
            go_ret
            rw [HN.out]
            exact ⟨rfl, HO9.out⟩
          · have htk : (t : Int) + 1 ≤ k - 1 := HT2.out (by omega)
            have HTK := Lib.hid htk
            clear HT1 HT2
            have i10 : ((t + 1 : Nat) : Int) < 9223372036854775807 := by omega
            have i11 : (0 : Int) ≤ ((t + 1 : Nat) : Int) := by omega
            clear htk
            have e9 : (t : Int) + 1 - 1 = (t : Int) := by omega
            by_cases b8 : lf = (t : Int)
            · have HN : Hid (treeF l (f + 1) (k : Int) = treeF l f t) := Lib.hid (by rw [HTS2.out, e9, if_neg (by omega)])
              have HI4 := Lib.hid (HI3.out (t : Int) (by have := HTK.out; omega) (by have := HF.out; have := HTK.out; omega))
              clear HTS2 HI3 e9
              subst b8
              generalize treeF l (f + 1) (k : Int) = TT at *
              have jd : decide ((t : Int) < 0) = false := decide_eq_false (by omega)
              go_wp2_with fail
              refine (HI4.out).mono ?_; rintro e W10 ⟨rfl, o10⟩
              have HO10 := Lib.hid (HO9.out.up o10)
              clear o10
              go_wp2_with fail
              go_ret
              rw [HN.out]
              exact ⟨rfl, HO10.out⟩
            · have HN : Hid (treeF l (f + 1) (k : Int) = -1) := Lib.hid (by rw [HTS2.out, e9, if_pos (Or.inr b8)])
              have b12 : (lf != (t : Int)) = true := by simpa using b8
              clear HTS2 HI3 e9 b8
              generalize treeF l (f + 1) (k : Int) = TT at *
              have jd : decide ((t : Int) < 0) = false := decide_eq_false (by omega)
              go_wp2_with fail
              go_ret
              rw [HN.out]
              exact ⟨rfl, HO9.out⟩
        · have HN : Hid (treeF l (f + 1) (k : Int) = -1) := Lib.hid (by rw [HTS.out, if_neg (by rw [HBN.out]; omega), if_neg (by omega), if_pos rfl, if_pos b7])
          have b9 : (rt != (k : Int) - 1) = true := by simpa using b7
          clear HTS HBN b7
          go_wp2_with fail
          refine (HKC.out _).mono ?_; rintro e W8 ⟨rfl, rfl⟩
          go_wp2_with fail
          go_ret
          rw [HN.out]
          exact ⟨rfl, HOW.out⟩
    · have b6 : decide (st = 0) = false := by simp [b5]
      simp only [b6] at hz
      clear b6
      have HN : Hid (treeF l (f + 1) (k : Int) = -1) := Lib.hid (by rw [HT.out]; unfold treeS; exact if_pos (Or.inl (Or.inr (Or.inr ⟨b3, b5⟩))))
      clear HT
      go_wp2_with fail
      go_ret
      rw [HN.out]
      exact ⟨rfl, HOW.out⟩
end Go.Proofs.Ythadkjgadhbidaa
/-
  The reference's test of a list of nodes: its walk; it comes to the program's.
-/
namespace Go.Proofs.Ythadkjgadhbidaa
open Go.RowKit
set_option linter.unusedVariables false

set_option maxHeartbeats 4000000 in
set_option maxRecDepth 100000 in
theorem rvalidC (A : Option Addr) (c : Nat) (l : List Nd) (w : World) (hr : Rs w A (ndsV l)) (hm : l.length ≤ maxLen) (hso : ∀ x ∈ l, setOk x.set) :
    Calls Try.prog 16 #[.slice A l.length c] w (ValOld (.bool (validM l)) w) := by
  rw [← rvalid_eq]
  have HR := Lib.hid hr
  have HM := Lib.hid hm
  have HSO := Lib.hid hso
  clear hr hm hso
  by_cases h1 : 1 ≤ l.length
  · by_cases h2 : l.length ≤ 256
    · obtain ⟨n, hn⟩ : ∃ n, l.length = n + 1 := ⟨l.length - 1, by omega⟩
      have HT := Lib.hid (treeC A c l HM.out HSO.out l.length (n : Int) w HR.out (by omega) (by omega))
      have HV : Hid (rvalidM l = (treeF l l.length (n : Int) == 0)) := Lib.hid (by
        unfold rvalidM
        rw [Bool.eq_iff_iff, decide_eq_true_iff, beq_iff_eq, show (l.length : Int) - 1 = (n : Int) by omega]
        exact ⟨fun h => h.2.2, fun h => ⟨h1, h2, h⟩⟩)
      clear HR HM HSO
      generalize treeF l l.length (n : Int) = T at *
      generalize rvalidM l = R at *
      have i1 : (1 : Int) ≤ (l.length : Int) := by omega
      have i2 : (l.length : Int) ≤ 256 := by omega
      clear h1 h2
      generalize l.length = L at *
      subst hn
      by_cases hT : T = 0
      · have e : (T == 0) = true := by simpa using hT
        rw [e] at HV
        go_enter Try.func16, Try.ntmps16
        go_wp2_with fail
        refine (HT.out).mono ?_; rintro e w1 ⟨rfl, hd1⟩
        have HD := Lib.hid hd1
        clear hd1
        go_wp2_with fail
        go_ret
        rw [HV.out]
        exact ⟨rfl, HD.out⟩
      · have e : (T == 0) = false := by simpa using hT
        rw [e] at HV
        go_enter Try.func16, Try.ntmps16
        go_wp2_with fail
        refine (HT.out).mono ?_; rintro e w1 ⟨rfl, hd1⟩
        have HD := Lib.hid hd1
        clear hd1
        go_wp2_with fail
        go_ret
        rw [HV.out]
        exact ⟨rfl, HD.out⟩
    · have HV : Hid (rvalidM l = false) := Lib.hid (decide_eq_false (fun h => h2 h.2.1))
      have i1 : (1 : Int) ≤ (l.length : Int) := by omega
      have i2 : ¬ (l.length : Int) ≤ 256 := by omega
      go_enter Try.func16, Try.ntmps16
      go_wp2_with fail
      go_ret
      rw [HV.out]
      exact ⟨rfl, Old.refl _⟩
  · have HV : Hid (rvalidM l = false) := Lib.hid (decide_eq_false (fun h => h1 h.1))
    have i1 : ¬ (1 : Int) ≤ (l.length : Int) := by omega
    go_enter Try.func16, Try.ntmps16
    go_wp2_with fail
    go_ret
    rw [HV.out]
    exact ⟨rfl, Old.refl _⟩
end Go.Proofs.Ythadkjgadhbidaa
namespace Go.Proofs.Ythadkjgadhbidaa
open Go.RowKit
set_option linter.unusedVariables false

def StPost (w : World) (r : List Nd) (e : Ending) (w' : World) : Prop := ∃ v, e = .returned v ∧ Own w' w.heap.size 42 7 v r.length (ndsV r) ∧ Old w w'
theorem own_st (w : World) (x : Nd) : Own (w.alloc (.cells #[.int .i64 x.kind, .int .i64 x.left, .int .i64 x.right, .int .u64 (setW x.set 0), .int .u64 (setW x.set 1), .int .u64 (setW x.set 2), .int .u64 (setW x.set 3)] 42)) w.heap.size 42 7 (.slice (some ⟨w.heap.size, 0, none⟩) 1 1) 1 (ndsV [x]) :=
  own_new w #[.int .i64 x.kind, .int .i64 x.left, .int .i64 x.right, .int .u64 (setW x.set 0), .int .u64 (setW x.set 1), .int .u64 (setW x.set 2), .int .u64 (setW x.set 3)] 1 7 42 (by decide) rfl
theorem own_st0 (w : World) (k a b : Int) : Own (w.alloc (.cells #[.int .i64 k, .int .i64 a, .int .i64 b, .int .u64 0, .int .u64 0, .int .u64 0, .int .u64 0] 42)) w.heap.size 42 7 (.slice (some ⟨w.heap.size, 0, none⟩) 1 1) 1 (ndsV [⟨k, a, b, 0⟩]) := by
  have := own_st w ⟨k, a, b, 0⟩
  simp only [setW_zero] at this
  exact this
theorem ndsV_append (a b : List Nd) : ndsV (a ++ b) = ndsV a ++ ndsV b := by unfold ndsV; rw [List.flatMap_append]
theorem own_st_len {w : World} {B n : Nat} {v : Value} {R : List Nd} (h : Own w B 42 7 v n (ndsV R)) : Own w B 42 7 v R.length (ndsV R) := by
  have := h.len
  rw [ndsV_length] at this
  rwa [show R.length = n by omega]
set_option maxHeartbeats 8000000 in
set_option maxRecDepth 100000 in
theorem rbuildC (An : Option Addr) (cn : Nat) (l : List Nd) (hl : l.length ≤ 256) {a n : Nat} (hs : Sub l a n) :
    ∀ (f at_ : Nat) (w : World), n < f → at_ + 2 * (n + 1 - a) ≤ 1000 → Rs w An (ndsV l) →
    Calls Try.prog 41 #[.slice An l.length cn, .int .i64 (n : Int), .int .i64 (at_ : Int)] w (StPost w (rbF l f n at_)) := by
  have HLL := Lib.hid hl
  clear hl
  induction hs with
  | leaf n h hk h1 h2 h3 =>
    intro f at_ w hf hat hr
    obtain ⟨f, rfl⟩ : ∃ g, f = g + 1 := ⟨f - 1, by omega⟩
    have hP : rbF l (f + 1) n at_ = if (nd l n).kind = 2 then [⟨1, (at_ : Int) + 1, 0, (nd l n).set⟩] else if (nd l n).kind = 8 then [⟨3, (at_ : Int) + 1, 0, 0⟩] else if (nd l n).kind = 9 then [⟨4, (at_ : Int) + 1, 0, 0⟩] else if (nd l n).kind = 1 then [⟨2, (at_ : Int) + 1, (at_ : Int) + 1, 0⟩] else [] := by
      rw [rbF, if_neg (show ¬ (nd l n).kind = 3 by omega), if_neg (show ¬ (nd l n).kind = 4 by omega), if_neg (show ¬ (nd l n).kind = 5 by omega), if_neg (show ¬ (nd l n).kind = 6 by omega)]
      by_cases k1 : (nd l n).kind = 1
      · rw [if_pos k1, if_pos k1]; rfl
      · rw [if_neg k1, if_neg k1]
        by_cases k2 : (nd l n).kind = 2
        · rw [if_pos k2, if_pos k2]; rfl
        · rw [if_neg k2, if_neg k2]
          by_cases k8 : (nd l n).kind = 8
          · rw [if_pos k8, if_pos k8]; rfl
          · rw [if_neg k8, if_neg k8, if_pos (by omega), if_pos (by omega)]; rfl
    have HP := Lib.hid hP
    clear hP hf h1 h2 h3
    have hx : l[n]? = some (nd l n) := by unfold nd; rw [List.getD_eq_getElem?_getD, List.getElem?_eq_getElem h]; rfl
    have HRW := Lib.hid hr
    obtain ⟨b, off, rfl, hbl, hcl⟩ := hr.at_ (by rw [ndsV_length]; omega)
    have hg := ndsV_get l n _ hx
    have c0 := hcl _ _ (hg 0 (by omega))
    have c1 := hcl _ _ (hg 1 (by omega))
    have c2 := hcl _ _ (hg 2 (by omega))
    have c3 := hcl _ _ (hg 3 (by omega))
    have c4 := hcl _ _ (hg 4 (by omega))
    have c5 := hcl _ _ (hg 5 (by omega))
    have c6 := hcl _ _ (hg 6 (by omega))
    rw [← Nat.add_assoc] at c0 c1 c2 c3 c4 c5 c6
    rw [Nat.add_zero] at c0
    have i0 : (0 : Int) ≤ ((n : Nat) : Int) := by omega
    have i1 : ((n : Nat) : Int) < (l.length : Int) := by omega
    clear hx hg hcl hbl hr
    generalize nd l n = y at *
    obtain ⟨kd, lf, rt, st⟩ := y
    simp only at hk HP
    replace c0 : w.cell? ⟨b, off + n * 7, none⟩ = some (.int .i64 kd) := c0
    replace c1 : w.cell? ⟨b, off + n * 7 + 1, none⟩ = some (.int .i64 lf) := c1
    replace c2 : w.cell? ⟨b, off + n * 7 + 2, none⟩ = some (.int .i64 rt) := c2
    replace c3 : w.cell? ⟨b, off + n * 7 + 3, none⟩ = some (.int .u64 (setW st 0)) := c3
    replace c4 : w.cell? ⟨b, off + n * 7 + 4, none⟩ = some (.int .u64 (setW st 1)) := c4
    replace c5 : w.cell? ⟨b, off + n * 7 + 5, none⟩ = some (.int .u64 (setW st 2)) := c5
    replace c6 : w.cell? ⟨b, off + n * 7 + 6, none⟩ = some (.int .u64 (setW st 3)) := c6
    go_enter Try.func41, Try.ntmps41
    go_upto_region 2 with fail
    have hk7 : NdAt (w.alloc (.cells (ndCells ⟨kd, lf, rt, st⟩).toArray 114)) w.heap.size ⟨kd, lf, rt, st⟩ := heap_alloc_new w _
    have HOW := Lib.hid ((Old.refl w).alloc (.cells (ndCells ⟨kd, lf, rt, st⟩).toArray 114))
    generalize hWW : w.alloc (.cells #[.int .i64 kd, .int .i64 lf, .int .i64 rt, .int .u64 (setW st 0), .int .u64 (setW st 1), .int .u64 (setW st 2), .int .u64 (setW st 3)] 114) = W
    have hWW' : w.alloc (.cells (ndCells ⟨kd, lf, rt, st⟩).toArray 114) = W := hWW
    rw [hWW'] at hk7 HOW
    clear hWW hWW' c0 c1 c2 c3 c4 c5 c6
    obtain ⟨d0, d1, d2, d3, d4, d5, d6⟩ := hk7.cells
    simp only at d0 d1 d2 d3 d4 d5 d6
    have HK := Lib.hid hk7
    clear hk7
    have HBS := Lib.hid HOW.out.size
    generalize hk7 : w.heap.size = k7 at *
    rcases hk with rfl | rfl | rfl | rfl
    · have HE : Hid (rbF l (f + 1) n at_ = [⟨2, (at_ : Int) + 1, (at_ : Int) + 1, 0⟩]) := Lib.hid (by rw [HP.out]; rfl)
      have HO := Lib.hid (own_st0 W 2 ((at_ : Int) + 1) ((at_ : Int) + 1))
      clear HP HK
      go_wp2_with fail
      go_ret
      rw [HE.out]
      exact ⟨_, rfl, HO.out.base (by rw [hk7]; exact HBS.out), HOW.out.alloc _⟩
    · have HE : Hid (rbF l (f + 1) n at_ = [⟨1, (at_ : Int) + 1, 0, st⟩]) := Lib.hid (by rw [HP.out]; rfl)
      have HO := Lib.hid (own_st W ⟨1, (at_ : Int) + 1, 0, st⟩)
      clear HP HK
      go_wp2_with fail
      go_ret
      rw [HE.out]
      exact ⟨_, rfl, HO.out.base (by rw [hk7]; exact HBS.out), HOW.out.alloc _⟩
    · have HE : Hid (rbF l (f + 1) n at_ = [⟨3, (at_ : Int) + 1, 0, 0⟩]) := Lib.hid (by rw [HP.out]; rfl)
      have HO := Lib.hid (own_st0 W 3 ((at_ : Int) + 1) 0)
      clear HP HK
      go_wp2_with fail
      go_ret
      rw [HE.out]
      exact ⟨_, rfl, HO.out.base (by rw [hk7]; exact HBS.out), HOW.out.alloc _⟩
    · have HE : Hid (rbF l (f + 1) n at_ = [⟨4, (at_ : Int) + 1, 0, 0⟩]) := Lib.hid (by rw [HP.out]; rfl)
      have HO := Lib.hid (own_st0 W 4 ((at_ : Int) + 1) 0)
      clear HP HK
      go_wp2_with fail
      go_ret
      rw [HE.out]
      exact ⟨_, rfl, HO.out.base (by rw [hk7]; exact HBS.out), HOW.out.alloc _⟩
  | one a n h hk h1 h2 h3 hs ih =>
    intro f at_ w hf hat hr
    obtain ⟨f, rfl⟩ : ∃ g, f = g + 1 := ⟨f - 1, by omega⟩
    have hle := hs.le
    have hL : (nd l (n + 1)).left.toNat = n := by omega
    have hP : rbF l (f + 1) (n + 1) at_ = if (nd l (n + 1)).kind = 5 then [⟨2, (at_ : Int) + 1, (at_ : Int) + 2 + ((rbF l f n (at_ + 1)).length : Int), 0⟩] ++ rbF l f n (at_ + 1) ++ [⟨2, (at_ : Int), (at_ : Int), 0⟩] else if (nd l (n + 1)).kind = 6 then rbF l f n at_ ++ [⟨2, (at_ : Int), (at_ : Int) + 1 + ((rbF l f n at_).length : Int), 0⟩] else [⟨2, (at_ : Int) + 1, (at_ : Int) + 1 + ((rbF l f n (at_ + 1)).length : Int), 0⟩] ++ rbF l f n (at_ + 1) := by
      rw [rbF, if_neg (by omega), if_neg (by omega), if_neg (by omega), if_neg (by omega), if_neg (by omega), if_neg (by omega), hL]
      by_cases k5 : (nd l (n + 1)).kind = 5
      · rw [if_pos k5, if_pos k5]; rfl
      · rw [if_neg k5, if_neg k5]
        by_cases k6 : (nd l (n + 1)).kind = 6
        · rw [if_pos k6, if_pos k6]; rfl
        · rw [if_neg k6, if_neg k6]; rfl
    have HP := Lib.hid hP
    have HIH := Lib.hid ih
    have HMD := Lib.hid (fun at_ => rbF_made hs f at_ (by omega))
    have hal := hle.1
    have HSZ : Hid (at_ + 2 * (n + 1 - a) + 2 ≤ 1000 ∧ 2 * (n + 1 - a) ≤ 1000) := Lib.hid (by omega)
    have hat1 : at_ ≤ 1000 := by omega
    have HF0 : Hid (n < f) := Lib.hid (by omega)
    have H1 := Lib.hid h1
    clear hP hf hat hL ih h1 h2 h3
    have hx : l[(n + 1)]? = some (nd l (n + 1)) := by unfold nd; rw [List.getD_eq_getElem?_getD, List.getElem?_eq_getElem h]; rfl
    have HRW := Lib.hid hr
    obtain ⟨b, off, rfl, hbl, hcl⟩ := hr.at_ (by rw [ndsV_length]; omega)
    have hg := ndsV_get l (n + 1) _ hx
    have c0 := hcl _ _ (hg 0 (by omega))
    have c1 := hcl _ _ (hg 1 (by omega))
    have c2 := hcl _ _ (hg 2 (by omega))
    have c3 := hcl _ _ (hg 3 (by omega))
    have c4 := hcl _ _ (hg 4 (by omega))
    have c5 := hcl _ _ (hg 5 (by omega))
    have c6 := hcl _ _ (hg 6 (by omega))
    rw [← Nat.add_assoc] at c0 c1 c2 c3 c4 c5 c6
    rw [Nat.add_zero] at c0
    have i0 : (0 : Int) ≤ (((n + 1) : Nat) : Int) := by omega
    have i1 : (((n + 1) : Nat) : Int) < (l.length : Int) := by omega
    clear hx hg hcl hbl hr
    generalize nd l (n + 1) = y at *
    obtain ⟨kd, lf, rt, st⟩ := y
    simp only at hk HP
    replace c0 : w.cell? ⟨b, off + (n + 1) * 7, none⟩ = some (.int .i64 kd) := c0
    replace c1 : w.cell? ⟨b, off + (n + 1) * 7 + 1, none⟩ = some (.int .i64 lf) := c1
    replace c2 : w.cell? ⟨b, off + (n + 1) * 7 + 2, none⟩ = some (.int .i64 rt) := c2
    replace c3 : w.cell? ⟨b, off + (n + 1) * 7 + 3, none⟩ = some (.int .u64 (setW st 0)) := c3
    replace c4 : w.cell? ⟨b, off + (n + 1) * 7 + 4, none⟩ = some (.int .u64 (setW st 1)) := c4
    replace c5 : w.cell? ⟨b, off + (n + 1) * 7 + 5, none⟩ = some (.int .u64 (setW st 2)) := c5
    replace c6 : w.cell? ⟨b, off + (n + 1) * 7 + 6, none⟩ = some (.int .u64 (setW st 3)) := c6
    go_enter Try.func41, Try.ntmps41
    go_upto_region 2 with fail
    have hk7 : NdAt (w.alloc (.cells (ndCells ⟨kd, lf, rt, st⟩).toArray 114)) w.heap.size ⟨kd, lf, rt, st⟩ := heap_alloc_new w _
    have HOW := Lib.hid ((Old.refl w).alloc (.cells (ndCells ⟨kd, lf, rt, st⟩).toArray 114))
    generalize hWW : w.alloc (.cells #[.int .i64 kd, .int .i64 lf, .int .i64 rt, .int .u64 (setW st 0), .int .u64 (setW st 1), .int .u64 (setW st 2), .int .u64 (setW st 3)] 114) = W
    have hWW' : w.alloc (.cells (ndCells ⟨kd, lf, rt, st⟩).toArray 114) = W := hWW
    rw [hWW'] at hk7 HOW
    clear hWW hWW' c0 c1 c2 c3 c4 c5 c6
    obtain ⟨d0, d1, d2, d3, d4, d5, d6⟩ := hk7.cells
    simp only at d0 d1 d2 d3 d4 d5 d6
    have HK := Lib.hid hk7
    clear hk7
    have HBS := Lib.hid HOW.out.size
    generalize hk7 : w.heap.size = k7 at *
    have h1 : lf = (n : Int) := H1.out
    subst h1
    rcases hk with rfl | rfl | rfl
    · have HE0 : Hid (∀ r, rbF l f n (at_ + 1) = r → rbF l (f + 1) (n + 1) at_ = [⟨2, (at_ : Int) + 1, (at_ : Int) + 2 + (r.length : Int), 0⟩] ++ r ++ [⟨2, (at_ : Int), (at_ : Int), 0⟩]) := Lib.hid (fun r e => by rw [HP.out, e]; rfl)
      clear HP
      have HC : Calls Try.prog 41 #[.slice (some ⟨b, off, none⟩) l.length cn, .int .i64 (n : Int), .int .i64 ((at_ : Int) + 1)] W (StPost W (rbF l f n (at_ + 1))) := HIH.out f (at_ + 1) W HF0.out (by have := HSZ.out; omega) (HRW.out.up HOW.out)
      have hm := (HMD.out (at_ + 1)).few
      have he := HE0.out
      generalize rbF l f n (at_ + 1) = r at *
      have HE := Lib.hid (he r rfl)
      have hlr : r.length ≤ 1000 := by have := HSZ.out; omega
      have HCC := Lib.hid HC
      clear HC he HE0 HIH HMD hm HRW
      go_wp2_with fail
      refine (HCC.out).mono ?_; rintro e w2 ⟨v2, rfl, ho2, hd2⟩
      obtain ⟨A2, c2, rfl, ht2, _, _⟩ := ho2.shape
      have HO2 := Lib.hid ho2
      have HR2 := Lib.hid ht2.rs
      have HB2 := Lib.hid hd2.size
      have HD2 := Lib.hid (HOW.out.up hd2)
      have HW2 := Lib.hid HOW.out.size
      clear ho2 ht2 hd2 HCC HOW HK d0 d1 d2 d3 d4 d5 d6
      go_wp2_with (at_builtin; refine wpList_pushAll rfl _ _ 28 rfl _ 42 (.agg #[.int .i64 0, .int .i64 0, .int .i64 0, .int .u64 0, .int .u64 0, .int .u64 0, .int .u64 0]) 7 56 Try.underlying28 info_st rfl (by decide) (by decide) _ _ _ (by rfl) (own_st0 w2 2 ((at_ : Int) + 1) ((at_ : Int) + 2 + (r.length : Int))) _ _ _ _ (by rfl) (HR2.out.alloc _) (ndsV_length _) (ndsV_one _) ?pn4 (by simp) ?_)
      case pn4 => omega
      intro v3 w3 ho3 hg3 hd3
      rw [← ndsV_append] at ho3
      obtain ⟨A3, c3, rfl, ht3, _, _⟩ := ho3.shape
      have hd3' := hd3 w2 ((Old.refl w2).alloc _) (Nat.le_refl _)
      have HO3 := Lib.hid ho3
      have HD3 := Lib.hid hd3'
      have HB3 := Lib.hid hd3'.size
      clear ho3 ht3 hg3 hd3 hd3' HO2 HR2
      go_wp2_with (at_builtin; refine wpList_push (wr := w3) rfl _ _ 28 rfl _ 42 (.agg #[.int .i64 0, .int .i64 0, .int .i64 0, .int .u64 0, .int .u64 0, .int .u64 0, .int .u64 0]) 7 56 Try.underlying28 info_st rfl (by decide) (by decide) _ _ _ rfl HO3.out 1 1 [.int .i64 2, .int .i64 (at_ : Int), .int .i64 (at_ : Int), .int .u64 0, .int .u64 0, .int .u64 0, .int .u64 0] rfl rfl rfl rfl ?pn1 HB3.out ?_)
      case pn1 => omega
      intro v4 w4 ho4 hg4 hd4
      have ho4' : Own w4 w2.heap.size 42 7 v4 (1 + r.length + 1) (ndsV (([⟨2, (at_ : Int) + 1, (at_ : Int) + 2 + (r.length : Int), 0⟩] ++ r) ++ [⟨2, (at_ : Int), (at_ : Int), 0⟩])) := by
        rw [ndsV_append _ [_]]
        have e : ndsV [(⟨2, (at_ : Int), (at_ : Int), 0⟩ : Nd)] = [.int .i64 2, .int .i64 (at_ : Int), .int .i64 (at_ : Int), .int .u64 0, .int .u64 0, .int .u64 0, .int .u64 0] := by simp [ndsV, ndCells, setW_zero]
        rw [e]; exact ho4
      have HO4 := Lib.hid ho4'
      have HD4 := Lib.hid (hd4 w2 HD3.out (Nat.le_refl _))
      clear ho4 ho4' hg4 hd4 HO3 HD3
      go_wp2_with fail
      go_ret
      rw [HE.out]
      exact ⟨_, rfl, (own_st_len HO4.out).base (HD2.out.size), HD2.out.up HD4.out⟩
    · have HE0 : Hid (∀ r, rbF l f n at_ = r → rbF l (f + 1) (n + 1) at_ = r ++ [⟨2, (at_ : Int), (at_ : Int) + 1 + (r.length : Int), 0⟩]) := Lib.hid (fun r e => by rw [HP.out, e]; rfl)
      clear HP
      have HC : Calls Try.prog 41 #[.slice (some ⟨b, off, none⟩) l.length cn, .int .i64 (n : Int), .int .i64 ((at_ : Int))] W (StPost W (rbF l f n (at_))) := HIH.out f (at_) W HF0.out (by have := HSZ.out; omega) (HRW.out.up HOW.out)
      have hm := (HMD.out (at_)).few
      have he := HE0.out
      generalize rbF l f n (at_) = r at *
      have HE := Lib.hid (he r rfl)
      have hlr : r.length ≤ 1000 := by have := HSZ.out; omega
      have HCC := Lib.hid HC
      clear HC he HE0 HIH HMD hm HRW
      go_wp2_with fail
      refine (HCC.out).mono ?_; rintro e w2 ⟨v2, rfl, ho2, hd2⟩
      obtain ⟨A2, c2, rfl, ht2, _, _⟩ := ho2.shape
      have HO2 := Lib.hid ho2
      have HR2 := Lib.hid ht2.rs
      have HB2 := Lib.hid hd2.size
      have HD2 := Lib.hid (HOW.out.up hd2)
      have HW2 := Lib.hid HOW.out.size
      clear ho2 ht2 hd2 HCC HOW HK d0 d1 d2 d3 d4 d5 d6
      go_wp2_with (at_builtin; refine wpList_push (wr := w2) rfl _ _ 28 rfl _ 42 (.agg #[.int .i64 0, .int .i64 0, .int .i64 0, .int .u64 0, .int .u64 0, .int .u64 0, .int .u64 0]) 7 56 Try.underlying28 info_st rfl (by decide) (by decide) _ _ _ rfl HO2.out 1 1 [.int .i64 2, .int .i64 (at_ : Int), .int .i64 ((at_ : Int) + 1 + (r.length : Int)), .int .u64 0, .int .u64 0, .int .u64 0, .int .u64 0] rfl rfl rfl rfl ?pn2 HB2.out ?_)
      case pn2 => omega
      intro v4 w4 ho4 hg4 hd4
      have ho4' : Own w4 W.heap.size 42 7 v4 (r.length + 1) (ndsV (r ++ [⟨2, (at_ : Int), (at_ : Int) + 1 + (r.length : Int), 0⟩])) := by
        rw [ndsV_append _ [_]]
        have e : ndsV [(⟨2, (at_ : Int), (at_ : Int) + 1 + (r.length : Int), 0⟩ : Nd)] = [.int .i64 2, .int .i64 (at_ : Int), .int .i64 ((at_ : Int) + 1 + (r.length : Int)), .int .u64 0, .int .u64 0, .int .u64 0, .int .u64 0] := by simp [ndsV, ndCells, setW_zero]
        rw [e]; exact ho4
      have HO4 := Lib.hid ho4'
      have HD4 := Lib.hid (hd4 w HD2.out HW2.out)
      clear ho4 ho4' hg4 hd4 HO2
      go_wp2_with fail
      go_ret
      rw [HE.out]
      exact ⟨_, rfl, (own_st_len HO4.out).base (HW2.out), HD4.out⟩
    · have HE0 : Hid (∀ r, rbF l f n (at_ + 1) = r → rbF l (f + 1) (n + 1) at_ = [⟨2, (at_ : Int) + 1, (at_ : Int) + 1 + (r.length : Int), 0⟩] ++ r) := Lib.hid (fun r e => by rw [HP.out, e]; rfl)
      clear HP
      have HC : Calls Try.prog 41 #[.slice (some ⟨b, off, none⟩) l.length cn, .int .i64 (n : Int), .int .i64 ((at_ : Int) + 1)] W (StPost W (rbF l f n (at_ + 1))) := HIH.out f (at_ + 1) W HF0.out (by have := HSZ.out; omega) (HRW.out.up HOW.out)
      have hm := (HMD.out (at_ + 1)).few
      have he := HE0.out
      generalize rbF l f n (at_ + 1) = r at *
      have HE := Lib.hid (he r rfl)
      have hlr : r.length ≤ 1000 := by have := HSZ.out; omega
      have HCC := Lib.hid HC
      clear HC he HE0 HIH HMD hm HRW
      go_wp2_with fail
      refine (HCC.out).mono ?_; rintro e w2 ⟨v2, rfl, ho2, hd2⟩
      obtain ⟨A2, c2, rfl, ht2, _, _⟩ := ho2.shape
      have HO2 := Lib.hid ho2
      have HR2 := Lib.hid ht2.rs
      have HB2 := Lib.hid hd2.size
      have HD2 := Lib.hid (HOW.out.up hd2)
      have HW2 := Lib.hid HOW.out.size
      clear ho2 ht2 hd2 HCC HOW HK d0 d1 d2 d3 d4 d5 d6
      go_wp2_with (at_builtin; refine wpList_pushAll rfl _ _ 28 rfl _ 42 (.agg #[.int .i64 0, .int .i64 0, .int .i64 0, .int .u64 0, .int .u64 0, .int .u64 0, .int .u64 0]) 7 56 Try.underlying28 info_st rfl (by decide) (by decide) _ _ _ (by rfl) (own_st0 w2 2 ((at_ : Int) + 1) ((at_ : Int) + 1 + (r.length : Int))) _ _ _ _ (by rfl) (HR2.out.alloc _) (ndsV_length _) (ndsV_one _) ?pn5 (by simp) ?_)
      case pn5 => omega
      intro v3 w3 ho3 hg3 hd3
      rw [← ndsV_append] at ho3
      have HO3 := Lib.hid ho3
      have HD3 := Lib.hid (hd3 w2 ((Old.refl w2).alloc _) (Nat.le_refl _))
      clear ho3 hg3 hd3 HO2 HR2
      go_wp2_with fail
      go_ret
      rw [HE.out]
      exact ⟨_, rfl, (own_st_len HO3.out).base (HD2.out.size), HD2.out.up HD3.out⟩
  | two a m n h hk h1 h2 h3 hs1 hs2 i1 i2 =>
    intro f at_ w hf hat hr
    obtain ⟨f, rfl⟩ : ∃ g, f = g + 1 := ⟨f - 1, by omega⟩
    have hle1 := hs1.le
    have hle2 := hs2.le
    have hL : (nd l (n + 1)).left.toNat = m := by omega
    have hR : (nd l (n + 1)).right.toNat = n := by omega
    have hP : ∀ r s, rbF l f m (if (nd l (n + 1)).kind = 3 then at_ else at_ + 1) = r → rbF l f n (if (nd l (n + 1)).kind = 3 then at_ + r.length else at_ + 2 + r.length) = s → rbF l (f + 1) (n + 1) at_ = if (nd l (n + 1)).kind = 3 then r ++ s else [⟨2, (at_ : Int) + 1, (at_ : Int) + 2 + (r.length : Int), 0⟩] ++ r ++ [⟨2, (at_ : Int) + 2 + (r.length : Int) + (s.length : Int), (at_ : Int) + 2 + (r.length : Int) + (s.length : Int), 0⟩] ++ s := by
      intro r s hr1 hs1'
      rw [rbF, if_neg (by omega), if_neg (by omega), if_neg (by omega), if_neg (by omega), hL, hR]
      by_cases k3 : (nd l (n + 1)).kind = 3
      · rw [if_pos k3] at hr1 hs1'
        subst hr1
        subst hs1'
        rw [if_pos k3, if_pos k3]
      · rw [if_neg k3] at hr1 hs1'
        subst hr1
        subst hs1'
        rw [if_neg k3, if_neg k3, if_pos (by omega)]
        rfl
    have HP := Lib.hid hP
    have HI1 := Lib.hid i1
    have HI2 := Lib.hid i2
    have HM1 := Lib.hid (fun at_ => rbF_made hs1 f at_ (by omega))
    have HM2 := Lib.hid (fun at_ => rbF_made hs2 f at_ (by omega))
    have HSZ : Hid (at_ + 2 * (n + 1 + 1 - a) ≤ 1000) := Lib.hid hat
    have hat1 : at_ ≤ 1000 := by omega
    have HF0 : Hid (n < f ∧ m < f ∧ a ≤ m ∧ m < n) := Lib.hid (by omega)
    have H1 := Lib.hid h1
    have H2 := Lib.hid h2
    clear hP hf hat hL hR i1 i2 h1 h2 h3
    have hx : l[(n + 1)]? = some (nd l (n + 1)) := by unfold nd; rw [List.getD_eq_getElem?_getD, List.getElem?_eq_getElem h]; rfl
    have HRW := Lib.hid hr
    obtain ⟨b, off, rfl, hbl, hcl⟩ := hr.at_ (by rw [ndsV_length]; omega)
    have hg := ndsV_get l (n + 1) _ hx
    have c0 := hcl _ _ (hg 0 (by omega))
    have c1 := hcl _ _ (hg 1 (by omega))
    have c2 := hcl _ _ (hg 2 (by omega))
    have c3 := hcl _ _ (hg 3 (by omega))
    have c4 := hcl _ _ (hg 4 (by omega))
    have c5 := hcl _ _ (hg 5 (by omega))
    have c6 := hcl _ _ (hg 6 (by omega))
    rw [← Nat.add_assoc] at c0 c1 c2 c3 c4 c5 c6
    rw [Nat.add_zero] at c0
    have i0 : (0 : Int) ≤ (((n + 1) : Nat) : Int) := by omega
    have i1 : (((n + 1) : Nat) : Int) < (l.length : Int) := by omega
    clear hx hg hcl hbl hr
    generalize nd l (n + 1) = y at *
    obtain ⟨kd, lf, rt, st⟩ := y
    simp only at hk HP
    replace c0 : w.cell? ⟨b, off + (n + 1) * 7, none⟩ = some (.int .i64 kd) := c0
    replace c1 : w.cell? ⟨b, off + (n + 1) * 7 + 1, none⟩ = some (.int .i64 lf) := c1
    replace c2 : w.cell? ⟨b, off + (n + 1) * 7 + 2, none⟩ = some (.int .i64 rt) := c2
    replace c3 : w.cell? ⟨b, off + (n + 1) * 7 + 3, none⟩ = some (.int .u64 (setW st 0)) := c3
    replace c4 : w.cell? ⟨b, off + (n + 1) * 7 + 4, none⟩ = some (.int .u64 (setW st 1)) := c4
    replace c5 : w.cell? ⟨b, off + (n + 1) * 7 + 5, none⟩ = some (.int .u64 (setW st 2)) := c5
    replace c6 : w.cell? ⟨b, off + (n + 1) * 7 + 6, none⟩ = some (.int .u64 (setW st 3)) := c6
    go_enter Try.func41, Try.ntmps41
    go_upto_region 2 with fail
    have hk7 : NdAt (w.alloc (.cells (ndCells ⟨kd, lf, rt, st⟩).toArray 114)) w.heap.size ⟨kd, lf, rt, st⟩ := heap_alloc_new w _
    have HOW := Lib.hid ((Old.refl w).alloc (.cells (ndCells ⟨kd, lf, rt, st⟩).toArray 114))
    generalize hWW : w.alloc (.cells #[.int .i64 kd, .int .i64 lf, .int .i64 rt, .int .u64 (setW st 0), .int .u64 (setW st 1), .int .u64 (setW st 2), .int .u64 (setW st 3)] 114) = W
    have hWW' : w.alloc (.cells (ndCells ⟨kd, lf, rt, st⟩).toArray 114) = W := hWW
    rw [hWW'] at hk7 HOW
    clear hWW hWW' c0 c1 c2 c3 c4 c5 c6
    obtain ⟨d0, d1, d2, d3, d4, d5, d6⟩ := hk7.cells
    simp only at d0 d1 d2 d3 d4 d5 d6
    have HK := Lib.hid hk7
    clear hk7
    have HBS := Lib.hid HOW.out.size
    generalize hk7 : w.heap.size = k7 at *
    have h1 : lf = (m : Int) := H1.out
    have h2 : rt = (n : Int) := H2.out
    subst h1
    subst h2
    rcases hk with rfl | rfl
    · have HE0 : Hid (∀ r s, rbF l f m at_ = r → rbF l f n (at_ + r.length) = s → rbF l (f + 1) (n + 1) at_ = r ++ s) := Lib.hid (fun r s e1 e2 => HP.out r s e1 e2)
      clear HP
      have HC : Calls Try.prog 41 #[.slice (some ⟨b, off, none⟩) l.length cn, .int .i64 (m : Int), .int .i64 ((at_ : Int))] W (StPost W (rbF l f m (at_))) := HI1.out f (at_) W HF0.out.2.1 (by have := HSZ.out; have := HF0.out; omega) (HRW.out.up HOW.out)
      have hm := (HM1.out (at_)).few
      have he := HE0.out
      clear HE0 HI1
      generalize rbF l f m (at_) = r at *
      have hlr : r.length ≤ 1000 := by have := HSZ.out; have := HF0.out; omega
      have HC2 : ∀ w', Old w w' → Calls Try.prog 41 #[.slice (some ⟨b, off, none⟩) l.length cn, .int .i64 (n : Int), .int .i64 ((at_ : Int) + (r.length : Int))] w' (StPost w' (rbF l f n (at_ + r.length))) := fun w' h => HI2.out f (at_ + r.length) w' HF0.out.1 (by have := HSZ.out; have := HF0.out; omega) (HRW.out.up h)
      have hm2 := (HM2.out (at_ + r.length)).few
      replace he := he r _ rfl rfl
      generalize rbF l f n (at_ + r.length) = s at *
      have hls : s.length ≤ 1000 := by have := HSZ.out; have := HF0.out; omega
      have HE := Lib.hid he
      have HCC := Lib.hid HC
      have HCC2 := Lib.hid HC2
      clear HC HC2 he HI2 HM1 HM2 hm hm2 HRW
      go_wp2_with fail
      refine (HCC.out).mono ?_; rintro e w2 ⟨v2, rfl, ho2, hd2⟩
      obtain ⟨A2, c2, rfl, ht2, _, _⟩ := ho2.shape
      have e2 := hd2.cell d2
      have HO2 := Lib.hid ho2
      have HR2 := Lib.hid ht2.rs
      have HB2 := Lib.hid hd2.size
      have HD2 := Lib.hid (HOW.out.up hd2)
      have HW2 := Lib.hid HOW.out.size
      clear ho2 ht2 hd2 HCC HOW HK d0 d1 d2 d3 d4 d5 d6
      go_wp2_with fail
      refine ((HCC2.out _ HD2.out)).mono ?_; rintro e w3 ⟨v3, rfl, ho3, hd3⟩
      obtain ⟨A3, c3, rfl, ht3, _, _⟩ := ho3.shape
      have HR3 := Lib.hid ht3.rs
      have HB3 := Lib.hid hd3
      clear ho3 ht3 hd3 HCC2 e2
      go_wp2_with (at_builtin; refine wpList_pushAll rfl _ _ 28 rfl _ 42 (.agg #[.int .i64 0, .int .i64 0, .int .i64 0, .int .u64 0, .int .u64 0, .int .u64 0, .int .u64 0]) 7 56 Try.underlying28 info_st rfl (by decide) (by decide) _ _ _ (by rfl) (HO2.out.up HB3.out) _ _ _ _ (by rfl) HR3.out (ndsV_length _) (ndsV_one _) ?pn6 (Nat.le_trans HB2.out HB3.out.size) ?_)
      case pn6 => omega
      intro v4 w4 ho4 hg4 hd4
      rw [← ndsV_append] at ho4
      have HO4 := Lib.hid ho4
      have HD4 := Lib.hid (hd4 w (HD2.out.up HB3.out) HW2.out)
      clear ho4 hg4 hd4 HO2 HR2 HR3
      go_wp2_with fail
      go_ret
      rw [HE.out]
      exact ⟨_, rfl, (own_st_len HO4.out).base (HW2.out), HD4.out⟩
    · have HE0 : Hid (∀ r s, rbF l f m (at_ + 1) = r → rbF l f n (at_ + 2 + r.length) = s → rbF l (f + 1) (n + 1) at_ = [⟨2, (at_ : Int) + 1, (at_ : Int) + 2 + (r.length : Int), 0⟩] ++ r ++ [⟨2, (at_ : Int) + 2 + (r.length : Int) + (s.length : Int), (at_ : Int) + 2 + (r.length : Int) + (s.length : Int), 0⟩] ++ s) := Lib.hid (fun r s e1 e2 => HP.out r s e1 e2)
      clear HP
      have HC : Calls Try.prog 41 #[.slice (some ⟨b, off, none⟩) l.length cn, .int .i64 (m : Int), .int .i64 ((at_ : Int) + 1)] W (StPost W (rbF l f m (at_ + 1))) := HI1.out f (at_ + 1) W HF0.out.2.1 (by have := HSZ.out; have := HF0.out; omega) (HRW.out.up HOW.out)
      have hm := (HM1.out (at_ + 1)).few
      have he := HE0.out
      clear HE0 HI1
      generalize rbF l f m (at_ + 1) = r at *
      have hlr : r.length ≤ 1000 := by have := HSZ.out; have := HF0.out; omega
      have HC2 : ∀ w', Old w w' → Calls Try.prog 41 #[.slice (some ⟨b, off, none⟩) l.length cn, .int .i64 (n : Int), .int .i64 ((at_ : Int) + 2 + (r.length : Int))] w' (StPost w' (rbF l f n (at_ + 2 + r.length))) := fun w' h => HI2.out f (at_ + 2 + r.length) w' HF0.out.1 (by have := HSZ.out; have := HF0.out; omega) (HRW.out.up h)
      have hm2 := (HM2.out (at_ + 2 + r.length)).few
      replace he := he r _ rfl rfl
      generalize rbF l f n (at_ + 2 + r.length) = s at *
      have hls : s.length ≤ 1000 := by have := HSZ.out; have := HF0.out; omega
      have HE := Lib.hid he
      have HCC := Lib.hid HC
      have HCC2 := Lib.hid HC2
      clear HC HC2 he HI2 HM1 HM2 hm hm2 HRW
      go_wp2_with fail
      refine (HCC.out).mono ?_; rintro e w2 ⟨v2, rfl, ho2, hd2⟩
      obtain ⟨A2, c2, rfl, ht2, _, _⟩ := ho2.shape
      have e2 := hd2.cell d2
      have HO2 := Lib.hid ho2
      have HR2 := Lib.hid ht2.rs
      have HB2 := Lib.hid hd2.size
      have HD2 := Lib.hid (HOW.out.up hd2)
      have HW2 := Lib.hid HOW.out.size
      clear ho2 ht2 hd2 HCC HOW HK d0 d1 d2 d3 d4 d5 d6
      go_wp2_with fail
      refine ((HCC2.out _ HD2.out)).mono ?_; rintro e w3 ⟨v3, rfl, ho3, hd3⟩
      obtain ⟨A3, c3, rfl, ht3, _, _⟩ := ho3.shape
      have HR3 := Lib.hid ht3.rs
      have HB3 := Lib.hid hd3
      clear ho3 ht3 hd3 HCC2 e2
      go_wp2_with (at_builtin; refine wpList_pushAll rfl _ _ 28 rfl _ 42 (.agg #[.int .i64 0, .int .i64 0, .int .i64 0, .int .u64 0, .int .u64 0, .int .u64 0, .int .u64 0]) 7 56 Try.underlying28 info_st rfl (by decide) (by decide) _ _ _ (by rfl) (own_st0 w3 2 ((at_ : Int) + 1) ((at_ : Int) + 2 + (r.length : Int))) _ _ _ _ (by rfl) ((HR2.out.up HB3.out).alloc _) (ndsV_length _) (ndsV_one _) ?pn7 (by simp) ?_)
      case pn7 => omega
      intro v4 w4 ho4 hg4 hd4
      rw [← ndsV_append] at ho4
      obtain ⟨A4, c4, rfl, ht4, _, _⟩ := ho4.shape
      have hd4' := hd4 w3 ((Old.refl w3).alloc _) (Nat.le_refl _)
      have HO4 := Lib.hid ho4
      have HD4 := Lib.hid hd4'
      have HB4 := Lib.hid hd4'.size
      clear ho4 ht4 hg4 hd4 hd4' HO2 HR2
      go_wp2_with (at_builtin; refine wpList_push (wr := w4) rfl _ _ 28 rfl _ 42 (.agg #[.int .i64 0, .int .i64 0, .int .i64 0, .int .u64 0, .int .u64 0, .int .u64 0, .int .u64 0]) 7 56 Try.underlying28 info_st rfl (by decide) (by decide) _ _ _ rfl HO4.out 1 1 [.int .i64 2, .int .i64 ((at_ : Int) + 2 + (r.length : Int) + (s.length : Int)), .int .i64 ((at_ : Int) + 2 + (r.length : Int) + (s.length : Int)), .int .u64 0, .int .u64 0, .int .u64 0, .int .u64 0] rfl rfl rfl rfl ?pn3 HB4.out ?_)
      case pn3 => omega
      intro v5 w5 ho5 hg5 hd5
      have ho5' : Own w5 w3.heap.size 42 7 v5 (1 + r.length + 1) (ndsV (([⟨2, (at_ : Int) + 1, (at_ : Int) + 2 + (r.length : Int), 0⟩] ++ r) ++ [⟨2, (at_ : Int) + 2 + (r.length : Int) + (s.length : Int), (at_ : Int) + 2 + (r.length : Int) + (s.length : Int), 0⟩])) := by
        rw [ndsV_append _ [_]]
        have e : ndsV [(⟨2, (at_ : Int) + 2 + (r.length : Int) + (s.length : Int), (at_ : Int) + 2 + (r.length : Int) + (s.length : Int), 0⟩ : Nd)] = [.int .i64 2, .int .i64 ((at_ : Int) + 2 + (r.length : Int) + (s.length : Int)), .int .i64 ((at_ : Int) + 2 + (r.length : Int) + (s.length : Int)), .int .u64 0, .int .u64 0, .int .u64 0, .int .u64 0] := by simp [ndsV, ndCells, setW_zero]
        rw [e]; exact ho5
      obtain ⟨A5, c5, rfl, ht5, _, _⟩ := ho5'.shape
      have hd5' := hd5 w3 HD4.out (Nat.le_refl _)
      have HO5 := Lib.hid ho5'
      have HD5 := Lib.hid hd5'
      clear ho5 ho5' ht5 hg5 hd5 hd5' HO4 HD4
      go_wp2_with (at_builtin; refine wpList_pushAll rfl _ _ 28 rfl _ 42 (.agg #[.int .i64 0, .int .i64 0, .int .i64 0, .int .u64 0, .int .u64 0, .int .u64 0, .int .u64 0]) 7 56 Try.underlying28 info_st rfl (by decide) (by decide) _ _ _ (by rfl) HO5.out _ _ _ _ (by rfl) (HR3.out.up HD5.out) (ndsV_length _) (ndsV_one _) ?pn8 HD5.out.size ?_)
      case pn8 => omega
      intro v6 w6 ho6 hg6 hd6
      rw [← ndsV_append] at ho6
      have HO6 := Lib.hid ho6
      have HD6 := Lib.hid (hd6 w3 HD5.out (Nat.le_refl _))
      clear ho6 hg6 hd6 HO5 HR3
      go_wp2_with fail
      go_ret
      rw [HE.out]
      exact ⟨_, rfl, (own_st_len HO6.out).base (Nat.le_trans HD2.out.size HB3.out.size), (HD2.out.up HB3.out).up HD6.out⟩
end Go.Proofs.Ythadkjgadhbidaa
