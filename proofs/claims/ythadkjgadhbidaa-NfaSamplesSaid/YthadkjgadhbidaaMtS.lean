/-
  The matcher's spread, begin.
-/
import Derived.Test.YthadkjgadhbidaaMtW
import Derived.Deep.RegionHeld3
import Derived.Deep.CutBlock
namespace Go.Proofs.Ythadkjgadhbidaa
open Go.RowKit
set_option linter.unusedVariables false

theorem any_snoc (st : List Nd) (L : List Nat) (s : Nat) : ndone st (L ++ [s]) = (ndone st L || decide ((nd st s).kind = 5)) := by
  unfold ndone; rw [List.any_append]; simp
theorem fd_enter (st : List Nd) (L : List Nat) (s : Nat) : fdM st L s (ndone st L) = ndone st (enterM L s) := by
  unfold fdM enterM
  by_cases h : s ∈ L
  · rw [if_pos h, if_pos h]
  · rw [if_neg h, if_neg h, any_snoc]
theorem nspreadF_end (st : List Nd) (bol eol : Bool) (f i : Nat) (L : List Nat) (h : L.length ≤ i) : nspreadF st bol eol f i L = L := by
  cases f with
  | zero => rfl
  | succ f => rw [nspreadF, if_neg (by omega)]
def MDone (w : World) (lv : Value) (w0 : World) (B g gm : Nat) (st : List Nd) (A : Option Addr) (c : Nat) (bol : Bool) (cnt : Nat) (L : List Nat) (e : Ending) (w' : World) : Prop :=
  e = .returned (.tuple #[]) ∧ ∃ lv', MK w0 w' B g gm st A c lv' bol cnt (ndone st L) L L ∧ MKept w w' g gm lv lv'
theorem menterD (w0 : World) (B g gm : Nat) (st : List Nd) (A : Option Addr) (c : Nat) (lv : Value) (bol : Bool) (cnt : Nat) (L : List Nat) (w : World) (h : MK w0 w B g gm st A c lv bol cnt (ndone st L) L L) (hl : st.length ≤ 1000) (hL : Spots st.length L) (s : Nat) (hs : s < st.length) :
    Calls Try.prog 82 #[.pointer (some ⟨g, 0, none⟩), .int .i64 (s : Int)] w (MDone w lv w0 B g gm st A c bol cnt (enterM L s)) := by
  have := menterC w0 B g gm st A c lv bol cnt (ndone st L) L w h hl hL s hs
  rw [fd_enter] at this
  exact this
def MSRel (w w0 : World) (B g gm : Nat) (st : List Nd) (A : Option Addr) (c : Nat) (lv : Value) (bol eol : Bool) (cnt : Nat) (L : List Nat) (v : Value) (wr : World) : Prop :=
  ∃ (k : Nat) (L1 : List Nat) (lv1 : Value), v = .int .i64 k ∧ k ≤ st.length ∧ Hid (MK w0 wr B g gm st A c lv1 bol cnt (ndone st L1) L1 L1) ∧ Hid (MKept w wr g gm lv lv1) ∧ Hid (Spots st.length L1) ∧ Hid (nspreadF st bol eol (st.length - k) k L1 = nspreadF st bol eol st.length 0 L)
/-- A struct that lies in block k. -/
def StAt (w : World) (k : Nat) (x : Nd) : Prop := w.heap[k]? = some (.cells (ndCells x).toArray 42 (0, 0))
theorem StAt.cells {w : World} {k : Nat} {x : Nd} (h : StAt w k x) : w.cell? ⟨k, 0, none⟩ = some (.int .i64 x.kind) ∧ w.cell? ⟨k, 1, none⟩ = some (.int .i64 x.left) ∧ w.cell? ⟨k, 2, none⟩ = some (.int .i64 x.right) ∧
    w.cell? ⟨k, 3, none⟩ = some (.int .u64 (setW x.set 0)) ∧ w.cell? ⟨k, 4, none⟩ = some (.int .u64 (setW x.set 1)) ∧ w.cell? ⟨k, 5, none⟩ = some (.int .u64 (setW x.set 2)) ∧ w.cell? ⟨k, 6, none⟩ = some (.int .u64 (setW x.set 3)) :=
  ⟨by rw [cell_of_row w k 0 _ _ _ h]; rfl, by rw [cell_of_row w k 1 _ _ _ h]; rfl, by rw [cell_of_row w k 2 _ _ _ h]; rfl, by rw [cell_of_row w k 3 _ _ _ h]; rfl, by rw [cell_of_row w k 4 _ _ _ h]; rfl, by rw [cell_of_row w k 5 _ _ _ h]; rfl, by rw [cell_of_row w k 6 _ _ _ h]; rfl⟩
set_option maxHeartbeats 8000000 in
set_option maxRecDepth 100000 in
theorem mspreadC (w0 : World) (B g gm : Nat) (st : List Nd) (A : Option Addr) (c : Nat) (lv : Value) (bol : Bool) (cnt : Nat) (L : List Nat) (w : World) (h : MK w0 w B g gm st A c lv bol cnt (ndone st L) L L) (hv : svalid st = true) (hL : Spots st.length L) (eol : Bool) :
    Calls Try.prog 81 #[.pointer (some ⟨g, 0, none⟩), .bool eol] w (MDone w lv w0 B g gm st A c bol cnt (nspread st bol eol L)) := by
  unfold nspread
  have HH := Lib.hid h
  have HLL := Lib.hid hL
  have HV := Lib.hid hv
  have hsz := (svalid_ok hv).2.1
  have HSZ := Lib.hid hsz
  clear h hL hv hsz
  go_enter Try.func81, Try.ntmps81
  go_wp2_with fail
  go_loopw [4] (fun s4 wr => MSRel w w0 B g gm st A c lv bol eol cnt L s4 wr) (fun s4 _ => st.length - (intOf s4).toNat)
  case atStart => exact ⟨0, L, lv, rfl, Nat.zero_le _, HH, Lib.hid (MKept.refl _ _ _ _), HLL, Lib.hid rfl⟩
  case round =>
    obtain ⟨k, L1, lv1, rfl, hk, HW, HKW, HS, HE⟩ := hrel
    have hlen := HS.out.len
    have hsz := HSZ.out
    obtain ⟨Al, cl, rfl, _, _, _⟩ := HW.out.own.shape
    obtain ⟨e0, _, e2, e3, _, _⟩ := HW.out.cells
    by_cases hkl : k < L1.length
    · obtain ⟨ga, ca, hv, _, _, _, _⟩ := HW.out.own.form (by omega)
      injection hv with hA _ hc
      subst hA
      subst hc
      have es := (HW.out.own.cellAt (spm_get L1 k hkl)).1
      have i1 : (0 : Int) ≤ (k : Int) := by omega
      have i2 : (k : Int) < (L1.length : Int) := by omega
      have hsl : L1.getD k 0 < st.length := HS.out.2 _ (by rw [List.getD_eq_getElem?_getD, List.getElem?_eq_getElem hkl]; exact List.getElem_mem hkl)
      have hun : nspreadF st bol eol (st.length - k) k L1 = nspreadF st bol eol (st.length - (k + 1)) (k + 1) (nvisit st bol eol (L1.getD k 0) L1) := by
        obtain ⟨f, hf⟩ : ∃ f, st.length - k = f + 1 := ⟨st.length - k - 1, by omega⟩
        rw [hf, nspreadF, if_pos hkl, show st.length - (k + 1) = f by omega]
      have HU := Lib.hid (hun.symm.trans HE.out)
      clear HE hun
      generalize L1.getD k 0 = s at *
      have hok := (svalid_ok HV.out).2.2 s hsl
      have hx : st[s]? = some (nd st s) := by unfold nd; rw [List.getD_eq_getElem?_getD, List.getElem?_eq_getElem hsl]; rfl
      obtain ⟨b, off, rfl, _, hcl⟩ := (HW.out.nodes.up HW.out.old).at_ (by rw [ndsV_length]; omega)
      have hg := ndsV_get st s _ hx
      have c0 := hcl _ _ (hg 0 (by omega))
      have c1 := hcl _ _ (hg 1 (by omega))
      have c2 := hcl _ _ (hg 2 (by omega))
      have c3 := hcl _ _ (hg 3 (by omega))
      have c4 := hcl _ _ (hg 4 (by omega))
      have c5 := hcl _ _ (hg 5 (by omega))
      have c6 := hcl _ _ (hg 6 (by omega))
      rw [← Nat.add_assoc] at c0 c1 c2 c3 c4 c5 c6
      rw [Nat.add_zero] at c0
      have s1 : (0 : Int) ≤ (s : Int) := by omega
      have s2 : (s : Int) < (st.length : Int) := by omega
      have HVd : Hid (nvisit st bol eol s L1 = if (nd st s).kind = 2 then enterM (enterM L1 (nd st s).left.toNat) (nd st s).right.toNat
  else if ((nd st s).kind = 3 ∧ bol = true) ∨ ((nd st s).kind = 4 ∧ eol = true) then enterM L1 (nd st s).left.toNat else L1) := Lib.hid rfl
      have HSL := Lib.hid hsl
      clear hx hcl hg hsl
      generalize nd st s = y at *
      obtain ⟨kd, lf, rt, se⟩ := y
      replace c0 : wr.cell? ⟨b, off + s * 7, none⟩ = some (.int .i64 kd) := c0
      replace c1 : wr.cell? ⟨b, off + s * 7 + 1, none⟩ = some (.int .i64 lf) := c1
      replace c2 : wr.cell? ⟨b, off + s * 7 + 2, none⟩ = some (.int .i64 rt) := c2
      replace c3 : wr.cell? ⟨b, off + s * 7 + 3, none⟩ = some (.int .u64 (setW se 0)) := c3
      replace c4 : wr.cell? ⟨b, off + s * 7 + 4, none⟩ = some (.int .u64 (setW se 1)) := c4
      replace c5 : wr.cell? ⟨b, off + s * 7 + 5, none⟩ = some (.int .u64 (setW se 2)) := c5
      replace c6 : wr.cell? ⟨b, off + s * 7 + 6, none⟩ = some (.int .u64 (setW se 3)) := c6
      have n0 := World.new_ne wr _ e0
      have n1 := World.new_ne wr _ es
      have n2 := World.new_ne wr _ c0
      go_upto_region 3 with fail
      go_region_held3 (fun w' => w'.cell? ⟨g, 0, none⟩ = some (.slice (some ⟨b, off, none⟩) st.length c) ∧ w'.cell? ⟨g, 2, none⟩ = some (.slice (some ⟨ga, 0, none⟩) L1.length cl) ∧ w'.cell? ⟨ga, k, none⟩ = some (.int .i64 (s : Int)) ∧ w'.cell? ⟨b, off + s * 7, none⟩ = some (.int .i64 kd) ∧ w'.cell? ⟨b, off + s * 7 + 1, none⟩ = some (.int .i64 lf) ∧ w'.cell? ⟨b, off + s * 7 + 2, none⟩ = some (.int .i64 rt) ∧ w'.cell? ⟨b, off + s * 7 + 3, none⟩ = some (.int .u64 (setW se 0)) ∧ w'.cell? ⟨b, off + s * 7 + 4, none⟩ = some (.int .u64 (setW se 1)) ∧ w'.cell? ⟨b, off + s * 7 + 5, none⟩ = some (.int .u64 (setW se 2)) ∧ w'.cell? ⟨b, off + s * 7 + 6, none⟩ = some (.int .u64 (setW se 3))) (go_keep) (fail)
      have hk7 : StAt (wr.alloc (.cells (ndCells ⟨kd, lf, rt, se⟩).toArray 42)).drew wr.heap.size ⟨kd, lf, rt, se⟩ := heap_alloc_new wr _
      have hoW : Old wr (wr.alloc (.cells (ndCells ⟨kd, lf, rt, se⟩).toArray 42)).drew := ((Old.refl wr).alloc _).drew
      have hWe : (wr.alloc (.cells #[.int .i64 kd, .int .i64 lf, .int .i64 rt, .int .u64 (setW se 0), .int .u64 (setW se 1), .int .u64 (setW se 2), .int .u64 (setW se 3)] 42)).drew = (wr.alloc (.cells (ndCells ⟨kd, lf, rt, se⟩).toArray 42)).drew := rfl
      rw [hWe]
      have HWW := Lib.hid (HW.out.up hoW)
      have HKW2 := Lib.hid (HKW.out.trans (MKept.of_old hoW g gm (.slice (some ⟨ga, 0, none⟩) L1.length cl)))
      have HFR : Hid (wr.heap.size ≠ g ∧ wr.heap.size ≠ gm ∧ some wr.heap.size ≠ (Value.slice (some ⟨ga, 0, none⟩) L1.length cl).ownBlock) := Lib.hid ⟨by have := lt_of_block HW.out.blk; omega, by have := lt_of_block HW.out.mks; omega, fun e => by have := (World.ownsRow.lt HW.out.own _ e.symm).2; omega⟩
      generalize (wr.alloc (.cells (ndCells ⟨kd, lf, rt, se⟩).toArray 42)).drew = W at *
      generalize wr.heap.size = k7 at *
      clear c0 c1 c2 c3 c4 c5 c6 e0 e2 e3 es n0 n1 n2 hWe hoW HW HKW s1 s2
      have HK7 := Lib.hid hk7
      obtain ⟨d0, d1, d2, _⟩ := hk7.cells
      simp only at d0 d1 d2
      clear hk7
      obtain ⟨_, _, _, g3, _, _⟩ := HWW.out.cells
      obtain ⟨o1, o2, o3, o4⟩ := hok
      simp only at o1 o2 o3 o4 HVd
      have hkc : kd = 1 ∨ kd = 2 ∨ kd = 3 ∨ kd = 4 ∨ kd = 5 := by omega
      rcases hkc with rfl | rfl | rfl | rfl | rfl
      · have HN : Hid (nvisit st bol eol s L1 = L1) := Lib.hid (by rw [HVd.out]; simp)
        go_wp2_with fail
        go_roundw
        case rel => exact ⟨k + 1, _, _, rfl, by omega, HWW, HKW2, HS, Lib.hid (by rw [← HN.out]; exact HU.out)⟩
        case measure => simp [intOf]; omega
      · obtain ⟨a, rfl⟩ := Int.eq_ofNat_of_zero_le (o3 (by decide)).1
        obtain ⟨e, rfl⟩ := Int.eq_ofNat_of_zero_le (o4 rfl).1
        have ha : a < st.length := by have := (o3 (by decide)).2; omega
        have he : e < st.length := by have := (o4 rfl).2; omega
        have HN : Hid (nvisit st bol eol s L1 = enterM (enterM L1 a) e) := Lib.hid (by rw [HVd.out]; simp)
        have HC := Lib.hid (menterD w0 B g gm st _ c _ bol cnt L1 W HWW.out (by omega) HS.out a ha)
        have HAL := Lib.hid ha
        have HEL := Lib.hid he
        clear HVd ha he o3 o4
        go_wp2_with fail
        refine (HC.out).mono ?_; rintro e w2 ⟨rfl, lv2, hm2, hk2⟩
        obtain ⟨hb2, hf2⟩ := hk2.block HK7.out HFR.out.1 HFR.out.2.1 HFR.out.2.2
        have hs2 := HS.out.enter HAL.out
        have HC2 := Lib.hid (menterD w0 B g gm st _ c lv2 bol cnt (enterM L1 a) w2 hm2 (by omega) hs2 e HEL.out)
        have HK2 := Lib.hid (HKW2.out.trans hk2)
        have HS2 := Lib.hid hs2
        obtain ⟨_, _, d2, _⟩ := (show StAt w2 k7 _ from hb2).cells
        simp only at d2
        clear hm2 hk2 hb2 hf2 hs2 HC
        go_wp2_with fail
        refine (HC2.out).mono ?_; rintro e w3 ⟨rfl, lv3, hm3, hk3⟩
        have HM3 := Lib.hid hm3
        have HK3 := Lib.hid (HK2.out.trans hk3)
        have HS3 := Lib.hid (HS2.out.enter HEL.out)
        clear hm3 hk3 HC2
        go_wp2_with fail
        go_roundw
        case rel => exact ⟨k + 1, _, lv3, rfl, by omega, HM3, HK3, HS3, Lib.hid (by rw [← HN.out]; exact HU.out)⟩
        case measure => simp [intOf]; omega
      · obtain ⟨a, rfl⟩ := Int.eq_ofNat_of_zero_le (o3 (by decide)).1
        have ha : a < st.length := by have := (o3 (by decide)).2; omega
        have HAL := Lib.hid ha
        cases bol with
        | false =>
          have HN : Hid (nvisit st false eol s L1 = L1) := Lib.hid (by rw [HVd.out]; simp)
          clear HVd ha o3 o4
          go_wp2_with fail
          go_roundw
          case rel => exact ⟨k + 1, _, _, rfl, by omega, HWW, HKW2, HS, Lib.hid (by rw [← HN.out]; exact HU.out)⟩
          case measure => simp [intOf]; omega
        | true =>
          have HN : Hid (nvisit st true eol s L1 = enterM L1 a) := Lib.hid (by rw [HVd.out]; simp)
          have HC := Lib.hid (menterD w0 B g gm st _ c _ _ cnt L1 W HWW.out (by omega) HS.out a ha)
          clear HVd ha o3 o4
          go_wp2_with fail
          refine (HC.out).mono ?_; rintro e w2 ⟨rfl, lv2, hm2, hk2⟩
          have HM2 := Lib.hid hm2
          have HK2 := Lib.hid (HKW2.out.trans hk2)
          have HS2 := Lib.hid (HS.out.enter HAL.out)
          clear hm2 hk2 HC
          go_wp2_with fail
          go_roundw
          case rel => exact ⟨k + 1, _, lv2, rfl, by omega, HM2, HK2, HS2, Lib.hid (by rw [← HN.out]; exact HU.out)⟩
          case measure => simp [intOf]; omega
      · obtain ⟨a, rfl⟩ := Int.eq_ofNat_of_zero_le (o3 (by decide)).1
        have ha : a < st.length := by have := (o3 (by decide)).2; omega
        have HAL := Lib.hid ha
        cases eol with
        | false =>
          have HN : Hid (nvisit st bol false s L1 = L1) := Lib.hid (by rw [HVd.out]; simp)
          clear HVd ha o3 o4
          go_wp2_with fail
          go_roundw
          case rel => exact ⟨k + 1, _, _, rfl, by omega, HWW, HKW2, HS, Lib.hid (by rw [← HN.out]; exact HU.out)⟩
          case measure => simp [intOf]; omega
        | true =>
          have HN : Hid (nvisit st bol true s L1 = enterM L1 a) := Lib.hid (by rw [HVd.out]; simp)
          have HC := Lib.hid (menterD w0 B g gm st _ c _ _ cnt L1 W HWW.out (by omega) HS.out a ha)
          clear HVd ha o3 o4
          go_wp2_with fail
          refine (HC.out).mono ?_; rintro e w2 ⟨rfl, lv2, hm2, hk2⟩
          have HM2 := Lib.hid hm2
          have HK2 := Lib.hid (HKW2.out.trans hk2)
          have HS2 := Lib.hid (HS.out.enter HAL.out)
          clear hm2 hk2 HC
          go_wp2_with fail
          go_roundw
          case rel => exact ⟨k + 1, _, lv2, rfl, by omega, HM2, HK2, HS2, Lib.hid (by rw [← HN.out]; exact HU.out)⟩
          case measure => simp [intOf]; omega
      · have HN : Hid (nvisit st bol eol s L1 = L1) := Lib.hid (by rw [HVd.out]; simp)
        go_wp2_with fail
        go_roundw
        case rel => exact ⟨k + 1, _, _, rfl, by omega, HWW, HKW2, HS, Lib.hid (by rw [← HN.out]; exact HU.out)⟩
        case measure => simp [intOf]; omega
    · have HR : Hid (nspreadF st bol eol st.length 0 L = L1) := Lib.hid (by rw [← HE.out]; exact nspreadF_end _ _ _ _ _ _ (by omega))
      go_wp2_with fail
      go_end0
      rw [HR.out]
      exact ⟨rfl, _, HW.out, HKW.out⟩
end Go.Proofs.Ythadkjgadhbidaa
