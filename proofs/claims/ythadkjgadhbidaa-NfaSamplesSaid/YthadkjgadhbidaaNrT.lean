/-
  The runner's step; Run (nfa).
-/
import Derived.Test.YthadkjgadhbidaaNrS
import Derived.Test.YthadkjgadhbidaaMtF
import Derived.Test.YthadkjgadhbidaaRxW
namespace Go.Proofs.Ythadkjgadhbidaa
open Go.RowKit
set_option linter.unusedVariables false

set_option maxRecDepth 100000 in
theorem nhasC (s : BSet) (b : Nat) (hb : b < 256) (w : World) : Calls Try.prog 62 #[setA s, .int .u8 b] w (ValOld (.bool (hasB s b)) w) := by
  have hi0 : (0 : Int) ≤ b := by omega
  have hi1 : (b : Int) < 256 := by omega
  have h0 := setW_lt s 0
  have h1 := setW_lt s 1
  have h2 := setW_lt s 2
  have h3 := setW_lt s 3
  have HH := Lib.hid (fun i hi => word_has3 s i b hb hi)
  unfold setA
  have hq : (b : Int) / 64 = 0 ∨ (b : Int) / 64 = 1 ∨ (b : Int) / 64 = 2 ∨ (b : Int) / 64 = 3 := by omega
  rcases hq with hq | hq | hq | hq
  all_goals
    go_enter Try.func62, Try.ntmps62
    go_wp2_with fail
    go_ret
    exact ⟨ret_bool' (HH.out _ (by omega)), (Old.refl w).alloc _⟩
theorem NK.clear {w0 w : World} {B g gm c : Nat} {st : List Nd} {A : Option Addr} {lv : Value} {fd : Bool} {M L : List Nat} (h : NK w0 w B g gm st A c lv fd M L) : NK w0 (w.setCells gm 0 (List.replicate st.length (.bool false))) B g gm st A c lv fd [] L := by
  have hgr := mgrown_setCells gm (List.replicate st.length (.bool false)) 0 w
  have hb : Old w0 (w.setCells gm 0 (List.replicate st.length (.bool false))) := Below.grown h.old hgr h.old.size (by intro k hk; injection hk with hk; subst hk; exact h.bm)
  have hz : List.replicate st.length (Value.bool false) = mkm st.length [] := by
    apply List.ext_getElem?
    intro i
    by_cases hi : i < st.length
    · rw [mkm_get _ _ _ hi, List.getElem?_replicate, if_pos hi]; simp
    · rw [List.getElem?_eq_none (by simp; omega), List.getElem?_eq_none (by simp [mkm_length]; omega)]
  refine ⟨hb, h.nodes, ?_, ?_, World.ownsRow.kept h.own hgr (Or.inr (fun e => mown_far h.own h.lm e.symm)), h.bg, h.bm, h.lg, h.lm, h.n2, Nat.le_trans h.lB hgr.size⟩
  · exact (hgr.block g (lt_of_block h.blk) (by intro e; injection e with e; exact h.n2 e)).trans h.blk
  · have := mheap_setCells (t := 4) (List.replicate st.length (.bool false)) w [] (mkm st.length M) h.mks (by simp [mkm_length])
    rw [List.nil_append, hz] at this
    rw [hz]
    exact this
def NFRel (w w2 w0 : World) (B g gm : Nat) (st : List Nd) (A : Option Addr) (c : Nat) (lv : Value) (ch : Nat) (L : List Nat) (v : Value) (wr : World) : Prop :=
  ∃ (k : Nat) (L1 : List Nat) (lv1 : Value), v = .int .i64 k ∧ k ≤ L.length ∧ Hid (NK w0 wr B g gm st A c lv1 (ndone st L1) L1 L1) ∧ Hid (MKept w wr g gm lv lv1) ∧ Hid (MKept w2 wr g gm (.slice none 0 0) lv1) ∧ Hid (Spots st.length L1) ∧ Hid ((L.take k).foldl (fun acc s => nover st ch s acc) [] = L1)
set_option maxHeartbeats 8000000 in
set_option maxRecDepth 100000 in
theorem nrstepC (w0 : World) (B g gm : Nat) (st : List Nd) (A : Option Addr) (c : Nat) (lv : Value) (Q : List Nat) (w : World) (h : NK w0 w B g gm st A c lv false Q Q) (hv : svalid st = true) (hL : Spots st.length Q) (ch : Nat) (hch : ch < 256) :
    Calls Try.prog 37 #[.pointer (some ⟨g, 0, none⟩), .int .u8 ch] w (NDone w lv w0 B g gm st A c (nstep st ch Q)) := by
  have HV := Lib.hid hv
  have HLQ := Lib.hid hL
  have HCH := Lib.hid hch
  have HSZ := Lib.hid (svalid_ok hv).2.1
  have HM1 := Lib.hid h
  clear h hv hL hch
  obtain ⟨_, y1, y2, y3⟩ := HM1.out.cells
  obtain ⟨Al, cl, rfl, _, _, _⟩ := HM1.out.own.shape
  have f2 := HM1.out.frz 2
  have hw1 := HM1.out.list (L' := []) (Own.nil_ _ _ _ _) (World.grownBy.refl w _)
  have hk1 : MKept w (w.setCell ⟨g, 2, none⟩ (.slice none 0 0)) g gm (.slice Al Q.length cl) (.slice none 0 0) := MKept.drop
  generalize hw1e : w.setCell ⟨g, 2, none⟩ (.slice none 0 0) = w1 at *
  obtain ⟨_, g1, _⟩ := hw1.cells
  have hsz := HSZ.out
  have hcl : ∀ ty, (Builtin.clear_ #[68] ty #[.slice (some ⟨gm, 0, none⟩) st.length st.length]).run Try.prog w1 = .ok (.tuple #[]) _ :=
    fun ty => Lib.run_clear_slice w1 _ _ ty _ Try.underlying68 Try.zeroValue4 rfl rfl gm 0 st.length st.length (by have := (svalid_ok HV.out).1; omega)
      (fun t ht => by rw [Nat.zero_add, cell_of_row w1 gm t _ _ _ hw1.mks, List.getElem?_toArray, mkm_get _ _ _ ht]; rfl) (fun t ht => frozen_of_row w1 gm _ _ _ hw1.mks)
  have HGA : Hid (∀ j, j < w.heap.size → j ≠ g → j ≠ gm → (w1.setCells gm 0 (List.replicate st.length (.bool false))).heap[j]? = w.heap[j]?) := Lib.hid (fun j hj j1 j2 => by
    rw [(mgrown_setCells gm _ 0 w1).block j (by rw [← hw1e]; simpa using hj) (by intro e; injection e with e; exact j2 e), ← hw1e]
    exact heap_setCell_other w ⟨g, 2, none⟩ j _ j1)
  have HW2 := Lib.hid hw1.clear
  have HK2 := Lib.hid (hk1.trans (MKept.clear w1 g gm st.length (.slice none 0 0)))
  clear hk1 hw1
  go_enter Try.func37, Try.ntmps37
  go_upto_region 3 with fail
  generalize w1.setCells gm 0 (List.replicate st.length (.bool false)) = w2 at *
  clear hcl g1 y1 y2 y3 f2 hw1e hsz
  go_wp2_with fail
  go_loopw [21] (fun s21 wr => NFRel w w2 w0 B g gm st A c (.slice Al Q.length cl) ch Q s21 wr) (fun s21 _ => Q.length - (intOf s21).toNat)
  case atStart => exact ⟨0, [], _, rfl, Nat.zero_le _, HW2, HK2, Lib.hid (MKept.refl _ _ _ _), Lib.hid (Spots.nil _), Lib.hid rfl⟩
  case round =>
    obtain ⟨k, L1, lv1, rfl, hk, HW, HKW, HKR, HS, HE⟩ := hrel
    have hLl := HLQ.out.len
    obtain ⟨e0, _⟩ := HW.out.cells
    have hsz := HSZ.out
    by_cases hkl : k < Q.length
    · obtain ⟨ga, ca, hvv, hBa, hla, _, _⟩ := HM1.out.own.form (by omega)
      injection hvv with hA _ hc
      subst hA
      subst hc
      have ec := (HM1.out.own.cellAt (spm_get Q k hkl)).1
      have eg : wr.heap[ga]? = w.heap[ga]? := by
        have n1 : ga ≠ g := fun e => by have := HM1.out.lg; omega
        have n2 : ga ≠ gm := fun e => by have := HM1.out.lm; omega
        rw [HKR.out.far ga (Nat.lt_of_lt_of_le hla HK2.out.size) n1 n2 (by simp [Value.ownBlock]), HGA.out ga hla n1 n2]
      have es : wr.cell? ⟨ga, k, none⟩ = some (.int .i64 (Q.getD k 0 : Nat)) := by rw [World.cell?_of_block (a := ⟨ga, k, none⟩) eg]; exact ec
      have hsl : Q.getD k 0 < st.length := HLQ.out.2 _ (by rw [List.getD_eq_getElem?_getD, List.getElem?_eq_getElem hkl]; exact List.getElem_mem hkl)
      have hun : (Q.take (k + 1)).foldl (fun acc s => nover st ch s acc) [] = nover st ch (Q.getD k 0) L1 := by
        rw [List.take_add_one, List.getElem?_eq_getElem hkl, List.foldl_append, HE.out, List.getD_eq_getElem?_getD, List.getElem?_eq_getElem hkl]
        rfl
      have HU := Lib.hid hun
      clear hun ec eg
      have i1 : (0 : Int) ≤ (k : Int) := by omega
      have i2 : (k : Int) < (Q.length : Int) := by omega
      generalize Q.getD k 0 = s at *
      have hok := (svalid_ok HV.out).2.2 s hsl
      have hx : st[s]? = some (nd st s) := by unfold nd; rw [List.getD_eq_getElem?_getD, List.getElem?_eq_getElem hsl]; rfl
      obtain ⟨b, off, rfl, _, hcl⟩ := (HW.out.nodes.up HW.out.old).at_ (by rw [ndsV_length]; omega)
      have hg := ndsV_get st s _ hx
      have c0 := hcl _ _ (hg 0 (by omega))
      have c1 := hcl _ _ (hg 1 (by omega))
      have c2 := hcl _ _ (hg 2 (by omega))
      have c3 := hcl _ _ (hg 3 (by omega))
      have c4 := hcl _ _ (hg 4 (by omega))
      have c5 := hcl _ _ (hg 5 (by omega))
      have c6 := hcl _ _ (hg 6 (by omega))
      rw [← Nat.add_assoc] at c0 c1 c2 c3 c4 c5 c6
      rw [Nat.add_zero] at c0
      have s1 : (0 : Int) ≤ (s : Int) := by omega
      have s2 : (s : Int) < (st.length : Int) := by omega
      have HVd : Hid (nover st ch s L1 = if (nd st s).kind = 1 ∧ hasB (nd st s).set ch = true then enterM L1 (nd st s).left.toNat else L1) := Lib.hid rfl
      clear hx hcl hg hsl
      generalize nd st s = y at *
      obtain ⟨kd, lf, rt, se⟩ := y
      replace c0 : wr.cell? ⟨b, off + s * 7, none⟩ = some (.int .i64 kd) := c0
      replace c1 : wr.cell? ⟨b, off + s * 7 + 1, none⟩ = some (.int .i64 lf) := c1
      replace c2 : wr.cell? ⟨b, off + s * 7 + 2, none⟩ = some (.int .i64 rt) := c2
      replace c3 : wr.cell? ⟨b, off + s * 7 + 3, none⟩ = some (.int .u64 (setW se 0)) := c3
      replace c4 : wr.cell? ⟨b, off + s * 7 + 4, none⟩ = some (.int .u64 (setW se 1)) := c4
      replace c5 : wr.cell? ⟨b, off + s * 7 + 5, none⟩ = some (.int .u64 (setW se 2)) := c5
      replace c6 : wr.cell? ⟨b, off + s * 7 + 6, none⟩ = some (.int .u64 (setW se 3)) := c6
      go_upto_region 7 with fail
      have hk7 : StAt (wr.alloc (.cells (ndCells ⟨kd, lf, rt, se⟩).toArray 42)) wr.heap.size ⟨kd, lf, rt, se⟩ := heap_alloc_new wr _
      have hoW : Old wr (wr.alloc (.cells (ndCells ⟨kd, lf, rt, se⟩).toArray 42)) := (Old.refl wr).alloc _
      have hWe : wr.alloc (.cells #[.int .i64 kd, .int .i64 lf, .int .i64 rt, .int .u64 (setW se 0), .int .u64 (setW se 1), .int .u64 (setW se 2), .int .u64 (setW se 3)] 42) = wr.alloc (.cells (ndCells ⟨kd, lf, rt, se⟩).toArray 42) := rfl
      rw [hWe]
      have HWA := Lib.hid (HW.out.up hoW)
      have HKWA := Lib.hid (HKW.out.trans (MKept.of_old hoW g gm lv1))
      have HKRA := Lib.hid (HKR.out.trans (MKept.of_old hoW g gm lv1))
      have HFR : Hid (wr.heap.size ≠ g ∧ wr.heap.size ≠ gm ∧ some wr.heap.size ≠ lv1.ownBlock) := Lib.hid ⟨by have := lt_of_block HW.out.blk; omega, by have := lt_of_block HW.out.mks; omega, fun e => by have := (World.ownsRow.lt HW.out.own _ e.symm).2; omega⟩
      generalize wr.alloc (.cells (ndCells ⟨kd, lf, rt, se⟩).toArray 42) = V0 at *
      generalize wr.heap.size = k7 at *
      clear c0 c1 c2 c3 c4 c5 c6 e0 es hWe hoW HW HKW HKR s1 s2
      obtain ⟨d0, d1, _, d3, d4, d5, d6⟩ := hk7.cells
      simp only at d0 d1 d3 d4 d5 d6
      have HK7 := Lib.hid hk7
      clear hk7
      obtain ⟨o1, o2, o3, o4⟩ := hok
      simp only at o1 o2 o3 o4 HVd
      by_cases hkd : kd = 1
      · subst hkd
        obtain ⟨a, rfl⟩ := Int.eq_ofNat_of_zero_le (o3 (by decide)).1
        have ha : a < st.length := by have := (o3 (by decide)).2; omega
        have HAL := Lib.hid ha
        have hcn := nhasC se ch HCH.out V0
        unfold setA at hcn
        have HCN := Lib.hid hcn
        clear ha o1 o2 o3 o4 hcn
        cases hbb : hasB se ch with
        | false =>
          have HVV : Hid (nover st ch s L1 = L1) := Lib.hid (by rw [HVd.out, if_neg (fun h => by rw [hbb] at h; cases h.2)])
          rw [hbb] at HCN
          clear HVd hbb
          go_wp2_with fail
          refine (HCN.out).mono ?_; rintro e V1 ⟨rfl, hd1⟩
          have HWB := Lib.hid (HWA.out.up hd1)
          have HKWB := Lib.hid (HKWA.out.trans (MKept.of_old hd1 g gm lv1))
          have HKRB := Lib.hid (HKRA.out.trans (MKept.of_old hd1 g gm lv1))
          clear hd1 HCN HWA HKWA HKRA
          go_wp2_with fail
          go_roundw
          case rel => exact ⟨k + 1, L1, lv1, rfl, by omega, HWB, HKWB, HKRB, HS, Lib.hid (HU.out.trans HVV.out)⟩
          case measure => simp [intOf]; omega
        | true =>
          have HVV : Hid (nover st ch s L1 = enterM L1 a) := Lib.hid (by rw [HVd.out, if_pos ⟨rfl, hbb⟩]; rfl)
          rw [hbb] at HCN
          clear HVd hbb
          go_wp2_with fail
          refine (HCN.out).mono ?_; rintro e V1 ⟨rfl, hd1⟩
          have HWB := Lib.hid (HWA.out.up hd1)
          have HKWB := Lib.hid (HKWA.out.trans (MKept.of_old hd1 g gm lv1))
          have HKRB := Lib.hid (HKRA.out.trans (MKept.of_old hd1 g gm lv1))
          have HEN := Lib.hid (nenterD w0 B g gm st _ c lv1 L1 V1 HWB.out (by omega) HS.out a HAL.out)
          obtain ⟨_, p1, _⟩ := (show StAt V1 k7 _ from hd1.block HK7.out).cells
          simp only at p1
          clear hd1 HCN HWA HKWA HKRA
          go_wp2_with fail
          refine (HEN.out).mono ?_; rintro e V ⟨rfl, lv', hw, hk'⟩
          have HV3 := Lib.hid hw
          have HKV := Lib.hid (HKWB.out.trans hk')
          have HKQ := Lib.hid (HKRB.out.trans hk')
          clear hw hk' HEN
          go_wp2_with fail
          go_roundw
          case rel => exact ⟨k + 1, _, lv', rfl, by omega, HV3, HKV, HKQ, Lib.hid (HS.out.enter HAL.out), Lib.hid (HU.out.trans HVV.out)⟩
          case measure => simp [intOf]; omega
      · have hb1 : (kd == 1) = false := by simpa using hkd
        have HVV : Hid (nover st ch s L1 = L1) := Lib.hid (by rw [HVd.out, if_neg (fun h => hkd h.1)])
        clear HVd hkd o1 o2 o3 o4
        go_wp2_with fail
        go_roundw
        case rel => exact ⟨k + 1, L1, lv1, rfl, by omega, HWA, HKWA, HKRA, HS, Lib.hid (HU.out.trans HVV.out)⟩
        case measure => simp [intOf]; omega
    · obtain rfl : k = Q.length := by omega
      have HN : Hid (nstep st ch Q = L1) := Lib.hid (by have := HE.out; rw [List.take_length] at this; exact this)
      clear HE HKR HW2 HK2 HGA HM1 hkl
      go_wp2_with fail
      go_end0
      rw [HN.out]
      exact ⟨rfl, _, HW.out, HKW.out⟩
end Go.Proofs.Ythadkjgadhbidaa
