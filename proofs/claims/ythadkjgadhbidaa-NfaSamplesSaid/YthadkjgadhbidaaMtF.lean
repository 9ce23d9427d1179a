/-
  The matcher's begin, feed.
-/
import Derived.Test.YthadkjgadhbidaaMtS
import Derived.Test.YthadkjgadhbidaaRgA
import Derived.Lib.SliceRun
import Derived.Deep.DeepCutAuto
namespace Go.Proofs.Ythadkjgadhbidaa
open Go.RowKit
set_option linter.unusedVariables false

theorem mheap_setCells {g : Nat} {t : TypeId} : ∀ (vs : List Value) (w : World) (pre old : List Value), w.heap[g]? = some (.cells (pre ++ old).toArray t (0, 0)) → old.length = vs.length → (w.setCells g pre.length vs).heap[g]? = some (.cells (pre ++ vs).toArray t (0, 0))
  | [], w, pre, old, h, hl => by
    obtain rfl := List.eq_nil_of_length_eq_zero hl
    exact h
  | v :: r, w, pre, old, h, hl => by
    cases old with
    | nil => simp at hl
    | cons x old =>
      have h1 := heap_setCell_same w g pre.length _ _ v h
      rw [List.setIfInBounds_toArray, List.set_append_right _ _ (Nat.le_refl _), Nat.sub_self, List.set_cons_zero] at h1
      have h2 := mheap_setCells (t := t) r (w.setCell ⟨g, pre.length, none⟩ v) (pre ++ [v]) old (by rw [h1]; simp) (by simpa using hl)
      rw [List.length_append, List.length_singleton] at h2
      show ((w.setCell ⟨g, pre.length, none⟩ v).setCells g (pre.length + 1) r).heap[g]? = _
      rw [h2]
      simp
theorem mgrown_setCells (g : Nat) : ∀ (vs : List Value) (o : Nat) (w : World), w.grownBy (w.setCells g o vs) (some g)
  | [], o, w => World.grownBy.refl _ _
  | v :: r, o, w => World.grownBy.trans (show w.grownBy (w.setCell ⟨g, o, none⟩ v) (some g) from ⟨rfl, rfl, rfl, by simp, fun k _ hk => heap_setCell_other w ⟨g, o, none⟩ k _ (fun e => hk (by simp [e]))⟩) (mgrown_setCells g r (o + 1) _)
theorem MK.clear {w0 w : World} {B g gm c cnt : Nat} {st : List Nd} {A : Option Addr} {lv : Value} {bol fd : Bool} {M L : List Nat} (h : MK w0 w B g gm st A c lv bol cnt fd M L) : MK w0 (w.setCells gm 0 (List.replicate st.length (.bool false))) B g gm st A c lv bol cnt fd [] L := by
  have hgr := mgrown_setCells gm (List.replicate st.length (.bool false)) 0 w
  have hb : Old w0 (w.setCells gm 0 (List.replicate st.length (.bool false))) := Below.grown h.old hgr h.old.size (by intro k hk; injection hk with hk; subst hk; exact h.bm)
  have hz : List.replicate st.length (Value.bool false) = mkm st.length [] := by
    apply List.ext_getElem?
    intro i
    by_cases hi : i < st.length
    · rw [mkm_get _ _ _ hi, List.getElem?_replicate, if_pos hi]; simp
    · rw [List.getElem?_eq_none (by simp; omega), List.getElem?_eq_none (by simp [mkm_length]; omega)]
  refine ⟨hb, h.nodes, ?_, ?_, World.ownsRow.kept h.own hgr (Or.inr (fun e => mown_far h.own h.lm e.symm)), h.bg, h.bm, h.lg, h.lm, h.n2, Nat.le_trans h.lB hgr.size⟩
  · exact (hgr.block g (lt_of_block h.blk) (by intro e; injection e with e; exact h.n2 e)).trans h.blk
  · have := mheap_setCells (t := 4) (List.replicate st.length (.bool false)) w [] (mkm st.length M) h.mks (by simp [mkm_length])
    rw [List.nil_append, hz] at this
    rw [hz]
    exact this
theorem MKept.clear (w : World) (g gm n : Nat) (lv : Value) : MKept w (w.setCells gm 0 (List.replicate n (.bool false))) g gm lv lv :=
  ⟨(mgrown_setCells gm _ 0 w).size, fun k hk _ h2 _ => (mgrown_setCells gm _ 0 w).block k hk (by intro e; injection e with e; exact h2 e), fun _ h => Or.inl h⟩
theorem MKept.drop {w : World} {g gm : Nat} {lv : Value} : MKept w (w.setCell ⟨g, 2, none⟩ (.slice none 0 0)) g gm lv (.slice none 0 0) :=
  ⟨by simp, fun k _ h1 _ _ => heap_setCell_other w ⟨g, 2, none⟩ k _ h1, fun k h => by cases h⟩
theorem word_has3 (s : BSet) (i b : Nat) (hb : b < 256) (hi : b / 64 = i) : (bits BinOp.and IntKind.u64 (((setW s i : Nat) : Int) / 2 ^ (b % 64)) 1 != 0) = hasB s b := by
  rw [← word_has s i b hb hi]
  have e : ((setW s i : Nat) : Int) / 2 ^ (b % 64) = ((setW s i / 2 ^ (b % 64) : Nat) : Int) := by push_cast; rfl
  have hl := setW_lt s i
  have hd : setW s i / 2 ^ (b % 64) < 18446744073709551616 := Nat.lt_of_le_of_lt (Nat.div_le_self _ _) hl
  have h1 := u64_and_nat (setW s i / 2 ^ (b % 64)) 1 hd (by decide)
  rw [nat_mask1] at h1
  rw [e]
  have h1' : bits BinOp.and IntKind.u64 ((setW s i / 2 ^ (b % 64) : Nat) : Int) 1 = ((setW s i / 2 ^ (b % 64) % 2 : Nat) : Int) := h1
  rw [h1']
  rw [Bool.eq_iff_iff, bne_iff_ne, beq_iff_eq]
  omega
set_option maxHeartbeats 2000000 in
set_option maxRecDepth 100000 in
theorem mbeginC (w0 : World) (B g gm : Nat) (st : List Nd) (A : Option Addr) (c : Nat) (lv : Value) (bol : Bool) (cnt : Nat) (L : List Nat) (w : World) (h : MK w0 w B g gm st A c lv bol cnt (ndone st L) L L) (hv : svalid st = true) (hL : Spots st.length L) :
    Calls Try.prog 80 #[.pointer (some ⟨g, 0, none⟩)] w (MDone w lv w0 B g gm st A c bol cnt (nspread st bol false (enterM L 0))) := by
  obtain ⟨h1, h2, _⟩ := svalid_ok hv
  have HE := Lib.hid (menterD w0 B g gm st A c lv bol cnt L w h (by omega) hL 0 (by omega))
  have HS := Lib.hid (hL.enter (s := 0) (by omega))
  have HV := Lib.hid hv
  clear h hL hv h1 h2
  go_enter Try.func80, Try.ntmps80
  go_wp2_with fail
  refine (HE.out).mono ?_; rintro e w1 ⟨rfl, lv1, hm, hk⟩
  have HC := Lib.hid (mspreadC w0 B g gm st A c lv1 bol cnt (enterM L 0) w1 hm HV.out HS.out false)
  have HK := Lib.hid hk
  clear hm hk HE
  go_wp2_with fail
  refine (HC.out).mono ?_; rintro e w2 ⟨rfl, lv2, hm, hk⟩
  have HM := Lib.hid hm
  have HK2 := Lib.hid (HK.out.trans hk)
  clear hm hk HC
  go_wp2_with fail
  go_end0
  exact ⟨rfl, lv2, HM.out, HK2.out⟩
def mL1 (st : List Nd) (bol : Bool) (ch : Nat) (L : List Nat) : List Nat := if ch = 10 then nspread st bol true L else L
def mL2 (st : List Nd) (bol : Bool) (ch : Nat) (L : List Nat) : List Nat := nspread st (ch == 10) false (enterM (nstep st ch (mL1 st bol ch L)) 0)
theorem Spots.mL1 {st : List Nd} (hv : svalid st = true) {bol : Bool} {ch : Nat} {L : List Nat} (h : Spots st.length L) : Spots st.length (mL1 st bol ch L) := by
  unfold Go.Proofs.Ythadkjgadhbidaa.mL1
  split
  · exact Spots.nspreadF hv _ _ _ h
  · exact h
def MFeed (w : World) (lv : Value) (w0 : World) (B g gm : Nat) (st : List Nd) (A : Option Addr) (c : Nat) (bol : Bool) (cnt ch : Nat) (L : List Nat) (e : Ending) (w' : World) : Prop :=
  e = .returned (.tuple #[]) ∧ (ndone st (mL1 st bol ch L) = true → ∃ lv', MK w0 w' B g gm st A c lv' bol (cnt + 1) true (mL1 st bol ch L) (mL1 st bol ch L) ∧ MKept w w' g gm lv lv') ∧
    (ndone st (mL1 st bol ch L) = false → ∃ lv', MK w0 w' B g gm st A c lv' (ch == 10) (cnt + 1) (ndone st (mL2 st bol ch L)) (mL2 st bol ch L) (mL2 st bol ch L) ∧ MKept w w' g gm lv lv')
def MFRel (w w2 w0 : World) (B g gm : Nat) (st : List Nd) (A : Option Addr) (c : Nat) (lv : Value) (bol : Bool) (cnt ch : Nat) (L : List Nat) (v : Value) (wr : World) : Prop :=
  ∃ (k : Nat) (L1 : List Nat) (lv1 : Value), v = .int .i64 k ∧ k ≤ L.length ∧ Hid (MK w0 wr B g gm st A c lv1 bol cnt (ndone st L1) L1 L1) ∧ Hid (MKept w wr g gm lv lv1) ∧ Hid (MKept w2 wr g gm (.slice none 0 0) lv1) ∧ Hid (Spots st.length L1) ∧ Hid ((L.take k).foldl (fun acc s => nover st ch s acc) [] = L1)
set_option maxHeartbeats 8000000 in
set_option maxRecDepth 100000 in
theorem mfeedC (w0 : World) (B g gm : Nat) (st : List Nd) (A : Option Addr) (c : Nat) (lv : Value) (bol : Bool) (cnt : Nat) (L : List Nat) (w : World) (h : MK w0 w B g gm st A c lv bol cnt (ndone st L) L L) (hv : svalid st = true) (hL : Spots st.length L) (hcnt : cnt < 1000000000) (ch : Nat) (hch : ch < 256) :
    Calls Try.prog 58 #[.pointer (some ⟨g, 0, none⟩), .int .u8 ch] w (MFeed w lv w0 B g gm st A c bol cnt ch L) := by
  obtain ⟨_, _, _, _, x4, _⟩ := h.cells
  have z4 := h.frz 4
  have HH := Lib.hid (h.cnt_ (cnt + 1))
  have HK0 := Lib.hid (MKept.fld w g gm 4 lv (.int .i64 ((cnt + 1 : Nat) : Int)))
  have HV := Lib.hid hv
  have HL := Lib.hid hL
  have hsz := (svalid_ok hv).2.1
  have HSZ := Lib.hid hsz
  have HCH := Lib.hid hch
  have hc0 : (0 : Int) ≤ (ch : Int) := by omega
  have hc1 : (ch : Int) < 256 := by omega
  clear h hv hL hsz
  go_enter Try.func58, Try.ntmps58
  go_upto_region 1 with fail
  have hWe : w.setCell ⟨g, 4, none⟩ (.int .i64 ((cnt : Int) + 1)) = w.setCell ⟨g, 4, none⟩ (.int .i64 ((cnt + 1 : Nat) : Int)) := rfl
  rw [hWe]
  generalize w.setCell ⟨g, 4, none⟩ (.int .i64 ((cnt + 1 : Nat) : Int)) = W at *
  clear hWe x4 z4 hcnt
  have HMF : Hid (∀ e w', (e = .returned (.tuple #[]) ∧ (ndone st (mL1 st bol ch L) = true → ∃ lv', MK w0 w' B g gm st A c lv' bol (cnt + 1) true (mL1 st bol ch L) (mL1 st bol ch L) ∧ MKept w w' g gm lv lv') ∧
    (ndone st (mL1 st bol ch L) = false → ∃ lv', MK w0 w' B g gm st A c lv' (ch == 10) (cnt + 1) (ndone st (mL2 st bol ch L)) (mL2 st bol ch L) (mL2 st bol ch L) ∧ MKept w w' g gm lv lv')) → MFeed w lv w0 B g gm st A c bol cnt ch L e w') := Lib.hid (fun _ _ h => h)
  have HSL := Lib.hid (HL.out.mL1 HV.out (bol := bol) (ch := ch))
  have HEQ : Hid (((ch : Int) == 10) = (ch == 10)) := Lib.hid (by rw [Bool.eq_iff_iff, beq_iff_eq, beq_iff_eq]; omega)
  go_upto_if 18 with fail
  go_cut [] (fun wx => ∃ lv1, Hid (MK w0 wx B g gm st A c lv1 bol (cnt + 1) (ndone st (mL1 st bol ch L)) (mL1 st bol ch L) (mL1 st bol ch L)) ∧ Hid (MKept w wx g gm lv lv1))
  case first =>
    clear HMF HSL
    by_cases h10 : ch = 10
    · subst h10
      have HN : Hid (mL1 st bol 10 L = nspread st bol true L) := Lib.hid (if_pos rfl)
      have HC := Lib.hid (mspreadC w0 B g gm st A c lv bol (cnt + 1) L W HH.out HV.out HL.out true)
      clear HH
      go_wp2_with fail
      refine (HC.out).mono ?_; rintro e w2 ⟨rfl, lv2, hm2, hk2⟩
      have HM2 := Lib.hid hm2
      have HK2 := Lib.hid (HK0.out.trans hk2)
      clear hm2 hk2 HC
      go_wp2_with fail
      go_meet
      exact ⟨lv2, by rw [HN.out]; exact HM2, HK2⟩
    · have b10 : ((ch : Int) == 10) = false := by simp; omega
      have HN : Hid (mL1 st bol ch L = L) := Lib.hid (if_neg h10)
      clear h10
      go_wp2_with fail
      go_meet
      exact ⟨lv, by rw [HN.out]; exact HH, HK0⟩
  case rest =>
    clear HH HK0 HL
    obtain ⟨lv1, HM1, HK1⟩ := hcut
    have HL2 : Hid (mL2 st bol ch L = nspread st (ch == 10) false (enterM (nstep st ch (mL1 st bol ch L)) 0)) := Lib.hid rfl
    generalize mL2 st bol ch L = R2 at *
    generalize mL1 st bol ch L = Q at *
    obtain ⟨_, y1, y2, _, _, y5⟩ := HM1.out.cells
    cases hd : ndone st Q with
    | true =>
      rw [hd] at HM1 HMF y5
      have HX := Lib.hid (HMF.out _ wc ⟨rfl, fun _ => ⟨lv1, HM1.out, HK1.out⟩, fun h => by cases h⟩)
      clear hd HMF HM1 HK1 HL2 y1 y2
      go_wp2_with fail
      go_end0
      exact HX.out
    | false =>
      rw [hd] at HM1 HMF y5
      have HX : Hid (∀ w' lv', MK w0 w' B g gm st A c lv' (ch == 10) (cnt + 1) (ndone st R2) R2 R2 → MKept w w' g gm lv lv' → MFeed w lv w0 B g gm st A c bol cnt ch L (.returned (.tuple #[])) w') := Lib.hid (fun w' lv' h1 h2 => HMF.out _ w' ⟨rfl, (fun h => by cases h), fun _ => ⟨lv', h1, h2⟩⟩)
      clear hd HMF
      obtain ⟨Al, cl, rfl, _, _, _⟩ := HM1.out.own.shape
      have f2 := HM1.out.frz 2
      have hw1 := HM1.out.list (L' := []) (Own.nil_ _ _ _ _) (World.grownBy.refl wc _)
      have hk1 : MKept wc (wc.setCell ⟨g, 2, none⟩ (.slice none 0 0)) g gm (.slice Al Q.length cl) (.slice none 0 0) := MKept.drop
      generalize hw1e : wc.setCell ⟨g, 2, none⟩ (.slice none 0 0) = w1 at *
      obtain ⟨_, g1, _⟩ := hw1.cells
      have hsz := HSZ.out
      have hcl : ∀ ty, (Builtin.clear_ #[68] ty #[.slice (some ⟨gm, 0, none⟩) st.length st.length]).run Try.prog w1 = .ok (.tuple #[]) _ :=
        fun ty => Lib.run_clear_slice w1 _ _ ty _ Try.underlying68 Try.zeroValue4 rfl rfl gm 0 st.length st.length (by have := (svalid_ok HV.out).1; omega)
          (fun t ht => by rw [Nat.zero_add, cell_of_row w1 gm t _ _ _ hw1.mks, List.getElem?_toArray, mkm_get _ _ _ ht]; rfl) (fun t ht => frozen_of_row w1 gm _ _ _ hw1.mks)
      have HGA : Hid (∀ j, j < wc.heap.size → j ≠ g → j ≠ gm → (w1.setCells gm 0 (List.replicate st.length (.bool false))).heap[j]? = wc.heap[j]?) := Lib.hid (fun j hj j1 j2 => by
        rw [(mgrown_setCells gm _ 0 w1).block j (by rw [← hw1e]; simpa using hj) (by intro e; injection e with e; exact j2 e), ← hw1e]
        exact heap_setCell_other wc ⟨g, 2, none⟩ j _ j1)
      have HW2 := Lib.hid hw1.clear
      have HK2 := Lib.hid (hk1.trans (MKept.clear w1 g gm st.length (.slice none 0 0)))
      clear hk1 hw1
      go_upto_region 8 with fail
      generalize w1.setCells gm 0 (List.replicate st.length (.bool false)) = w2 at *
      clear hcl g1 y1 y2 y5 f2 hw1e hsz
      have HLQ := HSL
      go_wp2_with fail
      go_loopw [38] (fun s38 wr => MFRel wc w2 w0 B g gm st A c (.slice Al Q.length cl) bol (cnt + 1) ch Q s38 wr) (fun s38 _ => Q.length - (intOf s38).toNat)
      case atStart => exact ⟨0, [], _, rfl, Nat.zero_le _, HW2, HK2, Lib.hid (MKept.refl _ _ _ _), Lib.hid (Spots.nil _), Lib.hid rfl⟩
      case round =>
        obtain ⟨k, L1, lv1, rfl, hk, HW, HKW, HKR, HS, HE⟩ := hrel
        have hLl := HLQ.out.len
        obtain ⟨e0, _⟩ := HW.out.cells
        have hsz := HSZ.out
        by_cases hkl : k < Q.length
        · obtain ⟨ga, ca, hvv, hBa, hla, _, _⟩ := HM1.out.own.form (by omega)
          injection hvv with hA _ hc
          subst hA
          subst hc
          have ec := (HM1.out.own.cellAt (spm_get Q k hkl)).1
          have eg : wr.heap[ga]? = wc.heap[ga]? := by
            have n1 : ga ≠ g := fun e => by have := HM1.out.lg; omega
            have n2 : ga ≠ gm := fun e => by have := HM1.out.lm; omega
            rw [HKR.out.far ga (Nat.lt_of_lt_of_le hla HK2.out.size) n1 n2 (by simp [Value.ownBlock]), HGA.out ga hla n1 n2]
          have es : wr.cell? ⟨ga, k, none⟩ = some (.int .i64 (Q.getD k 0 : Nat)) := by rw [World.cell?_of_block (a := ⟨ga, k, none⟩) eg]; exact ec
          have hsl : Q.getD k 0 < st.length := HLQ.out.2 _ (by rw [List.getD_eq_getElem?_getD, List.getElem?_eq_getElem hkl]; exact List.getElem_mem hkl)
          have hun : (Q.take (k + 1)).foldl (fun acc s => nover st ch s acc) [] = nover st ch (Q.getD k 0) L1 := by
            rw [List.take_add_one, List.getElem?_eq_getElem hkl, List.foldl_append, HE.out, List.getD_eq_getElem?_getD, List.getElem?_eq_getElem hkl]
            rfl
          have HU := Lib.hid hun
          clear hun ec eg
          have i1 : (0 : Int) ≤ (k : Int) := by omega
          have i2 : (k : Int) < (Q.length : Int) := by omega
          generalize Q.getD k 0 = s at *
          have hok := (svalid_ok HV.out).2.2 s hsl
          have hx : st[s]? = some (nd st s) := by unfold nd; rw [List.getD_eq_getElem?_getD, List.getElem?_eq_getElem hsl]; rfl
          obtain ⟨b, off, rfl, _, hcl⟩ := (HW.out.nodes.up HW.out.old).at_ (by rw [ndsV_length]; omega)
          have hg := ndsV_get st s _ hx
          have c0 := hcl _ _ (hg 0 (by omega))
          have c1 := hcl _ _ (hg 1 (by omega))
          have c2 := hcl _ _ (hg 2 (by omega))
          have c3 := hcl _ _ (hg 3 (by omega))
          have c4 := hcl _ _ (hg 4 (by omega))
          have c5 := hcl _ _ (hg 5 (by omega))
          have c6 := hcl _ _ (hg 6 (by omega))
          rw [← Nat.add_assoc] at c0 c1 c2 c3 c4 c5 c6
          rw [Nat.add_zero] at c0
          have s1 : (0 : Int) ≤ (s : Int) := by omega
          have s2 : (s : Int) < (st.length : Int) := by omega
          have HVd : Hid (nover st ch s L1 = if (nd st s).kind = 1 ∧ hasB (nd st s).set ch = true then enterM L1 (nd st s).left.toNat else L1) := Lib.hid rfl
          clear hx hcl hg hsl
          generalize nd st s = y at *
          obtain ⟨kd, lf, rt, se⟩ := y
          replace c0 : wr.cell? ⟨b, off + s * 7, none⟩ = some (.int .i64 kd) := c0
          replace c1 : wr.cell? ⟨b, off + s * 7 + 1, none⟩ = some (.int .i64 lf) := c1
          replace c2 : wr.cell? ⟨b, off + s * 7 + 2, none⟩ = some (.int .i64 rt) := c2
          replace c3 : wr.cell? ⟨b, off + s * 7 + 3, none⟩ = some (.int .u64 (setW se 0)) := c3
          replace c4 : wr.cell? ⟨b, off + s * 7 + 4, none⟩ = some (.int .u64 (setW se 1)) := c4
          replace c5 : wr.cell? ⟨b, off + s * 7 + 5, none⟩ = some (.int .u64 (setW se 2)) := c5
          replace c6 : wr.cell? ⟨b, off + s * 7 + 6, none⟩ = some (.int .u64 (setW se 3)) := c6
          go_upto_region 12 with fail
          have hk7 : StAt (wr.alloc (.cells (ndCells ⟨kd, lf, rt, se⟩).toArray 42)) wr.heap.size ⟨kd, lf, rt, se⟩ := heap_alloc_new wr _
          have hoW : Old wr (wr.alloc (.cells (ndCells ⟨kd, lf, rt, se⟩).toArray 42)) := (Old.refl wr).alloc _
          have hWe : wr.alloc (.cells #[.int .i64 kd, .int .i64 lf, .int .i64 rt, .int .u64 (setW se 0), .int .u64 (setW se 1), .int .u64 (setW se 2), .int .u64 (setW se 3)] 42) = wr.alloc (.cells (ndCells ⟨kd, lf, rt, se⟩).toArray 42) := rfl
          rw [hWe]
          have HWA := Lib.hid (HW.out.up hoW)
          have HKWA := Lib.hid (HKW.out.trans (MKept.of_old hoW g gm lv1))
          have HKRA := Lib.hid (HKR.out.trans (MKept.of_old hoW g gm lv1))
          generalize wr.alloc (.cells (ndCells ⟨kd, lf, rt, se⟩).toArray 42) = V0 at *
          generalize wr.heap.size = k7 at *
          clear c0 c1 c2 c3 c4 c5 c6 e0 es hWe hoW HW HKW HKR s1 s2
          obtain ⟨d0, d1, _, d3, d4, d5, d6⟩ := hk7.cells
          simp only at d0 d1 d3 d4 d5 d6
          clear hk7
          obtain ⟨o1, o2, o3, o4⟩ := hok
          simp only at o1 o2 o3 o4 HVd
          by_cases hkd : kd = 1
          · subst hkd
            obtain ⟨a, rfl⟩ := Int.eq_ofNat_of_zero_le (o3 (by decide)).1
            have ha : a < st.length := by have := (o3 (by decide)).2; omega
            have HAL := Lib.hid ha
            have HEN := Lib.hid (menterD w0 B g gm st _ c lv1 bol (cnt + 1) L1 V0 HWA.out (by omega) HS.out a ha)
            clear ha o1 o2 o3 o4
            have q0 := setW_lt se 0
            have q1 := setW_lt se 1
            have q2 := setW_lt se 2
            have q3 := setW_lt se 3
            have hq : (ch : Int) / 64 = 0 ∨ (ch : Int) / 64 = 1 ∨ (ch : Int) / 64 = 2 ∨ (ch : Int) / 64 = 3 := by omega
            have HWH := Lib.hid (fun i hi => word_has3 se i ch HCH.out hi)
            cases hbb : hasB se ch with
            | false =>
              have HVV : Hid (nover st ch s L1 = L1) := Lib.hid (by rw [HVd.out, if_neg (fun h => by rw [hbb] at h; cases h.2)])
              have HBB := Lib.hid hbb
              clear HVd hbb HEN
              rcases hq with hq | hq | hq | hq
              · have hwb := HWH.out 0 (by omega)
                rw [HBB.out] at hwb
                go_wp2_with fail
                go_roundw
                case rel => exact ⟨k + 1, L1, lv1, rfl, by omega, HWA, HKWA, HKRA, HS, Lib.hid (HU.out.trans HVV.out)⟩
                case measure => simp [intOf]; omega
              · have hwb := HWH.out 1 (by omega)
                rw [HBB.out] at hwb
                go_wp2_with fail
                go_roundw
                case rel => exact ⟨k + 1, L1, lv1, rfl, by omega, HWA, HKWA, HKRA, HS, Lib.hid (HU.out.trans HVV.out)⟩
                case measure => simp [intOf]; omega
              · have hwb := HWH.out 2 (by omega)
                rw [HBB.out] at hwb
                go_wp2_with fail
                go_roundw
                case rel => exact ⟨k + 1, L1, lv1, rfl, by omega, HWA, HKWA, HKRA, HS, Lib.hid (HU.out.trans HVV.out)⟩
                case measure => simp [intOf]; omega
              · have hwb := HWH.out 3 (by omega)
                rw [HBB.out] at hwb
                go_wp2_with fail
                go_roundw
                case rel => exact ⟨k + 1, L1, lv1, rfl, by omega, HWA, HKWA, HKRA, HS, Lib.hid (HU.out.trans HVV.out)⟩
                case measure => simp [intOf]; omega
            | true =>
              have HVV : Hid (nover st ch s L1 = enterM L1 a) := Lib.hid (by rw [HVd.out, if_pos ⟨rfl, hbb⟩]; rfl)
              have HBB := Lib.hid hbb
              clear HVd hbb
              rcases hq with hq | hq | hq | hq
              · have hwb := HWH.out 0 (by omega)
                rw [HBB.out] at hwb
                go_wp2_with fail
                refine (HEN.out).mono ?_; rintro e V ⟨rfl, lv', hw, hk'⟩
                have HV3 := Lib.hid hw
                have HKV := Lib.hid (HKWA.out.trans hk')
                have HKQ := Lib.hid (HKRA.out.trans hk')
                clear hw hk'
                go_wp2_with fail
                go_roundw
                case rel => exact ⟨k + 1, _, lv', rfl, by omega, HV3, HKV, HKQ, Lib.hid (HS.out.enter HAL.out), Lib.hid (HU.out.trans HVV.out)⟩
                case measure => simp [intOf]; omega
              · have hwb := HWH.out 1 (by omega)
                rw [HBB.out] at hwb
                go_wp2_with fail
                refine (HEN.out).mono ?_; rintro e V ⟨rfl, lv', hw, hk'⟩
                have HV3 := Lib.hid hw
                have HKV := Lib.hid (HKWA.out.trans hk')
                have HKQ := Lib.hid (HKRA.out.trans hk')
                clear hw hk'
                go_wp2_with fail
                go_roundw
                case rel => exact ⟨k + 1, _, lv', rfl, by omega, HV3, HKV, HKQ, Lib.hid (HS.out.enter HAL.out), Lib.hid (HU.out.trans HVV.out)⟩
                case measure => simp [intOf]; omega
              · have hwb := HWH.out 2 (by omega)
                rw [HBB.out] at hwb
                go_wp2_with fail
                refine (HEN.out).mono ?_; rintro e V ⟨rfl, lv', hw, hk'⟩
                have HV3 := Lib.hid hw
                have HKV := Lib.hid (HKWA.out.trans hk')
                have HKQ := Lib.hid (HKRA.out.trans hk')
                clear hw hk'
                go_wp2_with fail
                go_roundw
                case rel => exact ⟨k + 1, _, lv', rfl, by omega, HV3, HKV, HKQ, Lib.hid (HS.out.enter HAL.out), Lib.hid (HU.out.trans HVV.out)⟩
                case measure => simp [intOf]; omega
              · have hwb := HWH.out 3 (by omega)
                rw [HBB.out] at hwb
                go_wp2_with fail
                refine (HEN.out).mono ?_; rintro e V ⟨rfl, lv', hw, hk'⟩
                have HV3 := Lib.hid hw
                have HKV := Lib.hid (HKWA.out.trans hk')
                have HKQ := Lib.hid (HKRA.out.trans hk')
                clear hw hk'
                go_wp2_with fail
                go_roundw
                case rel => exact ⟨k + 1, _, lv', rfl, by omega, HV3, HKV, HKQ, Lib.hid (HS.out.enter HAL.out), Lib.hid (HU.out.trans HVV.out)⟩
                case measure => simp [intOf]; omega
          · have hb1 : (kd == 1) = false := by simpa using hkd
            have HVV : Hid (nover st ch s L1 = L1) := Lib.hid (by rw [HVd.out, if_neg (fun h => hkd h.1)])
            clear HVd hkd o1 o2 o3 o4
            go_wp2_with fail
            go_roundw
            case rel => exact ⟨k + 1, L1, lv1, rfl, by omega, HWA, HKWA, HKRA, HS, Lib.hid (HU.out.trans HVV.out)⟩
            case measure => simp [intOf]; omega
        · obtain rfl : k = Q.length := by omega
          have HN : Hid (nstep st ch Q = L1) := Lib.hid (by have := HE.out; rw [List.take_length] at this; exact this)
          obtain ⟨_, _, _, e3, _, _⟩ := HW.out.cells
          have z3 := HW.out.frz 3
          have HB := Lib.hid (HW.out.bol_ (ch == 10))
          have HKB := Lib.hid (HK1.out.trans (HKW.out.trans (MKept.fld wr g gm 3 lv1 (.bool (ch == 10)))))
          have hEQ := HEQ.out
          clear HE HKR HW2 HK2 HGA HM1 HK1 HKW hkl
          rw [HN.out] at HL2
          go_upto_region 16 with fail
          rw [hEQ]
          have HC := Lib.hid (mbeginC w0 B g gm st A c lv1 (ch == 10) (cnt + 1) L1 _ HB.out HV.out HS.out)
          rw [← HL2.out] at HC
          clear hEQ e3 z3 HB HN HL2 hsz
          go_wp2_with fail
          refine (HC.out).mono ?_; rintro e w5 ⟨rfl, lv5, hm5, hk5⟩
          have HY := Lib.hid (HX.out w5 lv5 hm5 (HKB.out.trans hk5))
          clear hm5 hk5 HC HX HKB
          go_wp2_with fail
          go_end0
          exact HY.out
end Go.Proofs.Ythadkjgadhbidaa
