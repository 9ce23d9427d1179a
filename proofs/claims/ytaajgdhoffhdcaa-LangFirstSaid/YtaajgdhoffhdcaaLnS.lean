/-
  The walker: step.
-/
import Derived.Test.YtaajgdhoffhdcaaLnZ
import Derived.Lib.SliceRun
namespace Go.Proofs.Ytaajgdhoffhdcaa
open Go.RowKit
set_option linter.unusedVariables false

theorem heap_setCells {g : Nat} {t : TypeId} : ∀ (vs : List Value) (w : World) (pre old : List Value), w.heap[g]? = some (.cells (pre ++ old).toArray t (0, 0)) → old.length = vs.length → (w.setCells g pre.length vs).heap[g]? = some (.cells (pre ++ vs).toArray t (0, 0))
  | [], w, pre, old, h, hl => by
    obtain rfl := List.eq_nil_of_length_eq_zero hl
    exact h
  | v :: r, w, pre, old, h, hl => by
    cases old with
    | nil => simp at hl
    | cons x old =>
      have h1 := heap_setCell_same w g pre.length _ _ v h
      rw [List.setIfInBounds_toArray, List.set_append_right _ _ (Nat.le_refl _), Nat.sub_self, List.set_cons_zero] at h1
      have h2 := heap_setCells (t := t) r (w.setCell ⟨g, pre.length, none⟩ v) (pre ++ [v]) old (by rw [h1]; simp) (by simpa using hl)
      rw [List.length_append, List.length_singleton] at h2
      show ((w.setCell ⟨g, pre.length, none⟩ v).setCells g (pre.length + 1) r).heap[g]? = _
      rw [h2]
      simp
theorem grown_setCells (g : Nat) : ∀ (vs : List Value) (o : Nat) (w : World), w.grownBy (w.setCells g o vs) (some g)
  | [], o, w => World.grownBy.refl _ _
  | v :: r, o, w => World.grownBy.trans (show w.grownBy (w.setCell ⟨g, o, none⟩ v) (some g) from ⟨rfl, rfl, rfl, by simp, fun k _ hk => heap_setCell_other w ⟨g, o, none⟩ k _ (fun e => hk (by simp [e]))⟩) (grown_setCells g r (o + 1) _)
theorem WK.clear {w0 w : World} {B g gp gm : Nat} {l : List Nd} {A : Option Addr} {c : Nat} {ps : List Nat} {lv : Value} {M L : List Nat} (h : WK w0 w B g gp gm l A c ps lv M L) : WK w0 (w.setCells gm 0 (List.replicate (2 * l.length) (.bool false))) B g gp gm l A c ps lv [] L := by
  have hgr := grown_setCells gm (List.replicate (2 * l.length) (.bool false)) 0 w
  have hb : Old w0 (w.setCells gm 0 (List.replicate (2 * l.length) (.bool false))) := Below.grown h.old hgr h.old.size (by intro k hk; injection hk with hk; subst hk; exact h.bm)
  have hz : List.replicate (2 * l.length) (Value.bool false) = mkz (2 * l.length) [] := by
    apply List.ext_getElem?
    intro i
    by_cases hi : i < 2 * l.length
    · rw [mkz_get _ _ _ hi, List.getElem?_replicate, if_pos hi]; simp
    · rw [List.getElem?_eq_none (by simp; omega), List.getElem?_eq_none (by simp [mkz_length]; omega)]
  refine ⟨hb, h.nodes, ?_, ?_, ?_, World.ownsRow.kept h.own hgr (Or.inr (fun e => own_far h.own h.lm e.symm)), h.bg, h.bp, h.bm, h.lg, h.lp, h.lm, h.n1, h.n2, h.n3, Nat.le_trans h.lB hgr.size⟩
  · exact (hgr.block g (lt_of_block h.blk) (by intro e; injection e with e; exact h.n2 e)).trans h.blk
  · exact (hgr.block gp (lt_of_block h.par) (by intro e; injection e with e; exact h.n3 e)).trans h.par
  · have := heap_setCells (t := 4) (List.replicate (2 * l.length) (.bool false)) w [] (mkz (2 * l.length) M) h.mks (by simp [mkz_length])
    rw [List.nil_append, hz] at this
    rw [hz]
    exact this
theorem Kept.clear (w : World) (g gm n : Nat) (lv : Value) : Kept w (w.setCells gm 0 (List.replicate n (.bool false))) g gm lv lv :=
  ⟨(grown_setCells gm _ 0 w).size, fun k hk _ h2 _ => (grown_setCells gm _ 0 w).block k hk (by intro e; injection e with e; exact h2 e), fun _ h => Or.inl h⟩
theorem Kept.drop {w : World} {g gm : Nat} {lv : Value} : Kept w (w.setCell ⟨g, 3, none⟩ (.slice none 0 0)) g gm lv (.slice none 0 0) :=
  ⟨by simp, fun k _ h1 _ _ => heap_setCell_other w ⟨g, 3, none⟩ k _ h1, fun k h => by cases h⟩
theorem word_has2 (s : BSet) (i b : Nat) (hb : b < 256) (hi : b / 64 = i) : (bits BinOp.and IntKind.u64 (((setW s i : Nat) : Int) / 2 ^ (b % 64)) 1 != 0) = hasB s b := by
  rw [← word_has s i b hb hi]
  have e : ((setW s i : Nat) : Int) / 2 ^ (b % 64) = ((setW s i / 2 ^ (b % 64) : Nat) : Int) := by push_cast; rfl
  have hl := setW_lt s i
  have hd : setW s i / 2 ^ (b % 64) < 18446744073709551616 := Nat.lt_of_le_of_lt (Nat.div_le_self _ _) hl
  have h1 := u64_and_nat (setW s i / 2 ^ (b % 64)) 1 hd (by decide)
  rw [nat_mask1] at h1
  rw [e]
  have h1' : bits BinOp.and IntKind.u64 ((setW s i / 2 ^ (b % 64) : Nat) : Int) 1 = ((setW s i / 2 ^ (b % 64) % 2 : Nat) : Int) := h1
  rw [h1']
  rw [Bool.eq_iff_iff, bne_iff_ne, beq_iff_eq]
  omega
def StepRel (w w2 w0 : World) (B g gp gm : Nat) (l : List Nd) (A : Option Addr) (c : Nat) (ps : List Nat) (lv : Value) (ch : Nat) (L : List Nat) (v : Value) (wr : World) : Prop :=
  ∃ (k : Nat) (L1 : List Nat) (lv1 : Value), v = .int .i64 k ∧ k ≤ L.length ∧ Hid (WK w0 wr B g gp gm l A c ps lv1 L1 L1) ∧ Hid (Kept w wr g gm lv lv1) ∧ Hid (Kept w2 wr g gm (.slice none 0 0) lv1) ∧ Hid (Spots (2 * l.length) L1) ∧ Hid ((L.take k).foldl (fun acc s => overM l ch s acc) [] = L1)
set_option maxHeartbeats 4000000 in
set_option maxRecDepth 100000 in
theorem stepC (w0 : World) (B g gp gm : Nat) (l : List Nd) (A : Option Addr) (c : Nat) (ps : List Nat) (lv : Value) (L : List Nat) (w : World) (h : WK w0 w B g gp gm l A c ps lv L L) (hl : l.length ≤ 256) (h1 : 1 ≤ l.length) (hL : Spots (2 * l.length) L) (ch : Nat) (hch : ch < 256) :
    Calls Try.prog 49 #[.pointer (some ⟨g, 0, none⟩), .int .u8 ch] w (WPost w lv w0 B g gp gm l A c ps (stepM l ch L)) := by
  have e3 : w.cell? ⟨g, 3, none⟩ = some lv := by rw [cell_of_row w g 3 _ _ _ h.blk]; rfl
  have f3 : w.frozen? ⟨g, 3, none⟩ = false := frozen_of_row w g 3 _ _ h.blk
  obtain ⟨Al, cl, rfl, hts, _, _⟩ := h.own.shape
  have hw1 := h.list (L' := []) (Own.nil_ _ _ _ _) (World.grownBy.refl w _)
  have hk1 : Kept w (w.setCell ⟨g, 3, none⟩ (.slice none 0 0)) g gm (.slice Al L.length cl) (.slice none 0 0) := Kept.drop
  have HLL := Lib.hid hL
  have HH := Lib.hid h
  generalize hw1e : w.setCell ⟨g, 3, none⟩ (.slice none 0 0) = w1 at *
  have g2 : w1.cell? ⟨g, 2, none⟩ = some (.slice (some ⟨gm, 0, none⟩) (2 * l.length) (2 * l.length)) := by rw [cell_of_row w1 g 2 _ _ _ hw1.blk]; rfl
  have hcl : ∀ ty, (Builtin.clear_ #[84] ty #[.slice (some ⟨gm, 0, none⟩) (2 * l.length) (2 * l.length)]).run Try.prog w1 = .ok (.tuple #[]) _ :=
    fun ty => Lib.run_clear_slice w1 _ _ ty _ Try.underlying84 Try.zeroValue4 rfl rfl gm 0 (2 * l.length) (2 * l.length) (by omega)
      (fun t ht => by rw [Nat.zero_add, cell_of_row w1 gm t _ _ _ hw1.mks, List.getElem?_toArray, mkz_get _ _ _ ht]; rfl) (fun t ht => frozen_of_row w1 gm _ _ _ hw1.mks)
  have HGA : Hid (∀ j, j ≠ g → j ≠ gm → (w1.setCells gm 0 (List.replicate (2 * l.length) (.bool false))).heap[j]? = w.heap[j]?) := Lib.hid (fun j j1 j2 => by
    by_cases hj : j < w1.heap.size
    · rw [(grown_setCells gm _ 0 w1).block j hj (by intro e; injection e with e; exact j2 e), ← hw1e]
      exact heap_setCell_other w ⟨g, 3, none⟩ j _ j1
    · have e1 : w1.heap.size = w.heap.size := by rw [← hw1e]; simp
      rw [Array.getElem?_eq_none (xs := w.heap) (by omega), Array.getElem?_eq_none]
      have : ∀ (vs : List Value) (o : Nat) (W : World), (W.setCells gm o vs).heap.size = W.heap.size := by
        intro vs
        induction vs with
        | nil => intro o W; rfl
        | cons v r ih => intro o W; exact (ih (o + 1) _).trans (by simp)
      rw [this]; omega)
  have HW2 := Lib.hid hw1.clear
  have HK2 := Lib.hid (hk1.trans (Kept.clear w1 g gm (2 * l.length) (.slice none 0 0)))
  clear h hL hk1 hw1
  go_enter Try.func49, Try.ntmps49
  go_upto_region 3 with fail
  generalize w1.setCells gm 0 (List.replicate (2 * l.length) (.bool false)) = w2 at *
  clear hcl g2 e3 f3 hw1e
  go_wp2_with fail
  go_loopw [21] (fun s21 wr => StepRel w w2 w0 B g gp gm l A c ps (.slice Al L.length cl) ch L s21 wr) (fun s21 _ => L.length - (intOf s21).toNat)
  case atStart => exact ⟨0, [], _, rfl, Nat.zero_le _, HW2, HK2, Lib.hid (Kept.refl _ _ _ _), Lib.hid (Spots.nil _), Lib.hid rfl⟩
  case round =>
    obtain ⟨k, L1, lv1, rfl, hk, HW, HKW, HKR, HS, HE⟩ := hrel
    have hLl := HLL.out.len
    have e0 : wr.cell? ⟨g, 0, none⟩ = some (.slice A l.length c) := by rw [cell_of_row wr g 0 _ _ _ HW.out.blk]; rfl
    by_cases hkl : k < L.length
    · obtain ⟨ga, ca, hv, hBa, hla, _, _⟩ := HH.out.own.form (by omega)
      injection hv with hA _ hc
      subst hA
      subst hc
      have ec := (HH.out.own.cellAt (spz_get L k hkl)).1
      have eg : wr.heap[ga]? = w.heap[ga]? := by
        have n1 : ga ≠ g := fun e => by have := HH.out.lg; omega
        have n2 : ga ≠ gm := fun e => by have := HH.out.lm; omega
        rw [HKR.out.far ga (Nat.lt_of_lt_of_le hla HK2.out.size) n1 n2 (by simp [Value.ownBlock]), HGA.out ga n1 n2]
      have es : wr.cell? ⟨ga, k, none⟩ = some (.int .i64 (L.getD k 0 : Nat)) := by rw [World.cell?_of_block (a := ⟨ga, k, none⟩) eg]; exact ec
      have hsl : L.getD k 0 < 2 * l.length := HLL.out.2 _ (by rw [List.getD_eq_getElem?_getD, List.getElem?_eq_getElem hkl]; exact List.getElem_mem hkl)
      have hun : (L.take (k + 1)).foldl (fun acc s => overM l ch s acc) [] = overM l ch (L.getD k 0) L1 := by
        rw [List.take_add_one, List.getElem?_eq_getElem hkl, List.foldl_append, HE.out, List.getD_eq_getElem?_getD, List.getElem?_eq_getElem hkl]
        rfl
      have HU := Lib.hid hun
      clear hun ec eg
      have i1 : (0 : Int) ≤ (k : Int) := by omega
      have i2 : (k : Int) < (L.length : Int) := by omega
      generalize L.getD k 0 = s at *
      have td : Int.tdiv (s : Int) 2 = ((s / 2 : Nat) : Int) := by rw [Int.tdiv_eq_ediv_of_nonneg (by omega)]; omega
      have tm : Int.tmod (s : Int) 2 = ((s % 2 : Nat) : Int) := by rw [Int.tmod_eq_emod_of_nonneg (by omega)]; omega
      have te : (s : Int) / 2 = ((s / 2 : Nat) : Int) := by omega
      have tn : (s : Int) % 2 = ((s % 2 : Nat) : Int) := by omega
      have hy : s / 2 < l.length := by omega
      have HY := Lib.hid hy
      have HVd : Hid (overM l ch s L1 = if s % 2 = 0 ∧ (nd l (s / 2)).kind = 2 ∧ hasB (nd l (s / 2)).set ch = true then enterM L1 (2 * (s / 2) + 1) else L1) := Lib.hid rfl
      generalize hyd : s / 2 = y at *
      by_cases h2 : s % 2 = 0
      · rw [h2] at tm tn
        have hx : l[y]? = some (nd l y) := by unfold nd; rw [List.getD_eq_getElem?_getD, List.getElem?_eq_getElem hy]; rfl
        have hg := ndsV_get l y _ hx
        obtain ⟨b, off, rfl, hbl, hcl⟩ := (HW.out.nodes.up HW.out.old).at_ (by rw [ndsV_length]; omega)
        have c0 := hcl _ _ (hg 0 (by omega))
        have c3 := hcl _ _ (hg 3 (by omega))
        have c4 := hcl _ _ (hg 4 (by omega))
        have c5 := hcl _ _ (hg 5 (by omega))
        have c6 := hcl _ _ (hg 6 (by omega))
        rw [← Nat.add_assoc] at c0 c3 c4 c5 c6
        rw [Nat.add_zero] at c0
        clear hx hg hcl
        generalize hnd : nd l y = nx at *
        obtain ⟨kd, lf, rt, st⟩ := nx
        replace c0 : wr.cell? ⟨b, off + y * 7, none⟩ = some (.int .i64 kd) := c0
        replace c3 : wr.cell? ⟨b, off + y * 7 + 3, none⟩ = some (.int .u64 (setW st 0)) := c3
        replace c4 : wr.cell? ⟨b, off + y * 7 + 4, none⟩ = some (.int .u64 (setW st 1)) := c4
        replace c5 : wr.cell? ⟨b, off + y * 7 + 5, none⟩ = some (.int .u64 (setW st 2)) := c5
        replace c6 : wr.cell? ⟨b, off + y * 7 + 6, none⟩ = some (.int .u64 (setW st 3)) := c6
        have y1 : (0 : Int) ≤ (y : Int) := by omega
        have y2 : (y : Int) < (l.length : Int) := by omega
        by_cases hkd : kd = 2
        · subst hkd
          have q0 := setW_lt st 0
          have q1 := setW_lt st 1
          have q2 := setW_lt st 2
          have q3 := setW_lt st 3
          have g0 : (0 : Int) ≤ (ch : Int) := by omega
          have g1 : (ch : Int) < 256 := by omega
          have hq : (ch : Int) / 64 = 0 ∨ (ch : Int) / 64 = 1 ∨ (ch : Int) / 64 = 2 ∨ (ch : Int) / 64 = 3 := by omega
          have HWH := Lib.hid (fun i hi => word_has2 st i ch hch hi)
          cases hbb : hasB st ch with
          | false =>
            have HVV : Hid (overM l ch s L1 = L1) := Lib.hid (by rw [HVd.out, if_neg (fun h => by rw [hbb] at h; cases h.2.2)])
            have HBB := Lib.hid hbb
            clear HVd hbb
            rcases hq with hq | hq | hq | hq
            · have hwb := HWH.out 0 (by omega)
              rw [HBB.out] at hwb
              go_wp2_with fail
              go_roundw
              case rel => exact ⟨k + 1, L1, lv1, rfl, by omega, HW, HKW, HKR, HS, Lib.hid (HU.out.trans HVV.out)⟩
              case measure => simp [intOf]; omega
            · have hwb := HWH.out 1 (by omega)
              rw [HBB.out] at hwb
              go_wp2_with fail
              go_roundw
              case rel => exact ⟨k + 1, L1, lv1, rfl, by omega, HW, HKW, HKR, HS, Lib.hid (HU.out.trans HVV.out)⟩
              case measure => simp [intOf]; omega
            · have hwb := HWH.out 2 (by omega)
              rw [HBB.out] at hwb
              go_wp2_with fail
              go_roundw
              case rel => exact ⟨k + 1, L1, lv1, rfl, by omega, HW, HKW, HKR, HS, Lib.hid (HU.out.trans HVV.out)⟩
              case measure => simp [intOf]; omega
            · have hwb := HWH.out 3 (by omega)
              rw [HBB.out] at hwb
              go_wp2_with fail
              go_roundw
              case rel => exact ⟨k + 1, L1, lv1, rfl, by omega, HW, HKW, HKR, HS, Lib.hid (HU.out.trans HVV.out)⟩
              case measure => simp [intOf]; omega
          | true =>
            have HVV : Hid (overM l ch s L1 = enterM L1 (2 * y + 1)) := Lib.hid (by rw [HVd.out, if_pos ⟨h2, rfl, hbb⟩])
            have HBB := Lib.hid hbb
            clear HVd hbb
            rcases hq with hq | hq | hq | hq
            · have hwb := HWH.out 0 (by omega)
              rw [HBB.out] at hwb
              go_wp2_with fail
              refine (afterN y (by omega) _).mono ?_; rintro e V ⟨rfl, rfl⟩
              go_wp2_with fail
              refine (enterW HW.out hl HS.out (2 * y + 1) (by omega)).mono ?_; rintro e V ⟨rfl, lv', hw, hk'⟩
              have HV := Lib.hid hw
              have HKV := Lib.hid (HKW.out.trans hk')
              have HKQ := Lib.hid (HKR.out.trans hk')
              clear hw hk'
              go_wp2_with fail
              go_roundw
              case rel => exact ⟨k + 1, _, lv', rfl, by omega, HV, HKV, HKQ, Lib.hid (HS.out.enter (by have := HY.out; omega)), Lib.hid (HU.out.trans HVV.out)⟩
              case measure => simp [intOf]; omega
            · have hwb := HWH.out 1 (by omega)
              rw [HBB.out] at hwb
              go_wp2_with fail
              refine (afterN y (by omega) _).mono ?_; rintro e V ⟨rfl, rfl⟩
              go_wp2_with fail
              refine (enterW HW.out hl HS.out (2 * y + 1) (by omega)).mono ?_; rintro e V ⟨rfl, lv', hw, hk'⟩
              have HV := Lib.hid hw
              have HKV := Lib.hid (HKW.out.trans hk')
              have HKQ := Lib.hid (HKR.out.trans hk')
              clear hw hk'
              go_wp2_with fail
              go_roundw
              case rel => exact ⟨k + 1, _, lv', rfl, by omega, HV, HKV, HKQ, Lib.hid (HS.out.enter (by have := HY.out; omega)), Lib.hid (HU.out.trans HVV.out)⟩
              case measure => simp [intOf]; omega
            · have hwb := HWH.out 2 (by omega)
              rw [HBB.out] at hwb
              go_wp2_with fail
              refine (afterN y (by omega) _).mono ?_; rintro e V ⟨rfl, rfl⟩
              go_wp2_with fail
              refine (enterW HW.out hl HS.out (2 * y + 1) (by omega)).mono ?_; rintro e V ⟨rfl, lv', hw, hk'⟩
              have HV := Lib.hid hw
              have HKV := Lib.hid (HKW.out.trans hk')
              have HKQ := Lib.hid (HKR.out.trans hk')
              clear hw hk'
              go_wp2_with fail
              go_roundw
              case rel => exact ⟨k + 1, _, lv', rfl, by omega, HV, HKV, HKQ, Lib.hid (HS.out.enter (by have := HY.out; omega)), Lib.hid (HU.out.trans HVV.out)⟩
              case measure => simp [intOf]; omega
            · have hwb := HWH.out 3 (by omega)
              rw [HBB.out] at hwb
              go_wp2_with fail
              refine (afterN y (by omega) _).mono ?_; rintro e V ⟨rfl, rfl⟩
              go_wp2_with fail
              refine (enterW HW.out hl HS.out (2 * y + 1) (by omega)).mono ?_; rintro e V ⟨rfl, lv', hw, hk'⟩
              have HV := Lib.hid hw
              have HKV := Lib.hid (HKW.out.trans hk')
              have HKQ := Lib.hid (HKR.out.trans hk')
              clear hw hk'
              go_wp2_with fail
              go_roundw
              case rel => exact ⟨k + 1, _, lv', rfl, by omega, HV, HKV, HKQ, Lib.hid (HS.out.enter (by have := HY.out; omega)), Lib.hid (HU.out.trans HVV.out)⟩
              case measure => simp [intOf]; omega
        · have bk : (kd == 2) = false := by simpa using hkd
          have HVV : Hid (overM l ch s L1 = L1) := Lib.hid (by rw [HVd.out, if_neg (fun h => hkd h.2.1)])
          clear hkd HVd
          go_wp2_with fail
          go_roundw
          case rel => exact ⟨k + 1, L1, lv1, rfl, by omega, HW, HKW, HKR, HS, Lib.hid (HU.out.trans HVV.out)⟩
          case measure => simp [intOf]; omega
      · have h2' : s % 2 = 1 := by omega
        rw [h2'] at tm tn
        have HVV : Hid (overM l ch s L1 = L1) := Lib.hid (by rw [HVd.out, if_neg (fun h => h2 h.1)])
        clear h2 h2' HVd
        go_wp2_with fail
        go_roundw
        case rel => exact ⟨k + 1, L1, lv1, rfl, by omega, HW, HKW, HKR, HS, Lib.hid (HU.out.trans HVV.out)⟩
        case measure => simp [intOf]; omega
    · obtain rfl : k = L.length := by omega
      have HR : Hid (stepM l ch L = L1) := Lib.hid (by rw [← HE.out, List.take_length]; rfl)
      go_wp2_with fail
      go_end0
      rw [HR.out]
      exact ⟨rfl, _, HW.out, HKW.out⟩
end Go.Proofs.Ytaajgdhoffhdcaa
