/-
  The walk of timerq.Play.
-/
import Derived.Test.YtlpaemlgmmmbmaaTqM
namespace Go.Proofs.Ytlpaemlgmmmbmaa
open Go.RowKit Go.Maps
set_option linter.unusedVariables false

theorem info_tr : (Try.prog.info? 71).map (fun i => (i.zero, i.size, i.bytes)) = some (some (.agg #[.int .i64 0, .slice none 0 0, .int .u64 0]), 3, 40) := by kernel_rfl
def PlayPost (w : World) (rs : List Rep) (e : Ending) (w' : World) : Prop := ∃ v cells, e = .returned v ∧ Own w' w.heap.size 71 3 v rs.length cells ∧ RepL w' w.heap.size rs cells ∧ Old w w'
def RoundRel (w : World) (ops : List TOp) (g mb : Nat) (clk rv ix : Value) (wr : World) : Prop :=
  ∃ (k : Nat) (cells : List Value), ix = .int .i64 k ∧ k ≤ ops.length ∧ clk = .int .u64 (runM (ops.take k)).1.2 ∧ (0 ≤ (runM (ops.take k)).1.2 ∧ (runM (ops.take k)).1.2 < 18446744073709551616) ∧
    (runM (ops.take k)).2.length = k ∧ Hid (PQ wr w.heap.size g mb (runM (ops.take k)).1.1) ∧ Hid (QI (runM (ops.take k)).1.1) ∧ Hid (Own wr w.heap.size 71 3 rv k cells) ∧ Hid (RepL wr w.heap.size (runM (ops.take k)).2 cells) ∧ Hid (QK w.heap.size w wr)

theorem RoundRel.next {w wr : World} {ops : List TOp} {g mb k : Nat} {M : List Tm} {now : Int} {reps : List Rep} {cells : List Value} {rv : Value} (hk : k < ops.length) (hE : runM (ops.take (k + 1)) = ((M, now), reps)) (hnow : 0 ≤ now ∧ now < 18446744073709551616)
    (hlen : reps.length = k + 1) (hp : PQ wr w.heap.size g mb M) (hq : QI M) (ho : Own wr w.heap.size 71 3 rv (k + 1) cells) (hR : RepL wr w.heap.size reps cells) (hQ : QK w.heap.size w wr) : RoundRel w ops g mb (.int .u64 now) rv (.int .i64 ((k : Int) + 1)) wr := by
  refine ⟨k + 1, cells, rfl, hk, ?_, ?_, ?_, ?_, ?_, ho, ?_, hQ⟩ <;> rw [hE]
  · exact hnow
  · exact hlen
  · exact hp
  · exact hq
  · exact hR
theorem runM_at {ops : List TOp} {k : Nat} {o : TOp} (ho : ops[k]? = some o) {M M' : List Tm} {now now' : Int} {reps : List Rep} {r : Rep} (h1 : runM (ops.take k) = ((M, now), reps)) (h2 : stepM M now o = (M', now', r)) : runM (ops.take (k + 1)) = ((M', now'), reps ++ [r]) := by
  have hl := (List.getElem?_eq_some_iff.1 ho).1
  rw [List.take_succ_eq_append_getElem hl, (List.getElem?_eq_some_iff.1 ho).2, runM_snoc, h1]
  unfold nextS
  simp only [h2]

set_option maxHeartbeats 1000000 in
set_option maxRecDepth 100000 in
theorem playQr (A : Option Addr) (c : Nat) (ops : List TOp) (w : World) (hr : Rs w A (opv ops)) (hok : ∀ o ∈ ops, o.ok) (hn : ops.length ≤ 68719476736) :
    Calls Try.prog 33 #[.slice A ops.length c] w (PlayPost w (runM ops).2) := by
  have HR := Lib.hid hr
  have HOK := Lib.hid hok
  clear hr hok
  have hmm := @run_makeMap Try.prog
  go_enter Try.func33, Try.ntmps33
  go_upto_region 3 with fail
  have oQ : Old w ((w.alloc (.map #[] 0)).alloc (.cells #[.slice none 0 0, .map (some w.heap.size)] 98)) := ((Old.refl w).alloc _).alloc _
  have hPQ : PQ ((w.alloc (.map #[] 0)).alloc (.cells #[.slice none 0 0, .map (some w.heap.size)] 98)) w.heap.size (w.heap.size + 1) w.heap.size [] := by
    refine ⟨by omega, Nat.le_refl _, .slice none 0 0, .map [], 0, ?_, Own.nil_ _ _ _ _, (World.ownsMap_made w _ _ _).alloc _, MapOf.nil_⟩
    rw [show w.heap.size + 1 = (w.alloc (.map #[] 0)).heap.size by simp]
    exact heap_alloc_new _ _
  generalize (w.alloc (.map #[] 0)).alloc (.cells #[.slice none 0 0, .map (some w.heap.size)] 98) = W0 at *
  have HP0 := Lib.hid hPQ
  have HO0 := Lib.hid oQ
  clear hPQ oQ hmm
  go_wp2_with (at_make; refine wpList_make0 rfl _ _ 62 rfl 71 (.agg #[.int .i64 0, .slice none 0 0, .int .u64 0]) 3 40 Try.underlying62 info_tr (by decide) .i64 .i64 _ ops.length rfl rfl ?pc7 ?pn7 ?_)
  case pc7 => omega
  case pn7 => omega
  intro w1 ho1 hd1
  have HO1 := Lib.hid ho1
  have HP1 := Lib.hid (HP0.out.old hd1)
  have HQ1 := Lib.hid (QK.of_old (B := w.heap.size) (HO0.out.up hd1) (Nat.le_refl _))
  have hb1 := HO0.out.size
  clear ho1 hd1
  generalize hgm : w.heap.size + 1 = g at *
  have Hgm := Lib.hid hgm
  clear hgm
  go_wp2_with fail
  go_loopw [4, 5, 17] (fun clk rv ix wr => RoundRel w ops g w.heap.size clk rv ix wr) (fun _ _ ix _ => ops.length - (intOf ix).toNat)
  case atStart =>
    refine ⟨0, [], rfl, Nat.zero_le _, rfl, ⟨Int.le_refl _, by show (0 : Int) < _; decide⟩, rfl, HP1.out, ⟨TL.nil_, Heap.nil_⟩, HO1.out.base hb1, rfl, HQ1.out⟩
  case round =>
    obtain ⟨k, cells, rfl, hk, rfl, hnw, hrl, HM, HQI0, HO, HRp, HQ⟩ := hrel
    obtain ⟨⟨⟨M, now⟩, reps⟩, hS⟩ : ∃ S, runM (ops.take k) = S := ⟨_, rfl⟩
    rw [hS] at hnw hrl HM HQI0 HRp
    rw [hS]
    have HS := Lib.hid hS
    clear hS
    simp only at hnw hrl HM HQI0 HRp
    by_cases hlt : k < ops.length
    · obtain ⟨o, hG⟩ : ∃ o, ops[k]? = some o := ⟨_, List.getElem?_eq_getElem hlt⟩
      have HG := Lib.hid hG
      have hoo := HOK.out o (List.mem_of_getElem? hG)
      obtain ⟨b, off, rfl, hbl, hcl⟩ := (HR.out.up HQ.out.1).at_ (by rw [opv_length]; omega)
      obtain ⟨g0, g1, g2⟩ := opv_get ops k o hG
      have c0 := hcl _ _ g0
      have c1 := hcl _ _ g1
      have c2 := hcl _ _ g2
      rw [← Nat.add_assoc] at c1 c2
      have i1 : (0 : Int) ≤ (k : Int) := by omega
      have i2 : (k : Int) < (ops.length : Int) := by omega
      clear hcl g0 g1 g2 hG hbl
      obtain ⟨kd, id, at_⟩ := o
      simp only at c0 c1 c2
      go_upto_region 8 with fail
      have oW : Old wr ((wr.alloc (.cells #[.int .i64 kd, .int .i64 id, .int .u64 at_] 66)).alloc (.cells #[.int .i64 0, .slice none 0 0, .int .u64 0] 71)) := ((Old.refl wr).alloc _).alloc _
      have hb7 : ((wr.alloc (.cells #[.int .i64 kd, .int .i64 id, .int .u64 at_] 66)).alloc (.cells #[.int .i64 0, .slice none 0 0, .int .u64 0] 71)).heap[wr.heap.size]? = some (.cells #[.int .i64 kd, .int .i64 id, .int .u64 at_] 66 (0, 0)) :=
        ((Old.refl _).alloc _).block (heap_alloc_new wr _)
      have hb8 : ((wr.alloc (.cells #[.int .i64 kd, .int .i64 id, .int .u64 at_] 66)).alloc (.cells #[.int .i64 0, .slice none 0 0, .int .u64 0] 71)).heap[wr.heap.size + 1]? = some (.cells #[.int .i64 0, .slice none 0 0, .int .u64 0] 71 (0, 0)) := by
        rw [show wr.heap.size + 1 = (wr.alloc (.cells #[.int .i64 kd, .int .i64 id, .int .u64 at_] 66)).heap.size by simp]
        exact heap_alloc_new _ _
      generalize (wr.alloc (.cells #[.int .i64 kd, .int .i64 id, .int .u64 at_] 66)).alloc (.cells #[.int .i64 0, .slice none 0 0, .int .u64 0] 71) = W2 at *
      have a0 : W2.cell? ⟨wr.heap.size, 0, none⟩ = some (.int .i64 kd) := by rw [cell_of_row W2 _ 0 _ _ _ hb7]; rfl
      have a1 : W2.cell? ⟨wr.heap.size, 1, none⟩ = some (.int .i64 id) := by rw [cell_of_row W2 _ 1 _ _ _ hb7]; rfl
      have a2 : W2.cell? ⟨wr.heap.size, 2, none⟩ = some (.int .u64 at_) := by rw [cell_of_row W2 _ 2 _ _ _ hb7]; rfl
      have HM2 := Lib.hid (HM.out.old oW)
      have HQ2 : Hid (QK w.heap.size wr W2) := QK.of_old oW HQ.out.size
      have HB7 := Lib.hid hb7
      have HB8 := Lib.hid hb8
      clear oW hb7 hb8 c0 c1 c2
      by_cases h1 : kd = 1
      · subst h1
        have hst : stepM M now ⟨1, id, at_⟩ = ((setM M id at_).2, now, ⟨(setM M id at_).1, [], 0⟩) := rfl
        have HST := Lib.hid hst
        have HQI : Hid (QI (setM M id at_).2) := HQI0.out.set_ hoo.2.2 hoo.2.1.2
        have HNW := Lib.hid hnw
        have hSet := Lib.hid (setQ w.heap.size g w.heap.size M id at_ W2 HM2.out HQI0.out.1 hoo.2.2 hoo.2.1)
        clear hst
        go_wp2_with fail
        refine hSet.out.mono ?_
        rintro e w3 ⟨rfl, hp3, hq3⟩
        have hbx := hq3.2 _ _ _ _ HB8.out (by decide) (by decide)
        have e0 : w3.cell? ⟨wr.heap.size + 1, 0, none⟩ = some (.int .i64 0) := by rw [cell_of_row w3 _ 0 _ _ _ hbx]; rfl
        have f0 : w3.frozen? ⟨wr.heap.size + 1, 0, none⟩ = false := frozen_of_row w3 _ 0 _ _ hbx
        have HPW := Lib.hid (hp3.store hbx (by decide) (by decide) 0 (.int .i64 (setM M id at_).1))
        have HQW := Lib.hid ((HQ2.out.trans hq3).newStore (k := wr.heap.size + 1) (i := 0) (by omega) HQ.out.size (.int .i64 (setM M id at_).1))
        have hbox := heap_setCell_same w3 (wr.heap.size + 1) 0 _ _ (.int .i64 (setM M id at_).1) hbx
        have HBX := Lib.hid hbox
        clear hp3 hq3 hbx hbox
        go_upto_region 20 with fail
        generalize w3.setCell ⟨wr.heap.size + 1, 0, none⟩ (.int .i64 (setM M id at_).1) = W at *
        have HFV : Hid (Own W w.heap.size 3 1 (.slice none 0 0) 0 (intv [])) := Own.nil_ _ _ _ _
        have hbox := HBX.out
        clear a0 a1 a2 e0 f0
        generalize (setM M id at_).1 = code at *
        generalize (setM M id at_).2 = M' at *
        have d0 : W.cell? ⟨wr.heap.size + 1, 0, none⟩ = some (.int .i64 code) := by rw [cell_of_row W _ 0 _ _ _ hbox]; rfl
        have d1 : W.cell? ⟨wr.heap.size + 1, 1, none⟩ = some (.slice none 0 0) := by rw [cell_of_row W _ 1 _ _ _ hbox]; rfl
        have d2 : W.cell? ⟨wr.heap.size + 1, 2, none⟩ = some (.int .u64 0) := by rw [cell_of_row W _ 2 _ _ _ hbox]; rfl
        have HOw := Lib.hid (HO.out.qk HQW.out (by decide) (by decide))
        have HRw := Lib.hid (HRp.out.keep (fun v n xs h => h.qk HQW.out (by decide) (by decide)))
        have hbW : w.heap.size ≤ W.heap.size := Nat.le_trans HQ.out.size HQW.out.size
        have hk36 : k ≤ 68719476735 := by omega
        clear hbox
        go_wp2_with (at_builtin; refine wpList_push (wr := W) rfl _ _ 62 rfl _ 71 (.agg #[.int .i64 0, .slice none 0 0, .int .u64 0]) 3 40 Try.underlying62 info_tr rfl (by decide) (by decide) _ _ _ rfl HOw.out 1 1 [.int .i64 code, .slice none 0 0, .int .u64 0] rfl rfl rfl rfl ?pn1 hbW ?_)
        case pn1 => omega
        intro v' w5 ho5 hg5 hd5
        have HF := Lib.hid (RoundRel.next hlt (runM_at HG.out HS.out HST.out) HNW.out (by simp [hrl]) (HPW.out.push HOw.out (by decide) (by decide) hg5) HQI.out ho5 (RepL.snoc (HFV.out.grown HOw.out (by decide) hg5) (HRw.out.keep (fun v n xs h => h.grown HOw.out (by decide) hg5))) ((HQ.out.trans HQW.out).push HOw.out (Nat.le_refl _) (Nat.le_refl _) hg5))
        clear ho5 hg5 hd5
        go_wp2_with fail
        go_roundw
        case rel => exact HF.out
        case measure => simp [intOf]; omega
      · by_cases h2 : kd = 2
        · subst h2
          have hst : stepM M now ⟨2, id, at_⟩ = ((cancelM M id).2, now, ⟨(cancelM M id).1, [], 0⟩) := rfl
          have HST := Lib.hid hst
          have HQI : Hid (QI (cancelM M id).2) := HQI0.out.cancel id
          have HNW := Lib.hid hnw
          have hSet := Lib.hid (cancelQ w.heap.size g w.heap.size M id W2 HM2.out HQI0.out.1 HQI0.out.2 hoo.2.1)
          clear hst
          go_wp2_with fail
          refine hSet.out.mono ?_
          rintro e w3 ⟨rfl, hp3, hq3⟩
          have hbx := hq3.2 _ _ _ _ HB8.out (by decide) (by decide)
          have e0 : w3.cell? ⟨wr.heap.size + 1, 0, none⟩ = some (.int .i64 0) := by rw [cell_of_row w3 _ 0 _ _ _ hbx]; rfl
          have f0 : w3.frozen? ⟨wr.heap.size + 1, 0, none⟩ = false := frozen_of_row w3 _ 0 _ _ hbx
          have HPW := Lib.hid (hp3.store hbx (by decide) (by decide) 0 (.int .i64 (cancelM M id).1))
          have HQW := Lib.hid ((HQ2.out.trans hq3).newStore (k := wr.heap.size + 1) (i := 0) (by omega) HQ.out.size (.int .i64 (cancelM M id).1))
          have hbox := heap_setCell_same w3 (wr.heap.size + 1) 0 _ _ (.int .i64 (cancelM M id).1) hbx
          have HBX := Lib.hid hbox
          clear hp3 hq3 hbx hbox
          go_upto_region 20 with fail
          generalize w3.setCell ⟨wr.heap.size + 1, 0, none⟩ (.int .i64 (cancelM M id).1) = W at *
          have HFV : Hid (Own W w.heap.size 3 1 (.slice none 0 0) 0 (intv [])) := Own.nil_ _ _ _ _
          have hbox := HBX.out
          clear a0 a1 a2 e0 f0
          generalize (cancelM M id).1 = code at *
          generalize (cancelM M id).2 = M' at *
          have d0 : W.cell? ⟨wr.heap.size + 1, 0, none⟩ = some (.int .i64 code) := by rw [cell_of_row W _ 0 _ _ _ hbox]; rfl
          have d1 : W.cell? ⟨wr.heap.size + 1, 1, none⟩ = some (.slice none 0 0) := by rw [cell_of_row W _ 1 _ _ _ hbox]; rfl
          have d2 : W.cell? ⟨wr.heap.size + 1, 2, none⟩ = some (.int .u64 0) := by rw [cell_of_row W _ 2 _ _ _ hbox]; rfl
          have HOw := Lib.hid (HO.out.qk HQW.out (by decide) (by decide))
          have HRw := Lib.hid (HRp.out.keep (fun v n xs h => h.qk HQW.out (by decide) (by decide)))
          have hbW : w.heap.size ≤ W.heap.size := Nat.le_trans HQ.out.size HQW.out.size
          have hk36 : k ≤ 68719476735 := by omega
          clear hbox
          go_wp2_with (at_builtin; refine wpList_push (wr := W) rfl _ _ 62 rfl _ 71 (.agg #[.int .i64 0, .slice none 0 0, .int .u64 0]) 3 40 Try.underlying62 info_tr rfl (by decide) (by decide) _ _ _ rfl HOw.out 1 1 [.int .i64 code, .slice none 0 0, .int .u64 0] rfl rfl rfl rfl ?pn2 hbW ?_)
          case pn2 => omega
          intro v' w5 ho5 hg5 hd5
          have HF := Lib.hid (RoundRel.next hlt (runM_at HG.out HS.out HST.out) HNW.out (by simp [hrl]) (HPW.out.push HOw.out (by decide) (by decide) hg5) HQI.out ho5 (RepL.snoc (HFV.out.grown HOw.out (by decide) hg5) (HRw.out.keep (fun v n xs h => h.grown HOw.out (by decide) hg5))) ((HQ.out.trans HQW.out).push HOw.out (Nat.le_refl _) (Nat.le_refl _) hg5))
          clear ho5 hg5 hd5
          go_wp2_with fail
          go_roundw
          case rel => exact HF.out
          case measure => simp [intOf]; omega
        · by_cases h3 : kd = 3
          · subst h3
            have hst : stepM M now ⟨3, id, at_⟩ = ((fireM M.length M (max now at_)).2, max now at_, ⟨0, (fireM M.length M (max now at_)).1, max now at_⟩) := rfl
            have HST := Lib.hid hst
            have HQI : Hid (QI (fireM M.length M (max now at_)).2) := HQI0.out.fire _ _
            have HNW : Hid (0 ≤ max now at_ ∧ max now at_ < 18446744073709551616) := by have := hoo.2.2; show _ ∧ _; simp only at this; omega
            have hSet := Lib.hid (fireQ w.heap.size g w.heap.size M (max now at_) W2 HM2.out HQI0.out.1 HQI0.out.2)
            clear hst
            go_wp2_with fail
            · have hmm : max now at_ = at_ := by omega
              rw [hmm] at HST HQI HNW hSet
              clear hmm
              refine hSet.out.mono ?_
              rintro e w3 ⟨v, rfl, hfo, hp3, hq3⟩
              obtain ⟨fa, fc, rfl, _⟩ := hfo.shape
              have hb23 : w.heap.size ≤ W2.heap.size := Nat.le_trans HQ.out.size HQ2.out.size
              have hbx := hq3.2 _ _ _ _ HB8.out (by decide) (by decide)
              have e1 : w3.cell? ⟨wr.heap.size + 1, 1, none⟩ = some (.slice none 0 0) := by rw [cell_of_row w3 _ 1 _ _ _ hbx]; rfl
              have e2 : w3.cell? ⟨wr.heap.size + 1, 2, none⟩ = some (.int .u64 0) := by rw [cell_of_row w3 _ 2 _ _ _ hbx]; rfl
              have f1 : w3.frozen? ⟨wr.heap.size + 1, 1, none⟩ = false := frozen_of_row w3 _ 1 _ _ hbx
              have f2 : w3.frozen? ⟨wr.heap.size + 1, 2, none⟩ = false := frozen_of_row w3 _ 2 _ _ hbx
              have hb1' := heap_setCell_same w3 (wr.heap.size + 1) 1 _ _ (.slice fa (fireM M.length M at_).1.length fc) hbx
              have hb2' := heap_setCell_same _ (wr.heap.size + 1) 2 _ _ (.int .u64 at_) hb1'
              have HPW := Lib.hid ((hp3.store hbx (by decide) (by decide) 1 (.slice fa (fireM M.length M at_).1.length fc)).store hb1' (by decide) (by decide) 2 (.int .u64 at_))
              have HQW := Lib.hid (((HQ2.out.trans hq3).newStore (k := wr.heap.size + 1) (i := 1) (by omega) HQ.out.size (.slice fa (fireM M.length M at_).1.length fc)).newStore (k := wr.heap.size + 1) (i := 2) (by omega) HQ.out.size (.int .u64 at_))
              have hg1 : w3.grownBy (w3.setCell ⟨wr.heap.size + 1, 1, none⟩ (.slice fa (fireM M.length M at_).1.length fc)) (some (wr.heap.size + 1)) := ⟨rfl, rfl, rfl, by simp, fun j _ hj => heap_setCell_other w3 ⟨wr.heap.size + 1, 1, none⟩ j _ (fun e => hj (by simp [e]))⟩
              have hg2 : (w3.setCell ⟨wr.heap.size + 1, 1, none⟩ (.slice fa (fireM M.length M at_).1.length fc)).grownBy ((w3.setCell ⟨wr.heap.size + 1, 1, none⟩ (.slice fa (fireM M.length M at_).1.length fc)).setCell ⟨wr.heap.size + 1, 2, none⟩ (.int .u64 at_)) (some (wr.heap.size + 1)) := ⟨rfl, rfl, rfl, by simp, fun j _ hj => heap_setCell_other _ ⟨wr.heap.size + 1, 2, none⟩ j _ (fun e => hj (by simp [e]))⟩
              have HFV := Lib.hid (((hfo.base hb23).keptBut hg1 hbx (by intro c fz e; injection e with _ e; exact absurd e (by decide))).keptBut hg2 hb1' (by intro c fz e; injection e with _ e; exact absurd e (by decide)))
              have HBX := Lib.hid hb2'
              clear hp3 hq3 hbx hb1' hb2' hg1 hg2 hfo
              go_upto_region 20 with fail
              generalize (w3.setCell ⟨wr.heap.size + 1, 1, none⟩ (.slice fa (fireM M.length M at_).1.length fc)).setCell ⟨wr.heap.size + 1, 2, none⟩ (.int .u64 at_) = W at *
              have hbox := HBX.out
              clear a1 a2 e1 e2 f1 f2
              have d0 : W.cell? ⟨wr.heap.size + 1, 0, none⟩ = some (.int .i64 0) := by rw [cell_of_row W _ 0 _ _ _ hbox]; rfl
              have d1 : W.cell? ⟨wr.heap.size + 1, 1, none⟩ = some (.slice fa (fireM M.length M at_).1.length fc) := by rw [cell_of_row W _ 1 _ _ _ hbox]; rfl
              have d2 : W.cell? ⟨wr.heap.size + 1, 2, none⟩ = some (.int .u64 at_) := by rw [cell_of_row W _ 2 _ _ _ hbox]; rfl
              have HOw := Lib.hid (HO.out.qk HQW.out (by decide) (by decide))
              have HRw := Lib.hid (HRp.out.keep (fun v n xs h => h.qk HQW.out (by decide) (by decide)))
              have hbW : w.heap.size ≤ W.heap.size := Nat.le_trans HQ.out.size HQW.out.size
              have hk36 : k ≤ 68719476735 := by omega
              clear hbox
              go_wp2_with (at_builtin; refine wpList_push (wr := W) rfl _ _ 62 rfl _ 71 (.agg #[.int .i64 0, .slice none 0 0, .int .u64 0]) 3 40 Try.underlying62 info_tr rfl (by decide) (by decide) _ _ _ rfl HOw.out 1 1 [.int .i64 0, .slice fa (fireM M.length M at_).1.length fc, .int .u64 at_] rfl rfl rfl rfl ?pn3 hbW ?_)
              case pn3 => omega
              intro v' w5 ho5 hg5 hd5
              have HF := Lib.hid (RoundRel.next hlt (runM_at HG.out HS.out HST.out) HNW.out (by simp [hrl]) (HPW.out.push HOw.out (by decide) (by decide) hg5) HQI.out ho5 (RepL.snoc (HFV.out.grown HOw.out (by decide) hg5) (HRw.out.keep (fun v n xs h => h.grown HOw.out (by decide) hg5))) ((HQ.out.trans HQW.out).push HOw.out (Nat.le_refl _) (Nat.le_refl _) hg5))
              clear ho5 hg5 hd5
              go_wp2_with fail
              go_roundw
              case rel => exact HF.out
              case measure => simp [intOf]; omega
            · have hmm : max now at_ = now := by omega
              rw [hmm] at HST HQI HNW hSet
              clear hmm
              refine hSet.out.mono ?_
              rintro e w3 ⟨v, rfl, hfo, hp3, hq3⟩
              obtain ⟨fa, fc, rfl, _⟩ := hfo.shape
              have hb23 : w.heap.size ≤ W2.heap.size := Nat.le_trans HQ.out.size HQ2.out.size
              have hbx := hq3.2 _ _ _ _ HB8.out (by decide) (by decide)
              have e1 : w3.cell? ⟨wr.heap.size + 1, 1, none⟩ = some (.slice none 0 0) := by rw [cell_of_row w3 _ 1 _ _ _ hbx]; rfl
              have e2 : w3.cell? ⟨wr.heap.size + 1, 2, none⟩ = some (.int .u64 0) := by rw [cell_of_row w3 _ 2 _ _ _ hbx]; rfl
              have f1 : w3.frozen? ⟨wr.heap.size + 1, 1, none⟩ = false := frozen_of_row w3 _ 1 _ _ hbx
              have f2 : w3.frozen? ⟨wr.heap.size + 1, 2, none⟩ = false := frozen_of_row w3 _ 2 _ _ hbx
              have hb1' := heap_setCell_same w3 (wr.heap.size + 1) 1 _ _ (.slice fa (fireM M.length M now).1.length fc) hbx
              have hb2' := heap_setCell_same _ (wr.heap.size + 1) 2 _ _ (.int .u64 now) hb1'
              have HPW := Lib.hid ((hp3.store hbx (by decide) (by decide) 1 (.slice fa (fireM M.length M now).1.length fc)).store hb1' (by decide) (by decide) 2 (.int .u64 now))
              have HQW := Lib.hid (((HQ2.out.trans hq3).newStore (k := wr.heap.size + 1) (i := 1) (by omega) HQ.out.size (.slice fa (fireM M.length M now).1.length fc)).newStore (k := wr.heap.size + 1) (i := 2) (by omega) HQ.out.size (.int .u64 now))
              have hg1 : w3.grownBy (w3.setCell ⟨wr.heap.size + 1, 1, none⟩ (.slice fa (fireM M.length M now).1.length fc)) (some (wr.heap.size + 1)) := ⟨rfl, rfl, rfl, by simp, fun j _ hj => heap_setCell_other w3 ⟨wr.heap.size + 1, 1, none⟩ j _ (fun e => hj (by simp [e]))⟩
              have hg2 : (w3.setCell ⟨wr.heap.size + 1, 1, none⟩ (.slice fa (fireM M.length M now).1.length fc)).grownBy ((w3.setCell ⟨wr.heap.size + 1, 1, none⟩ (.slice fa (fireM M.length M now).1.length fc)).setCell ⟨wr.heap.size + 1, 2, none⟩ (.int .u64 now)) (some (wr.heap.size + 1)) := ⟨rfl, rfl, rfl, by simp, fun j _ hj => heap_setCell_other _ ⟨wr.heap.size + 1, 2, none⟩ j _ (fun e => hj (by simp [e]))⟩
              have HFV := Lib.hid (((hfo.base hb23).keptBut hg1 hbx (by intro c fz e; injection e with _ e; exact absurd e (by decide))).keptBut hg2 hb1' (by intro c fz e; injection e with _ e; exact absurd e (by decide)))
              have HBX := Lib.hid hb2'
              clear hp3 hq3 hbx hb1' hb2' hg1 hg2 hfo
              go_upto_region 20 with fail
              generalize (w3.setCell ⟨wr.heap.size + 1, 1, none⟩ (.slice fa (fireM M.length M now).1.length fc)).setCell ⟨wr.heap.size + 1, 2, none⟩ (.int .u64 now) = W at *
              have hbox := HBX.out
              clear a1 a2 e1 e2 f1 f2
              have d0 : W.cell? ⟨wr.heap.size + 1, 0, none⟩ = some (.int .i64 0) := by rw [cell_of_row W _ 0 _ _ _ hbox]; rfl
              have d1 : W.cell? ⟨wr.heap.size + 1, 1, none⟩ = some (.slice fa (fireM M.length M now).1.length fc) := by rw [cell_of_row W _ 1 _ _ _ hbox]; rfl
              have d2 : W.cell? ⟨wr.heap.size + 1, 2, none⟩ = some (.int .u64 now) := by rw [cell_of_row W _ 2 _ _ _ hbox]; rfl
              have HOw := Lib.hid (HO.out.qk HQW.out (by decide) (by decide))
              have HRw := Lib.hid (HRp.out.keep (fun v n xs h => h.qk HQW.out (by decide) (by decide)))
              have hbW : w.heap.size ≤ W.heap.size := Nat.le_trans HQ.out.size HQW.out.size
              have hk36 : k ≤ 68719476735 := by omega
              clear hbox
              go_wp2_with (at_builtin; refine wpList_push (wr := W) rfl _ _ 62 rfl _ 71 (.agg #[.int .i64 0, .slice none 0 0, .int .u64 0]) 3 40 Try.underlying62 info_tr rfl (by decide) (by decide) _ _ _ rfl HOw.out 1 1 [.int .i64 0, .slice fa (fireM M.length M now).1.length fc, .int .u64 now] rfl rfl rfl rfl ?pn4 hbW ?_)
              case pn4 => omega
              intro v' w5 ho5 hg5 hd5
              have HF := Lib.hid (RoundRel.next hlt (runM_at HG.out HS.out HST.out) HNW.out (by simp [hrl]) (HPW.out.push HOw.out (by decide) (by decide) hg5) HQI.out ho5 (RepL.snoc (HFV.out.grown HOw.out (by decide) hg5) (HRw.out.keep (fun v n xs h => h.grown HOw.out (by decide) hg5))) ((HQ.out.trans HQW.out).push HOw.out (Nat.le_refl _) (Nat.le_refl _) hg5))
              clear ho5 hg5 hd5
              go_wp2_with fail
              go_roundw
              case rel => exact HF.out
              case measure => simp [intOf]; omega
          · by_cases h4 : kd = 4
            · subst h4
              have hst : stepM M now ⟨4, id, at_⟩ = (M, now, nextM M) := rfl
              have HST := Lib.hid hst
              have HQI := HQI0
              have HNW := Lib.hid hnw
              have hSet := nextQ w.heap.size g w.heap.size M W2 HM2.out HQI0.out.1
              obtain ⟨⟨code, fired, nat⟩, hN⟩ : ∃ r, nextM M = r := ⟨_, rfl⟩
              rw [hN] at hSet HST
              have hSet := Lib.hid hSet
              clear hst hN
              go_wp2_with fail
              refine hSet.out.mono ?_
              rintro e w3 ⟨v, rfl, ⟨fv, rfl, hfo⟩, ho3⟩
              obtain ⟨fa, fc, rfl, _⟩ := hfo.shape
              have hb23 : w.heap.size ≤ W2.heap.size := Nat.le_trans HQ.out.size HQ2.out.size
              have hbx := ho3.block HB8.out
              have e0 : w3.cell? ⟨wr.heap.size + 1, 0, none⟩ = some (.int .i64 0) := by rw [cell_of_row w3 _ 0 _ _ _ hbx]; rfl
              have e1 : w3.cell? ⟨wr.heap.size + 1, 1, none⟩ = some (.slice none 0 0) := by rw [cell_of_row w3 _ 1 _ _ _ hbx]; rfl
              have e2 : w3.cell? ⟨wr.heap.size + 1, 2, none⟩ = some (.int .u64 0) := by rw [cell_of_row w3 _ 2 _ _ _ hbx]; rfl
              have f0 : w3.frozen? ⟨wr.heap.size + 1, 0, none⟩ = false := frozen_of_row w3 _ 0 _ _ hbx
              have f1 : w3.frozen? ⟨wr.heap.size + 1, 1, none⟩ = false := frozen_of_row w3 _ 1 _ _ hbx
              have f2 : w3.frozen? ⟨wr.heap.size + 1, 2, none⟩ = false := frozen_of_row w3 _ 2 _ _ hbx
              have hb0' := heap_setCell_same w3 (wr.heap.size + 1) 0 _ _ (.int .i64 code) hbx
              have hb1' := heap_setCell_same _ (wr.heap.size + 1) 1 _ _ (.slice fa fired.length fc) hb0'
              have hb2' := heap_setCell_same _ (wr.heap.size + 1) 2 _ _ (.int .u64 nat) hb1'
              have HPW := Lib.hid ((((HM2.out.old ho3).store hbx (by decide) (by decide) 0 (.int .i64 code)).store hb0' (by decide) (by decide) 1 (.slice fa fired.length fc)).store hb1' (by decide) (by decide) 2 (.int .u64 nat))
              have HQW := Lib.hid ((((HQ2.out.trans (QK.of_old ho3 hb23)).newStore (k := wr.heap.size + 1) (i := 0) (by omega) HQ.out.size (.int .i64 code)).newStore (k := wr.heap.size + 1) (i := 1) (by omega) HQ.out.size (.slice fa fired.length fc)).newStore (k := wr.heap.size + 1) (i := 2) (by omega) HQ.out.size (.int .u64 nat))
              have hg := fun (W : World) (i : Nat) (u : Value) => (⟨rfl, rfl, rfl, by simp, fun j _ hj => heap_setCell_other W ⟨wr.heap.size + 1, i, none⟩ j _ (fun e => hj (by simp [e]))⟩ : W.grownBy (W.setCell ⟨wr.heap.size + 1, i, none⟩ u) (some (wr.heap.size + 1)))
              have HFV := Lib.hid ((((hfo.base hb23).keptBut (hg _ 0 (.int .i64 code)) hbx (by intro c fz e; injection e with _ e; exact absurd e (by decide))).keptBut (hg _ 1 (.slice fa fired.length fc)) hb0' (by intro c fz e; injection e with _ e; exact absurd e (by decide))).keptBut (hg _ 2 (.int .u64 nat)) hb1' (by intro c fz e; injection e with _ e; exact absurd e (by decide)))
              have HBX := Lib.hid hb2'
              clear hbx hb0' hb1' hb2' hg hfo ho3
              go_upto_region 20 with fail
              generalize ((w3.setCell ⟨wr.heap.size + 1, 0, none⟩ (.int .i64 code)).setCell ⟨wr.heap.size + 1, 1, none⟩ (.slice fa fired.length fc)).setCell ⟨wr.heap.size + 1, 2, none⟩ (.int .u64 nat) = W at *
              have hbox := HBX.out
              clear a1 a2 e0 e1 e2 f0 f1 f2
              have d0 : W.cell? ⟨wr.heap.size + 1, 0, none⟩ = some (.int .i64 code) := by rw [cell_of_row W _ 0 _ _ _ hbox]; rfl
              have d1 : W.cell? ⟨wr.heap.size + 1, 1, none⟩ = some (.slice fa fired.length fc) := by rw [cell_of_row W _ 1 _ _ _ hbox]; rfl
              have d2 : W.cell? ⟨wr.heap.size + 1, 2, none⟩ = some (.int .u64 nat) := by rw [cell_of_row W _ 2 _ _ _ hbox]; rfl
              have HOw := Lib.hid (HO.out.qk HQW.out (by decide) (by decide))
              have HRw := Lib.hid (HRp.out.keep (fun v n xs h => h.qk HQW.out (by decide) (by decide)))
              have hbW : w.heap.size ≤ W.heap.size := Nat.le_trans HQ.out.size HQW.out.size
              have hk36 : k ≤ 68719476735 := by omega
              clear hbox
              go_wp2_with (at_builtin; refine wpList_push (wr := W) rfl _ _ 62 rfl _ 71 (.agg #[.int .i64 0, .slice none 0 0, .int .u64 0]) 3 40 Try.underlying62 info_tr rfl (by decide) (by decide) _ _ _ rfl HOw.out 1 1 [.int .i64 code, .slice fa fired.length fc, .int .u64 nat] rfl rfl rfl rfl ?pn5 hbW ?_)
              case pn5 => omega
              intro v' w5 ho5 hg5 hd5
              have HF := Lib.hid (RoundRel.next hlt (runM_at HG.out HS.out HST.out) HNW.out (by simp [hrl]) (HPW.out.push HOw.out (by decide) (by decide) hg5) HQI.out ho5 (RepL.snoc (HFV.out.grown HOw.out (by decide) hg5) (HRw.out.keep (fun v n xs h => h.grown HOw.out (by decide) hg5))) ((HQ.out.trans HQW.out).push HOw.out (Nat.le_refl _) (Nat.le_refl _) hg5))
              clear ho5 hg5 hd5
              go_wp2_with fail
              go_roundw
              case rel => exact HF.out
              case measure => simp [intOf]; omega
            · have hst : stepM M now ⟨kd, id, at_⟩ = (M, now, ⟨3, [], 0⟩) := by unfold stepM; rw [if_neg h1, if_neg h2, if_neg h3, if_neg h4]
              have HST := Lib.hid hst
              have HQI := HQI0
              have HNW := Lib.hid hnw
              have hbx := HB8.out
              have e0 : W2.cell? ⟨wr.heap.size + 1, 0, none⟩ = some (.int .i64 0) := by rw [cell_of_row W2 _ 0 _ _ _ hbx]; rfl
              have f0 : W2.frozen? ⟨wr.heap.size + 1, 0, none⟩ = false := frozen_of_row W2 _ 0 _ _ hbx
              have HPW := Lib.hid (HM2.out.store hbx (by decide) (by decide) 0 (.int .i64 3))
              have HQW := Lib.hid (HQ2.out.newStore (k := wr.heap.size + 1) (i := 0) (by omega) HQ.out.size (.int .i64 3))
              have hbox := heap_setCell_same W2 (wr.heap.size + 1) 0 _ _ (.int .i64 3) hbx
              have HBX := Lib.hid hbox
              clear hbx hbox hst
              go_upto_region 20 with fail
              generalize W2.setCell ⟨wr.heap.size + 1, 0, none⟩ (.int .i64 3) = W at *
              have HFV : Hid (Own W w.heap.size 3 1 (.slice none 0 0) 0 (intv [])) := Own.nil_ _ _ _ _
              have hbox := HBX.out
              clear a0 a1 a2 e0 f0
              have d0 : W.cell? ⟨wr.heap.size + 1, 0, none⟩ = some (.int .i64 3) := by rw [cell_of_row W _ 0 _ _ _ hbox]; rfl
              have d1 : W.cell? ⟨wr.heap.size + 1, 1, none⟩ = some (.slice none 0 0) := by rw [cell_of_row W _ 1 _ _ _ hbox]; rfl
              have d2 : W.cell? ⟨wr.heap.size + 1, 2, none⟩ = some (.int .u64 0) := by rw [cell_of_row W _ 2 _ _ _ hbox]; rfl
              have HOw := Lib.hid (HO.out.qk HQW.out (by decide) (by decide))
              have HRw := Lib.hid (HRp.out.keep (fun v n xs h => h.qk HQW.out (by decide) (by decide)))
              have hbW : w.heap.size ≤ W.heap.size := Nat.le_trans HQ.out.size HQW.out.size
              have hk36 : k ≤ 68719476735 := by omega
              clear hbox
              go_wp2_with (at_builtin; refine wpList_push (wr := W) rfl _ _ 62 rfl _ 71 (.agg #[.int .i64 0, .slice none 0 0, .int .u64 0]) 3 40 Try.underlying62 info_tr rfl (by decide) (by decide) _ _ _ rfl HOw.out 1 1 [.int .i64 3, .slice none 0 0, .int .u64 0] rfl rfl rfl rfl ?pn6 hbW ?_)
              case pn6 => omega
              intro v' w5 ho5 hg5 hd5
              have HF := Lib.hid (RoundRel.next hlt (runM_at HG.out HS.out HST.out) HNW.out (by simp [hrl]) (HPW.out.push HOw.out (by decide) (by decide) hg5) HQI.out ho5 (RepL.snoc (HFV.out.grown HOw.out (by decide) hg5) (HRw.out.keep (fun v n xs h => h.grown HOw.out (by decide) hg5))) ((HQ.out.trans HQW.out).push HOw.out (Nat.le_refl _) (Nat.le_refl _) hg5))
              clear ho5 hg5 hd5
              go_wp2_with fail
              go_roundw
              case rel => exact HF.out
              case measure => simp [intOf]; omega
    · obtain rfl : k = ops.length := by omega
      have hE : ops.take ops.length = ops := List.take_length
      have hS := HS.out
      rw [hE] at hS
      have HE := Lib.hid hS
      clear hS hE
      have HO2 := Lib.hid (show Old w wr from HQ.out.1)
      go_wp2_with fail
      go_ret
      rw [HE.out]
      refine ⟨_, cells, rfl, ?_, HRp.out, HO2.out⟩
      simp only [hrl]
      exact HO.out
theorem playQ (A : Option Addr) (c : Nat) (ops : List TOp) (w : World) (hr : Ts w 66 A (opv ops)) (hok : ∀ o ∈ ops, o.ok) (hn : ops.length ≤ 68719476736) :
    Calls Try.prog 33 #[.slice A ops.length c] w (PlayPost w (runM ops).2) := playQr A c ops w hr.rs hok hn
end Go.Proofs.Ytlpaemlgmmmbmaa
