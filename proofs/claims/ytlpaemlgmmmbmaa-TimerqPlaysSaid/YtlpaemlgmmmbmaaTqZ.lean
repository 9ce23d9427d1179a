/-
  The walk of the reference's Play.
-/
import Derived.Test.YtlpaemlgmmmbmaaTqG
namespace Go.Proofs.Ytlpaemlgmmmbmaa
open Go.RowKit Go.Maps
set_option linter.unusedVariables false

theorem runR_at {ops : List TOp} {k : Nat} {o : TOp} (ho : ops[k]? = some o) {M M' : List Tm} {now now' : Int} {reps : List Rep} {r : Rep} (h1 : runR (ops.take k) = ((M, now), reps)) (h2 : stepR M now o = (M', now', r)) : runR (ops.take (k + 1)) = ((M', now'), reps ++ [r]) := by
  have hl := (List.getElem?_eq_some_iff.1 ho).1
  rw [List.take_succ_eq_append_getElem hl, (List.getElem?_eq_some_iff.1 ho).2, runR_snoc, h1]
  unfold nextSR
  simp only [h2]
theorem runR_len {ops : List TOp} (hok : ∀ o ∈ ops, o.ok) (k : Nat) (hk : k ≤ ops.length) : (runR (ops.take k)).1.1.length ≤ 256 ∧ (0 ≤ (runR (ops.take k)).1.2 ∧ (runR (ops.take k)).1.2 < 18446744073709551616) := by
  obtain ⟨s1, s2, s3⟩ := same_run _ (ops.take k) rfl (fun o ho => hok o (List.mem_of_mem_take ho))
  refine ⟨s1.tl.1, ?_⟩
  clear s1 s2 s3
  induction k with
  | zero => simp [runR]
  | succ k ih =>
    have h1 := ih (by omega)
    have hg : ops[k]? = some ops[k] := List.getElem?_eq_getElem (by omega)
    have ho := hok _ (List.mem_of_getElem? hg)
    obtain ⟨⟨⟨M, now⟩, reps⟩, hS⟩ : ∃ S, runR (ops.take k) = S := ⟨_, rfl⟩
    rw [hS] at h1
    obtain ⟨⟨M', now', r⟩, hT⟩ : ∃ S, stepR M now ops[k] = S := ⟨_, rfl⟩
    rw [runR_at hg hS hT]
    simp only at h1 ⊢
    have := congrArg (fun x => x.2.1) hT
    simp only at this
    rw [← this]
    unfold stepR
    have hb := ho.2.2
    split
    · exact h1
    · split
      · exact h1
      · split
        · show 0 ≤ max now ops[k].at_ ∧ max now ops[k].at_ < _
          omega
        · split <;> exact h1
def RRel (w : World) (ops : List TOp) (lv rv clk ix : Value) (wr : World) : Prop :=
  ∃ (k : Nat) (R : List Tm) (now : Int) (reps : List Rep) (A : Option Addr) (c : Nat) (cells : List Value), ix = .int .i64 k ∧ k ≤ ops.length ∧ Hid (runR (ops.take k) = ((R, now), reps)) ∧ lv = .slice A R.length c ∧ R.length ≤ c ∧ c ≤ maxLen ∧ R.length ≤ 256 ∧
    clk = .int .u64 now ∧ 0 ≤ now ∧ now < 18446744073709551616 ∧ reps.length = k ∧ Hid (Ts wr 117 A (rcells R)) ∧ Hid (Own wr w.heap.size 71 3 rv k cells) ∧ Hid (RepL wr w.heap.size reps cells) ∧ Hid (Old w wr)
set_option maxHeartbeats 1000000 in
set_option maxRecDepth 100000 in
theorem playRr (A : Option Addr) (c : Nat) (ops : List TOp) (w : World) (hr : Rs w A (opv ops)) (hok : ∀ o ∈ ops, o.ok) (hn : ops.length ≤ 68719476736) :
    Calls Try.prog 34 #[.slice A ops.length c] w (PlayPost w (runR ops).2) := by
  have HR := Lib.hid hr
  have HOK := Lib.hid hok
  clear hr hok
  go_enter Try.func34, Try.ntmps34
  go_wp2_with fail
  go_loopw [3, 4, 5, 6] (fun lv rv clk ix wr => RRel w ops lv rv clk ix wr) (fun _ _ _ ix _ => ops.length - (intOf ix).toNat)
  case atStart =>
    exact ⟨0, [], 0, [], none, 0, [], rfl, Nat.zero_le _, rfl, rfl, Nat.le_refl _, Nat.zero_le _, by decide, rfl, by omega, by omega, rfl, Ts.nil_, Own.nil_ _ _ _ _, rfl, Old.refl _⟩
  case round =>
    obtain ⟨k, R, now, reps, A1, c1, cells, rfl, hk, HS, rfl, hc1, hcm1, hR1, rfl, hn1, hn2, hrl, HT, HO, HRp, HOL⟩ := hrel
    by_cases hlt : k < ops.length
    · obtain ⟨o, hG⟩ : ∃ o, ops[k]? = some o := ⟨_, List.getElem?_eq_getElem hlt⟩
      have HG := Lib.hid hG
      have hoo := HOK.out o (List.mem_of_getElem? hG)
      obtain ⟨b, off, rfl, hbl, hcl⟩ := (HR.out.up HOL.out).at_ (by rw [opv_length]; omega)
      obtain ⟨g0, g1, g2⟩ := opv_get ops k o hG
      have c0 := hcl _ _ g0
      have c1' := hcl _ _ g1
      have c2 := hcl _ _ g2
      rw [← Nat.add_assoc] at c1' c2
      have i1 : (0 : Int) ≤ (k : Int) := by omega
      have i2 : (k : Int) < (ops.length : Int) := by omega
      clear hcl g0 g1 g2 hG hbl
      obtain ⟨kd, id, at_⟩ := o
      simp only at c0 c1' c2
      go_upto_region 8 with fail
      have oW : Old wr (wr.alloc (.cells #[.int .i64 0, .slice none 0 0, .int .u64 0] 71)) := (Old.refl wr).alloc _
      have hb7 := heap_alloc_new wr (.cells #[.int .i64 0, .slice none 0 0, .int .u64 0] 71)
      have d0 := oW.cell c0
      have d1 := oW.cell c1'
      have d2 := oW.cell c2
      have hSt := fun W (h : Old (wr.alloc (.cells #[.int .i64 0, .slice none 0 0, .int .u64 0] 71)) W) => stepQ A1 c1 R now ⟨kd, id, at_⟩ W (HT.out.up (oW.up h)) hc1 hcm1 hR1 hoo ⟨hn1, hn2⟩
      obtain ⟨⟨R', now', r⟩, hT⟩ : ∃ S, stepR R now ⟨kd, id, at_⟩ = S := ⟨_, rfl⟩
      have HT2 := Lib.hid hT
      rw [hT] at hSt
      simp only at hSt
      have HST := Lib.hid (hSt _ (Old.refl _))
      have HOW1 := Lib.hid oW
      have HB7 := Lib.hid hb7
      have HO2 := Lib.hid (HOL.out.up oW)
      have HOw0 := Lib.hid (HO.out.up oW)
      have HRp0 := Lib.hid (HRp.out.keep (fun v n xs h => h.up oW))
      have hbw : w.heap.size ≤ wr.heap.size := HOL.out.size
      clear hSt hT oW hb7 c0 c1' c2
      generalize wr.alloc (.cells #[.int .i64 0, .slice none 0 0, .int .u64 0] 71) = W1 at *
      go_wp2_with fail
      refine HST.out.mono ?_
      rintro e w2 ⟨A2, c2, rv, rfl, ht2, hc2, hcm2, ⟨fv, rfl, hfo⟩, ho2⟩
      obtain ⟨code, fired, nat⟩ := r
      simp only at hfo
      obtain ⟨fa, fc, rfl, _⟩ := hfo.shape
      have hb8 := ho2.block HB7.out
      have e0 : w2.cell? ⟨wr.heap.size, 0, none⟩ = some (.int .i64 0) := by rw [cell_of_row w2 _ 0 _ _ _ hb8]; rfl
      have e1 : w2.cell? ⟨wr.heap.size, 1, none⟩ = some (.slice none 0 0) := by rw [cell_of_row w2 _ 1 _ _ _ hb8]; rfl
      have e2 : w2.cell? ⟨wr.heap.size, 2, none⟩ = some (.int .u64 0) := by rw [cell_of_row w2 _ 2 _ _ _ hb8]; rfl
      have f0 : w2.frozen? ⟨wr.heap.size, 0, none⟩ = false := frozen_of_row w2 _ 0 _ _ hb8
      have f1 : w2.frozen? ⟨wr.heap.size, 1, none⟩ = false := frozen_of_row w2 _ 1 _ _ hb8
      have f2 : w2.frozen? ⟨wr.heap.size, 2, none⟩ = false := frozen_of_row w2 _ 2 _ _ hb8
      have hg := fun (W : World) (i : Nat) (u : Value) => (⟨rfl, rfl, rfl, by simp, fun j _ hj => heap_setCell_other W ⟨wr.heap.size, i, none⟩ j _ (fun e => hj (by simp [e]))⟩ : W.grownBy (W.setCell ⟨wr.heap.size, i, none⟩ u) (some wr.heap.size))
      have q0 := heap_setCell_same w2 wr.heap.size 0 _ _ (.int .i64 code) hb8
      have q1 := heap_setCell_same _ wr.heap.size 1 _ _ (.slice fa fired.length fc) q0
      have q2 := heap_setCell_same _ wr.heap.size 2 _ _ (.int .u64 nat) q1
      have HTF := Lib.hid (((ht2.keptBut (hg _ 0 (.int .i64 code)) hb8 (by intro c fz e; injection e with _ e; exact absurd e (by decide))).keptBut (hg _ 1 (.slice fa fired.length fc)) q0 (by intro c fz e; injection e with _ e; exact absurd e (by decide))).keptBut (hg _ 2 (.int .u64 nat)) q1 (by intro c fz e; injection e with _ e; exact absurd e (by decide)))
      have HFF := Lib.hid (((hfo.keptBut (hg _ 0 (.int .i64 code)) hb8 (by intro c fz e; injection e with _ e; exact absurd e (by decide))).keptBut (hg _ 1 (.slice fa fired.length fc)) q0 (by intro c fz e; injection e with _ e; exact absurd e (by decide))).keptBut (hg _ 2 (.int .u64 nat)) q1 (by intro c fz e; injection e with _ e; exact absurd e (by decide)))
      have HOF := Lib.hid ((((HOW1.out.up ho2).setCell (p := ⟨wr.heap.size, 0, none⟩) (Nat.le_refl _) (.int .i64 code)).setCell (p := ⟨wr.heap.size, 1, none⟩) (Nat.le_refl _) (.slice fa fired.length fc)).setCell (p := ⟨wr.heap.size, 2, none⟩) (Nat.le_refl _) (.int .u64 nat))
      have HBX := Lib.hid q2
      have HC2 := Lib.hid (And.intro hc2 hcm2)
      have hRn : R'.length ≤ 256 ∧ (0 ≤ now' ∧ now' < 18446744073709551616) := by
        have := runR_len HOK.out (k + 1) hlt
        rw [runR_at HG.out HS.out HT2.out] at this
        exact this
      have HRN := Lib.hid hRn
      have hw1 : wr.heap.size ≤ W1.heap.size := HOW1.out.size
      clear ht2 hfo ho2 hb8 hg q0 q1 q2 hc2 hcm2 hRn d0 d1 d2
      go_upto_region 9 with fail
      generalize ((w2.setCell ⟨wr.heap.size, 0, none⟩ (.int .i64 code)).setCell ⟨wr.heap.size, 1, none⟩ (.slice fa fired.length fc)).setCell ⟨wr.heap.size, 2, none⟩ (.int .u64 nat) = W at *
      have hbox := HBX.out
      have d0 : W.cell? ⟨wr.heap.size, 0, none⟩ = some (.int .i64 code) := by rw [cell_of_row W _ 0 _ _ _ hbox]; rfl
      have d1 : W.cell? ⟨wr.heap.size, 1, none⟩ = some (.slice fa fired.length fc) := by rw [cell_of_row W _ 1 _ _ _ hbox]; rfl
      have d2 : W.cell? ⟨wr.heap.size, 2, none⟩ = some (.int .u64 nat) := by rw [cell_of_row W _ 2 _ _ _ hbox]; rfl
      have HOw := Lib.hid (HO.out.up HOF.out)
      have HRw := Lib.hid (HRp.out.keep (fun v n xs h => h.up HOF.out))
      have HOl := Lib.hid (HOL.out.up HOF.out)
      have hbW : w.heap.size ≤ W.heap.size := HOl.out.size
      have hk36 : k ≤ 68719476735 := by omega
      clear hbox e0 e1 e2 f0 f1 f2
      go_wp2_with (at_builtin; refine wpList_push (wr := W) rfl _ _ 62 rfl _ 71 (.agg #[.int .i64 0, .slice none 0 0, .int .u64 0]) 3 40 Try.underlying62 info_tr rfl (by decide) (by decide) _ _ _ rfl HOw.out 1 1 [.int .i64 code, .slice fa fired.length fc, .int .u64 nat] rfl rfl rfl rfl ?pn1 hbW ?_)
      case pn1 => omega
      intro v' w5 ho5 hg5 hd5
      have HF : Hid (RRel w ops (.slice A2 R'.length c2) v' (.int .u64 now') (.int .i64 ((k : Int) + 1)) w5) :=
        ⟨k + 1, R', now', _, A2, c2, _, rfl, hlt, runR_at HG.out HS.out HT2.out, rfl, HC2.out.1, HC2.out.2, HRN.out.1, rfl, HRN.out.2.1, HRN.out.2.2, by simp [hrl], HTF.out.grown HOw.out (by decide) hg5, ho5, RepL.snoc ((HFF.out.base (Nat.le_trans hbw hw1)).grown HOw.out (by decide) hg5) (HRw.out.keep (fun v n xs h => h.grown HOw.out (by decide) hg5)), Own.grown_old HOl.out HOw.out (Nat.le_refl _) hg5⟩
      clear ho5 hg5 hd5
      go_wp2_with fail
      go_roundw
      case rel => exact HF.out
      case measure => simp [intOf]; omega
    · obtain ⟨va, vc, rfl, _⟩ := HO.out.shape
      obtain rfl : k = ops.length := by omega
      go_wp2_with fail
      go_ret
      have := HS.out
      rw [List.take_length] at this
      rw [this]
      exact ⟨_, cells, rfl, by simp only; rw [hrl]; exact HO.out, HRp.out, HOL.out⟩
theorem playR (A : Option Addr) (c : Nat) (ops : List TOp) (w : World) (hr : Ts w 66 A (opv ops)) (hok : ∀ o ∈ ops, o.ok) (hn : ops.length ≤ 68719476736) :
    Calls Try.prog 34 #[.slice A ops.length c] w (PlayPost w (runR ops).2) := playRr A c ops w hr.rs hok hn
end Go.Proofs.Ytlpaemlgmmmbmaa
