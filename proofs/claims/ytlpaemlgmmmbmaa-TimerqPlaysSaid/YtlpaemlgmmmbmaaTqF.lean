/-
  The walks of the queue's fire and next.
-/
import Derived.Test.YtlpaemlgmmmbmaaTqS
namespace Go.Proofs.Ytlpaemlgmmmbmaa
open Go.RowKit Go.Maps
set_option linter.unusedVariables false

theorem info_i64 : (Try.prog.info? 3).map (fun i => (i.zero, i.size, i.bytes)) = some (some (.int .i64 0), 1, 8) := by kernel_rfl
def intv (l : List Int) : List Value := l.map (Value.int .i64)
theorem intv_length (l : List Int) : (intv l).length = l.length := by simp [intv]
def fireM : Nat → List Tm → Int → List Int × List Tm
  | 0, L, _ => ([], L)
  | f + 1, L, c => if 0 < L.length ∧ (gt L 0).1 ≤ c then ((gt L 0).2 :: (fireM f (popM L) c).1, (fireM f (popM L) c).2) else ([], L)
def lenV : Value → Nat
  | .slice _ n _ => n
  | _ => 0

theorem Own.qk {w w' : World} {B base : Nat} {e : TypeId} {size : Nat} {v : Value} {n : Nat} {xs : List Value} (h : Own w base e size v n xs) (hq : QK B w w') (h1 : e ≠ 109) (h2 : e ≠ 98) : Own w' base e size v n xs := by
  rcases h with ⟨h0, ⟨h2, h3⟩ | ⟨g, cap, cur, h4, hg, hh, hr⟩⟩
  · exact ⟨h0, Or.inl ⟨h2, h3⟩⟩
  · exact ⟨h0, Or.inr ⟨g, cap, cur, h4, hg, hq.2 _ _ _ _ hh h1 h2, hr⟩⟩
theorem Ts.qk {w w' : World} {B : Nat} {e : TypeId} {A : Option Addr} {xs : List Value} (h : Ts w e A xs) (hq : QK B w w') (h1 : e ≠ 109) (h2 : e ≠ 98) : Ts w' e A xs := by
  rcases h with rfl | ⟨b, off, cur, fz, hA, hh, hc⟩
  · exact Ts.nil_
  · exact Or.inr ⟨b, off, cur, fz, hA, hq.2 _ _ _ _ hh h1 h2, hc⟩
/-- A row of another make, the call's own, has grown. -/
theorem QK.push {w wr w' : World} {B base size n : Nat} {e : TypeId} {v : Value} {xs : List Value} (h : QK B w wr) (hown : Own wr base e size v n xs) (hb : w.heap.size ≤ base) (hB : B ≤ w.heap.size) (hg : wr.grownBy w' v.ownBlock) : QK B w w' := by
  have hk : ∀ k, v.ownBlock = some k → w.heap.size ≤ k := fun k hk => Nat.le_trans hb (World.ownsRow.lt hown k hk).1
  refine ⟨⟨hg.os.trans h.1.os, hg.tape.trans h.1.tape, hg.output.trans h.1.output, Nat.le_trans h.1.size hg.size, fun j hj => ?_⟩, fun j c e fz hj h1 h2 => ?_⟩
  · rw [hg.block j (Nat.lt_of_lt_of_le hj (Nat.le_trans hB h.size)) (fun e => by have := hk j e.symm; omega)]
    exact h.1.block j hj
  · have hlt := lt_of_block hj
    rw [hg.block j (Nat.lt_of_lt_of_le hlt h.size) (fun e => by have := hk j e.symm; omega)]
    exact h.2 j c e fz hj h1 h2
theorem PQ.push {w w' : World} {B g mb base size n : Nat} {e : TypeId} {v : Value} {xs : List Value} {L : List Tm} (h : PQ w B g mb L) (hown : Own w base e size v n xs) (h1 : e ≠ 109) (h2 : e ≠ 98) (hg : w.grownBy w' v.ownBlock) : PQ w' B g mb L := by
  obtain ⟨k1, k2, u, D, k, h3, h4, h5, h6⟩ := h
  obtain ⟨es, cl, hmb⟩ := map_block h5
  have n1 := ownBlock_ne hown h3 (by intro c fz e; injection e with _ e; exact h2 e.symm)
  have n2 := ownBlock_ne hown hmb (by intro c fz e; cases e)
  refine ⟨k1, k2, u, D, k, (hg.block g (lt_of_block h3) (fun e => n1 e.symm)).trans h3, World.ownsRow.kept h4 hg ?_, h5.kept hg (fun e => n2 e.symm), h6⟩
  cases hu : u.ownBlock with
  | none => exact Or.inl rfl
  | some j =>
    right
    intro e
    obtain ⟨cur, fz, hj⟩ : ∃ cur fz, w.heap[j]? = some (.cells cur 109 fz) := by
      rcases h4 with ⟨_, ⟨h2, _⟩ | ⟨g', cap, cu, h2, _, hh, _⟩⟩
      · rw [h2] at hu; simp [Value.ownBlock] at hu
      · rw [h2] at hu; simp [Value.ownBlock] at hu; subst hu; exact ⟨_, _, hh⟩
    exact ownBlock_ne hown hj (by intro c fz e; injection e with _ e; exact h1 e.symm) e.symm

def FirePost (w : World) (B g mb : Nat) (r : List Int × List Tm) (e : Ending) (w' : World) : Prop :=
  ∃ v, e = .returned v ∧ Own w' w.heap.size 3 1 v r.1.length (intv r.1) ∧ PQ w' B g mb r.2 ∧ QK B w w'
set_option maxHeartbeats 1000000 in
set_option maxRecDepth 100000 in
theorem fireQ (B g mb : Nat) (L : List Tm) (c : Int) (w : World) (h : PQ w B g mb L) (hl : TL L) (hh : Heap L L.length) :
    Calls Try.prog 54 #[.pointer (some ⟨g, 0, none⟩), .int .u64 c] w (FirePost w B g mb (fireM L.length L c)) := by
  have HP := Lib.hid h
  have HL := Lib.hid hl
  have HH := Lib.hid hh
  have hlen := hl.1
  have hBw : B ≤ w.heap.size := h.base (Nat.le_refl _)
  clear h hl hh
  go_enter Try.func54, Try.ntmps54
  go_wp2_with fail
  go_loopw [5] (fun s wr => ∃ (f : Nat) (M : List Tm) (acc : List Int), M.length ≤ f ∧ acc.length + M.length = L.length ∧ lenV s = acc.length ∧ Hid (Own wr w.heap.size 3 1 s acc.length (intv acc)) ∧ Hid (PQ wr B g mb M) ∧ Hid (TL M) ∧ Hid (Heap M M.length) ∧ Hid (QK B w wr) ∧
    Hid (fireM L.length L c = (acc ++ (fireM f M c).1, (fireM f M c).2))) (fun s _ => 1000 - lenV s)
  case atStart => exact ⟨L.length, L, [], Nat.le_refl _, by simp, rfl, Own.nil_ _ _ _ _, HP, HL, HH, QK.refl _ _, by simp [Hid]⟩
  case round =>
    obtain ⟨f, M, acc, hf, hal, hlv, HO, HM, HT, HHM, HQ, HE⟩ := hrel
    obtain ⟨k1, k2, v, D, k, h3, h4, h5, h6⟩ := HM.out
    by_cases h0 : 0 < M.length
    · obtain ⟨f, rfl⟩ : ∃ f', f = f' + 1 := ⟨f - 1, by omega⟩
      obtain ⟨gb, cc, rfl, hgb, hgl, hc, hcm⟩ := h4.form h0
      obtain ⟨⟨p1, p2⟩, hgm⟩ : ∃ p, gt M 0 = p := ⟨_, rfl⟩
      have hM0 : M[0]? = some (p1, p2) := by rw [← hgm]; exact getD_of h0
      have ca : wr.cell? ⟨gb, 0, none⟩ = some (.int .u64 p1) := (h4.cellAt (tcells_get M 0 _ hM0).1).1
      have c0 : wr.cell? ⟨g, 0, none⟩ = some (.slice (some ⟨gb, 0, none⟩) M.length cc) := by rw [cell_of_row wr g 0 _ _ _ h3]; rfl
      have i2 : (0 : Int) < (M.length : Int) := by omega
      have hHp := popH B g mb M wr HM.out HT.out h0 HHM.out
      obtain ⟨s1, s2, s3, s4⟩ := popM_spec M HHM.out h0
      have hFE : fireM (f + 1) M c = if (gt M 0).1 ≤ c then ((gt M 0).2 :: (fireM f (popM M) c).1, (fireM f (popM M) c).2) else ([], M) := by
        rw [fireM]
        by_cases hcc : (gt M 0).1 ≤ c
        · rw [if_pos ⟨h0, hcc⟩, if_pos hcc]
        · rw [if_neg (fun e => hcc e.2), if_neg hcc]
      rw [hgm] at hFE hHp s2
      have hT1 : TL (popM M) := by
        have := HT.out.perm s2
        refine ⟨by have := this.1; simp at this; omega, ?_, fun p hp => this.2.2 p (by simp [hp])⟩
        have h2 := this.2.1
        rw [List.map_append, List.nodup_append] at h2
        exact h2.1
      have HS : Hid (Heap (popM M) (popM M).length) := by rw [s4]; exact s3
      have HT1 := Lib.hid hT1
      have Hs4 := Lib.hid s4
      clear s1 s2 s3 s4 h3 h4 h5 h6 hc hcm hgl hgb hgm hM0 hT1
      by_cases hcc : p1 ≤ c
      · rw [if_pos hcc] at hFE
        have HFE := Lib.hid hFE
        unfold qI tmV at hHp
        have hHp := Lib.hid hHp
        have hf' : M.length ≤ f + 1 := hf
        clear hFE
        generalize M.length = m at *
        have hT := asTm
        go_wp2_with fail
        refine hHp.out.mono ?_
        rintro e w4 ⟨rfl, hp4, hq4⟩
        have HP4 := Lib.hid hp4
        have HQ4 := Lib.hid hq4
        have HO4 := Lib.hid (HO.out.qk hq4 (by decide) (by decide))
        clear hp4 hq4
        go_upto_region 4 with fail
        have hb4 : w.heap.size ≤ w4.heap.size := Nat.le_trans HQ.out.size HQ4.out.size
        have oA : Old w4 (w4.alloc (.cells #[.int .u64 p1, .int .i64 p2] 109)) := (Old.refl w4).alloc _
        have x1 : (w4.alloc (.cells #[.int .u64 p1, .int .i64 p2] 109)).cell? ⟨w4.heap.size, 1, none⟩ = some (.int .i64 p2) := by rw [cell_of_row _ w4.heap.size 1 _ _ _ (heap_alloc_new w4 _)]; rfl
        generalize w4.alloc (.cells #[.int .u64 p1, .int .i64 p2] 109) = W5 at *
        have hb5 : w.heap.size ≤ W5.heap.size := Nat.le_trans hb4 oA.size
        have HQ5 := Lib.hid (HQ.out.trans (HQ4.out.trans (QK.of_old oA (Nat.le_trans hBw hb4))))
        have HP5 := Lib.hid (HP4.out.old oA)
        have HO5 := Lib.hid (HO4.out.up oA)
        clear oA
        go_wp2_with (at_builtin; refine wpList_push (wr := W5) rfl _ _ 22 rfl _ 3 (.int .i64 0) 1 8 Try.underlying22 info_i64 rfl (by decide) (by decide) _ _ _ rfl HO5.out 1 1 [.int .i64 p2] rfl rfl rfl rfl ?pn1 hb5 ?_)
        case pn1 => omega
        intro v' w5 ho5 hg5 hd5
        have HO6 := Lib.hid ho5
        have HP6 := Lib.hid (HP5.out.push HO5.out (by decide) (by decide) hg5)
        have HQ6 := Lib.hid (HQ5.out.push HO5.out (Nat.le_refl _) hBw hg5)
        have hlen' : lenV v' = acc.length + 1 := by
          obtain ⟨A', c', e', _⟩ := ho5.shape
          rw [e']; rfl
        clear ho5 hg5 hd5
        go_wp2_with fail
        go_roundw
        case rel =>
          refine ⟨f, popM M, acc ++ [p2], by have := Hs4.out; omega, by have := Hs4.out; simp; omega, by simpa using hlen', ?_, HP6.out, HT1.out, HS.out, HQ6.out, ?_⟩
          · have := HO6.out
            simpa [Hid, intv] using this
          · have := HE.out
            rw [HFE.out] at this
            simpa [Hid] using this
        case measure => simp [hlv, hlen']; omega
      · rw [if_neg hcc] at hFE
        have HFE := Lib.hid hFE
        clear hFE hHp
        go_wp2_with fail
        go_ret
        have := HE.out
        rw [HFE.out] at this
        simp only [List.append_nil] at this
        rw [this]
        exact ⟨_, rfl, HO.out, HM.out, HQ.out⟩
    · have hM : M = [] := List.eq_nil_of_length_eq_zero (by omega)
      obtain ⟨A, cc, rfl, _, _, _⟩ := h4.shape
      have c0 : wr.cell? ⟨g, 0, none⟩ = some (.slice A M.length cc) := by rw [cell_of_row wr g 0 _ _ _ h3]; rfl
      have hFE : fireM f M c = ([], M) := by
        cases f with
        | zero => rfl
        | succ f => rw [fireM, if_neg (fun e => h0 e.1)]
      have HFE := Lib.hid hFE
      clear hFE h3 h4 h5 h6 hM
      have hn : ¬ (0 : Int) < (M.length : Int) := by omega
      generalize M.length = m at *
      go_wp2_with fail
      go_ret
      have := HE.out
      rw [HFE.out] at this
      simp only [List.append_nil] at this
      rw [this]
      exact ⟨_, rfl, HO.out, HM.out, HQ.out⟩

structure Rep where
  code : Int
  fired : List Int
  at_ : Int
/-- The value of a reply: its list is the call's own. -/
def RepV (w : World) (base : Nat) (r : Rep) (v : Value) : Prop := ∃ fv, v = .agg #[.int .i64 r.code, fv, .int .u64 r.at_] ∧ Own w base 3 1 fv r.fired.length (intv r.fired)
def nextM (L : List Tm) : Rep := if L.length = 0 then ⟨4, [], 0⟩ else ⟨0, [(gt L 0).2], (gt L 0).1⟩
def NextQPost (w : World) (r : Rep) (e : Ending) (w' : World) : Prop := ∃ v, e = .returned v ∧ RepV w' w.heap.size r v ∧ Old w w'
set_option maxHeartbeats 1000000 in
set_option maxRecDepth 100000 in
theorem nextQ (B g mb : Nat) (L : List Tm) (w : World) (h : PQ w B g mb L) (hl : TL L) :
    Calls Try.prog 55 #[.pointer (some ⟨g, 0, none⟩)] w (NextQPost w (nextM L)) := by
  have hlen := hl.1
  obtain ⟨k1, k2, v, D, k, h3, h4, h5, h6⟩ := h
  by_cases h0 : L.length = 0
  · have hE : nextM L = ⟨4, [], 0⟩ := by unfold nextM; rw [if_pos h0]
    rw [hE]
    obtain ⟨A, cc, rfl, _, _, _⟩ := h4.shape
    rw [h0] at h3
    have c0 : w.cell? ⟨g, 0, none⟩ = some (.slice A 0 cc) := by rw [cell_of_row w g 0 _ _ _ h3]; rfl
    have n2 := World.new_ne w _ c0
    have hgl2 := lt_of_block h3
    clear h3 h4 h5 h6 hE h0
    go_enter Try.func55, Try.ntmps55
    go_wp2_with fail
    exact bodyPost_ret (v := .agg #[.int .i64 4, .slice none 0 0, .int .u64 0]) (by simp [results, Try.results55, go_sem]) rfl ⟨_, rfl, ⟨_, rfl, Own.nil_ _ _ _ _⟩, (Old.refl w).alloc _⟩
  · have hE : nextM L = ⟨0, [(gt L 0).2], (gt L 0).1⟩ := by unfold nextM; rw [if_neg h0]
    rw [hE]
    obtain ⟨gb, cc, rfl, hgb, hgl, hc, hcm⟩ := h4.form (by omega)
    obtain ⟨⟨p1, p2⟩, hgm⟩ : ∃ p, gt L 0 = p := ⟨_, rfl⟩
    have hM0 : L[0]? = some (p1, p2) := by rw [← hgm]; exact getD_of (by omega)
    rw [hgm]
    have hz : Old w (w.alloc (.cells #[.int .i64 0, .slice none 0 0, .int .u64 0] 71)) := (Old.refl w).alloc _
    have ca : w.cell? ⟨gb, 0, none⟩ = some (.int .u64 p1) := (h4.cellAt (tcells_get L 0 _ hM0).1).1
    have ci : w.cell? ⟨gb, 1, none⟩ = some (.int .i64 p2) := (h4.cellAt (tcells_get L 0 _ hM0).2).1
    have c0 : w.cell? ⟨g, 0, none⟩ = some (.slice (some ⟨gb, 0, none⟩) L.length cc) := by rw [cell_of_row w g 0 _ _ _ h3]; rfl
    have i2 : (0 : Int) < (L.length : Int) := by omega
    have hne : ((L.length : Int) == 0) = false := by
      have : (L.length : Int) ≠ 0 := by omega
      simpa using this
    have i3 : 0 < L.length := by omega
    have hgl2 := lt_of_block h3
    clear h3 h4 h5 h6 hE hM0 hgm hz
    generalize L.length = m at *
    have n1 := World.new_ne w _ ca
    have n2 := World.new_ne w _ c0
    have n3 : w.heap.size + 1 ≠ g := by omega
    have n4 : w.heap.size + 1 ≠ gb := by omega
    go_enter Try.func55, Try.ntmps55
    go_wp2_with fail
    go_region_held3 (fun w' => w'.cell? ⟨g, 0, none⟩ = some (.slice (some ⟨gb, 0, none⟩) m cc) ∧ w'.cell? ⟨gb, 0, none⟩ = some (.int .u64 p1) ∧ w'.cell? ⟨gb, 1, none⟩ = some (.int .i64 p2))
      (go_keep) (fail)
    go_wp2_with fail
    have ho := own_new (w.alloc (.cells #[.int .i64 0, .slice (some ⟨w.heap.size + 1, 0, none⟩) 1 1, .int .u64 p1] 71)) #[.int .i64 p2] 1 1 3 (by decide) rfl
    rw [show (w.alloc (.cells #[.int .i64 0, .slice (some ⟨w.heap.size + 1, 0, none⟩) 1 1, .int .u64 p1] 71)).heap.size = w.heap.size + 1 by simp] at ho
    have HO := Lib.hid (ho.base (base' := w.heap.size) (by omega))
    clear ho
    exact bodyPost_ret (v := .agg #[.int .i64 0, .slice (some ⟨w.heap.size + 1, 0, none⟩) 1 1, .int .u64 p1]) (by simp [results, Try.results55, go_sem]) rfl ⟨_, rfl, ⟨_, rfl, HO.out⟩, (((Old.refl w).alloc _).alloc _).drew⟩
end Go.Proofs.Ytlpaemlgmmmbmaa
