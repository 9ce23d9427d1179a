/-
  The walk of the reference's step.
-/
import Derived.Test.YtlpaemlgmmmbmaaTqX
namespace Go.Proofs.Ytlpaemlgmmmbmaa
open Go.RowKit Go.Maps
set_option linter.unusedVariables false

/-- While the new list is made. -/
structure SF (w wS : World) (k5 k8 kb ko : Nat) (b0 b2 b8 b9 b14 : Bool) (X : List Tm) (id at_ : Int) (v40 v47 : Value) (ww : World) : Prop where
  old : Old w ww
  src : b14 = false → Old wS ww
  hS : w.heap.size ≤ wS.heap.size
  c5 : ww.heap[k5]? = some (.cells #[.int .i64 1, .int .i64 id, .int .u64 at_] 66 (0, 0))
  c8 : ww.heap[k8]? = some (.cells #[.int .i64 0, .slice none 0 0, .int .u64 0] 71 (0, 0))
  k8w : w.heap.size ≤ k8
  e : b0 = true → b2 = false → Own ww wS.heap.size 117 2 (.slice (some ⟨kb, 0, none⟩) 0 0) 0 []
  p : b2 = true → b9 = false → Own ww wS.heap.size 117 2 v40 X.length (rcells X)
  o : b8 = true → ww.heap[ko]? = some (.cells #[.int .i64 id, .int .u64 at_] 117 (0, 0))
  eo : b0 = true → b2 = false → b8 = true → kb ≠ ko
  po : b2 = true → b9 = false → b8 = true → v40.ownBlock ≠ some ko
  f : b9 = true → Own ww wS.heap.size 117 2 v47 (X ++ [(at_, id)]).length (rcells (X ++ [(at_, id)]))
section
variable {w wS ww w' : World} {k5 k8 kb ko : Nat} {b0 b2 b8 b9 b14 : Bool} {X : List Tm} {id at_ : Int} {v40 v47 v' : Value}
theorem SF.mkE (h : SF w wS k5 k8 kb ko false false b8 false false X id at_ v40 v47 ww) : SF w wS k5 k8 ww.heap.size ko true false b8 false false X id at_ v40 v47 (ww.alloc (.cells #[] 117)) := by
  have hu : Old ww (ww.alloc (.cells #[] 117)) := (Old.refl ww).alloc _
  exact ⟨h.old.up hu, fun _ => (h.src rfl).up hu, h.hS, hu.block h.c5, hu.block h.c8, h.k8w, fun _ _ => (own_new ww #[] 0 2 117 (by decide) rfl).base (h.src rfl).size, (fun hb => by cases hb), fun hb => hu.block (h.o hb), fun _ _ hb => by have := lt_of_block (h.o hb); omega, (fun hb => by cases hb), (fun hb => by cases hb)⟩
theorem SF.mkO (h : SF w wS k5 k8 kb ko b0 b2 false false false X id at_ v40 v47 ww) : SF w wS k5 k8 kb ww.heap.size b0 b2 true false false X id at_ v40 v47 (ww.alloc (.cells #[.int .i64 id, .int .u64 at_] 117)) := by
  have hu : Old ww (ww.alloc (.cells #[.int .i64 id, .int .u64 at_] 117)) := (Old.refl ww).alloc _
  refine ⟨h.old.up hu, fun _ => (h.src rfl).up hu, h.hS, hu.block h.c5, hu.block h.c8, h.k8w, fun h0 h2 => (h.e h0 h2).up hu, fun h2 h9 => (h.p h2 h9).up hu, fun _ => heap_alloc_new ww _, fun h0 h2 _ => ?_, fun h2 h9 _ => fresh_ne (h.p h2 h9), (fun hb => by cases hb)⟩
  intro e
  exact fresh_ne (h.e h0 h2) (by simp [Value.ownBlock, e])
theorem SF.other (h : SF w wS k5 k8 kb ko b0 b2 b8 b9 b14 X id at_ v40 v47 ww) {base n : Nat} {u : Value} {xs : List Value} (hown : Own ww base 117 2 u n xs) (hg : ww.grownBy w' u.ownBlock) :
    w'.heap[k5]? = some (.cells #[.int .i64 1, .int .i64 id, .int .u64 at_] 66 (0, 0)) ∧ w'.heap[k8]? = some (.cells #[.int .i64 0, .slice none 0 0, .int .u64 0] 71 (0, 0)) :=
  ⟨(hg.block k5 (lt_of_block h.c5) (fun e => ownBlock_ne hown h.c5 (by intro c fz e; injection e with _ e; exact absurd e (by decide)) e.symm)).trans h.c5,
    (hg.block k8 (lt_of_block h.c8) (fun e => ownBlock_ne hown h.c8 (by intro c fz e; injection e with _ e; exact absurd e (by decide)) e.symm)).trans h.c8⟩
theorem SF.app1 (h : SF w wS k5 k8 kb ko b0 b2 b8 b9 false X id at_ v40 v47 ww) (h0 : b0 = true) (h2 : b2 = false) (ho : Own w' wS.heap.size 117 2 v' X.length (rcells X)) (hg : ww.grownBy w' (Value.slice (some ⟨kb, 0, none⟩) 0 0).ownBlock) (hw : v'.ownBlock = (Value.slice (some ⟨kb, 0, none⟩) 0 0).ownBlock ∨ ∃ j, v'.ownBlock = some j ∧ ww.heap.size ≤ j) :
    SF w wS k5 k8 kb ko b0 true b8 false false X id at_ v' v47 w' := by
  have he := h.e h0 h2
  obtain ⟨o1, o2⟩ := h.other he hg
  refine ⟨Own.grown_old h.old he h.hS hg, fun _ => Own.grown_old (h.src rfl) he (Nat.le_refl _) hg, h.hS, o1, o2, h.k8w, (fun _ hb => by cases hb), fun _ _ => ho, fun hb => ?_, (fun _ hb => by cases hb), fun _ _ hb => ?_, (fun hb => by cases hb)⟩
  · exact (hg.block ko (lt_of_block (h.o hb)) (fun e => h.eo h0 h2 hb (by simpa [Value.ownBlock] using e.symm))).trans (h.o hb)
  · rcases hw with hw | ⟨j, hj, hs⟩
    · rw [hw]; intro e; exact h.eo h0 h2 hb (by simpa [Value.ownBlock] using e)
    · rw [hj]; intro e; injection e with e; have := lt_of_block (h.o hb); omega
theorem SF.app2 (h : SF w wS k5 k8 kb ko b0 b2 b8 b9 false X id at_ v40 v47 ww) (h2 : b2 = true) (h8 : b8 = true) (h9 : b9 = false) (ho : Own w' wS.heap.size 117 2 v' (X ++ [(at_, id)]).length (rcells (X ++ [(at_, id)]))) (hg : ww.grownBy w' v40.ownBlock) (hw : v'.ownBlock = v40.ownBlock ∨ ∃ j, v'.ownBlock = some j ∧ ww.heap.size ≤ j) :
    SF w wS k5 k8 kb ko b0 true true true false X id at_ v40 v' w' := by
  have hp := h.p h2 h9
  obtain ⟨o1, o2⟩ := h.other hp hg
  exact ⟨Own.grown_old h.old hp h.hS hg, fun _ => Own.grown_old (h.src rfl) hp (Nat.le_refl _) hg, h.hS, o1, o2, h.k8w, (fun _ hb => by cases hb), (fun _ hb => by cases hb), fun _ => (hg.block ko (lt_of_block (h.o h8)) (fun e => h.po h2 h9 h8 e.symm)).trans (h.o h8), (fun _ hb => by cases hb), (fun _ hb => by cases hb), fun _ => ho⟩
theorem SF.rsO (h : SF w wS k5 k8 kb ko b0 b2 b8 b9 b14 X id at_ v40 v47 ww) (h8 : b8 = true) : Rs ww (some ⟨ko, 0, none⟩) [.int .i64 id, .int .u64 at_] :=
  Or.inr ⟨ko, 0, rfl, fun j u hu => by have := World.news_of_block (h.o h8) j u hu; rwa [Addr.add_lit] at this⟩
theorem SF.store (h : SF w wS k5 k8 kb ko true true true true false X id at_ v40 v47 ww) : SF w wS k5 k8 kb ko true true true true true X id at_ v40 v47 (((ww.setCell ⟨k8, 0, none⟩ (.int .i64 0)).setCell ⟨k8, 1, none⟩ (.slice none 0 0)).setCell ⟨k8, 2, none⟩ (.int .u64 0)) := by
  have hg := fun (W : World) (i : Nat) (u : Value) => (⟨rfl, rfl, rfl, by simp, fun j _ hj => heap_setCell_other W ⟨k8, i, none⟩ j _ (fun e => hj (by simp [e]))⟩ : W.grownBy (W.setCell ⟨k8, i, none⟩ u) (some k8))
  have g3 := ((hg ww 0 (.int .i64 0)).trans (hg _ 1 (.slice none 0 0))).trans (hg _ 2 (.int .u64 0))
  have h1 := heap_setCell_same ww k8 0 _ _ (.int .i64 0) h.c8
  have h2 := heap_setCell_same _ k8 1 _ _ (.slice none 0 0) h1
  have h3 := heap_setCell_same _ k8 2 _ _ (.int .u64 0) h2
  have n5 : k5 ≠ k8 := by intro e; have a := h.c5; rw [e, h.c8] at a; injection a with a; injection a with _ a; exact absurd a (by decide)
  have no : ko ≠ k8 := by intro e; have a := h.o rfl; rw [e, h.c8] at a; injection a with a; injection a with _ a; exact absurd a (by decide)
  exact ⟨Below.grown h.old g3 h.old.size (by intro k hk; injection hk with hk; have := h.k8w; omega), (fun hb => by cases hb), h.hS, (g3.block k5 (lt_of_block h.c5) (by intro e; injection e with e; exact n5 e)).trans h.c5, h3, h.k8w, (fun _ hb => by cases hb), (fun _ hb => by cases hb), fun _ => (g3.block ko (lt_of_block (h.o rfl)) (by intro e; injection e with e; exact no e)).trans (h.o rfl), (fun _ hb => by cases hb), (fun _ hb => by cases hb), fun _ => (h.f rfl).keptBut g3 h.c8 (by intro c fz e; injection e with _ e; exact absurd e (by decide))⟩
end
def SI (w wS : World) (k5 k8 : Nat) (X : List Tm) (s0 : Value) (now id at_ : Int) (listed : Array Bool) (a : Act) (ww : World) : Prop :=
  ∃ (b0 b1 b2 b3 b4 b5 b6 b7 b8 b9 b10 b11 b12 b13 b14 : Bool) (kb ko : Nat) (v40 v47 u9 u13 u14 u15 u16 u17 u18 u19 u20 u21 u22 u23 u27 u28 u29 u30 u31 u32 u33 u34 : Value), listed = #[b0, b1, b2, b3, b4, b5, b6, b7, b8, b9, b10, b11, b12, b13, b14] ∧
    a = { tmps := #[s0, .int .u64 now, .agg #[.int .i64 1, .int .i64 id, .int .u64 at_], undef, undef, .pointer (some ⟨k5, 0, none⟩), cond b12 (v47) (.slice none 0 0), cond b13 (.int .u64 now) (.int .u64 0), .pointer (some ⟨k8, 0, none⟩), u9, undef, undef, undef, u13, u14, u15, u16, u17, u18, u19, u20, u21, u22, u23, undef, undef, undef, u27, u28, u29, u30, u31, u32, u33, u34, undef, undef, undef, cond b0 (.slice (some ⟨kb, 0, none⟩) 0 0) (undef), cond b1 (s0) (undef), cond b2 (v40) (undef), cond b3 (.pointer (some ⟨k5, 1, none⟩)) (undef), cond b4 (.int .i64 id) (undef), cond b5 (.pointer (some ⟨k5, 2, none⟩)) (undef), cond b6 (.int .u64 at_) (undef), cond b7 (.agg #[.int .i64 id, .int .u64 at_]) (undef), cond b8 (.slice (some ⟨ko, 0, none⟩) 1 1) (undef), cond b9 (v47) (undef), cond b10 (.int .u64 now) (undef), cond b11 (.agg #[.int .i64 0, .slice none 0 0, .int .u64 0]) (undef), undef, undef, undef, undef, undef, undef, undef, undef, undef, undef, undef, undef, undef, undef, undef, undef, undef, undef, undef, undef, undef, undef, undef, undef, undef, undef, undef, undef, undef, undef, undef, undef, undef, undef, undef, undef, undef, undef, undef, undef, undef, undef, undef, undef, undef, undef, undef, undef, undef, undef, undef, undef, undef, undef, undef, undef, undef, undef, undef, undef, undef, undef, undef, undef, undef, undef, undef, undef, undef, undef, undef, undef, undef, undef, undef, undef, undef], defers := [] } ∧ SF w wS k5 k8 kb ko b0 b2 b8 b9 b14 X id at_ v40 v47 ww
set_option maxHeartbeats 2000000 in
set_option maxRecDepth 100000 in
theorem stepQ (A : Option Addr) (c : Nat) (R : List Tm) (now : Int) (o : TOp) (w : World) (hr : Ts w 117 A (rcells R)) (hc : R.length ≤ c) (hcm : c ≤ maxLen) (hm : R.length ≤ 256) (ho : o.ok) (hnow : 0 ≤ now ∧ now < 18446744073709551616) :
    Calls Try.prog 56 #[.slice A R.length c, .int .u64 now, .agg #[.int .i64 o.kind, .int .i64 o.id, .int .u64 o.at_]] w (StepPost w (stepR R now o)) := by
  obtain ⟨kd, id, at_⟩ := o
  simp only
  by_cases h3 : kd = 3
  · subst h3
    exact stepFireQ A c R now id at_ w hr hc hcm hm ho.2.2 hnow
  have oW : Old w ((w.alloc (.cells #[.int .i64 kd, .int .i64 id, .int .u64 at_] 66)).alloc (.cells #[.int .i64 0, .slice none 0 0, .int .u64 0] 71)) := ((Old.refl w).alloc _).alloc _
  have hk5 : ((w.alloc (.cells #[.int .i64 kd, .int .i64 id, .int .u64 at_] 66)).alloc (.cells #[.int .i64 0, .slice none 0 0, .int .u64 0] 71)).heap[w.heap.size]? = some (.cells #[.int .i64 kd, .int .i64 id, .int .u64 at_] 66 (0, 0)) :=
    ((Old.refl _).alloc _).block (heap_alloc_new w _)
  have hk8 : ((w.alloc (.cells #[.int .i64 kd, .int .i64 id, .int .u64 at_] 66)).alloc (.cells #[.int .i64 0, .slice none 0 0, .int .u64 0] 71)).heap[w.heap.size + 1]? = some (.cells #[.int .i64 0, .slice none 0 0, .int .u64 0] 71 (0, 0)) := by
    rw [show w.heap.size + 1 = (w.alloc (.cells #[.int .i64 kd, .int .i64 id, .int .u64 at_] 66)).heap.size by simp]
    exact heap_alloc_new _ _
  have HR := Lib.hid hr
  clear hr
  go_enter Try.func56, Try.ntmps56
  go_upto_region 1 with fail
  generalize (w.alloc (.cells #[.int .i64 kd, .int .i64 id, .int .u64 at_] 66)).alloc (.cells #[.int .i64 0, .slice none 0 0, .int .u64 0] 71) = W at *
  have a0 : W.cell? ⟨w.heap.size, 0, none⟩ = some (.int .i64 kd) := by rw [cell_of_row W _ 0 _ _ _ hk5]; rfl
  have a1 : W.cell? ⟨w.heap.size, 1, none⟩ = some (.int .i64 id) := by rw [cell_of_row W _ 1 _ _ _ hk5]; rfl
  have a2 : W.cell? ⟨w.heap.size, 2, none⟩ = some (.int .u64 at_) := by rw [cell_of_row W _ 2 _ _ _ hk5]; rfl
  have hP := Lib.hid (placeQ A c R id W (HR.out.up oW) (by omega))
  have OW := Lib.hid oW
  have HK5 := Lib.hid hk5
  have HK8 := Lib.hid hk8
  clear oW hk5 hk8
  go_wp2_with fail
  refine hP.out.mono ?_
  rintro e w2 ⟨rfl, o2⟩
  have b0 := o2.cell a0
  have b1 := o2.cell a1
  have b2 := o2.cell a2
  have hk8 := o2.block HK8.out
  have e0 : w2.cell? ⟨w.heap.size + 1, 0, none⟩ = some (.int .i64 0) := by rw [cell_of_row w2 _ 0 _ _ _ hk8]; rfl
  have e1 : w2.cell? ⟨w.heap.size + 1, 1, none⟩ = some (.slice none 0 0) := by rw [cell_of_row w2 _ 1 _ _ _ hk8]; rfl
  have e2 : w2.cell? ⟨w.heap.size + 1, 2, none⟩ = some (.int .u64 0) := by rw [cell_of_row w2 _ 2 _ _ _ hk8]; rfl
  have f0 : w2.frozen? ⟨w.heap.size + 1, 0, none⟩ = false := frozen_of_row w2 _ 0 _ _ hk8
  have f1 : w2.frozen? ⟨w.heap.size + 1, 1, none⟩ = false := frozen_of_row w2 _ 1 _ _ hk8
  have f2 : w2.frozen? ⟨w.heap.size + 1, 2, none⟩ = false := frozen_of_row w2 _ 2 _ _ hk8
  have HO2 := Lib.hid (OW.out.up o2)
  have HR2 := Lib.hid ((HR.out.up OW.out).up o2)
  have HKK8 := Lib.hid hk8
  have HK5w := Lib.hid (o2.block HK5.out)
  have HC := Lib.hid (And.intro hc hcm)
  clear o2 a0 a1 a2 hk8 hP hcm
  by_cases h1 : kd = 1
  · subst h1
    by_cases h0 : id < 0
    · have hst : stepR R now ⟨1, id, at_⟩ = (R, now, ⟨2, [], 0⟩) := by unfold stepR setR; simp [h0]
      have HST := Lib.hid hst
      clear hst
      go_wp2_with fail
      have hOld := (((HO2.out).setCell (p := ⟨w.heap.size + 1, 0, none⟩) (by simp) (.int .i64 2)).setCell (p := ⟨w.heap.size + 1, 1, none⟩) (by simp) (.slice none 0 0)).setCell (p := ⟨w.heap.size + 1, 2, none⟩) (by simp) (.int .u64 0)
      rw [HST.out]
      exact bodyPost_ret (v := .tuple #[.slice A R.length c, .int .u64 now, .agg #[.int .i64 2, .slice none 0 0, .int .u64 0]]) (by simp [results, Try.results56, go_sem, e0, e1, e2]) rfl ⟨A, c, _, rfl, HR.out.up hOld, HC.out.1, HC.out.2, ⟨_, rfl, Own.nil_ _ _ _ _⟩, hOld⟩
    · cases hx : idx R id with
      | none =>
        have hoi : oI none < 0 := by decide
        have hoi2 : ¬ 0 ≤ oI none := by decide
        by_cases hf : 256 ≤ R.length
        · have hst : stepR R now ⟨1, id, at_⟩ = (R, now, ⟨1, [], 0⟩) := by unfold stepR setR; simp [h0, hx, hf]
          have HST := Lib.hid hst
          clear hst hx
          have hf2 : (256 : Int) ≤ (R.length : Int) := by omega
          go_wp2_with fail
          have hOld := (((HO2.out).setCell (p := ⟨w.heap.size + 1, 0, none⟩) (by simp) (.int .i64 1)).setCell (p := ⟨w.heap.size + 1, 1, none⟩) (by simp) (.slice none 0 0)).setCell (p := ⟨w.heap.size + 1, 2, none⟩) (by simp) (.int .u64 0)
          rw [HST.out]
          exact bodyPost_ret (v := .tuple #[.slice A R.length c, .int .u64 now, .agg #[.int .i64 1, .slice none 0 0, .int .u64 0]]) (by simp [results, Try.results56, go_sem, e0, e1, e2]) rfl ⟨A, c, _, rfl, HR.out.up hOld, HC.out.1, HC.out.2, ⟨_, rfl, Own.nil_ _ _ _ _⟩, hOld⟩
        · have hst : stepR R now ⟨1, id, at_⟩ = (R ++ [(at_, id)], now, ⟨0, [], 0⟩) := by unfold stepR setR; simp [h0, hx, hf]
          have HST := Lib.hid hst
          have hk5' := HK5w.out
          have hF0 : SF w w2 w.heap.size (w.heap.size + 1) 0 0 false false false false false R id at_ undef undef w2.drew := ⟨HO2.out.up (Old.refl w2).drew, fun _ => (Old.refl w2).drew, HO2.out.size, hk5', HKK8.out, Nat.le_succ _, (fun hb => by cases hb), (fun hb => by cases hb), (fun hb => by cases hb), (fun hb => by cases hb), (fun hb => by cases hb), (fun hb => by cases hb)⟩
          have HX : Hid (∀ ww, Old w2 ww → Rs ww A (rcells R)) := fun ww ho => (HR2.out.up ho).rs
          clear hst hx hk5'
          go_upto_region 10 with fail
          refine wp_region_steps2 (by kernel_rfl) (by kernel_rfl) (SI w w2 w.heap.size (w.heap.size + 1) R (.slice A R.length c) now id at_) ?_ ?_ ⟨?_, ?_, ?_, ?_, ?_, ?_, ?_, ?_, ?_, ?_, ?_, ?_, ?_, ?_, ?_, trivial⟩
          · exact ⟨false, false, false, false, false, false, false, false, false, false, false, false, false, false, false, 0, 0, undef, undef, _, _, _, _, _, _, _, _, _, _, _, _, _, _, _, _, _, _, _, _, rfl, rfl, hF0⟩
          · rintro a w1 ⟨b0, b1, b2, b3, b4, b5, b6, b7, b8, b9, b10, b11, b12, b13, b14, kb, ko, v40, v47, u9, u13, u14, u15, u16, u17, u18, u19, u20, u21, u22, u23, u27, u28, u29, u30, u31, u32, u33, u34, hl, rfl, hF⟩
            have hl' := congrArg Array.toList hl
            simp at hl'
            obtain ⟨rfl, rfl, rfl, rfl, rfl, rfl, rfl, rfl, rfl, rfl, rfl, rfl, rfl, rfl, rfl⟩ := hl'
            have HF1 := Lib.hid hF
            clear hF
            go_wp2_with fail
            have e0 : w1.cell? ⟨w.heap.size + 1, 0, none⟩ = some (.int .i64 0) := by rw [cell_of_row w1 _ 0 _ _ _ HF1.out.c8]; rfl
            have e1 : w1.cell? ⟨w.heap.size + 1, 1, none⟩ = some (.slice none 0 0) := by rw [cell_of_row w1 _ 1 _ _ _ HF1.out.c8]; rfl
            have e2 : w1.cell? ⟨w.heap.size + 1, 2, none⟩ = some (.int .u64 0) := by rw [cell_of_row w1 _ 2 _ _ _ HF1.out.c8]; rfl
            rw [HST.out]
            have hfo := (HF1.out.f rfl).base (base' := w.heap.size) HF1.out.hS
            obtain ⟨Af, cf, rfl, htf, hcf, hcmf⟩ := hfo.shape
            exact bodyPost_ret (v := .tuple #[.slice Af (R ++ [(at_, id)]).length cf, .int .u64 now, .agg #[.int .i64 0, .slice none 0 0, .int .u64 0]]) (by simp [results, Try.results56, go_sem, e0, e1, e2]) rfl ⟨Af, cf, _, rfl, htf, hcf, hcmf, ⟨_, rfl, Own.nil_ _ _ _ _⟩, HF1.out.old⟩
          · intro listed a w1 K hs hcl hf hall hI hK
            obtain ⟨b0, b1, b2, b3, b4, b5, b6, b7, b8, b9, b10, b11, b12, b13, b14, kb, ko, v40, v47, u9, u13, u14, u15, u16, u17, u18, u19, u20, u21, u22, u23, u27, u28, u29, u30, u31, u32, u33, u34, rfl, rfl, hF⟩ := hI
            have hf' : b0 = false := hf
            subst hf'
            have hb2 : b2 = false := by
              cases b2
              · rfl
              · exact absurd (show false = true from hcl 2 _ rfl rfl ⟨0, .data⟩ (by first | exact .head _ | simp) rfl) (by decide)
            subst hb2
            have hb12 : b12 = false := by
              cases b12
              · rfl
              · exact absurd (show false = true from hcl 12 _ rfl rfl ⟨0, .phase⟩ (by first | exact .head _ | simp) rfl) (by decide)
            subst hb12
            have hb13 : b13 = false := by
              cases b13
              · rfl
              · exact absurd (show false = true from hcl 13 _ rfl rfl ⟨0, .phase⟩ (by first | exact .head _ | simp) rfl) (by decide)
            subst hb13
            have hb14 : b14 = false := by
              cases b14
              · rfl
              · exact absurd (show false = true from hcl 14 _ rfl rfl ⟨0, .phase⟩ (by first | exact .head _ | simp) rfl) (by decide)
            subst hb14
            have hb9 : b9 = false := by
              cases b9
              · rfl
              · exact absurd (show false = true from hcl 9 _ rfl rfl ⟨2, .data⟩ (by first | exact .head _ | simp) rfl) (by decide)
            subst hb9
            clear hall hcl hs hf
            go_simp
            exact hK _ _ ⟨true, b1, false, b3, b4, b5, b6, b7, b8, false, b10, b11, false, false, false, w1.heap.size, ko, v40, v47, u9, u13, u14, u15, u16, u17, u18, u19, u20, u21, u22, u23, u27, u28, u29, u30, u31, u32, u33, u34, rfl, rfl, hF.mkE⟩
          · intro listed a w1 K hs hcl hf hall hI hK
            obtain ⟨b0, b1, b2, b3, b4, b5, b6, b7, b8, b9, b10, b11, b12, b13, b14, kb, ko, v40, v47, u9, u13, u14, u15, u16, u17, u18, u19, u20, u21, u22, u23, u27, u28, u29, u30, u31, u32, u33, u34, rfl, rfl, hF⟩ := hI
            have hf' : b1 = false := hf
            subst hf'
            have hb2 : b2 = false := by
              cases b2
              · rfl
              · exact absurd (show false = true from hcl 2 _ rfl rfl ⟨1, .data⟩ (by first | exact .head _ | simp) rfl) (by decide)
            subst hb2
            have hb12 : b12 = false := by
              cases b12
              · rfl
              · exact absurd (show false = true from hcl 12 _ rfl rfl ⟨1, .phase⟩ (by first | exact .head _ | simp) rfl) (by decide)
            subst hb12
            have hb13 : b13 = false := by
              cases b13
              · rfl
              · exact absurd (show false = true from hcl 13 _ rfl rfl ⟨1, .phase⟩ (by first | exact .head _ | simp) rfl) (by decide)
            subst hb13
            have hb14 : b14 = false := by
              cases b14
              · rfl
              · exact absurd (show false = true from hcl 14 _ rfl rfl ⟨1, .phase⟩ (by first | exact .head _ | simp) rfl) (by decide)
            subst hb14
            have hb9 : b9 = false := by
              cases b9
              · rfl
              · exact absurd (show false = true from hcl 9 _ rfl rfl ⟨2, .data⟩ (by first | exact .head _ | simp) rfl) (by decide)
            subst hb9
            clear hall hcl hs hf
            go_simp
            exact hK _ _ ⟨b0, true, false, b3, b4, b5, b6, b7, b8, false, b10, b11, false, false, false, kb, ko, v40, v47, u9, u13, u14, u15, u16, u17, u18, u19, u20, u21, u22, u23, u27, u28, u29, u30, u31, u32, u33, u34, rfl, rfl, hF⟩
          · intro listed a w1 K hs hcl hf hall hI hK
            obtain ⟨b0, b1, b2, b3, b4, b5, b6, b7, b8, b9, b10, b11, b12, b13, b14, kb, ko, v40, v47, u9, u13, u14, u15, u16, u17, u18, u19, u20, u21, u22, u23, u27, u28, u29, u30, u31, u32, u33, u34, rfl, rfl, hF⟩ := hI
            have hf' : b2 = false := hf
            subst hf'
            have hq0 : b0 = true := hall ⟨0, .data⟩ (by first | exact .head _ | simp) rfl
            subst hq0
            have hq1 : b1 = true := hall ⟨1, .data⟩ (by first | exact .head _ | simp) rfl
            subst hq1
            have hb9 : b9 = false := by
              cases b9
              · rfl
              · exact absurd (show false = true from hcl 9 _ rfl rfl ⟨2, .data⟩ (by first | exact .head _ | simp) rfl) (by decide)
            subst hb9
            have hb12 : b12 = false := by
              cases b12
              · rfl
              · exact absurd (show false = true from hcl 12 _ rfl rfl ⟨2, .phase⟩ (by first | exact .head _ | simp) rfl) (by decide)
            subst hb12
            have hb13 : b13 = false := by
              cases b13
              · rfl
              · exact absurd (show false = true from hcl 13 _ rfl rfl ⟨2, .phase⟩ (by first | exact .head _ | simp) rfl) (by decide)
            subst hb13
            have hb14 : b14 = false := by
              cases b14
              · rfl
              · exact absurd (show false = true from hcl 14 _ rfl rfl ⟨2, .phase⟩ (by first | exact .head _ | simp) rfl) (by decide)
            subst hb14
            clear hall hcl hs hf
            have hown := hF.e rfl rfl
            refine step_appO w1 (by rfl) _ _ 103 (by rfl) w2.heap.size 117 (.agg #[.int .i64 0, .int .u64 0]) 2 16 Try.underlying103 info_rt rfl (by decide) (by decide) (.slice (some ⟨kb, 0, none⟩) 0 0) 0 [] (by rfl) hown A R.length c (rcells R) (by rfl) (HX.out w1 (hF.src rfl)) (rcells_length _) (rcells_one _) (by have := hm; omega) (hF.src rfl).size ?_
            intro v' w' ho hg hw
            exact hK _ _ ⟨true, true, true, b3, b4, b5, b6, b7, b8, false, b10, b11, false, false, false, kb, ko, v', v47, u9, u13, u14, u15, u16, u17, u18, u19, u20, u21, u22, u23, u27, u28, u29, u30, u31, u32, u33, u34, rfl, rfl, hF.app1 rfl rfl (by rw [Nat.zero_add, List.nil_append] at ho; exact ho) hg hw⟩
          · intro listed a w1 K hs hcl hf hall hI hK
            obtain ⟨b0, b1, b2, b3, b4, b5, b6, b7, b8, b9, b10, b11, b12, b13, b14, kb, ko, v40, v47, u9, u13, u14, u15, u16, u17, u18, u19, u20, u21, u22, u23, u27, u28, u29, u30, u31, u32, u33, u34, rfl, rfl, hF⟩ := hI
            have hf' : b3 = false := hf
            subst hf'
            have hb4 : b4 = false := by
              cases b4
              · rfl
              · exact absurd (show false = true from hcl 4 _ rfl rfl ⟨3, .data⟩ (by first | exact .head _ | simp) rfl) (by decide)
            subst hb4
            have hb12 : b12 = false := by
              cases b12
              · rfl
              · exact absurd (show false = true from hcl 12 _ rfl rfl ⟨3, .phase⟩ (by first | exact .head _ | simp) rfl) (by decide)
            subst hb12
            have hb13 : b13 = false := by
              cases b13
              · rfl
              · exact absurd (show false = true from hcl 13 _ rfl rfl ⟨3, .phase⟩ (by first | exact .head _ | simp) rfl) (by decide)
            subst hb13
            have hb14 : b14 = false := by
              cases b14
              · rfl
              · exact absurd (show false = true from hcl 14 _ rfl rfl ⟨3, .phase⟩ (by first | exact .head _ | simp) rfl) (by decide)
            subst hb14
            have hb7 : b7 = false := by
              cases b7
              · rfl
              · exact absurd (show false = true from hcl 7 _ rfl rfl ⟨4, .data⟩ (by first | exact .head _ | simp) rfl) (by decide)
            subst hb7
            have hb8 : b8 = false := by
              cases b8
              · rfl
              · exact absurd (show false = true from hcl 8 _ rfl rfl ⟨7, .data⟩ (by first | exact .head _ | simp) rfl) (by decide)
            subst hb8
            have hb9 : b9 = false := by
              cases b9
              · rfl
              · exact absurd (show false = true from hcl 9 _ rfl rfl ⟨8, .data⟩ (by first | exact .head _ | simp) rfl) (by decide)
            subst hb9
            clear hall hcl hs hf
            go_simp
            exact hK _ _ ⟨b0, b1, b2, true, false, b5, b6, false, false, false, b10, b11, false, false, false, kb, ko, v40, v47, u9, u13, u14, u15, u16, u17, u18, u19, u20, u21, u22, u23, u27, u28, u29, u30, u31, u32, u33, u34, rfl, rfl, hF⟩
          · intro listed a w1 K hs hcl hf hall hI hK
            obtain ⟨b0, b1, b2, b3, b4, b5, b6, b7, b8, b9, b10, b11, b12, b13, b14, kb, ko, v40, v47, u9, u13, u14, u15, u16, u17, u18, u19, u20, u21, u22, u23, u27, u28, u29, u30, u31, u32, u33, u34, rfl, rfl, hF⟩ := hI
            have hf' : b4 = false := hf
            subst hf'
            have hq3 : b3 = true := hall ⟨3, .data⟩ (by first | exact .head _ | simp) rfl
            subst hq3
            have hb7 : b7 = false := by
              cases b7
              · rfl
              · exact absurd (show false = true from hcl 7 _ rfl rfl ⟨4, .data⟩ (by first | exact .head _ | simp) rfl) (by decide)
            subst hb7
            have hb12 : b12 = false := by
              cases b12
              · rfl
              · exact absurd (show false = true from hcl 12 _ rfl rfl ⟨4, .phase⟩ (by first | exact .head _ | simp) rfl) (by decide)
            subst hb12
            have hb13 : b13 = false := by
              cases b13
              · rfl
              · exact absurd (show false = true from hcl 13 _ rfl rfl ⟨4, .phase⟩ (by first | exact .head _ | simp) rfl) (by decide)
            subst hb13
            have hb14 : b14 = false := by
              cases b14
              · rfl
              · exact absurd (show false = true from hcl 14 _ rfl rfl ⟨4, .phase⟩ (by first | exact .head _ | simp) rfl) (by decide)
            subst hb14
            have hb8 : b8 = false := by
              cases b8
              · rfl
              · exact absurd (show false = true from hcl 8 _ rfl rfl ⟨7, .data⟩ (by first | exact .head _ | simp) rfl) (by decide)
            subst hb8
            have hb9 : b9 = false := by
              cases b9
              · rfl
              · exact absurd (show false = true from hcl 9 _ rfl rfl ⟨8, .data⟩ (by first | exact .head _ | simp) rfl) (by decide)
            subst hb9
            clear hall hcl hs hf
            have q1 : w1.cell? ⟨w.heap.size, 1, none⟩ = some (.int .i64 id) := by rw [cell_of_row w1 _ 1 _ _ _ hF.c5]; rfl
            go_simp
            exact hK _ _ ⟨b0, b1, b2, true, true, b5, b6, false, false, false, b10, b11, false, false, false, kb, ko, v40, v47, u9, u13, u14, u15, u16, u17, u18, u19, u20, u21, u22, u23, u27, u28, u29, u30, u31, u32, u33, u34, rfl, rfl, hF⟩
          · intro listed a w1 K hs hcl hf hall hI hK
            obtain ⟨b0, b1, b2, b3, b4, b5, b6, b7, b8, b9, b10, b11, b12, b13, b14, kb, ko, v40, v47, u9, u13, u14, u15, u16, u17, u18, u19, u20, u21, u22, u23, u27, u28, u29, u30, u31, u32, u33, u34, rfl, rfl, hF⟩ := hI
            have hf' : b5 = false := hf
            subst hf'
            have hb6 : b6 = false := by
              cases b6
              · rfl
              · exact absurd (show false = true from hcl 6 _ rfl rfl ⟨5, .data⟩ (by first | exact .head _ | simp) rfl) (by decide)
            subst hb6
            have hb12 : b12 = false := by
              cases b12
              · rfl
              · exact absurd (show false = true from hcl 12 _ rfl rfl ⟨5, .phase⟩ (by first | exact .head _ | simp) rfl) (by decide)
            subst hb12
            have hb13 : b13 = false := by
              cases b13
              · rfl
              · exact absurd (show false = true from hcl 13 _ rfl rfl ⟨5, .phase⟩ (by first | exact .head _ | simp) rfl) (by decide)
            subst hb13
            have hb14 : b14 = false := by
              cases b14
              · rfl
              · exact absurd (show false = true from hcl 14 _ rfl rfl ⟨5, .phase⟩ (by first | exact .head _ | simp) rfl) (by decide)
            subst hb14
            have hb7 : b7 = false := by
              cases b7
              · rfl
              · exact absurd (show false = true from hcl 7 _ rfl rfl ⟨6, .data⟩ (by first | exact .head _ | simp) rfl) (by decide)
            subst hb7
            have hb8 : b8 = false := by
              cases b8
              · rfl
              · exact absurd (show false = true from hcl 8 _ rfl rfl ⟨7, .data⟩ (by first | exact .head _ | simp) rfl) (by decide)
            subst hb8
            have hb9 : b9 = false := by
              cases b9
              · rfl
              · exact absurd (show false = true from hcl 9 _ rfl rfl ⟨8, .data⟩ (by first | exact .head _ | simp) rfl) (by decide)
            subst hb9
            clear hall hcl hs hf
            go_simp
            exact hK _ _ ⟨b0, b1, b2, b3, b4, true, false, false, false, false, b10, b11, false, false, false, kb, ko, v40, v47, u9, u13, u14, u15, u16, u17, u18, u19, u20, u21, u22, u23, u27, u28, u29, u30, u31, u32, u33, u34, rfl, rfl, hF⟩
          · intro listed a w1 K hs hcl hf hall hI hK
            obtain ⟨b0, b1, b2, b3, b4, b5, b6, b7, b8, b9, b10, b11, b12, b13, b14, kb, ko, v40, v47, u9, u13, u14, u15, u16, u17, u18, u19, u20, u21, u22, u23, u27, u28, u29, u30, u31, u32, u33, u34, rfl, rfl, hF⟩ := hI
            have hf' : b6 = false := hf
            subst hf'
            have hq5 : b5 = true := hall ⟨5, .data⟩ (by first | exact .head _ | simp) rfl
            subst hq5
            have hb7 : b7 = false := by
              cases b7
              · rfl
              · exact absurd (show false = true from hcl 7 _ rfl rfl ⟨6, .data⟩ (by first | exact .head _ | simp) rfl) (by decide)
            subst hb7
            have hb12 : b12 = false := by
              cases b12
              · rfl
              · exact absurd (show false = true from hcl 12 _ rfl rfl ⟨6, .phase⟩ (by first | exact .head _ | simp) rfl) (by decide)
            subst hb12
            have hb13 : b13 = false := by
              cases b13
              · rfl
              · exact absurd (show false = true from hcl 13 _ rfl rfl ⟨6, .phase⟩ (by first | exact .head _ | simp) rfl) (by decide)
            subst hb13
            have hb14 : b14 = false := by
              cases b14
              · rfl
              · exact absurd (show false = true from hcl 14 _ rfl rfl ⟨6, .phase⟩ (by first | exact .head _ | simp) rfl) (by decide)
            subst hb14
            have hb8 : b8 = false := by
              cases b8
              · rfl
              · exact absurd (show false = true from hcl 8 _ rfl rfl ⟨7, .data⟩ (by first | exact .head _ | simp) rfl) (by decide)
            subst hb8
            have hb9 : b9 = false := by
              cases b9
              · rfl
              · exact absurd (show false = true from hcl 9 _ rfl rfl ⟨8, .data⟩ (by first | exact .head _ | simp) rfl) (by decide)
            subst hb9
            clear hall hcl hs hf
            have q1 : w1.cell? ⟨w.heap.size, 2, none⟩ = some (.int .u64 at_) := by rw [cell_of_row w1 _ 2 _ _ _ hF.c5]; rfl
            go_simp
            exact hK _ _ ⟨b0, b1, b2, b3, b4, true, true, false, false, false, b10, b11, false, false, false, kb, ko, v40, v47, u9, u13, u14, u15, u16, u17, u18, u19, u20, u21, u22, u23, u27, u28, u29, u30, u31, u32, u33, u34, rfl, rfl, hF⟩
          · intro listed a w1 K hs hcl hf hall hI hK
            obtain ⟨b0, b1, b2, b3, b4, b5, b6, b7, b8, b9, b10, b11, b12, b13, b14, kb, ko, v40, v47, u9, u13, u14, u15, u16, u17, u18, u19, u20, u21, u22, u23, u27, u28, u29, u30, u31, u32, u33, u34, rfl, rfl, hF⟩ := hI
            have hf' : b7 = false := hf
            subst hf'
            have hq4 : b4 = true := hall ⟨4, .data⟩ (by first | exact .head _ | simp) rfl
            subst hq4
            have hq6 : b6 = true := hall ⟨6, .data⟩ (by first | exact .head _ | simp) rfl
            subst hq6
            have hq3 : b3 = true := hcl 4 _ rfl rfl ⟨3, .data⟩ (by first | exact .head _ | simp) rfl
            subst hq3
            have hq5 : b5 = true := hcl 6 _ rfl rfl ⟨5, .data⟩ (by first | exact .head _ | simp) rfl
            subst hq5
            have hb8 : b8 = false := by
              cases b8
              · rfl
              · exact absurd (show false = true from hcl 8 _ rfl rfl ⟨7, .data⟩ (by first | exact .head _ | simp) rfl) (by decide)
            subst hb8
            have hb12 : b12 = false := by
              cases b12
              · rfl
              · exact absurd (show false = true from hcl 12 _ rfl rfl ⟨7, .phase⟩ (by first | exact .head _ | simp) rfl) (by decide)
            subst hb12
            have hb13 : b13 = false := by
              cases b13
              · rfl
              · exact absurd (show false = true from hcl 13 _ rfl rfl ⟨7, .phase⟩ (by first | exact .head _ | simp) rfl) (by decide)
            subst hb13
            have hb14 : b14 = false := by
              cases b14
              · rfl
              · exact absurd (show false = true from hcl 14 _ rfl rfl ⟨7, .phase⟩ (by first | exact .head _ | simp) rfl) (by decide)
            subst hb14
            have hb9 : b9 = false := by
              cases b9
              · rfl
              · exact absurd (show false = true from hcl 9 _ rfl rfl ⟨8, .data⟩ (by first | exact .head _ | simp) rfl) (by decide)
            subst hb9
            clear hall hcl hs hf
            go_simp
            exact hK _ _ ⟨b0, b1, b2, true, true, true, true, true, false, false, b10, b11, false, false, false, kb, ko, v40, v47, u9, u13, u14, u15, u16, u17, u18, u19, u20, u21, u22, u23, u27, u28, u29, u30, u31, u32, u33, u34, rfl, rfl, hF⟩
          · intro listed a w1 K hs hcl hf hall hI hK
            obtain ⟨b0, b1, b2, b3, b4, b5, b6, b7, b8, b9, b10, b11, b12, b13, b14, kb, ko, v40, v47, u9, u13, u14, u15, u16, u17, u18, u19, u20, u21, u22, u23, u27, u28, u29, u30, u31, u32, u33, u34, rfl, rfl, hF⟩ := hI
            have hf' : b8 = false := hf
            subst hf'
            have hq7 : b7 = true := hall ⟨7, .data⟩ (by first | exact .head _ | simp) rfl
            subst hq7
            have hq4 : b4 = true := hcl 7 _ rfl rfl ⟨4, .data⟩ (by first | exact .head _ | simp) rfl
            subst hq4
            have hq6 : b6 = true := hcl 7 _ rfl rfl ⟨6, .data⟩ (by first | exact .head _ | simp) rfl
            subst hq6
            have hq3 : b3 = true := hcl 4 _ rfl rfl ⟨3, .data⟩ (by first | exact .head _ | simp) rfl
            subst hq3
            have hq5 : b5 = true := hcl 6 _ rfl rfl ⟨5, .data⟩ (by first | exact .head _ | simp) rfl
            subst hq5
            have hb9 : b9 = false := by
              cases b9
              · rfl
              · exact absurd (show false = true from hcl 9 _ rfl rfl ⟨8, .data⟩ (by first | exact .head _ | simp) rfl) (by decide)
            subst hb9
            have hb12 : b12 = false := by
              cases b12
              · rfl
              · exact absurd (show false = true from hcl 12 _ rfl rfl ⟨8, .phase⟩ (by first | exact .head _ | simp) rfl) (by decide)
            subst hb12
            have hb13 : b13 = false := by
              cases b13
              · rfl
              · exact absurd (show false = true from hcl 13 _ rfl rfl ⟨8, .phase⟩ (by first | exact .head _ | simp) rfl) (by decide)
            subst hb13
            have hb14 : b14 = false := by
              cases b14
              · rfl
              · exact absurd (show false = true from hcl 14 _ rfl rfl ⟨8, .phase⟩ (by first | exact .head _ | simp) rfl) (by decide)
            subst hb14
            clear hall hcl hs hf
            go_simp
            exact hK _ _ ⟨b0, b1, b2, true, true, true, true, true, true, false, b10, b11, false, false, false, kb, w1.heap.size, v40, v47, u9, u13, u14, u15, u16, u17, u18, u19, u20, u21, u22, u23, u27, u28, u29, u30, u31, u32, u33, u34, rfl, rfl, hF.mkO⟩
          · intro listed a w1 K hs hcl hf hall hI hK
            obtain ⟨b0, b1, b2, b3, b4, b5, b6, b7, b8, b9, b10, b11, b12, b13, b14, kb, ko, v40, v47, u9, u13, u14, u15, u16, u17, u18, u19, u20, u21, u22, u23, u27, u28, u29, u30, u31, u32, u33, u34, rfl, rfl, hF⟩ := hI
            have hf' : b9 = false := hf
            subst hf'
            have hq2 : b2 = true := hall ⟨2, .data⟩ (by first | exact .head _ | simp) rfl
            subst hq2
            have hq8 : b8 = true := hall ⟨8, .data⟩ (by first | exact .head _ | simp) rfl
            subst hq8
            have hq0 : b0 = true := hcl 2 _ rfl rfl ⟨0, .data⟩ (by first | exact .head _ | simp) rfl
            subst hq0
            have hq1 : b1 = true := hcl 2 _ rfl rfl ⟨1, .data⟩ (by first | exact .head _ | simp) rfl
            subst hq1
            have hq7 : b7 = true := hcl 8 _ rfl rfl ⟨7, .data⟩ (by first | exact .head _ | simp) rfl
            subst hq7
            have hq4 : b4 = true := hcl 7 _ rfl rfl ⟨4, .data⟩ (by first | exact .head _ | simp) rfl
            subst hq4
            have hq6 : b6 = true := hcl 7 _ rfl rfl ⟨6, .data⟩ (by first | exact .head _ | simp) rfl
            subst hq6
            have hq3 : b3 = true := hcl 4 _ rfl rfl ⟨3, .data⟩ (by first | exact .head _ | simp) rfl
            subst hq3
            have hq5 : b5 = true := hcl 6 _ rfl rfl ⟨5, .data⟩ (by first | exact .head _ | simp) rfl
            subst hq5
            have hb12 : b12 = false := by
              cases b12
              · rfl
              · exact absurd (show false = true from hcl 12 _ rfl rfl ⟨9, .data⟩ (by first | exact .head _ | simp) rfl) (by decide)
            subst hb12
            have hb13 : b13 = false := by
              cases b13
              · rfl
              · exact absurd (show false = true from hcl 13 _ rfl rfl ⟨9, .phase⟩ (by first | exact .head _ | simp) rfl) (by decide)
            subst hb13
            have hb14 : b14 = false := by
              cases b14
              · rfl
              · exact absurd (show false = true from hcl 14 _ rfl rfl ⟨9, .phase⟩ (by first | exact .head _ | simp) rfl) (by decide)
            subst hb14
            clear hall hcl hs hf
            have hown := hF.p rfl rfl
            refine step_appO w1 (by rfl) _ _ 103 (by rfl) w2.heap.size 117 (.agg #[.int .i64 0, .int .u64 0]) 2 16 Try.underlying103 info_rt rfl (by decide) (by decide) v40 R.length (rcells R) (by rfl) hown (some ⟨ko, 0, none⟩) 1 1 [.int .i64 id, .int .u64 at_] (by rfl) (hF.rsO rfl) rfl rfl (by have := hm; omega) (hF.src rfl).size ?_
            intro v' w' ho hg hw
            exact hK _ _ ⟨true, true, true, true, true, true, true, true, true, true, b10, b11, false, false, false, kb, ko, v40, v', u9, u13, u14, u15, u16, u17, u18, u19, u20, u21, u22, u23, u27, u28, u29, u30, u31, u32, u33, u34, rfl, rfl, hF.app2 rfl rfl rfl (by rw [rcells_app, List.length_append]; exact ho) hg hw⟩
          · intro listed a w1 K hs hcl hf hall hI hK
            obtain ⟨b0, b1, b2, b3, b4, b5, b6, b7, b8, b9, b10, b11, b12, b13, b14, kb, ko, v40, v47, u9, u13, u14, u15, u16, u17, u18, u19, u20, u21, u22, u23, u27, u28, u29, u30, u31, u32, u33, u34, rfl, rfl, hF⟩ := hI
            have hf' : b10 = false := hf
            subst hf'
            have hb13 : b13 = false := by
              cases b13
              · rfl
              · exact absurd (show false = true from hcl 13 _ rfl rfl ⟨10, .data⟩ (by first | exact .head _ | simp) rfl) (by decide)
            subst hb13
            have hb14 : b14 = false := by
              cases b14
              · rfl
              · exact absurd (show false = true from hcl 14 _ rfl rfl ⟨10, .phase⟩ (by first | exact .head _ | simp) rfl) (by decide)
            subst hb14
            clear hall hcl hs hf
            go_simp
            exact hK _ _ ⟨b0, b1, b2, b3, b4, b5, b6, b7, b8, b9, true, b11, b12, false, false, kb, ko, v40, v47, u9, u13, u14, u15, u16, u17, u18, u19, u20, u21, u22, u23, u27, u28, u29, u30, u31, u32, u33, u34, rfl, rfl, hF⟩
          · intro listed a w1 K hs hcl hf hall hI hK
            obtain ⟨b0, b1, b2, b3, b4, b5, b6, b7, b8, b9, b10, b11, b12, b13, b14, kb, ko, v40, v47, u9, u13, u14, u15, u16, u17, u18, u19, u20, u21, u22, u23, u27, u28, u29, u30, u31, u32, u33, u34, rfl, rfl, hF⟩ := hI
            have hf' : b11 = false := hf
            subst hf'
            have hb14 : b14 = false := by
              cases b14
              · rfl
              · exact absurd (show false = true from hcl 14 _ rfl rfl ⟨11, .data⟩ (by first | exact .head _ | simp) rfl) (by decide)
            subst hb14
            clear hall hcl hs hf
            go_simp
            exact hK _ _ ⟨b0, b1, b2, b3, b4, b5, b6, b7, b8, b9, b10, true, b12, b13, false, kb, ko, v40, v47, u9, u13, u14, u15, u16, u17, u18, u19, u20, u21, u22, u23, u27, u28, u29, u30, u31, u32, u33, u34, rfl, rfl, hF⟩
          · intro listed a w1 K hs hcl hf hall hI hK
            obtain ⟨b0, b1, b2, b3, b4, b5, b6, b7, b8, b9, b10, b11, b12, b13, b14, kb, ko, v40, v47, u9, u13, u14, u15, u16, u17, u18, u19, u20, u21, u22, u23, u27, u28, u29, u30, u31, u32, u33, u34, rfl, rfl, hF⟩ := hI
            have hf' : b12 = false := hf
            subst hf'
            have hq9 : b9 = true := hall ⟨9, .data⟩ (by first | exact .head _ | simp) rfl
            subst hq9
            have hq0 : b0 = true := hall ⟨0, .phase⟩ (by first | exact .head _ | simp) rfl
            subst hq0
            have hq1 : b1 = true := hall ⟨1, .phase⟩ (by first | exact .head _ | simp) rfl
            subst hq1
            have hq2 : b2 = true := hall ⟨2, .phase⟩ (by first | exact .head _ | simp) rfl
            subst hq2
            have hq3 : b3 = true := hall ⟨3, .phase⟩ (by first | exact .head _ | simp) rfl
            subst hq3
            have hq4 : b4 = true := hall ⟨4, .phase⟩ (by first | exact .head _ | simp) rfl
            subst hq4
            have hq5 : b5 = true := hall ⟨5, .phase⟩ (by first | exact .head _ | simp) rfl
            subst hq5
            have hq6 : b6 = true := hall ⟨6, .phase⟩ (by first | exact .head _ | simp) rfl
            subst hq6
            have hq7 : b7 = true := hall ⟨7, .phase⟩ (by first | exact .head _ | simp) rfl
            subst hq7
            have hq8 : b8 = true := hall ⟨8, .phase⟩ (by first | exact .head _ | simp) rfl
            subst hq8
            have hb13 : b13 = false := by
              cases b13
              · rfl
              · exact absurd (show false = true from hcl 13 _ rfl rfl ⟨12, .chain⟩ (by first | exact .head _ | simp) rfl) (by decide)
            subst hb13
            have hb14 : b14 = false := by
              cases b14
              · rfl
              · exact absurd (show false = true from hcl 14 _ rfl rfl ⟨12, .phase⟩ (by first | exact .head _ | simp) rfl) (by decide)
            subst hb14
            clear hall hcl hs hf
            go_simp
            exact hK _ _ ⟨true, true, true, true, true, true, true, true, true, true, b10, b11, true, false, false, kb, ko, v40, v47, u9, u13, u14, u15, u16, u17, u18, u19, u20, u21, u22, u23, u27, u28, u29, u30, u31, u32, u33, u34, rfl, rfl, hF⟩
          · intro listed a w1 K hs hcl hf hall hI hK
            obtain ⟨b0, b1, b2, b3, b4, b5, b6, b7, b8, b9, b10, b11, b12, b13, b14, kb, ko, v40, v47, u9, u13, u14, u15, u16, u17, u18, u19, u20, u21, u22, u23, u27, u28, u29, u30, u31, u32, u33, u34, rfl, rfl, hF⟩ := hI
            have hf' : b13 = false := hf
            subst hf'
            have hq10 : b10 = true := hall ⟨10, .data⟩ (by first | exact .head _ | simp) rfl
            subst hq10
            have hq12 : b12 = true := hall ⟨12, .chain⟩ (by first | exact .head _ | simp) rfl
            subst hq12
            have hq0 : b0 = true := hall ⟨0, .phase⟩ (by first | exact .head _ | simp) rfl
            subst hq0
            have hq1 : b1 = true := hall ⟨1, .phase⟩ (by first | exact .head _ | simp) rfl
            subst hq1
            have hq2 : b2 = true := hall ⟨2, .phase⟩ (by first | exact .head _ | simp) rfl
            subst hq2
            have hq3 : b3 = true := hall ⟨3, .phase⟩ (by first | exact .head _ | simp) rfl
            subst hq3
            have hq4 : b4 = true := hall ⟨4, .phase⟩ (by first | exact .head _ | simp) rfl
            subst hq4
            have hq5 : b5 = true := hall ⟨5, .phase⟩ (by first | exact .head _ | simp) rfl
            subst hq5
            have hq6 : b6 = true := hall ⟨6, .phase⟩ (by first | exact .head _ | simp) rfl
            subst hq6
            have hq7 : b7 = true := hall ⟨7, .phase⟩ (by first | exact .head _ | simp) rfl
            subst hq7
            have hq8 : b8 = true := hall ⟨8, .phase⟩ (by first | exact .head _ | simp) rfl
            subst hq8
            have hq9 : b9 = true := hall ⟨9, .phase⟩ (by first | exact .head _ | simp) rfl
            subst hq9
            have hb14 : b14 = false := by
              cases b14
              · rfl
              · exact absurd (show false = true from hcl 14 _ rfl rfl ⟨13, .chain⟩ (by first | exact .head _ | simp) rfl) (by decide)
            subst hb14
            clear hall hcl hs hf
            go_simp
            exact hK _ _ ⟨true, true, true, true, true, true, true, true, true, true, true, b11, true, true, false, kb, ko, v40, v47, u9, u13, u14, u15, u16, u17, u18, u19, u20, u21, u22, u23, u27, u28, u29, u30, u31, u32, u33, u34, rfl, rfl, hF⟩
          · intro listed a w1 K hs hcl hf hall hI hK
            obtain ⟨b0, b1, b2, b3, b4, b5, b6, b7, b8, b9, b10, b11, b12, b13, b14, kb, ko, v40, v47, u9, u13, u14, u15, u16, u17, u18, u19, u20, u21, u22, u23, u27, u28, u29, u30, u31, u32, u33, u34, rfl, rfl, hF⟩ := hI
            have hf' : b14 = false := hf
            subst hf'
            have hq11 : b11 = true := hall ⟨11, .data⟩ (by first | exact .head _ | simp) rfl
            subst hq11
            have hq13 : b13 = true := hall ⟨13, .chain⟩ (by first | exact .head _ | simp) rfl
            subst hq13
            have hq0 : b0 = true := hall ⟨0, .phase⟩ (by first | exact .head _ | simp) rfl
            subst hq0
            have hq1 : b1 = true := hall ⟨1, .phase⟩ (by first | exact .head _ | simp) rfl
            subst hq1
            have hq2 : b2 = true := hall ⟨2, .phase⟩ (by first | exact .head _ | simp) rfl
            subst hq2
            have hq3 : b3 = true := hall ⟨3, .phase⟩ (by first | exact .head _ | simp) rfl
            subst hq3
            have hq4 : b4 = true := hall ⟨4, .phase⟩ (by first | exact .head _ | simp) rfl
            subst hq4
            have hq5 : b5 = true := hall ⟨5, .phase⟩ (by first | exact .head _ | simp) rfl
            subst hq5
            have hq6 : b6 = true := hall ⟨6, .phase⟩ (by first | exact .head _ | simp) rfl
            subst hq6
            have hq7 : b7 = true := hall ⟨7, .phase⟩ (by first | exact .head _ | simp) rfl
            subst hq7
            have hq8 : b8 = true := hall ⟨8, .phase⟩ (by first | exact .head _ | simp) rfl
            subst hq8
            have hq9 : b9 = true := hall ⟨9, .phase⟩ (by first | exact .head _ | simp) rfl
            subst hq9
            have hq10 : b10 = true := hall ⟨10, .phase⟩ (by first | exact .head _ | simp) rfl
            subst hq10
            have hq12 : b12 = true := hall ⟨12, .phase⟩ (by first | exact .head _ | simp) rfl
            subst hq12
            clear hall hcl hs hf
            have e0 : w1.cell? ⟨w.heap.size + 1, 0, none⟩ = some (.int .i64 0) := by rw [cell_of_row w1 _ 0 _ _ _ hF.c8]; rfl
            have e1 : w1.cell? ⟨w.heap.size + 1, 1, none⟩ = some (.slice none 0 0) := by rw [cell_of_row w1 _ 1 _ _ _ hF.c8]; rfl
            have e2 : w1.cell? ⟨w.heap.size + 1, 2, none⟩ = some (.int .u64 0) := by rw [cell_of_row w1 _ 2 _ _ _ hF.c8]; rfl
            have f0 : w1.frozen? ⟨w.heap.size + 1, 0, none⟩ = false := frozen_of_row w1 _ 0 _ _ hF.c8
            have f1 : w1.frozen? ⟨w.heap.size + 1, 1, none⟩ = false := frozen_of_row w1 _ 1 _ _ hF.c8
            have f2 : w1.frozen? ⟨w.heap.size + 1, 2, none⟩ = false := frozen_of_row w1 _ 2 _ _ hF.c8
            go_simp
            exact hK _ _ ⟨true, true, true, true, true, true, true, true, true, true, true, true, true, true, true, kb, ko, v40, v47, u9, u13, u14, u15, u16, u17, u18, u19, u20, u21, u22, u23, u27, u28, u29, u30, u31, u32, u33, u34, rfl, rfl, hF.store⟩
      | some i =>
        have hst : stepR R now ⟨1, id, at_⟩ = (R.eraseIdx i ++ [(at_, id)], now, ⟨0, [], 0⟩) := by unfold stepR setR; simp [h0, hx]
        obtain ⟨il, _⟩ := idx_mem.2 i hx
        obtain ⟨b, off, rfl, _, _⟩ := HR2.out.rs.at_ (by rw [rcells_length]; omega)
        have hW := Lib.hid (withoutQ b off c R i w2 HR2.out il HC.out.1 HC.out.2 (by omega))
        have hoi : oI (some i) = (i : Int) := rfl
        have hoi2 : ¬ (i : Int) < 0 := by omega
        have HST := Lib.hid hst
        clear hst hx
        go_wp2_with fail
        refine hW.out.mono ?_
        rintro e w3 ⟨v3, rfl, ho3, hd3⟩
        obtain ⟨A3, c3, rfl, ht3, hc3, hcm3⟩ := ho3.shape
        have HO3 := Lib.hid (HO2.out.up hd3)
        have hk5' := hd3.block HK5w.out
        have hk8' := hd3.block HKK8.out
        have hm3 : (R.eraseIdx i).length ≤ 256 := by rw [List.length_eraseIdx, if_pos il]; omega
        have hF0 : SF w w3 w.heap.size (w.heap.size + 1) 0 0 false false false false false (R.eraseIdx i) id at_ undef undef w3.drew := ⟨HO3.out.up (Old.refl w3).drew, fun _ => (Old.refl w3).drew, HO3.out.size, hk5', hk8', Nat.le_succ _, (fun hb => by cases hb), (fun hb => by cases hb), (fun hb => by cases hb), (fun hb => by cases hb), (fun hb => by cases hb), (fun hb => by cases hb)⟩
        have HX : Hid (∀ ww, Old w3 ww → Rs ww A3 (rcells (R.eraseIdx i))) := fun ww ho => (ht3.up ho).rs
        clear hk5' hk8' ht3 hd3 ho3 b0 b1 b2 e0 e1 e2 f0 f1 f2 hc3 hcm3
        go_upto_region 10 with fail
        refine wp_region_steps2 (by kernel_rfl) (by kernel_rfl) (SI w w3 w.heap.size (w.heap.size + 1) (R.eraseIdx i) (.slice A3 (R.eraseIdx i).length c3) now id at_) ?_ ?_ ⟨?_, ?_, ?_, ?_, ?_, ?_, ?_, ?_, ?_, ?_, ?_, ?_, ?_, ?_, ?_, trivial⟩
        · exact ⟨false, false, false, false, false, false, false, false, false, false, false, false, false, false, false, 0, 0, undef, undef, _, _, _, _, _, _, _, _, _, _, _, _, _, _, _, _, _, _, _, _, rfl, rfl, hF0⟩
        · rintro a w1 ⟨b0, b1, b2, b3, b4, b5, b6, b7, b8, b9, b10, b11, b12, b13, b14, kb, ko, v40, v47, u9, u13, u14, u15, u16, u17, u18, u19, u20, u21, u22, u23, u27, u28, u29, u30, u31, u32, u33, u34, hl, rfl, hF⟩
          have hl' := congrArg Array.toList hl
          simp at hl'
          obtain ⟨rfl, rfl, rfl, rfl, rfl, rfl, rfl, rfl, rfl, rfl, rfl, rfl, rfl, rfl, rfl⟩ := hl'
          have HF1 := Lib.hid hF
          clear hF
          go_wp2_with fail
          have e0 : w1.cell? ⟨w.heap.size + 1, 0, none⟩ = some (.int .i64 0) := by rw [cell_of_row w1 _ 0 _ _ _ HF1.out.c8]; rfl
          have e1 : w1.cell? ⟨w.heap.size + 1, 1, none⟩ = some (.slice none 0 0) := by rw [cell_of_row w1 _ 1 _ _ _ HF1.out.c8]; rfl
          have e2 : w1.cell? ⟨w.heap.size + 1, 2, none⟩ = some (.int .u64 0) := by rw [cell_of_row w1 _ 2 _ _ _ HF1.out.c8]; rfl
          rw [HST.out]
          have hfo := (HF1.out.f rfl).base (base' := w.heap.size) HF1.out.hS
          obtain ⟨Af, cf, rfl, htf, hcf, hcmf⟩ := hfo.shape
          exact bodyPost_ret (v := .tuple #[.slice Af ((R.eraseIdx i) ++ [(at_, id)]).length cf, .int .u64 now, .agg #[.int .i64 0, .slice none 0 0, .int .u64 0]]) (by simp [results, Try.results56, go_sem, e0, e1, e2]) rfl ⟨Af, cf, _, rfl, htf, hcf, hcmf, ⟨_, rfl, Own.nil_ _ _ _ _⟩, HF1.out.old⟩
        · intro listed a w1 K hs hcl hf hall hI hK
          obtain ⟨b0, b1, b2, b3, b4, b5, b6, b7, b8, b9, b10, b11, b12, b13, b14, kb, ko, v40, v47, u9, u13, u14, u15, u16, u17, u18, u19, u20, u21, u22, u23, u27, u28, u29, u30, u31, u32, u33, u34, rfl, rfl, hF⟩ := hI
          have hf' : b0 = false := hf
          subst hf'
          have hb2 : b2 = false := by
            cases b2
            · rfl
            · exact absurd (show false = true from hcl 2 _ rfl rfl ⟨0, .data⟩ (by first | exact .head _ | simp) rfl) (by decide)
          subst hb2
          have hb12 : b12 = false := by
            cases b12
            · rfl
            · exact absurd (show false = true from hcl 12 _ rfl rfl ⟨0, .phase⟩ (by first | exact .head _ | simp) rfl) (by decide)
          subst hb12
          have hb13 : b13 = false := by
            cases b13
            · rfl
            · exact absurd (show false = true from hcl 13 _ rfl rfl ⟨0, .phase⟩ (by first | exact .head _ | simp) rfl) (by decide)
          subst hb13
          have hb14 : b14 = false := by
            cases b14
            · rfl
            · exact absurd (show false = true from hcl 14 _ rfl rfl ⟨0, .phase⟩ (by first | exact .head _ | simp) rfl) (by decide)
          subst hb14
          have hb9 : b9 = false := by
            cases b9
            · rfl
            · exact absurd (show false = true from hcl 9 _ rfl rfl ⟨2, .data⟩ (by first | exact .head _ | simp) rfl) (by decide)
          subst hb9
          clear hall hcl hs hf
          go_simp
          exact hK _ _ ⟨true, b1, false, b3, b4, b5, b6, b7, b8, false, b10, b11, false, false, false, w1.heap.size, ko, v40, v47, u9, u13, u14, u15, u16, u17, u18, u19, u20, u21, u22, u23, u27, u28, u29, u30, u31, u32, u33, u34, rfl, rfl, hF.mkE⟩
        · intro listed a w1 K hs hcl hf hall hI hK
          obtain ⟨b0, b1, b2, b3, b4, b5, b6, b7, b8, b9, b10, b11, b12, b13, b14, kb, ko, v40, v47, u9, u13, u14, u15, u16, u17, u18, u19, u20, u21, u22, u23, u27, u28, u29, u30, u31, u32, u33, u34, rfl, rfl, hF⟩ := hI
          have hf' : b1 = false := hf
          subst hf'
          have hb2 : b2 = false := by
            cases b2
            · rfl
            · exact absurd (show false = true from hcl 2 _ rfl rfl ⟨1, .data⟩ (by first | exact .head _ | simp) rfl) (by decide)
          subst hb2
          have hb12 : b12 = false := by
            cases b12
            · rfl
            · exact absurd (show false = true from hcl 12 _ rfl rfl ⟨1, .phase⟩ (by first | exact .head _ | simp) rfl) (by decide)
          subst hb12
          have hb13 : b13 = false := by
            cases b13
            · rfl
            · exact absurd (show false = true from hcl 13 _ rfl rfl ⟨1, .phase⟩ (by first | exact .head _ | simp) rfl) (by decide)
          subst hb13
          have hb14 : b14 = false := by
            cases b14
            · rfl
            · exact absurd (show false = true from hcl 14 _ rfl rfl ⟨1, .phase⟩ (by first | exact .head _ | simp) rfl) (by decide)
          subst hb14
          have hb9 : b9 = false := by
            cases b9
            · rfl
            · exact absurd (show false = true from hcl 9 _ rfl rfl ⟨2, .data⟩ (by first | exact .head _ | simp) rfl) (by decide)
          subst hb9
          clear hall hcl hs hf
          go_simp
          exact hK _ _ ⟨b0, true, false, b3, b4, b5, b6, b7, b8, false, b10, b11, false, false, false, kb, ko, v40, v47, u9, u13, u14, u15, u16, u17, u18, u19, u20, u21, u22, u23, u27, u28, u29, u30, u31, u32, u33, u34, rfl, rfl, hF⟩
        · intro listed a w1 K hs hcl hf hall hI hK
          obtain ⟨b0, b1, b2, b3, b4, b5, b6, b7, b8, b9, b10, b11, b12, b13, b14, kb, ko, v40, v47, u9, u13, u14, u15, u16, u17, u18, u19, u20, u21, u22, u23, u27, u28, u29, u30, u31, u32, u33, u34, rfl, rfl, hF⟩ := hI
          have hf' : b2 = false := hf
          subst hf'
          have hq0 : b0 = true := hall ⟨0, .data⟩ (by first | exact .head _ | simp) rfl
          subst hq0
          have hq1 : b1 = true := hall ⟨1, .data⟩ (by first | exact .head _ | simp) rfl
          subst hq1
          have hb9 : b9 = false := by
            cases b9
            · rfl
            · exact absurd (show false = true from hcl 9 _ rfl rfl ⟨2, .data⟩ (by first | exact .head _ | simp) rfl) (by decide)
          subst hb9
          have hb12 : b12 = false := by
            cases b12
            · rfl
            · exact absurd (show false = true from hcl 12 _ rfl rfl ⟨2, .phase⟩ (by first | exact .head _ | simp) rfl) (by decide)
          subst hb12
          have hb13 : b13 = false := by
            cases b13
            · rfl
            · exact absurd (show false = true from hcl 13 _ rfl rfl ⟨2, .phase⟩ (by first | exact .head _ | simp) rfl) (by decide)
          subst hb13
          have hb14 : b14 = false := by
            cases b14
            · rfl
            · exact absurd (show false = true from hcl 14 _ rfl rfl ⟨2, .phase⟩ (by first | exact .head _ | simp) rfl) (by decide)
          subst hb14
          clear hall hcl hs hf
          have hown := hF.e rfl rfl
          refine step_appO w1 (by rfl) _ _ 103 (by rfl) w3.heap.size 117 (.agg #[.int .i64 0, .int .u64 0]) 2 16 Try.underlying103 info_rt rfl (by decide) (by decide) (.slice (some ⟨kb, 0, none⟩) 0 0) 0 [] (by rfl) hown A3 (R.eraseIdx i).length c3 (rcells (R.eraseIdx i)) (by rfl) (HX.out w1 (hF.src rfl)) (rcells_length _) (rcells_one _) (by have := hm3; omega) (hF.src rfl).size ?_
          intro v' w' ho hg hw
          exact hK _ _ ⟨true, true, true, b3, b4, b5, b6, b7, b8, false, b10, b11, false, false, false, kb, ko, v', v47, u9, u13, u14, u15, u16, u17, u18, u19, u20, u21, u22, u23, u27, u28, u29, u30, u31, u32, u33, u34, rfl, rfl, hF.app1 rfl rfl (by rw [Nat.zero_add, List.nil_append] at ho; exact ho) hg hw⟩
        · intro listed a w1 K hs hcl hf hall hI hK
          obtain ⟨b0, b1, b2, b3, b4, b5, b6, b7, b8, b9, b10, b11, b12, b13, b14, kb, ko, v40, v47, u9, u13, u14, u15, u16, u17, u18, u19, u20, u21, u22, u23, u27, u28, u29, u30, u31, u32, u33, u34, rfl, rfl, hF⟩ := hI
          have hf' : b3 = false := hf
          subst hf'
          have hb4 : b4 = false := by
            cases b4
            · rfl
            · exact absurd (show false = true from hcl 4 _ rfl rfl ⟨3, .data⟩ (by first | exact .head _ | simp) rfl) (by decide)
          subst hb4
          have hb12 : b12 = false := by
            cases b12
            · rfl
            · exact absurd (show false = true from hcl 12 _ rfl rfl ⟨3, .phase⟩ (by first | exact .head _ | simp) rfl) (by decide)
          subst hb12
          have hb13 : b13 = false := by
            cases b13
            · rfl
            · exact absurd (show false = true from hcl 13 _ rfl rfl ⟨3, .phase⟩ (by first | exact .head _ | simp) rfl) (by decide)
          subst hb13
          have hb14 : b14 = false := by
            cases b14
            · rfl
            · exact absurd (show false = true from hcl 14 _ rfl rfl ⟨3, .phase⟩ (by first | exact .head _ | simp) rfl) (by decide)
          subst hb14
          have hb7 : b7 = false := by
            cases b7
            · rfl
            · exact absurd (show false = true from hcl 7 _ rfl rfl ⟨4, .data⟩ (by first | exact .head _ | simp) rfl) (by decide)
          subst hb7
          have hb8 : b8 = false := by
            cases b8
            · rfl
            · exact absurd (show false = true from hcl 8 _ rfl rfl ⟨7, .data⟩ (by first | exact .head _ | simp) rfl) (by decide)
          subst hb8
          have hb9 : b9 = false := by
            cases b9
            · rfl
            · exact absurd (show false = true from hcl 9 _ rfl rfl ⟨8, .data⟩ (by first | exact .head _ | simp) rfl) (by decide)
          subst hb9
          clear hall hcl hs hf
          go_simp
          exact hK _ _ ⟨b0, b1, b2, true, false, b5, b6, false, false, false, b10, b11, false, false, false, kb, ko, v40, v47, u9, u13, u14, u15, u16, u17, u18, u19, u20, u21, u22, u23, u27, u28, u29, u30, u31, u32, u33, u34, rfl, rfl, hF⟩
        · intro listed a w1 K hs hcl hf hall hI hK
          obtain ⟨b0, b1, b2, b3, b4, b5, b6, b7, b8, b9, b10, b11, b12, b13, b14, kb, ko, v40, v47, u9, u13, u14, u15, u16, u17, u18, u19, u20, u21, u22, u23, u27, u28, u29, u30, u31, u32, u33, u34, rfl, rfl, hF⟩ := hI
          have hf' : b4 = false := hf
          subst hf'
          have hq3 : b3 = true := hall ⟨3, .data⟩ (by first | exact .head _ | simp) rfl
          subst hq3
          have hb7 : b7 = false := by
            cases b7
            · rfl
            · exact absurd (show false = true from hcl 7 _ rfl rfl ⟨4, .data⟩ (by first | exact .head _ | simp) rfl) (by decide)
          subst hb7
          have hb12 : b12 = false := by
            cases b12
            · rfl
            · exact absurd (show false = true from hcl 12 _ rfl rfl ⟨4, .phase⟩ (by first | exact .head _ | simp) rfl) (by decide)
          subst hb12
          have hb13 : b13 = false := by
            cases b13
            · rfl
            · exact absurd (show false = true from hcl 13 _ rfl rfl ⟨4, .phase⟩ (by first | exact .head _ | simp) rfl) (by decide)
          subst hb13
          have hb14 : b14 = false := by
            cases b14
            · rfl
            · exact absurd (show false = true from hcl 14 _ rfl rfl ⟨4, .phase⟩ (by first | exact .head _ | simp) rfl) (by decide)
          subst hb14
          have hb8 : b8 = false := by
            cases b8
            · rfl
            · exact absurd (show false = true from hcl 8 _ rfl rfl ⟨7, .data⟩ (by first | exact .head _ | simp) rfl) (by decide)
          subst hb8
          have hb9 : b9 = false := by
            cases b9
            · rfl
            · exact absurd (show false = true from hcl 9 _ rfl rfl ⟨8, .data⟩ (by first | exact .head _ | simp) rfl) (by decide)
          subst hb9
          clear hall hcl hs hf
          have q1 : w1.cell? ⟨w.heap.size, 1, none⟩ = some (.int .i64 id) := by rw [cell_of_row w1 _ 1 _ _ _ hF.c5]; rfl
          go_simp
          exact hK _ _ ⟨b0, b1, b2, true, true, b5, b6, false, false, false, b10, b11, false, false, false, kb, ko, v40, v47, u9, u13, u14, u15, u16, u17, u18, u19, u20, u21, u22, u23, u27, u28, u29, u30, u31, u32, u33, u34, rfl, rfl, hF⟩
        · intro listed a w1 K hs hcl hf hall hI hK
          obtain ⟨b0, b1, b2, b3, b4, b5, b6, b7, b8, b9, b10, b11, b12, b13, b14, kb, ko, v40, v47, u9, u13, u14, u15, u16, u17, u18, u19, u20, u21, u22, u23, u27, u28, u29, u30, u31, u32, u33, u34, rfl, rfl, hF⟩ := hI
          have hf' : b5 = false := hf
          subst hf'
          have hb6 : b6 = false := by
            cases b6
            · rfl
            · exact absurd (show false = true from hcl 6 _ rfl rfl ⟨5, .data⟩ (by first | exact .head _ | simp) rfl) (by decide)
          subst hb6
          have hb12 : b12 = false := by
            cases b12
            · rfl
            · exact absurd (show false = true from hcl 12 _ rfl rfl ⟨5, .phase⟩ (by first | exact .head _ | simp) rfl) (by decide)
          subst hb12
          have hb13 : b13 = false := by
            cases b13
            · rfl
            · exact absurd (show false = true from hcl 13 _ rfl rfl ⟨5, .phase⟩ (by first | exact .head _ | simp) rfl) (by decide)
          subst hb13
          have hb14 : b14 = false := by
            cases b14
            · rfl
            · exact absurd (show false = true from hcl 14 _ rfl rfl ⟨5, .phase⟩ (by first | exact .head _ | simp) rfl) (by decide)
          subst hb14
          have hb7 : b7 = false := by
            cases b7
            · rfl
            · exact absurd (show false = true from hcl 7 _ rfl rfl ⟨6, .data⟩ (by first | exact .head _ | simp) rfl) (by decide)
          subst hb7
          have hb8 : b8 = false := by
            cases b8
            · rfl
            · exact absurd (show false = true from hcl 8 _ rfl rfl ⟨7, .data⟩ (by first | exact .head _ | simp) rfl) (by decide)
          subst hb8
          have hb9 : b9 = false := by
            cases b9
            · rfl
            · exact absurd (show false = true from hcl 9 _ rfl rfl ⟨8, .data⟩ (by first | exact .head _ | simp) rfl) (by decide)
          subst hb9
          clear hall hcl hs hf
          go_simp
          exact hK _ _ ⟨b0, b1, b2, b3, b4, true, false, false, false, false, b10, b11, false, false, false, kb, ko, v40, v47, u9, u13, u14, u15, u16, u17, u18, u19, u20, u21, u22, u23, u27, u28, u29, u30, u31, u32, u33, u34, rfl, rfl, hF⟩
        · intro listed a w1 K hs hcl hf hall hI hK
          obtain ⟨b0, b1, b2, b3, b4, b5, b6, b7, b8, b9, b10, b11, b12, b13, b14, kb, ko, v40, v47, u9, u13, u14, u15, u16, u17, u18, u19, u20, u21, u22, u23, u27, u28, u29, u30, u31, u32, u33, u34, rfl, rfl, hF⟩ := hI
          have hf' : b6 = false := hf
          subst hf'
          have hq5 : b5 = true := hall ⟨5, .data⟩ (by first | exact .head _ | simp) rfl
          subst hq5
          have hb7 : b7 = false := by
            cases b7
            · rfl
            · exact absurd (show false = true from hcl 7 _ rfl rfl ⟨6, .data⟩ (by first | exact .head _ | simp) rfl) (by decide)
          subst hb7
          have hb12 : b12 = false := by
            cases b12
            · rfl
            · exact absurd (show false = true from hcl 12 _ rfl rfl ⟨6, .phase⟩ (by first | exact .head _ | simp) rfl) (by decide)
          subst hb12
          have hb13 : b13 = false := by
            cases b13
            · rfl
            · exact absurd (show false = true from hcl 13 _ rfl rfl ⟨6, .phase⟩ (by first | exact .head _ | simp) rfl) (by decide)
          subst hb13
          have hb14 : b14 = false := by
            cases b14
            · rfl
            · exact absurd (show false = true from hcl 14 _ rfl rfl ⟨6, .phase⟩ (by first | exact .head _ | simp) rfl) (by decide)
          subst hb14
          have hb8 : b8 = false := by
            cases b8
            · rfl
            · exact absurd (show false = true from hcl 8 _ rfl rfl ⟨7, .data⟩ (by first | exact .head _ | simp) rfl) (by decide)
          subst hb8
          have hb9 : b9 = false := by
            cases b9
            · rfl
            · exact absurd (show false = true from hcl 9 _ rfl rfl ⟨8, .data⟩ (by first | exact .head _ | simp) rfl) (by decide)
          subst hb9
          clear hall hcl hs hf
          have q1 : w1.cell? ⟨w.heap.size, 2, none⟩ = some (.int .u64 at_) := by rw [cell_of_row w1 _ 2 _ _ _ hF.c5]; rfl
          go_simp
          exact hK _ _ ⟨b0, b1, b2, b3, b4, true, true, false, false, false, b10, b11, false, false, false, kb, ko, v40, v47, u9, u13, u14, u15, u16, u17, u18, u19, u20, u21, u22, u23, u27, u28, u29, u30, u31, u32, u33, u34, rfl, rfl, hF⟩
        · intro listed a w1 K hs hcl hf hall hI hK
          obtain ⟨b0, b1, b2, b3, b4, b5, b6, b7, b8, b9, b10, b11, b12, b13, b14, kb, ko, v40, v47, u9, u13, u14, u15, u16, u17, u18, u19, u20, u21, u22, u23, u27, u28, u29, u30, u31, u32, u33, u34, rfl, rfl, hF⟩ := hI
          have hf' : b7 = false := hf
          subst hf'
          have hq4 : b4 = true := hall ⟨4, .data⟩ (by first | exact .head _ | simp) rfl
          subst hq4
          have hq6 : b6 = true := hall ⟨6, .data⟩ (by first | exact .head _ | simp) rfl
          subst hq6
          have hq3 : b3 = true := hcl 4 _ rfl rfl ⟨3, .data⟩ (by first | exact .head _ | simp) rfl
          subst hq3
          have hq5 : b5 = true := hcl 6 _ rfl rfl ⟨5, .data⟩ (by first | exact .head _ | simp) rfl
          subst hq5
          have hb8 : b8 = false := by
            cases b8
            · rfl
            · exact absurd (show false = true from hcl 8 _ rfl rfl ⟨7, .data⟩ (by first | exact .head _ | simp) rfl) (by decide)
          subst hb8
          have hb12 : b12 = false := by
            cases b12
            · rfl
            · exact absurd (show false = true from hcl 12 _ rfl rfl ⟨7, .phase⟩ (by first | exact .head _ | simp) rfl) (by decide)
          subst hb12
          have hb13 : b13 = false := by
            cases b13
            · rfl
            · exact absurd (show false = true from hcl 13 _ rfl rfl ⟨7, .phase⟩ (by first | exact .head _ | simp) rfl) (by decide)
          subst hb13
          have hb14 : b14 = false := by
            cases b14
            · rfl
            · exact absurd (show false = true from hcl 14 _ rfl rfl ⟨7, .phase⟩ (by first | exact .head _ | simp) rfl) (by decide)
          subst hb14
          have hb9 : b9 = false := by
            cases b9
            · rfl
            · exact absurd (show false = true from hcl 9 _ rfl rfl ⟨8, .data⟩ (by first | exact .head _ | simp) rfl) (by decide)
          subst hb9
          clear hall hcl hs hf
          go_simp
          exact hK _ _ ⟨b0, b1, b2, true, true, true, true, true, false, false, b10, b11, false, false, false, kb, ko, v40, v47, u9, u13, u14, u15, u16, u17, u18, u19, u20, u21, u22, u23, u27, u28, u29, u30, u31, u32, u33, u34, rfl, rfl, hF⟩
        · intro listed a w1 K hs hcl hf hall hI hK
          obtain ⟨b0, b1, b2, b3, b4, b5, b6, b7, b8, b9, b10, b11, b12, b13, b14, kb, ko, v40, v47, u9, u13, u14, u15, u16, u17, u18, u19, u20, u21, u22, u23, u27, u28, u29, u30, u31, u32, u33, u34, rfl, rfl, hF⟩ := hI
          have hf' : b8 = false := hf
          subst hf'
          have hq7 : b7 = true := hall ⟨7, .data⟩ (by first | exact .head _ | simp) rfl
          subst hq7
          have hq4 : b4 = true := hcl 7 _ rfl rfl ⟨4, .data⟩ (by first | exact .head _ | simp) rfl
          subst hq4
          have hq6 : b6 = true := hcl 7 _ rfl rfl ⟨6, .data⟩ (by first | exact .head _ | simp) rfl
          subst hq6
          have hq3 : b3 = true := hcl 4 _ rfl rfl ⟨3, .data⟩ (by first | exact .head _ | simp) rfl
          subst hq3
          have hq5 : b5 = true := hcl 6 _ rfl rfl ⟨5, .data⟩ (by first | exact .head _ | simp) rfl
          subst hq5
          have hb9 : b9 = false := by
            cases b9
            · rfl
            · exact absurd (show false = true from hcl 9 _ rfl rfl ⟨8, .data⟩ (by first | exact .head _ | simp) rfl) (by decide)
          subst hb9
          have hb12 : b12 = false := by
            cases b12
            · rfl
            · exact absurd (show false = true from hcl 12 _ rfl rfl ⟨8, .phase⟩ (by first | exact .head _ | simp) rfl) (by decide)
          subst hb12
          have hb13 : b13 = false := by
            cases b13
            · rfl
            · exact absurd (show false = true from hcl 13 _ rfl rfl ⟨8, .phase⟩ (by first | exact .head _ | simp) rfl) (by decide)
          subst hb13
          have hb14 : b14 = false := by
            cases b14
            · rfl
            · exact absurd (show false = true from hcl 14 _ rfl rfl ⟨8, .phase⟩ (by first | exact .head _ | simp) rfl) (by decide)
          subst hb14
          clear hall hcl hs hf
          go_simp
          exact hK _ _ ⟨b0, b1, b2, true, true, true, true, true, true, false, b10, b11, false, false, false, kb, w1.heap.size, v40, v47, u9, u13, u14, u15, u16, u17, u18, u19, u20, u21, u22, u23, u27, u28, u29, u30, u31, u32, u33, u34, rfl, rfl, hF.mkO⟩
        · intro listed a w1 K hs hcl hf hall hI hK
          obtain ⟨b0, b1, b2, b3, b4, b5, b6, b7, b8, b9, b10, b11, b12, b13, b14, kb, ko, v40, v47, u9, u13, u14, u15, u16, u17, u18, u19, u20, u21, u22, u23, u27, u28, u29, u30, u31, u32, u33, u34, rfl, rfl, hF⟩ := hI
          have hf' : b9 = false := hf
          subst hf'
          have hq2 : b2 = true := hall ⟨2, .data⟩ (by first | exact .head _ | simp) rfl
          subst hq2
          have hq8 : b8 = true := hall ⟨8, .data⟩ (by first | exact .head _ | simp) rfl
          subst hq8
          have hq0 : b0 = true := hcl 2 _ rfl rfl ⟨0, .data⟩ (by first | exact .head _ | simp) rfl
          subst hq0
          have hq1 : b1 = true := hcl 2 _ rfl rfl ⟨1, .data⟩ (by first | exact .head _ | simp) rfl
          subst hq1
          have hq7 : b7 = true := hcl 8 _ rfl rfl ⟨7, .data⟩ (by first | exact .head _ | simp) rfl
          subst hq7
          have hq4 : b4 = true := hcl 7 _ rfl rfl ⟨4, .data⟩ (by first | exact .head _ | simp) rfl
          subst hq4
          have hq6 : b6 = true := hcl 7 _ rfl rfl ⟨6, .data⟩ (by first | exact .head _ | simp) rfl
          subst hq6
          have hq3 : b3 = true := hcl 4 _ rfl rfl ⟨3, .data⟩ (by first | exact .head _ | simp) rfl
          subst hq3
          have hq5 : b5 = true := hcl 6 _ rfl rfl ⟨5, .data⟩ (by first | exact .head _ | simp) rfl
          subst hq5
          have hb12 : b12 = false := by
            cases b12
            · rfl
            · exact absurd (show false = true from hcl 12 _ rfl rfl ⟨9, .data⟩ (by first | exact .head _ | simp) rfl) (by decide)
          subst hb12
          have hb13 : b13 = false := by
            cases b13
            · rfl
            · exact absurd (show false = true from hcl 13 _ rfl rfl ⟨9, .phase⟩ (by first | exact .head _ | simp) rfl) (by decide)
          subst hb13
          have hb14 : b14 = false := by
            cases b14
            · rfl
            · exact absurd (show false = true from hcl 14 _ rfl rfl ⟨9, .phase⟩ (by first | exact .head _ | simp) rfl) (by decide)
          subst hb14
          clear hall hcl hs hf
          have hown := hF.p rfl rfl
          refine step_appO w1 (by rfl) _ _ 103 (by rfl) w3.heap.size 117 (.agg #[.int .i64 0, .int .u64 0]) 2 16 Try.underlying103 info_rt rfl (by decide) (by decide) v40 (R.eraseIdx i).length (rcells (R.eraseIdx i)) (by rfl) hown (some ⟨ko, 0, none⟩) 1 1 [.int .i64 id, .int .u64 at_] (by rfl) (hF.rsO rfl) rfl rfl (by have := hm3; omega) (hF.src rfl).size ?_
          intro v' w' ho hg hw
          exact hK _ _ ⟨true, true, true, true, true, true, true, true, true, true, b10, b11, false, false, false, kb, ko, v40, v', u9, u13, u14, u15, u16, u17, u18, u19, u20, u21, u22, u23, u27, u28, u29, u30, u31, u32, u33, u34, rfl, rfl, hF.app2 rfl rfl rfl (by rw [rcells_app, List.length_append]; exact ho) hg hw⟩
        · intro listed a w1 K hs hcl hf hall hI hK
          obtain ⟨b0, b1, b2, b3, b4, b5, b6, b7, b8, b9, b10, b11, b12, b13, b14, kb, ko, v40, v47, u9, u13, u14, u15, u16, u17, u18, u19, u20, u21, u22, u23, u27, u28, u29, u30, u31, u32, u33, u34, rfl, rfl, hF⟩ := hI
          have hf' : b10 = false := hf
          subst hf'
          have hb13 : b13 = false := by
            cases b13
            · rfl
            · exact absurd (show false = true from hcl 13 _ rfl rfl ⟨10, .data⟩ (by first | exact .head _ | simp) rfl) (by decide)
          subst hb13
          have hb14 : b14 = false := by
            cases b14
            · rfl
            · exact absurd (show false = true from hcl 14 _ rfl rfl ⟨10, .phase⟩ (by first | exact .head _ | simp) rfl) (by decide)
          subst hb14
          clear hall hcl hs hf
          go_simp
          exact hK _ _ ⟨b0, b1, b2, b3, b4, b5, b6, b7, b8, b9, true, b11, b12, false, false, kb, ko, v40, v47, u9, u13, u14, u15, u16, u17, u18, u19, u20, u21, u22, u23, u27, u28, u29, u30, u31, u32, u33, u34, rfl, rfl, hF⟩
        · intro listed a w1 K hs hcl hf hall hI hK
          obtain ⟨b0, b1, b2, b3, b4, b5, b6, b7, b8, b9, b10, b11, b12, b13, b14, kb, ko, v40, v47, u9, u13, u14, u15, u16, u17, u18, u19, u20, u21, u22, u23, u27, u28, u29, u30, u31, u32, u33, u34, rfl, rfl, hF⟩ := hI
          have hf' : b11 = false := hf
          subst hf'
          have hb14 : b14 = false := by
            cases b14
            · rfl
            · exact absurd (show false = true from hcl 14 _ rfl rfl ⟨11, .data⟩ (by first | exact .head _ | simp) rfl) (by decide)
          subst hb14
          clear hall hcl hs hf
          go_simp
          exact hK _ _ ⟨b0, b1, b2, b3, b4, b5, b6, b7, b8, b9, b10, true, b12, b13, false, kb, ko, v40, v47, u9, u13, u14, u15, u16, u17, u18, u19, u20, u21, u22, u23, u27, u28, u29, u30, u31, u32, u33, u34, rfl, rfl, hF⟩
        · intro listed a w1 K hs hcl hf hall hI hK
          obtain ⟨b0, b1, b2, b3, b4, b5, b6, b7, b8, b9, b10, b11, b12, b13, b14, kb, ko, v40, v47, u9, u13, u14, u15, u16, u17, u18, u19, u20, u21, u22, u23, u27, u28, u29, u30, u31, u32, u33, u34, rfl, rfl, hF⟩ := hI
          have hf' : b12 = false := hf
          subst hf'
          have hq9 : b9 = true := hall ⟨9, .data⟩ (by first | exact .head _ | simp) rfl
          subst hq9
          have hq0 : b0 = true := hall ⟨0, .phase⟩ (by first | exact .head _ | simp) rfl
          subst hq0
          have hq1 : b1 = true := hall ⟨1, .phase⟩ (by first | exact .head _ | simp) rfl
          subst hq1
          have hq2 : b2 = true := hall ⟨2, .phase⟩ (by first | exact .head _ | simp) rfl
          subst hq2
          have hq3 : b3 = true := hall ⟨3, .phase⟩ (by first | exact .head _ | simp) rfl
          subst hq3
          have hq4 : b4 = true := hall ⟨4, .phase⟩ (by first | exact .head _ | simp) rfl
          subst hq4
          have hq5 : b5 = true := hall ⟨5, .phase⟩ (by first | exact .head _ | simp) rfl
          subst hq5
          have hq6 : b6 = true := hall ⟨6, .phase⟩ (by first | exact .head _ | simp) rfl
          subst hq6
          have hq7 : b7 = true := hall ⟨7, .phase⟩ (by first | exact .head _ | simp) rfl
          subst hq7
          have hq8 : b8 = true := hall ⟨8, .phase⟩ (by first | exact .head _ | simp) rfl
          subst hq8
          have hb13 : b13 = false := by
            cases b13
            · rfl
            · exact absurd (show false = true from hcl 13 _ rfl rfl ⟨12, .chain⟩ (by first | exact .head _ | simp) rfl) (by decide)
          subst hb13
          have hb14 : b14 = false := by
            cases b14
            · rfl
            · exact absurd (show false = true from hcl 14 _ rfl rfl ⟨12, .phase⟩ (by first | exact .head _ | simp) rfl) (by decide)
          subst hb14
          clear hall hcl hs hf
          go_simp
          exact hK _ _ ⟨true, true, true, true, true, true, true, true, true, true, b10, b11, true, false, false, kb, ko, v40, v47, u9, u13, u14, u15, u16, u17, u18, u19, u20, u21, u22, u23, u27, u28, u29, u30, u31, u32, u33, u34, rfl, rfl, hF⟩
        · intro listed a w1 K hs hcl hf hall hI hK
          obtain ⟨b0, b1, b2, b3, b4, b5, b6, b7, b8, b9, b10, b11, b12, b13, b14, kb, ko, v40, v47, u9, u13, u14, u15, u16, u17, u18, u19, u20, u21, u22, u23, u27, u28, u29, u30, u31, u32, u33, u34, rfl, rfl, hF⟩ := hI
          have hf' : b13 = false := hf
          subst hf'
          have hq10 : b10 = true := hall ⟨10, .data⟩ (by first | exact .head _ | simp) rfl
          subst hq10
          have hq12 : b12 = true := hall ⟨12, .chain⟩ (by first | exact .head _ | simp) rfl
          subst hq12
          have hq0 : b0 = true := hall ⟨0, .phase⟩ (by first | exact .head _ | simp) rfl
          subst hq0
          have hq1 : b1 = true := hall ⟨1, .phase⟩ (by first | exact .head _ | simp) rfl
          subst hq1
          have hq2 : b2 = true := hall ⟨2, .phase⟩ (by first | exact .head _ | simp) rfl
          subst hq2
          have hq3 : b3 = true := hall ⟨3, .phase⟩ (by first | exact .head _ | simp) rfl
          subst hq3
          have hq4 : b4 = true := hall ⟨4, .phase⟩ (by first | exact .head _ | simp) rfl
          subst hq4
          have hq5 : b5 = true := hall ⟨5, .phase⟩ (by first | exact .head _ | simp) rfl
          subst hq5
          have hq6 : b6 = true := hall ⟨6, .phase⟩ (by first | exact .head _ | simp) rfl
          subst hq6
          have hq7 : b7 = true := hall ⟨7, .phase⟩ (by first | exact .head _ | simp) rfl
          subst hq7
          have hq8 : b8 = true := hall ⟨8, .phase⟩ (by first | exact .head _ | simp) rfl
          subst hq8
          have hq9 : b9 = true := hall ⟨9, .phase⟩ (by first | exact .head _ | simp) rfl
          subst hq9
          have hb14 : b14 = false := by
            cases b14
            · rfl
            · exact absurd (show false = true from hcl 14 _ rfl rfl ⟨13, .chain⟩ (by first | exact .head _ | simp) rfl) (by decide)
          subst hb14
          clear hall hcl hs hf
          go_simp
          exact hK _ _ ⟨true, true, true, true, true, true, true, true, true, true, true, b11, true, true, false, kb, ko, v40, v47, u9, u13, u14, u15, u16, u17, u18, u19, u20, u21, u22, u23, u27, u28, u29, u30, u31, u32, u33, u34, rfl, rfl, hF⟩
        · intro listed a w1 K hs hcl hf hall hI hK
          obtain ⟨b0, b1, b2, b3, b4, b5, b6, b7, b8, b9, b10, b11, b12, b13, b14, kb, ko, v40, v47, u9, u13, u14, u15, u16, u17, u18, u19, u20, u21, u22, u23, u27, u28, u29, u30, u31, u32, u33, u34, rfl, rfl, hF⟩ := hI
          have hf' : b14 = false := hf
          subst hf'
          have hq11 : b11 = true := hall ⟨11, .data⟩ (by first | exact .head _ | simp) rfl
          subst hq11
          have hq13 : b13 = true := hall ⟨13, .chain⟩ (by first | exact .head _ | simp) rfl
          subst hq13
          have hq0 : b0 = true := hall ⟨0, .phase⟩ (by first | exact .head _ | simp) rfl
          subst hq0
          have hq1 : b1 = true := hall ⟨1, .phase⟩ (by first | exact .head _ | simp) rfl
          subst hq1
          have hq2 : b2 = true := hall ⟨2, .phase⟩ (by first | exact .head _ | simp) rfl
          subst hq2
          have hq3 : b3 = true := hall ⟨3, .phase⟩ (by first | exact .head _ | simp) rfl
          subst hq3
          have hq4 : b4 = true := hall ⟨4, .phase⟩ (by first | exact .head _ | simp) rfl
          subst hq4
          have hq5 : b5 = true := hall ⟨5, .phase⟩ (by first | exact .head _ | simp) rfl
          subst hq5
          have hq6 : b6 = true := hall ⟨6, .phase⟩ (by first | exact .head _ | simp) rfl
          subst hq6
          have hq7 : b7 = true := hall ⟨7, .phase⟩ (by first | exact .head _ | simp) rfl
          subst hq7
          have hq8 : b8 = true := hall ⟨8, .phase⟩ (by first | exact .head _ | simp) rfl
          subst hq8
          have hq9 : b9 = true := hall ⟨9, .phase⟩ (by first | exact .head _ | simp) rfl
          subst hq9
          have hq10 : b10 = true := hall ⟨10, .phase⟩ (by first | exact .head _ | simp) rfl
          subst hq10
          have hq12 : b12 = true := hall ⟨12, .phase⟩ (by first | exact .head _ | simp) rfl
          subst hq12
          clear hall hcl hs hf
          have e0 : w1.cell? ⟨w.heap.size + 1, 0, none⟩ = some (.int .i64 0) := by rw [cell_of_row w1 _ 0 _ _ _ hF.c8]; rfl
          have e1 : w1.cell? ⟨w.heap.size + 1, 1, none⟩ = some (.slice none 0 0) := by rw [cell_of_row w1 _ 1 _ _ _ hF.c8]; rfl
          have e2 : w1.cell? ⟨w.heap.size + 1, 2, none⟩ = some (.int .u64 0) := by rw [cell_of_row w1 _ 2 _ _ _ hF.c8]; rfl
          have f0 : w1.frozen? ⟨w.heap.size + 1, 0, none⟩ = false := frozen_of_row w1 _ 0 _ _ hF.c8
          have f1 : w1.frozen? ⟨w.heap.size + 1, 1, none⟩ = false := frozen_of_row w1 _ 1 _ _ hF.c8
          have f2 : w1.frozen? ⟨w.heap.size + 1, 2, none⟩ = false := frozen_of_row w1 _ 2 _ _ hF.c8
          go_simp
          exact hK _ _ ⟨true, true, true, true, true, true, true, true, true, true, true, true, true, true, true, kb, ko, v40, v47, u9, u13, u14, u15, u16, u17, u18, u19, u20, u21, u22, u23, u27, u28, u29, u30, u31, u32, u33, u34, rfl, rfl, hF.store⟩
  · by_cases h2 : kd = 2
    · subst h2
      cases hx : idx R id with
      | none =>
        have hoi : oI none < 0 := by decide
        have hst : stepR R now ⟨2, id, at_⟩ = (R, now, ⟨4, [], 0⟩) := by unfold stepR cancelR; simp [hx]
        have HST := Lib.hid hst
        clear hst hx
        go_wp2_with fail
        have hOld := (((HO2.out).setCell (p := ⟨w.heap.size + 1, 0, none⟩) (by simp) (.int .i64 4)).setCell (p := ⟨w.heap.size + 1, 1, none⟩) (by simp) (.slice none 0 0)).setCell (p := ⟨w.heap.size + 1, 2, none⟩) (by simp) (.int .u64 0)
        rw [HST.out]
        exact bodyPost_ret (v := .tuple #[.slice A R.length c, .int .u64 now, .agg #[.int .i64 4, .slice none 0 0, .int .u64 0]]) (by simp [results, Try.results56, go_sem, e0, e1, e2]) rfl ⟨A, c, _, rfl, HR.out.up hOld, HC.out.1, HC.out.2, ⟨_, rfl, Own.nil_ _ _ _ _⟩, hOld⟩
      | some i =>
        have hst : stepR R now ⟨2, id, at_⟩ = (R.eraseIdx i, now, ⟨0, [], 0⟩) := by unfold stepR cancelR; simp [hx]
        obtain ⟨il, _⟩ := idx_mem.2 i hx
        obtain ⟨b, off, rfl, _, _⟩ := HR2.out.rs.at_ (by rw [rcells_length]; omega)
        have hW := Lib.hid (withoutQ b off c R i w2 HR2.out il HC.out.1 HC.out.2 (by omega))
        have hoi : oI (some i) = (i : Int) := rfl
        have hoi2 : ¬ (i : Int) < 0 := by omega
        have HST := Lib.hid hst
        clear hst hx
        go_wp2_with fail
        refine hW.out.mono ?_
        rintro e w3 ⟨v3, rfl, ho3, hd3⟩
        obtain ⟨A3, c3, rfl, ht3, hc3, hcm3⟩ := ho3.shape
        have HT3 := Lib.hid ht3
        have HO3 := Lib.hid (HO2.out.up hd3)
        have HC3 := Lib.hid (And.intro hc3 hcm3)
        have hk3 := hd3.block HKK8.out
        have e0 : w3.cell? ⟨w.heap.size + 1, 0, none⟩ = some (.int .i64 0) := by rw [cell_of_row w3 _ 0 _ _ _ hk3]; rfl
        have e1 : w3.cell? ⟨w.heap.size + 1, 1, none⟩ = some (.slice none 0 0) := by rw [cell_of_row w3 _ 1 _ _ _ hk3]; rfl
        have e2 : w3.cell? ⟨w.heap.size + 1, 2, none⟩ = some (.int .u64 0) := by rw [cell_of_row w3 _ 2 _ _ _ hk3]; rfl
        have f0 : w3.frozen? ⟨w.heap.size + 1, 0, none⟩ = false := frozen_of_row w3 _ 0 _ _ hk3
        have f1 : w3.frozen? ⟨w.heap.size + 1, 1, none⟩ = false := frozen_of_row w3 _ 1 _ _ hk3
        have f2 : w3.frozen? ⟨w.heap.size + 1, 2, none⟩ = false := frozen_of_row w3 _ 2 _ _ hk3
        have hg := fun (W : World) (i : Nat) (u : Value) => (⟨rfl, rfl, rfl, by simp, fun j _ hj => heap_setCell_other W ⟨w.heap.size + 1, i, none⟩ j _ (fun e => hj (by simp [e]))⟩ : W.grownBy (W.setCell ⟨w.heap.size + 1, i, none⟩ u) (some (w.heap.size + 1)))
        have hb0' := heap_setCell_same w3 (w.heap.size + 1) 0 _ _ (.int .i64 0) hk3
        have hb1' := heap_setCell_same _ (w.heap.size + 1) 1 _ _ (.slice none 0 0) hb0'
        have HTF := Lib.hid (((HT3.out.keptBut (hg _ 0 (.int .i64 0)) hk3 (by intro c fz e; injection e with _ e; exact absurd e (by decide))).keptBut (hg _ 1 (.slice none 0 0)) hb0' (by intro c fz e; injection e with _ e; exact absurd e (by decide))).keptBut (hg _ 2 (.int .u64 0)) hb1' (by intro c fz e; injection e with _ e; exact absurd e (by decide)))
        clear ho3 hd3 ht3 hc3 hcm3 hk3 hg hb0' hb1' b0 b1 b2
        go_wp2_with fail
        have hOld := (((HO3.out).setCell (p := ⟨w.heap.size + 1, 0, none⟩) (by simp) (.int .i64 0)).setCell (p := ⟨w.heap.size + 1, 1, none⟩) (by simp) (.slice none 0 0)).setCell (p := ⟨w.heap.size + 1, 2, none⟩) (by simp) (.int .u64 0)
        rw [HST.out]
        exact bodyPost_ret (v := .tuple #[.slice A3 (R.eraseIdx i).length c3, .int .u64 now, .agg #[.int .i64 0, .slice none 0 0, .int .u64 0]]) (by simp [results, Try.results56, go_sem, e0, e1, e2]) rfl ⟨A3, c3, _, rfl, HTF.out, HC3.out.1, HC3.out.2, ⟨_, rfl, Own.nil_ _ _ _ _⟩, hOld⟩
    · next =>
      · by_cases h4 : kd = 4
        · subst h4
          have hF := Lib.hid (firstQ A c R w2 HR2.out (by omega))
          cases hx : firstR R with
          | none =>
            have hst : stepR R now ⟨4, id, at_⟩ = (R, now, ⟨4, [], 0⟩) := by unfold stepR nextR; simp [hx]
            have hoi : oI none < 0 := by decide
            rw [hx] at hF
            have HST := Lib.hid hst
            clear hst hx
            go_wp2_with fail
            refine hF.out.mono ?_
            rintro e w3 ⟨rfl, hd3⟩
            have HO2 := Lib.hid (HO2.out.up hd3)
            have hk3 := hd3.block HKK8.out
            have e0 : w3.cell? ⟨w.heap.size + 1, 0, none⟩ = some (.int .i64 0) := by rw [cell_of_row w3 _ 0 _ _ _ hk3]; rfl
            have e1 : w3.cell? ⟨w.heap.size + 1, 1, none⟩ = some (.slice none 0 0) := by rw [cell_of_row w3 _ 1 _ _ _ hk3]; rfl
            have e2 : w3.cell? ⟨w.heap.size + 1, 2, none⟩ = some (.int .u64 0) := by rw [cell_of_row w3 _ 2 _ _ _ hk3]; rfl
            have f0 : w3.frozen? ⟨w.heap.size + 1, 0, none⟩ = false := frozen_of_row w3 _ 0 _ _ hk3
            have f1 : w3.frozen? ⟨w.heap.size + 1, 1, none⟩ = false := frozen_of_row w3 _ 1 _ _ hk3
            have f2 : w3.frozen? ⟨w.heap.size + 1, 2, none⟩ = false := frozen_of_row w3 _ 2 _ _ hk3
            clear hd3 hk3 b0 b1 b2
            go_wp2_with fail
            have hOld := (((HO2.out).setCell (p := ⟨w.heap.size + 1, 0, none⟩) (by simp) (.int .i64 4)).setCell (p := ⟨w.heap.size + 1, 1, none⟩) (by simp) (.slice none 0 0)).setCell (p := ⟨w.heap.size + 1, 2, none⟩) (by simp) (.int .u64 0)
            rw [HST.out]
            exact bodyPost_ret (v := .tuple #[.slice A R.length c, .int .u64 now, .agg #[.int .i64 4, .slice none 0 0, .int .u64 0]]) (by simp [results, Try.results56, go_sem, e0, e1, e2]) rfl ⟨A, c, _, rfl, HR.out.up hOld, HC.out.1, HC.out.2, ⟨_, rfl, Own.nil_ _ _ _ _⟩, hOld⟩
          | some k =>
            obtain ⟨j1, j2⟩ := firstN_spec R R.length (Nat.le_refl _)
            obtain ⟨kl, _⟩ := j2 k hx
            have hst : stepR R now ⟨4, id, at_⟩ = (R, now, ⟨0, [(gt R k).2], (gt R k).1⟩) := by unfold stepR nextR; simp [hx]
            rw [hx] at hF
            have hoi : oI (some k) = (k : Int) := rfl
            have hoi2 : ¬ (k : Int) < 0 := by omega
            have HST := Lib.hid hst
            obtain ⟨b, off, rfl, hbl, _⟩ := HR.out.rs.at_ (by rw [rcells_length]; omega)
            have nb : w.heap.size + 1 ≠ b := by omega
            clear hst hx j1 j2
            go_wp2_with fail
            refine hF.out.mono ?_
            rintro e w3 ⟨rfl, hd3⟩
            have HO3 := Lib.hid (HO2.out.up hd3)
            have HR3 := Lib.hid (HR2.out.up hd3)
            obtain ⟨g0, g1⟩ := rcells_get R k _ (getD_of kl)
            have c0 : w3.cell? ⟨b, off + k * 2, none⟩ = some (.int .i64 (gt R k).2) := HR3.out.rs.cellAt g0
            have c1 : w3.cell? ⟨b, off + k * 2 + 1, none⟩ = some (.int .u64 (gt R k).1) := by rw [Nat.add_assoc]; exact HR3.out.rs.cellAt g1
            generalize gt R k = p at *
            obtain ⟨p1, p2⟩ := p
            have hk3 := hd3.block HKK8.out
            have e0 : w3.cell? ⟨w.heap.size + 1, 0, none⟩ = some (.int .i64 0) := by rw [cell_of_row w3 _ 0 _ _ _ hk3]; rfl
            have e1 : w3.cell? ⟨w.heap.size + 1, 1, none⟩ = some (.slice none 0 0) := by rw [cell_of_row w3 _ 1 _ _ _ hk3]; rfl
            have e2 : w3.cell? ⟨w.heap.size + 1, 2, none⟩ = some (.int .u64 0) := by rw [cell_of_row w3 _ 2 _ _ _ hk3]; rfl
            have f0 : w3.frozen? ⟨w.heap.size + 1, 0, none⟩ = false := frozen_of_row w3 _ 0 _ _ hk3
            have f1 : w3.frozen? ⟨w.heap.size + 1, 1, none⟩ = false := frozen_of_row w3 _ 1 _ _ hk3
            have f2 : w3.frozen? ⟨w.heap.size + 1, 2, none⟩ = false := frozen_of_row w3 _ 2 _ _ hk3
            have k1 : (0 : Int) ≤ (k : Int) := by omega
            have k2 : (k : Int) < (R.length : Int) := by omega
            have n1 := World.new_ne w3 _ c0
            have n2 := World.new_ne w3 _ e0
            replace c0 : w3.cell? ⟨b, off + k * 2, none⟩ = some (.int .i64 p2) := c0
            replace c1 : w3.cell? ⟨b, off + k * 2 + 1, none⟩ = some (.int .u64 p1) := c1
            have hl8 := lt_of_block hk3
            clear hd3 hk3 b0 b1 b2 g0 g1
            go_wp2_with fail
            go_region_held3 (fun w' => w'.cell? ⟨b, off + k * 2, none⟩ = some (.int .i64 p2) ∧ w'.cell? ⟨b, off + k * 2 + 1, none⟩ = some (.int .u64 p1))
              (go_keep) (fail)
            go_wp2_with fail
            have hOld := ((HO3.out.setCell (p := ⟨w.heap.size + 1, 0, none⟩) (by simp) (.int .i64 0)).setCell (p := ⟨w.heap.size + 1, 1, none⟩) (by simp) (.slice (some ⟨w3.heap.size, 0, none⟩) 1 1)).setCell (p := ⟨w.heap.size + 1, 2, none⟩) (by simp) (.int .u64 p1)
            have ho := own_new (((w3.setCell ⟨w.heap.size + 1, 0, none⟩ (.int .i64 0)).setCell ⟨w.heap.size + 1, 1, none⟩ (.slice (some ⟨w3.heap.size, 0, none⟩) 1 1)).setCell ⟨w.heap.size + 1, 2, none⟩ (.int .u64 p1)) #[.int .i64 p2] 1 1 3 (by decide) rfl
            rw [show (((w3.setCell ⟨w.heap.size + 1, 0, none⟩ (.int .i64 0)).setCell ⟨w.heap.size + 1, 1, none⟩ (.slice (some ⟨w3.heap.size, 0, none⟩) 1 1)).setCell ⟨w.heap.size + 1, 2, none⟩ (.int .u64 p1)).heap.size = w3.heap.size by simp] at ho
            have hOldF := (hOld.alloc (.cells #[.int .i64 p2] 3)).drew
            have HOW := Lib.hid (ho.base (base' := w.heap.size) HO3.out.size)
            clear ho hOld
            rw [HST.out]
            exact bodyPost_ret (v := .tuple #[.slice (some ⟨b, off, none⟩) R.length c, .int .u64 now, .agg #[.int .i64 0, .slice (some ⟨w3.heap.size, 0, none⟩) 1 1, .int .u64 p1]]) (by simp [results, Try.results56, go_sem, e0, e1, e2, hl8]) rfl ⟨some ⟨b, off, none⟩, c, _, rfl, HR.out.up hOldF, HC.out.1, HC.out.2, ⟨_, rfl, HOW.out⟩, hOldF⟩
        · have hst : stepR R now ⟨kd, id, at_⟩ = (R, now, ⟨3, [], 0⟩) := by unfold stepR; rw [if_neg h1, if_neg h2, if_neg h3, if_neg h4]
          have HST := Lib.hid hst
          clear hst
          go_wp2_with fail
          have hOld := (((HO2.out).setCell (p := ⟨w.heap.size + 1, 0, none⟩) (by simp) (.int .i64 3)).setCell (p := ⟨w.heap.size + 1, 1, none⟩) (by simp) (.slice none 0 0)).setCell (p := ⟨w.heap.size + 1, 2, none⟩) (by simp) (.int .u64 0)
          rw [HST.out]
          exact bodyPost_ret (v := .tuple #[.slice A R.length c, .int .u64 now, .agg #[.int .i64 3, .slice none 0 0, .int .u64 0]]) (by simp [results, Try.results56, go_sem, e0, e1, e2]) rfl ⟨A, c, _, rfl, HR.out.up hOld, HC.out.1, HC.out.2, ⟨_, rfl, Own.nil_ _ _ _ _⟩, hOld⟩
end Go.Proofs.Ytlpaemlgmmmbmaa
