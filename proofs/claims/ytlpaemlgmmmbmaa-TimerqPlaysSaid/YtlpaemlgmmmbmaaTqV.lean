/-
  The walks of the queue's Push and Pop.
-/
import Derived.Test.YtlpaemlgmmmbmaaTqW
import Derived.Deep.AppendLies
import Derived.Deep.RegionLaw
import Derived.Deep.DrawnRows
namespace Go.Proofs.Ytlpaemlgmmmbmaa
open Go.RowKit Go.Maps
set_option linter.unusedVariables false
attribute [local go_sem ↓] Go.wp_at_zero Go.wp_at_succ

theorem info_tm : (Try.prog.info? 109).map (fun i => (i.zero, i.size, i.bytes)) = some (some (.agg #[.int .u64 0, .int .i64 0]), 2, 16) := by kernel_rfl
theorem ownBlock_ne {w : World} {B : Nat} {e : TypeId} {size : Nat} {v : Value} {n : Nat} {xs : List Value} (h : Own w B e size v n xs) {k : Nat} {o : Obj} (hk : w.heap[k]? = some o) (hne : ∀ c fz, o ≠ .cells c e fz) : v.ownBlock ≠ some k := by
  intro hv
  rcases h with ⟨_, ⟨h2, _⟩ | ⟨g', cap, cu, h2, _, hh, _⟩⟩
  · rw [h2] at hv; simp [Value.ownBlock] at hv
  · rw [h2] at hv; simp [Value.ownBlock] at hv; subst hv
    rw [hh] at hk
    injection hk with hk
    exact hne _ _ hk.symm
theorem Own.keptBut {w w' : World} {B : Nat} {e : TypeId} {size : Nat} {v : Value} {n : Nat} {xs : List Value} (h : Own w B e size v n xs) {k : Nat} (hg : w.grownBy w' (some k)) {o : Obj} (hk : w.heap[k]? = some o) (hne : ∀ c fz, o ≠ .cells c e fz) : Own w' B e size v n xs :=
  World.ownsRow.kept h hg (by
    cases hv : v.ownBlock with
    | none => exact Or.inl rfl
    | some j => exact Or.inr (fun e => ownBlock_ne h hk hne (hv.trans e)))
/-- A new list is put into the queue's field. -/
theorem relist0 {w : World} {B g mb k : Nat} {L : List Tm} {D : MD} {x v : Value} (h1 : B ≤ g) (h3 : w.heap[g]? = some (.cells #[x, .map (some mb)] 98 (0, 0))) (h4 : Own w B 109 2 v L.length (tcells L))
    (h5 : w.ownsMap Try.prog 3 (plainElem Try.prog 3) mb k D) : (w.setCell ⟨g, 0, none⟩ v).heap[g]? = some (.cells #[v, .map (some mb)] 98 (0, 0)) ∧ Own (w.setCell ⟨g, 0, none⟩ v) B 109 2 v L.length (tcells L) ∧
      (w.setCell ⟨g, 0, none⟩ v).ownsMap Try.prog 3 (plainElem Try.prog 3) mb k D ∧ QK B w (w.setCell ⟨g, 0, none⟩ v) := by
  have hgr : w.grownBy (w.setCell ⟨g, 0, none⟩ v) (some g) := ⟨rfl, rfl, rfl, by simp, fun k _ hk => heap_setCell_other w ⟨g, 0, none⟩ k _ (fun e => hk (by simp [e]))⟩
  obtain ⟨es, cl, hmb⟩ := map_block h5
  refine ⟨?_, ?_, ?_, QK.of_grown hgr h1 (Or.inr ⟨_, _, _, h3, Or.inr rfl⟩)⟩
  · exact heap_setCell_same w g 0 _ _ v h3
  · exact h4.keptBut hgr h3 (by intro c fz e; simp at e)
  · exact h5.kept hgr (by intro e; injection e with e; subst e; rw [h3] at hmb; cases hmb)
theorem PQ.relist {w : World} {B g mb k : Nat} {L : List Tm} {D : MD} {x v : Value} (h1 : B ≤ g) (h2 : B ≤ mb) (h3 : w.heap[g]? = some (.cells #[x, .map (some mb)] 98 (0, 0))) (h4 : Own w B 109 2 v L.length (tcells L))
    (h5 : w.ownsMap Try.prog 3 (plainElem Try.prog 3) mb k D) (h6 : MapOf D L) : PQ (w.setCell ⟨g, 0, none⟩ v) B g mb L ∧ QK B w (w.setCell ⟨g, 0, none⟩ v) := by
  obtain ⟨k1, k2, k3, k4⟩ := relist0 h1 h3 h4 h5
  exact ⟨⟨h1, h2, v, D, k, k1, k2, k3, h6⟩, k4⟩
def tmV (p : Tm) : Value := .agg #[.int .u64 p.1, .int .i64 p.2]
theorem asTm (v : Value) (w : World) : (Instr.typeAssert (.iface 109 v) 20 109 false).run Try.prog w = .ok v w := by kernel_rfl
set_option maxRecDepth 100000 in
theorem pushQ (B g mb : Nat) (L : List Tm) (a id : Int) (w : World) (h : PQ w B g mb L) (hl : TL L) (hn : L.length < 256) (hp : tOk (a, id)) (hnew : id ∉ L.map (·.2)) :
    Calls Try.prog 88 #[.pointer (some ⟨g, 0, none⟩), .iface 109 (tmV (a, id))] w (QPost (.tuple #[]) w B g mb (L ++ [(a, id)])) := by
  obtain ⟨h1, h2, v, D, k, h3, h4, h5, h6⟩ := h
  obtain ⟨A, c, rfl, _, hnc, hcm⟩ := h4.shape
  have gl := lt_of_block h3
  have hBs : B ≤ w.heap.size := Nat.le_trans h1 (Nat.le_of_lt gl)
  have hsz : Maps.size D < maxLen := by rw [h6.size]; unfold maxLen; omega
  have wid : (Lit.int .i64 id).wf = true := WalkArith.wf_i64 (by have := hp.2.2; simp only at this; omega)
  have wn : (Lit.int .i64 (L.length : Int)).wf = true := WalkArith.wf_i64 (by omega)
  -- the box of the timer
  have ob : Old w (w.alloc (.cells #[.int .u64 a, .int .i64 id] 109)) := (Old.refl w).alloc _
  have b3 := ob.block h3
  have b4 := h4.up ob
  have b5 := h5.alloc (.cells #[.int .u64 a, .int .i64 id] 109)
  have bx : (w.alloc (.cells #[.int .u64 a, .int .i64 id] 109)).heap[w.heap.size]? = _ := heap_alloc_new w _
  have hq0 := QK.of_old (B := B) ob hBs
  have hgne : g ≠ w.heap.size := by omega
  have hsz1 : (w.alloc (.cells #[.int .u64 a, .int .i64 id] 109)).heap.size = w.heap.size + 1 := by simp
  generalize hW : w.alloc (.cells #[.int .u64 a, .int .i64 id] 109) = W at *
  obtain ⟨w3, run3, m6, g6⟩ := ((ownsMap_tight b5).drew).update lawInt Try.underlying95 hsz (keyOf_int_mk Try.underlying3 wid) (plainElem_int Try.underlying3 wn)
  have g6' : W.grownBy w3 (some mb) := ⟨g6.os, g6.tape, g6.output, g6.size, g6.block⟩
  obtain ⟨es, cl, hmb⟩ := map_block b5
  have mne : mb ≠ g := by intro e; subst e; rw [b3] at hmb; cases hmb
  have xne : w.heap.size ≠ mb := by intro e; rw [e, hmb] at bx; cases bx
  have o6 : Own w3 B 109 2 (.slice A L.length c) L.length (tcells L) := World.ownsRow.kept b4 g6' (by
    cases hv : (Value.slice A L.length c).ownBlock with
    | none => exact Or.inl rfl
    | some k =>
      right
      intro e
      injection e with e
      subst e
      obtain ⟨cur, fz, hk⟩ : ∃ cur fz, W.heap[k]? = some (.cells cur 109 fz) := by
        rcases b4 with ⟨_, ⟨h2, _⟩ | ⟨g', cap, cu, h2, _, hh, _⟩⟩
        · rw [h2] at hv; simp [Value.ownBlock] at hv
        · rw [h2] at hv; simp [Value.ownBlock] at hv; subst hv; exact ⟨_, _, hh⟩
      rw [hk] at hmb; cases hmb)
  have m3 := (g6'.block g (lt_of_block b3) (by intro e; injection e with e; exact mne e.symm)).trans b3
  have mx := (g6'.block w.heap.size (lt_of_block bx) (by intro e; injection e with e; exact xne e)).trans bx
  have hq1 := hq0.trans (QK.of_grown g6' h2 (Or.inl ⟨es, cl, hmb⟩))
  -- the append
  have oa : Old w3 (w3.alloc (.cells #[.int .u64 a, .int .i64 id] 109)) := (Old.refl w3).alloc _
  obtain ⟨i0, hi, hz0, hz1, hz2⟩ := info_parts info_tm
  have hnw := World.news_of_block (w := (w3.alloc (.cells #[.int .u64 a, .int .i64 id] 109)).drew) (B := w3.heap.size) (cs := #[.int .u64 a, .int .i64 id]) (heap_alloc_new w3 _)
  have hB3 := hq1.size
  have c0 : W.cell? ⟨g, 0, none⟩ = some (.slice A L.length c) := by rw [cell_of_row W g 0 _ _ _ b3]; rfl
  have c1 : W.cell? ⟨g, 1, none⟩ = some (.map (some mb)) := by rw [cell_of_row W g 1 _ _ _ b3]; rfl
  have x1 : W.cell? ⟨w.heap.size, 1, none⟩ = some (.int .i64 id) := by rw [cell_of_row W _ 1 _ _ _ bx]; rfl
  have d0 : w3.cell? ⟨g, 0, none⟩ = some (.slice A L.length c) := by rw [cell_of_row w3 g 0 _ _ _ m3]; rfl
  have y0 : w3.cell? ⟨w.heap.size, 0, none⟩ = some (.int .u64 a) := by rw [cell_of_row w3 _ 0 _ _ _ mx]; rfl
  have y1 : w3.cell? ⟨w.heap.size, 1, none⟩ = some (.int .i64 id) := by rw [cell_of_row w3 _ 1 _ _ _ mx]; rfl
  have HA : Hid (∀ gb cap w5, w5.ownsRow B 109 2 (.slice (some ⟨gb, 0, none⟩) (L.length + 1) cap) (L.length + 1) (tcells L ++ [.int .u64 a, .int .i64 id]) → (w3.alloc (.cells #[.int .u64 a, .int .i64 id] 109)).grownBy w5 (Value.slice A L.length c).ownBlock →
      (PQ (w5.setCell ⟨g, 0, none⟩ (.slice (some ⟨gb, 0, none⟩) (L.length + 1) cap)) B g mb (L ++ [(a, id)]) ∧ QK B w (w5.setCell ⟨g, 0, none⟩ (.slice (some ⟨gb, 0, none⟩) (L.length + 1) cap))) ∧ w5.cell? ⟨g, 0, none⟩ = some (.slice A L.length c) ∧ w5.frozen? ⟨g, 0, none⟩ = false) := by
    intro gb cap w5 o9 g9'
    obtain ⟨es3, cl3, hmb3⟩ := map_block m6
    have nA := ownBlock_ne o6 m3 (by intro c fz e; simp at e)
    have nM := ownBlock_ne o6 hmb3 (by intro c fz e; cases e)
    have m9 : w5.heap[g]? = _ := (g9'.block g (by have := lt_of_block m3; simp; omega) (fun e => nA e.symm)).trans (oa.block m3)
    have p9 : w5.ownsMap Try.prog 3 (plainElem Try.prog 3) mb _ _ := (m6.alloc (.cells #[.int .u64 a, .int .i64 id] 109)).kept g9' (fun e => nM e.symm)
    have hgb : (Value.slice A L.length c).ownBlock = none ∨ ∃ k, (Value.slice A L.length c).ownBlock = some k ∧ B ≤ k ∧ ∃ cc fz, w3.heap[k]? = some (.cells cc 109 fz) := by
      rcases o6 with ⟨_, ⟨h2, _⟩ | ⟨g', cap, cu, h2, hb, hh, _⟩⟩
      · left; rw [h2]; rfl
      · right; rw [h2]; exact ⟨g', rfl, hb, _, _, hh⟩
    have hq2 : QK B w w5 := by
      refine hq1.trans ((QK.of_old oa (by omega)).trans ?_)
      rcases hgb with hgb | ⟨k, hgb, hBk, cc, fz, hk⟩
      · rw [hgb] at g9'
        exact ⟨⟨g9'.os, g9'.tape, g9'.output, g9'.size, fun j hj => g9'.block j (by simp; omega) (by simp)⟩, fun j c e fz hj _ _ => (g9'.block j (lt_of_block hj) (by simp)).trans hj⟩
      · rw [hgb] at g9'
        exact QK.of_grown g9' hBk (Or.inr ⟨_, _, _, oa.block hk, Or.inl rfl⟩)
    obtain ⟨HF, HQ⟩ := PQ.relist (L := L ++ [(a, id)]) (v := .slice (some ⟨gb, 0, none⟩) (L.length + 1) cap) h1 h2 m9 (by
      rw [tcells_append, List.length_append]; exact o9) p9 (h6.push (p := (a, id)) hnew)
    refine ⟨⟨HF, hq2.trans HQ⟩, ?_, frozen_of_row w5 g 0 _ _ m9⟩
    · rw [cell_of_row w5 g 0 _ _ _ m9]; rfl
  have hO3 := o6.up oa.drew
  have hc3 := oa.cell d0
  have hB4 : B ≤ (w3.alloc (.cells #[.int .u64 a, .int .i64 id] 109)).drew.heap.size := by simp; omega
  have HO := Lib.hid hO3
  have HN := Lib.hid hnw
  have Hi := Lib.hid (And.intro hi (And.intro hz0 (And.intro hz1 hz2)))
  have Hn := Lib.hid (show L.length < 256 from hn)
  have HB := Lib.hid hB4
  clear hO3 hnw hi hz0 hz1 hz2 hB4 oa o6 hq1 mx m3 xne mne hmb es cl m6 g6 g6' hsz1 hq0 bx b3 b4 b5 ob hgne wn wid hsz hBs gl h3 h4 h5 h6 hnc hcm hB3 hl hn hp hnew h1 h2
  generalize L.length = n at *
  unfold tmV
  have hT := asTm
  go_enter Try.func88, Try.ntmps88
  go_wp2_with fail
  go_region
  go_wp2_with fail
  clear run3
  go_region_law ((refine step_append_lies _ (by rfl) _ _ 96 (by rfl) B 109 i0 _ 2 16 Try.underlying96 Hi.out.1 Hi.out.2.1 Hi.out.2.2.1 Hi.out.2.2.2 rfl (by decide) (.slice A n c) n (tcells L) (by rfl) HO.out ⟨w3.heap.size, 0, none⟩ 1 1 [.int .u64 a, .int .i64 id] (by rfl) rfl HN.out (by simp [Value.oneCell']) (by decide) (by have := Hn.out; unfold maxLen; omega) (by have := Hn.out; omega) HB.out _ rfl ?_; intro gb cap w5 o9 g9 _ _; obtain ⟨HH, e0, f0⟩ := HA.out gb cap w5 o9 ⟨g9.os, g9.tape, g9.output, g9.size, g9.block⟩; have HH' := Lib.hid HH; clear HH o9 g9))
  all_goals (go_wp2_with fail; go_end0; exact ⟨rfl, HH'.out.1, HH'.out.2⟩)

theorem popQ (B g mb : Nat) (L : List Tm) (a id : Int) (w : World) (h : PQ w B g mb (L ++ [(a, id)])) (hl : TL (L ++ [(a, id)])) :
    Calls Try.prog 87 #[.pointer (some ⟨g, 0, none⟩)] w (QPost (.iface 109 (tmV (a, id))) w B g mb L) := by
  obtain ⟨h1, h2, v, D, k, h3, h4, h5, h6⟩ := h
  have hlen : (L ++ [(a, id)]).length = L.length + 1 := by simp
  rw [hlen] at h4
  obtain ⟨gb, c, rfl, hgb, hgl, hc, hcm⟩ := h4.form (by omega)
  have gl := lt_of_block h3
  have hBs : B ≤ w.heap.size := Nat.le_trans h1 (Nat.le_of_lt gl)
  have hp : tOk (a, id) := hl.2.2 _ (by simp)
  have hn : L.length ≤ 256 := by have := hl.1; rw [hlen] at this; omega
  have wid : (Lit.int .i64 id).wf = true := WalkArith.wf_i64 (by have := hp.2.2; simp only at this; omega)
  have hget : (L ++ [(a, id)])[L.length]? = some (a, id) := by simp
  have ca := (h4.cellAt (tcells_get _ _ _ hget).1).1
  have ci := (h4.cellAt (tcells_get _ _ _ hget).2).1
  have c0 : w.cell? ⟨g, 0, none⟩ = some (.slice (some ⟨gb, 0, none⟩) (L.length + 1) c) := by rw [cell_of_row w g 0 _ _ _ h3]; rfl
  have ob : Old w (w.alloc (.cells #[.int .u64 a, .int .i64 id] 109)) := (Old.refl w).alloc _
  have b3 := ob.block h3
  have b4 := h4.up ob
  have b5 := h5.alloc (.cells #[.int .u64 a, .int .i64 id] 109)
  have bx : (w.alloc (.cells #[.int .u64 a, .int .i64 id] 109)).heap[w.heap.size]? = _ := heap_alloc_new w _
  have hgne : w.heap.size ≠ g := by omega
  have hq0 := QK.of_old (B := B) ob hBs
  generalize hW : w.alloc (.cells #[.int .u64 a, .int .i64 id] 109) = W at *
  have bs := b4.shrink (i := L.length) (by omega)
  have hts : (tcells (L ++ [(a, id)])).take (L.length * 2) = tcells L := by rw [tcells_take]; simp
  rw [hts] at bs
  have d0 : W.cell? ⟨g, 0, none⟩ = some (.slice (some ⟨gb, 0, none⟩) (L.length + 1) c) := by rw [cell_of_row W g 0 _ _ _ b3]; rfl
  have d1 : W.cell? ⟨g, 1, none⟩ = some (.map (some mb)) := by rw [cell_of_row W g 1 _ _ _ b3]; rfl
  have df : W.frozen? ⟨g, 0, none⟩ = false := frozen_of_row W g 0 _ _ b3
  obtain ⟨k1, k2, k3, k4⟩ := relist0 h1 b3 bs b5
  have x0 : W.cell? ⟨w.heap.size, 0, none⟩ = some (.int .u64 a) := by rw [cell_of_row W _ 0 _ _ _ bx]; rfl
  have x1 : W.cell? ⟨w.heap.size, 1, none⟩ = some (.int .i64 id) := by rw [cell_of_row W _ 1 _ _ _ bx]; rfl
  have kx : (W.setCell ⟨g, 0, none⟩ (.slice (some ⟨gb, 0, none⟩) L.length c)).heap[w.heap.size]? = some (.cells #[.int .u64 a, .int .i64 id] 109 (0, 0)) := by
    rw [heap_setCell_other W ⟨g, 0, none⟩ w.heap.size _ (by simpa using hgne)]; exact bx
  obtain ⟨w3, run3, m6, g6⟩ := (k3.drew).drop lawInt Try.underlying95 (keyOf_int_mk Try.underlying3 wid) 0
  have g6' : (W.setCell ⟨g, 0, none⟩ (.slice (some ⟨gb, 0, none⟩) L.length c)).grownBy w3 (some mb) := ⟨g6.grown.os, g6.grown.tape, g6.grown.output, g6.grown.size, g6.grown.block⟩
  obtain ⟨es, cl, hmb⟩ := map_block k3
  have m3 := (g6'.block g (lt_of_block k1) (by intro e; injection e with e; subst e; rw [k1] at hmb; cases hmb)).trans k1
  have m4 := k2.keptBut g6' hmb (by intro c fz e; cases e)
  have mx := (g6'.block w.heap.size (lt_of_block kx) (by intro e; injection e with e; subst e; rw [kx] at hmb; cases hmb)).trans kx
  have HH := Lib.hid (And.intro (show PQ w3 B g mb L from ⟨h1, h2, _, _, _, m3, m4, m6, h6.pop (p := (a, id)) hl.2.1⟩) (hq0.trans (k4.trans (QK.of_grown g6' h2 (Or.inl ⟨es, cl, hmb⟩)))))
  have y0 : w3.cell? ⟨w.heap.size, 0, none⟩ = some (.int .u64 a) := by rw [cell_of_row w3 _ 0 _ _ _ mx]; rfl
  have y1 : w3.cell? ⟨w.heap.size, 1, none⟩ = some (.int .i64 id) := by rw [cell_of_row w3 _ 1 _ _ _ mx]; rfl
  have z1 : (W.setCell ⟨g, 0, none⟩ (.slice (some ⟨gb, 0, none⟩) L.length c)).cell? ⟨w.heap.size, 1, none⟩ = some (.int .i64 id) := by rw [cell_of_row _ _ 1 _ _ _ kx]; rfl
  have z2 : (W.setCell ⟨g, 0, none⟩ (.slice (some ⟨gb, 0, none⟩) L.length c)).cell? ⟨g, 1, none⟩ = some (.map (some mb)) := by rw [cell_of_row _ _ 1 _ _ _ k1]; rfl
  have HR := Lib.hid run3
  have Hm := Lib.hid hn
  have hc1 : L.length + 1 ≤ c := hc
  have hcm' : c ≤ 9223372036854775807 := by unfold maxLen at hcm; omega
  have HW := Lib.hid hW
  have q1 : (0 : Int) ≤ (L.length : Int) := by omega
  have q2 : (L.length : Int) < (L.length : Int) + 1 := by omega
  clear hc hW mx m3 m4 hmb es cl g6 g6' m6 run3 kx k1 k2 k3 k4 bs hts hq0 bx b3 b4 b5 ob hget wid hp hBs gl hcm hgl hgb hlen h6 h5 h3 h4 hl h1 h2 hgne
  have hn' := Hm.out
  generalize L.length = n at *
  unfold tmV
  have hW := HW.out
  go_enter Try.func87, Try.ntmps87
  go_wp2_with fail
  have run3 := HR.out
  go_region
  go_wp2_with fail
  go_ret
  exact ⟨rfl, HH.out.1, HH.out.2⟩
end Go.Proofs.Ytlpaemlgmmmbmaa
