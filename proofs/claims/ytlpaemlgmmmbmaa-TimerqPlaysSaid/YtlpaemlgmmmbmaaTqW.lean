/-
  The walks of the queue's own methods: Len, Less, Swap.
-/
import Derived.Test.YtlpaemlgmmmbmaaTqP
import Derived.Test.YtlpaemlgmmmbmaaMod
import Derived.BigQuiet
import Derived.IntWalk
import Derived.Deep.RegionHeld3
import Derived.Deep.DeepCutAuto
import Derived.BigRegion
namespace Go.Proofs.Ytlpaemlgmmmbmaa
open Go.RowKit Go.Maps
set_option linter.unusedVariables false

theorem lawInt : Keyed Try.prog 3 := int_keyed Try.underlying3
theorem zeroInt (w : World) : (zeroValue 3).run Try.prog w = .ok (.int .i64 0) w := by kernel_rfl
/-- What a queue's method leaves as it was: all below B, and all rows that are neither timers nor the queue. -/
def QK (B : Nat) (w w' : World) : Prop :=
  Below B w w' ∧ ∀ (k : Nat) c e fz, w.heap[k]? = some (Obj.cells c e fz) → e ≠ 109 → e ≠ 98 → w'.heap[k]? = some (Obj.cells c e fz)
theorem QK.refl (B : Nat) (w : World) : QK B w w := ⟨Below.refl _ _, fun _ _ _ _ h _ _ => h⟩
theorem QK.trans {B : Nat} {a b c : World} (h : QK B a b) (k : QK B b c) : QK B a c := ⟨h.1.trans k.1, fun i x e fz hi h1 h2 => k.2 i x e fz (h.2 i x e fz hi h1 h2) h1 h2⟩
theorem QK.of_old {B : Nat} {w w' : World} (h : Old w w') (hB : B ≤ w.heap.size) : QK B w w' := ⟨Below.mono h.out hB, fun k c e fz hk _ _ => h.block hk⟩
theorem QK.of_grown {B k : Nat} {w w' : World} (h : w.grownBy w' (some k)) (hB : B ≤ k) (hk : (∃ es cl, w.heap[k]? = some (.map es cl)) ∨ ∃ c e fz, w.heap[k]? = some (Obj.cells c e fz) ∧ (e = 109 ∨ e = 98)) : QK B w w' := by
  refine ⟨⟨h.os, h.tape, h.output, h.size, ?_⟩, ?_⟩
  · intro j hj
    by_cases hl : j < w.heap.size
    · exact h.block j hl (by intro e; injection e with e; omega)
    · rcases hk with ⟨_, _, hk⟩ | ⟨_, _, _, hk, _⟩ <;> (have := lt_of_block hk; omega)
  · intro j c e fz hj h1 h2
    rw [h.block j (lt_of_block hj) ?_]
    · exact hj
    · intro e'
      injection e' with e'
      subst e'
      rcases hk with ⟨_, _, hk⟩ | ⟨_, _, _, hk, ht⟩
      · rw [hk] at hj; cases hj
      · rw [hk] at hj
        simp at hj
        rcases ht with ht | ht
        · exact h1 (hj.2.1 ▸ ht)
        · exact h2 (hj.2.1 ▸ ht)
theorem QK.size {B : Nat} {a b : World} (h : QK B a b) : a.heap.size ≤ b.heap.size := h.1.size

/-- The queue in block g, its map in block mb: the timers L. -/
def PQ (w : World) (B g mb : Nat) (L : List Tm) : Prop :=
  B ≤ g ∧ B ≤ mb ∧ ∃ v D k, w.heap[g]? = some (.cells #[v, .map (some mb)] 98 (0, 0)) ∧ Own w B 109 2 v L.length (tcells L) ∧ w.ownsMap Try.prog 3 (plainElem Try.prog 3) mb k D ∧ MapOf D L
theorem PQ.old {w w' : World} {B g mb : Nat} {L : List Tm} (h : PQ w B g mb L) (hb : Old w w') : PQ w' B g mb L := by
  obtain ⟨h1, h2, v, D, k, h3, h4, h5, h6⟩ := h
  exact ⟨h1, h2, v, D, k, hb.block h3, h4.up hb, h5.kept (row := none) ⟨hb.out.os, hb.out.tape, hb.out.output, hb.out.size, fun k hk _ => hb.out.block k hk⟩ (by simp), h6⟩
theorem PQ.drewN {w : World} {B g mb : Nat} {L : List Tm} (h : PQ w B g mb L) (n : Nat) : PQ (w.drewN n) B g mb L := h

theorem lenQ (B g mb : Nat) (L : List Tm) (w : World) (h : PQ w B g mb L) :
    Calls Try.prog 85 #[.pointer (some ⟨g, 0, none⟩)] w fun e w' => e = .returned (.int .i64 L.length) ∧ w = w' := by
  obtain ⟨h1, h2, v, D, k, h3, h4, h5, h6⟩ := h
  obtain ⟨A, c, rfl, _, _, _⟩ := h4.shape
  have c0 : w.cell? ⟨g, 0, none⟩ = some (.slice A L.length c) := by rw [cell_of_row w g 0 _ _ _ h3]; rfl
  clear h3 h4 h5 h6
  go_enter Try.func85, Try.ntmps85
  go_wp2_with fail
  go_ret
  exact ⟨rfl, rfl⟩

def BoolOld (b : Bool) (w : World) (e : Ending) (w' : World) : Prop := e = .returned (.bool b) ∧ Old w w'
theorem lessQ (B g mb : Nat) (L : List Tm) (i j : Nat) (p q : Tm) (w : World) (h : PQ w B g mb L) (hl : TL L) (hi : L[i]? = some p) (hj : L[j]? = some q) :
    Calls Try.prog 86 #[.pointer (some ⟨g, 0, none⟩), .int .i64 i, .int .i64 j] w (BoolOld (lessB p q) w) := by
  obtain ⟨h1, h2, v, D, k, h3, h4, h5, h6⟩ := h
  have il := (List.getElem?_eq_some_iff.1 hi).1
  have jl := (List.getElem?_eq_some_iff.1 hj).1
  obtain ⟨gb, c, rfl, hgb, hgl, hc, hcm⟩ := h4.form (by omega)
  have hlen := hl.1
  have gl := lt_of_block h3
  obtain ⟨p1, p2⟩ := p
  obtain ⟨q1, q2⟩ := q
  have c0 : w.cell? ⟨g, 0, none⟩ = some (.slice (some ⟨gb, 0, none⟩) L.length c) := by rw [cell_of_row w g 0 _ _ _ h3]; rfl
  have a0 := (h4.cellAt (tcells_get L i _ hi).1).1
  have a1 := (h4.cellAt (tcells_get L i _ hi).2).1
  have b0 := (h4.cellAt (tcells_get L j _ hj).1).1
  have b1 := (h4.cellAt (tcells_get L j _ hj).2).1
  have i1 : (0 : Int) ≤ (i : Int) := by omega
  have i2 : (i : Int) < (L.length : Int) := by omega
  have j1 : (0 : Int) ≤ (j : Int) := by omega
  have j2 : (j : Int) < (L.length : Int) := by omega
  clear h3 h4 h5 h6 hi hj hl
  generalize L.length = n at *
  go_enter Try.func86, Try.ntmps86
  go_wp2_with fail
  have n0 := World.new_ne w _ c0
  have n1 := World.new_ne w _ a0
  have n2 := World.new_ne w _ a1
  have n3 := World.new_ne w _ b0
  have n4 := World.new_ne w _ b1
  go_region_held3 (fun w' => w'.cell? ⟨g, 0, none⟩ = some (.slice (some ⟨gb, 0, none⟩) n c) ∧ w'.cell? ⟨gb, i * 2, none⟩ = some (.int .u64 p1) ∧ w'.cell? ⟨gb, i * 2 + 1, none⟩ = some (.int .i64 p2) ∧ w'.cell? ⟨gb, j * 2, none⟩ = some (.int .u64 q1) ∧ w'.cell? ⟨gb, j * 2 + 1, none⟩ = some (.int .i64 q2))
    (go_keep) (fail)
  all_goals
    by_cases he : p1 = q1
    · subst he
      go_wp2_with fail
      go_ret
      exact ⟨ret_bool (by simp [lessB]), (((Old.refl w).alloc _).alloc _).drew⟩
    · go_wp2_with fail
      go_ret
      exact ⟨ret_bool (by simp [lessB, he]), (((Old.refl w).alloc _).alloc _).drew⟩

theorem Own.heap_ {w : World} {base : Nat} {e : TypeId} {size g n c : Nat} {xs : List Value} (h : Own w base e size (.slice (some ⟨g, 0, none⟩) n c) n xs) : ∃ cur, w.heap[g]? = some (.cells cur e (0, 0)) := by
  rcases h with ⟨_, ⟨h2, _⟩ | ⟨g', cap, cu, h2, _, hh, _⟩⟩
  · cases h2
  · injection h2 with h2
    injection h2 with h2
    injection h2 with h2
    subst h2
    exact ⟨_, hh⟩
/-- The map's block and the queue's behind a store into the list, or the list and the queue behind a store into the map. -/
theorem q_apart {w : World} {B g mb gb n c k : Nat} {xs : List Value} {x : Array Value} {D : MD} (h3 : w.heap[g]? = some (.cells x 98 (0, 0))) (h4 : Own w B 109 2 (.slice (some ⟨gb, 0, none⟩) n c) n xs) (h5 : w.ownsMap Try.prog 3 (plainElem Try.prog 3) mb k D) : gb ≠ g ∧ mb ≠ gb ∧ mb ≠ g := by
  obtain ⟨cur, hc⟩ := h4.heap_
  obtain ⟨es, cl, hm, _⟩ := h5
  refine ⟨?_, ?_, ?_⟩ <;> intro e <;> subst e
  · rw [hc] at h3; simp at h3
  · rw [hc] at hm; cases hm
  · rw [h3] at hm; cases hm
theorem map_block {w : World} {mb k : Nat} {D : MD} (h5 : w.ownsMap Try.prog 3 (plainElem Try.prog 3) mb k D) : ∃ es cl, w.heap[mb]? = some (.map es cl) := by
  obtain ⟨es, cl, hm, _⟩ := h5
  exact ⟨es, cl, hm⟩
theorem Own.map_ {w w' : World} {B gb n c mb : Nat} {e : TypeId} {size : Nat} {xs : List Value} (h4 : Own w B e size (.slice (some ⟨gb, 0, none⟩) n c) n xs) (hg : w.grownBy w' (some mb)) (hne : mb ≠ gb) : Own w' B e size (.slice (some ⟨gb, 0, none⟩) n c) n xs :=
  World.ownsRow.kept h4 hg (Or.inr (by simp [Value.ownBlock]; exact fun e => hne e.symm))

def QPost (v : Value) (w : World) (B g mb : Nat) (L : List Tm) (e : Ending) (w' : World) : Prop := e = .returned v ∧ PQ w' B g mb L ∧ QK B w w'
theorem swapQ (B g mb : Nat) (L : List Tm) (i j : Nat) (p q : Tm) (w : World) (h : PQ w B g mb L) (hl : TL L) (hi : L[i]? = some p) (hj : L[j]? = some q) :
    Calls Try.prog 89 #[.pointer (some ⟨g, 0, none⟩), .int .i64 i, .int .i64 j] w (QPost (.tuple #[]) w B g mb (swapL L i j)) := by
  obtain ⟨h1, h2, v, D, k, h3, h4, h5, h6⟩ := h
  have il := (List.getElem?_eq_some_iff.1 hi).1
  have jl := (List.getElem?_eq_some_iff.1 hj).1
  obtain ⟨gb, c, rfl, hgb, hgl, hc, hcm⟩ := h4.form (by omega)
  have hlen := hl.1
  have gl := lt_of_block h3
  obtain ⟨p1, p2⟩ := p
  obtain ⟨q1, q2⟩ := q
  have c0 : w.cell? ⟨g, 0, none⟩ = some (.slice (some ⟨gb, 0, none⟩) L.length c) := by rw [cell_of_row w g 0 _ _ _ h3]; rfl
  obtain ⟨a0, fa0⟩ := h4.cellAt (tcells_get L i _ hi).1
  obtain ⟨a1, fa1⟩ := h4.cellAt (tcells_get L i _ hi).2
  obtain ⟨b0, fb0⟩ := h4.cellAt (tcells_get L j _ hj).1
  obtain ⟨b1, fb1⟩ := h4.cellAt (tcells_get L j _ hj).2
  have i1 : (0 : Int) ≤ (i : Int) := by omega
  have i2 : (i : Int) < (L.length : Int) := by omega
  have j1 : (0 : Int) ≤ (j : Int) := by omega
  have j2 : (j : Int) < (L.length : Int) := by omega
  obtain ⟨o1, r1⟩ := h4.set_ (i * 2) (.int .u64 q1)
  obtain ⟨o2, r2⟩ := o1.set_ (i * 2 + 1) (.int .i64 q2)
  have k1 := (o1.cellAt (j := j * 2) (List.getElem?_eq_getElem (by rw [List.length_set, tcells_length]; omega))).1
  have k2 := (o2.cellAt (j := j * 2 + 1) (List.getElem?_eq_getElem (by rw [List.length_set, List.length_set, tcells_length]; omega))).1
  obtain ⟨o3, r3⟩ := o2.set_ (j * 2) (.int .u64 p1)
  obtain ⟨o4, r4⟩ := o3.set_ (j * 2 + 1) (.int .i64 p2)
  have hW : tcells (swapL L i j) = ((((tcells L).set (i * 2) (.int .u64 q1)).set (i * 2 + 1) (.int .i64 q2)).set (j * 2) (.int .u64 p1)).set (j * 2 + 1) (.int .i64 p2) := by
    unfold swapL
    rw [tcells_set _ _ _ (by rw [List.length_set]; exact jl), tcells_set _ _ _ il, List.getD_eq_getElem?_getD, List.getD_eq_getElem?_getD, hi, hj]
    rfl
  rw [← hW] at o4
  generalize ((tcells L).set (i * 2) (.int .u64 q1))[j * 2]'(by rw [List.length_set, tcells_length]; omega) = u1 at k1
  generalize (((tcells L).set (i * 2) (.int .u64 q1)).set (i * 2 + 1) (.int .i64 q2))[j * 2 + 1]'(by rw [List.length_set, List.length_set, tcells_length]; omega) = u2 at k2
  clear hW o1 o2 o3
  have HI := Lib.hid hi
  have HJ := Lib.hid hj
  clear hi hj
  generalize hn : L.length = n at c0 i2 j2
  have Hn := Lib.hid hn
  clear hn
  go_enter Try.func89, Try.ntmps89
  go_wp2_with fail
  go_region
  go_wp2_with fail
  obtain ⟨ne1, ne2, ne3⟩ := q_apart h3 h4 h5
  have hgr : w.grownBy ((((w.setCell ⟨gb, i * 2, none⟩ (.int .u64 q1)).setCell ⟨gb, i * 2 + 1, none⟩ (.int .i64 q2)).setCell ⟨gb, j * 2, none⟩ (.int .u64 p1)).setCell ⟨gb, j * 2 + 1, none⟩ (.int .i64 p2)) (some gb) := ((r1.trans r2).trans r3).trans r4
  have hgl' : (∃ es cl, w.heap[gb]? = some (.map es cl)) ∨ ∃ c e fz, w.heap[gb]? = some (.cells c e fz) ∧ (e = 109 ∨ e = 98) := by
    obtain ⟨cur, hc⟩ := h4.heap_
    exact Or.inr ⟨_, _, _, hc, Or.inl rfl⟩
  have hq1 := QK.of_grown hgr hgb hgl'
  have m3 := (hgr.block g gl (by intro e; injection e with e; exact ne1 e.symm)).trans h3
  have m5 := h5.kept hgr (by intro e; injection e with e; exact ne2 e)
  clear r1 r2 r3 r4 k1 k2 a0 fa0 a1 fa1 b0 fb0 b1 fb1 hgl' c0
  generalize (((w.setCell ⟨gb, i * 2, none⟩ (.int .u64 q1)).setCell ⟨gb, i * 2 + 1, none⟩ (.int .i64 q2)).setCell ⟨gb, j * 2, none⟩ (.int .u64 p1)).setCell ⟨gb, j * 2 + 1, none⟩ (.int .i64 p2) = W at *
  clear hgr h3 h4 h5 hgl gl
  have hsi : (swapL L i j)[i]? = some (q1, q2) := by
    rw [swapL_get L i j i il jl, List.getD_eq_getElem?_getD, List.getD_eq_getElem?_getD, HI.out, HJ.out]
    split
    · rename_i e; subst e; rw [← HI.out, HJ.out]; rfl
    · rw [if_pos rfl]; rfl
  have hsj : (swapL L i j)[j]? = some (p1, p2) := by
    rw [swapL_get L i j j il jl, if_pos rfl, List.getD_eq_getElem?_getD, HI.out]; rfl
  have hqk := hl.2.2 _ (List.mem_of_getElem? HJ.out)
  have hpk := hl.2.2 _ (List.mem_of_getElem? HI.out)
  have ei := (o4.cellAt (tcells_get _ i _ hsi).2).1
  have ej := (o4.cellAt (tcells_get _ j _ hsj).2).1
  have d0 : W.cell? ⟨g, 0, none⟩ = some (.slice (some ⟨gb, 0, none⟩) n c) := by rw [cell_of_row W g 0 _ _ _ m3, Hn.out]; rfl
  have d1 : W.cell? ⟨g, 1, none⟩ = some (.map (some mb)) := by rw [cell_of_row W g 1 _ _ _ m3]; rfl
  have wq : (Lit.int .i64 q2).wf = true := WalkArith.wf_i64 (by have := hqk.2.2; simp only at this; omega)
  have wp' : (Lit.int .i64 p2).wf = true := WalkArith.wf_i64 (by have := hpk.2.2; simp only at this; omega)
  have wi : (Lit.int .i64 i).wf = true := WalkArith.wf_i64 (by omega)
  have wj : (Lit.int .i64 j).wf = true := WalkArith.wf_i64 (by omega)
  have hsz : Maps.size D < maxLen := by rw [h6.size]; unfold maxLen; omega
  obtain ⟨w3, run3, m6, g6⟩ := ((ownsMap_tight m5).drew.drew).update lawInt Try.underlying95 hsz (keyOf_int_mk Try.underlying3 wq) (plainElem_int Try.underlying3 wi)
  have g6' : W.grownBy w3 (some mb) := ⟨g6.os, g6.tape, g6.output, g6.size, g6.block⟩
  have o6 := o4.map_ g6' ne2
  have m7 := (g6'.block g (lt_of_block m3) (by intro e; injection e with e; exact ne3 e.symm)).trans m3
  have hq2 := hq1.trans (QK.of_grown g6' h2 (Or.inl (map_block m5)))
  have fi := (o6.cellAt (tcells_get _ i _ hsi).2).1
  have fj := (o6.cellAt (tcells_get _ j _ hsj).2).1
  have e0 : w3.cell? ⟨g, 0, none⟩ = some (.slice (some ⟨gb, 0, none⟩) n c) := by rw [cell_of_row w3 g 0 _ _ _ m7, Hn.out]; rfl
  have e1 : w3.cell? ⟨g, 1, none⟩ = some (.map (some mb)) := by rw [cell_of_row w3 g 1 _ _ _ m7]; rfl
  have hMs := h6.swap hl.2.1 il jl
  have HR := Lib.hid run3
  have hsz2 : Maps.size (D.put (keyL q2) (numD i)) < maxLen := by
    have h := m6.size_le
    rw [h6.size] at h
    show Maps.size (D.put (.int .i64 q2) (.lit (.int .i64 i))) < maxLen
    unfold maxLen
    omega
  obtain ⟨w4, run4, m8, g8⟩ := ((ownsMap_tight m6).drew).update lawInt Try.underlying95 hsz2 (keyOf_int_mk Try.underlying3 wp') (plainElem_int Try.underlying3 wj)
  have g8' : w3.grownBy w4 (some mb) := ⟨g8.os, g8.tape, g8.output, g8.size, g8.block⟩
  have o8 := o6.map_ g8' ne2
  have m9 := (g8'.block g (lt_of_block m7) (by intro e; injection e with e; exact ne3 e.symm)).trans m7
  have hq3 := hq2.trans (QK.of_grown g8' h2 (Or.inl (map_block m6)))
  have HR4 := Lib.hid run4
  have HF := Lib.hid (show PQ w4 B g mb (swapL L i j) from ⟨h1, h2, _, _, _, m9, by rw [swapL_length]; exact o8, m8, by
    have := hMs
    rw [List.getD_eq_getElem?_getD, List.getD_eq_getElem?_getD, HI.out, HJ.out] at this
    exact this⟩)
  have HQ := Lib.hid hq3
  clear run4 run3 hq3 hq2 hq1 hMs hsi hsj o4 o6 o8 m3 m5 m6 m7 m8 m9 g6 g6' g8 g8' wq wp' wi wj hqk hpk h6 hl hlen hsz hsz2 HI HJ hc hcm Hn
  have run3 := HR.out
  go_region
  go_wp2_with fail
  clear run3
  have run4 := HR4.out
  go_region
  go_wp2_with fail
  go_end0
  exact ⟨rfl, HF.out, HQ.out⟩
end Go.Proofs.Ytlpaemlgmmmbmaa
