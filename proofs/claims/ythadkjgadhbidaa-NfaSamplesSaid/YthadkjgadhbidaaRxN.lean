/-
  Nodes in memory; the walks of the reference's leaf and join.
-/
import Derived.Test.YthadkjgadhbidaaRxZ
import Derived.Test.YthadkjgadhbidaaBytes
import Derived.Test.YthadkjgadhbidaaRegInvB
import Derived.Deep.DeepCutAuto
namespace Go.Proofs.Ythadkjgadhbidaa
open Go.RowKit
set_option linter.unusedVariables false

theorem info_nd : (Try.prog.info? 114).map (fun i => (i.zero, i.size, i.bytes)) = some (some (.agg #[.int .i64 0, .int .i64 0, .int .i64 0, .int .u64 0, .int .u64 0, .int .u64 0, .int .u64 0]), 7, 56) := by kernel_rfl
def ndCells (x : Nd) : List Value := [.int .i64 x.kind, .int .i64 x.left, .int .i64 x.right, .int .u64 (setW x.set 0), .int .u64 (setW x.set 1), .int .u64 (setW x.set 2), .int .u64 (setW x.set 3)]
def ndsV (l : List Nd) : List Value := l.flatMap ndCells
theorem ndsV_length (l : List Nd) : (ndsV l).length = l.length * 7 := by
  induction l with
  | nil => rfl
  | cons a l ih => simp [ndsV, ndCells] at ih ⊢; omega
theorem ndsV_app (a b : List Nd) : ndsV (a ++ b) = ndsV a ++ ndsV b := by simp [ndsV]
theorem ndsV_one (l : List Nd) : (ndsV l).all Value.oneCell' = true := by
  rw [List.all_eq_true]
  intro v hv
  obtain ⟨x, _, hx⟩ := List.mem_flatMap.1 hv
  have : ∀ u ∈ ndCells x, Value.oneCell' u = true := by simp [ndCells, Value.oneCell']
  exact this v hx
theorem ndsV_get : ∀ (l : List Nd) (i : Nat) (x : Nd), l[i]? = some x → ∀ j, j < 7 → (ndsV l)[i * 7 + j]? = (ndCells x)[j]?
  | [], i, x, h, j, hj => by simp at h
  | a :: l, 0, x, h, j, hj => by
    simp at h; subst h
    have e : ndsV (a :: l) = ndCells a ++ ndsV l := rfl
    rw [e, Nat.zero_mul, Nat.zero_add, List.getElem?_append_left (by simpa [ndCells] using hj)]
  | a :: l, i + 1, x, h, j, hj => by
    have := ndsV_get l i x (by simpa using h) j hj
    have e : ndsV (a :: l) = ndCells a ++ ndsV l := rfl
    have hl : (ndCells a).length = 7 := rfl
    rw [e, List.getElem?_append_right (by rw [hl]; omega), hl, show (i + 1) * 7 + j - 7 = i * 7 + j by omega]
    exact this
def NodesOld (l : List Nd) (w : World) (e : Ending) (w' : World) : Prop := ∃ v, e = .returned v ∧ Own w' w.heap.size 114 7 v l.length (ndsV l) ∧ Old w w'
set_option maxRecDepth 100000 in
theorem leafC (k : Int) (s : BSet) (w : World) : Calls Try.prog 85 #[.int .i64 k, setA s] w (NodesOld (leafN k s) w) := by
  unfold setA
  go_enter Try.func85, Try.ntmps85
  go_wp2_with fail
  go_ret
  have ho := own_new (w.alloc (.cells #[.int .u64 (setW s 0), .int .u64 (setW s 1), .int .u64 (setW s 2), .int .u64 (setW s 3)] 40)) #[.int .i64 k, .int .i64 0, .int .i64 0, .int .u64 (setW s 0), .int .u64 (setW s 1), .int .u64 (setW s 2), .int .u64 (setW s 3)] 1 7 114 (by decide) rfl
  rw [show (w.alloc (.cells #[.int .u64 (setW s 0), .int .u64 (setW s 1), .int .u64 (setW s 2), .int .u64 (setW s 3)] 40)).heap.size = w.heap.size + 1 by simp] at ho
  exact ⟨_, rfl, ho.base (Nat.le_succ _), ((Old.refl w).alloc _).alloc _⟩
def NdB (l : List Nd) : Prop := l.length ≤ 1000000 ∧ ∀ x ∈ l, (0 ≤ x.left ∧ x.left ≤ 1000000) ∧ 0 ≤ x.right ∧ x.right ≤ 1000000
def NJ (k : Int) (Al : Option Addr) (nl cl g : Nat) (s2 s7 s8 s11 s12 s13 s14 s15 s16 s17 s18 s19 s20 s21 s22 s23 s24 s25 s26 s27 s28 s29 s30 s31 s32 s33 s34 s35 s36 s37 s38 s39 s40 s41 s42 s43 : Value) (kd lf rt z1 z2 : Int) (W0 : World) (listed : Array Bool) (a : Act) (ww : World) : Prop :=
  ∃ (b0 b1 b2 b3 b4 b5 b6 b7 b8 b9 b10 b11 b12 b13 b14 b15 b16 b17 : Bool) (dummy : Nat) (nov : Value), listed = #[b0, b1, b2, b3, b4, b5, b6, b7, b8, b9, b10, b11, b12, b13, b14, b15, b16, b17] ∧
    a = { tmps := #[.int .i64 k, .slice Al nl cl, s2, undef, undef, undef, .slice none 0 0, s7, s8, .pointer (some ⟨g, 0, none⟩), undef, s11, s12, s13, s14, s15, s16, s17, s18, s19, s20, s21, s22, s23, cond b0 (.pointer (some ⟨g, 0, none⟩)) (s24), cond b1 (.int .i64 kd) (s25), cond b2 (.pointer (some ⟨g, 1, none⟩)) (s26), cond b3 (.int .i64 lf) (s27), cond b4 (.slice Al nl cl) (s28), cond b5 (.int .i64 nl) (s29), cond b6 (.int .i64 z1) (s30), cond b7 (.pointer (some ⟨g, 0, none⟩)) (s31), cond b8 (.int .i64 kd) (s32), cond b9 (.pointer (some ⟨g, 2, none⟩)) (s33), cond b10 (.int .i64 rt) (s34), cond b11 (.slice Al nl cl) (s35), cond b12 (.int .i64 nl) (s36), cond b13 (.int .i64 z2) (s37), cond b14 (.pointer (some ⟨g, 1, none⟩)) (s38), cond b16 (.pointer (some ⟨g, 2, none⟩)) (s39), s40, s41, s42, s43, undef, undef, undef, undef, undef, undef, undef, undef, undef, undef, undef, undef, undef, undef, undef, undef, undef, undef, undef], defers := [] } ∧ Hid (ww = cond b17 ((W0.setCell ⟨g, 1, none⟩ (.int .i64 z1)).setCell ⟨g, 2, none⟩ (.int .i64 z2)) (cond b15 (W0.setCell ⟨g, 1, none⟩ (.int .i64 z1)) W0))

def JoinRel (w : World) (l r : List Nd) (ov ix : Value) (wr : World) : Prop :=
  ∃ (k : Nat) (acc : List Nd), ix = .int .i64 k ∧ k ≤ r.length ∧ Hid (acc = l ++ (r.take k).map (shiftNd l.length)) ∧ acc.length ≤ l.length + k ∧ Hid (Own wr w.heap.size 114 7 ov acc.length (ndsV acc)) ∧ Hid (Old w wr)
theorem snoc_join (l r : List Nd) (i : Nat) (kd lf rt : Int) (st : BSet) (h : r[i]? = some ⟨kd, lf, rt, st⟩) (q : Nat) (hq : q = l.length) :
    l ++ (r.take (i + 1)).map (shiftNd q) = (l ++ (r.take i).map (shiftNd q)) ++ [⟨kd, shiftN kd 0 lf q, shiftN kd 1 rt q, st⟩] := by
  have hl := (List.getElem?_eq_some_iff.1 h).1
  rw [List.take_succ_eq_append_getElem hl, (List.getElem?_eq_some_iff.1 h).2, List.map_append, List.append_assoc]; rfl
set_option maxHeartbeats 2000000 in
set_option maxRecDepth 100000 in
theorem joinC (k : Int) (Al Ar : Option Addr) (cl cr : Nat) (l r : List Nd) (w : World) (hl : Rs w Al (ndsV l)) (hr : Rs w Ar (ndsV r)) (h0 : 0 < l.length) (bl : l.length ≤ 1000000) (br : NdB r) :
    Calls Try.prog 77 #[.int .i64 k, .slice Al l.length cl, .slice Ar r.length cr] w (NodesOld (joinN k l r) w) := by
  have HL := Lib.hid hl
  have HR := Lib.hid hr
  have HB := Lib.hid br.2
  have brl := br.1
  have hs := Lib.hid (fun k d p n hp hn w => shiftC k d p n w hp hn)
  clear hl hr br
  go_enter Try.func77, Try.ntmps77
  go_upto_region 1 with fail
  go_wp2_with (at_builtin; refine wpList_pushAll rfl _ _ 25 rfl _ 114 (.agg #[.int .i64 0, .int .i64 0, .int .i64 0, .int .u64 0, .int .u64 0, .int .u64 0, .int .u64 0]) 7 56 Try.underlying25 info_nd rfl (by decide) (by decide) _ _ _ (by rfl) (own_new w #[] 0 7 114 (by decide) rfl) _ _ _ _ (by rfl) (HL.out.alloc _) (ndsV_length _) (ndsV_one _) ?pn4 (by simp) ?_)
  case pn4 => omega
  intro v1 w1 ho1 hg1 hd1
  have HO1 := Lib.hid (show Own w1 w.heap.size 114 7 v1 l.length (ndsV l) by simpa using ho1)
  have HD1 := Lib.hid (hd1 w ((Old.refl w).alloc _) (Nat.le_refl _))
  clear ho1 hg1 hd1
  go_wp2_with fail
  go_loopw [7, 8] (fun ov ix wr => JoinRel w l r ov ix wr) (fun _ ix _ => r.length - (intOf ix).toNat)
  case atStart => exact ⟨0, l, rfl, Nat.zero_le _, Lib.hid (by simp), Nat.le_refl _, HO1, HD1⟩
  case round =>
    obtain ⟨i, acc, rfl, hi, HA, hacl, HO, HD⟩ := hrel
    by_cases hlt : i < r.length
    · obtain ⟨x, hx⟩ : ∃ x, r[i]? = some x := ⟨_, List.getElem?_eq_getElem hlt⟩
      obtain ⟨b, off, rfl, hbl, hcl⟩ := (HR.out.up HD.out).at_ (by rw [ndsV_length]; omega)
      have hg := ndsV_get r i x hx
      have c0 := hcl _ _ (hg 0 (by omega))
      have c1 := hcl _ _ (hg 1 (by omega))
      have c2 := hcl _ _ (hg 2 (by omega))
      have c3 := hcl _ _ (hg 3 (by omega))
      have c4 := hcl _ _ (hg 4 (by omega))
      have c5 := hcl _ _ (hg 5 (by omega))
      have c6 := hcl _ _ (hg 6 (by omega))
      rw [← Nat.add_assoc] at c0 c1 c2 c3 c4 c5 c6
      rw [Nat.add_zero] at c0
      obtain ⟨⟨x1, x2⟩, x3, x4⟩ := HB.out x (List.mem_of_getElem? hx)
      have i1 : (0 : Int) ≤ (i : Int) := by omega
      have i2 : (i : Int) < (r.length : Int) := by omega
      have HX := Lib.hid hx
      clear hg hcl hx
      obtain ⟨kd, lf, rt, st⟩ := x
      simp only at x1 x2 x3 x4
      replace c0 : wr.cell? ⟨b, off + i * 7, none⟩ = some (.int .i64 kd) := c0
      replace c1 : wr.cell? ⟨b, off + i * 7 + 1, none⟩ = some (.int .i64 lf) := c1
      replace c2 : wr.cell? ⟨b, off + i * 7 + 2, none⟩ = some (.int .i64 rt) := c2
      replace c3 : wr.cell? ⟨b, off + i * 7 + 3, none⟩ = some (.int .u64 (setW st 0)) := c3
      replace c4 : wr.cell? ⟨b, off + i * 7 + 4, none⟩ = some (.int .u64 (setW st 1)) := c4
      replace c5 : wr.cell? ⟨b, off + i * 7 + 5, none⟩ = some (.int .u64 (setW st 2)) := c5
      replace c6 : wr.cell? ⟨b, off + i * 7 + 6, none⟩ = some (.int .u64 (setW st 3)) := c6
      go_upto_region 6 with fail
      have hb9 := heap_alloc_new wr (.cells #[.int .i64 kd, .int .i64 lf, .int .i64 rt, .int .u64 (setW st 0), .int .u64 (setW st 1), .int .u64 (setW st 2), .int .u64 (setW st 3)] 114)
      have oW := (Old.refl wr).alloc (.cells #[.int .i64 kd, .int .i64 lf, .int .i64 rt, .int .u64 (setW st 0), .int .u64 (setW st 1), .int .u64 (setW st 2), .int .u64 (setW st 3)] 114)
      generalize wr.alloc (.cells #[.int .i64 kd, .int .i64 lf, .int .i64 rt, .int .u64 (setW st 0), .int .u64 (setW st 1), .int .u64 (setW st 2), .int .u64 (setW st 3)] 114) = W at *
      have d0 : W.cell? ⟨wr.heap.size, 0, none⟩ = some (.int .i64 kd) := by rw [cell_of_row W _ 0 _ _ _ hb9]; rfl
      have d1 : W.cell? ⟨wr.heap.size, 1, none⟩ = some (.int .i64 lf) := by rw [cell_of_row W _ 1 _ _ _ hb9]; rfl
      have d2 : W.cell? ⟨wr.heap.size, 2, none⟩ = some (.int .i64 rt) := by rw [cell_of_row W _ 2 _ _ _ hb9]; rfl
      have f1 : W.frozen? ⟨wr.heap.size, 1, none⟩ = false := frozen_of_row W _ 1 _ _ hb9
      have f2 : W.frozen? ⟨wr.heap.size, 2, none⟩ = false := frozen_of_row W _ 2 _ _ hb9
      have q1 := heap_setCell_same W.drew wr.heap.size 1 _ _ (.int .i64 (shiftN kd 0 lf l.length)) hb9
      have q2 := heap_setCell_same _ wr.heap.size 2 _ _ (.int .i64 (shiftN kd 1 rt l.length)) q1
      have oF := ((oW.drew).setCell (p := ⟨wr.heap.size, 1, none⟩) (Nat.le_refl _) (.int .i64 (shiftN kd 0 lf l.length))).setCell (p := ⟨wr.heap.size, 2, none⟩) (Nat.le_refl _) (.int .i64 (shiftN kd 1 rt l.length))
      have OF := Lib.hid oF
      have Q2 := Lib.hid q2
      clear hb9 oW q1 q2 oF c0 c1 c2 c3 c4 c5 c6
      have hsn := snoc_join l r i kd lf rt st HX.out l.length rfl
      rw [← HA.out] at hsn
      have HS := Lib.hid hsn
      clear hsn
      generalize hs1 : shiftN kd 0 lf l.length = z1 at *
      generalize hs2 : shiftN kd 1 rt l.length = z2 at *
      have z1h := Lib.hid hs1
      have z2h := Lib.hid hs2
      clear hs1 hs2
      generalize hg : wr.heap.size = g at *
      have Hg := Lib.hid hg
      clear hg
      refine wp_region_steps2 (by kernel_rfl) (by kernel_rfl) (NJ k Al l.length cl g (.slice (some ⟨b, off, none⟩) r.length cr) u7 (.int .i64 i) (.slice (some ⟨w.heap.size, 0, none⟩) 0 0) (.slice Al l.length cl) v1 (.int .i64 i) (.slice (some ⟨b, off, none⟩) r.length cr) (.int .i64 r.length) (.bool true) u18 u19 (.slice (some ⟨b, off, none⟩) r.length cr) (.int .i64 i) (.pointer (some ⟨b, off + i * 7, none⟩)) (.agg #[.int .i64 kd, .int .i64 lf, .int .i64 rt, .int .u64 (setW st 0), .int .u64 (setW st 1), .int .u64 (setW st 2), .int .u64 (setW st 3)]) u24 u25 u26 u27 u28 u29 u30 u31 u32 u33 u34 u35 u36 u37 u38 u39 u40 u41 u42 u43 kd lf rt z1 z2 W.drew) ?_ ?_ ⟨?_, ?_, ?_, ?_, ?_, ?_, ?_, ?_, ?_, ?_, ?_, ?_, ?_, ?_, ?_, ?_, ?_, ?_, trivial⟩
      · exact ⟨false, false, false, false, false, false, false, false, false, false, false, false, false, false, false, false, false, false, 0, undef, rfl, rfl, rfl⟩
      · rintro a w1 ⟨b0, b1, b2, b3, b4, b5, b6, b7, b8, b9, b10, b11, b12, b13, b14, b15, b16, b17, dummy, nov, hl, rfl, hF⟩
        have hl' := congrArg Array.toList hl
        simp at hl'
        obtain ⟨rfl, rfl, rfl, rfl, rfl, rfl, rfl, rfl, rfl, rfl, rfl, rfl, rfl, rfl, rfl, rfl, rfl, rfl⟩ := hl'
        have hw : w1 = (W.drew.setCell ⟨g, 1, none⟩ (.int .i64 z1)).setCell ⟨g, 2, none⟩ (.int .i64 z2) := hF.out
        subst hw
        clear hF
        go_upto_region 7 with fail
        generalize (W.drew.setCell ⟨g, 1, none⟩ (.int .i64 z1)).setCell ⟨g, 2, none⟩ (.int .i64 z2) = W2 at *
        have hq := Q2.out
        have e0 : W2.cell? ⟨g, 0, none⟩ = some (.int .i64 kd) := by rw [cell_of_row W2 _ 0 _ _ _ hq]; rfl
        have e1 : W2.cell? ⟨g, 1, none⟩ = some (.int .i64 z1) := by rw [cell_of_row W2 _ 1 _ _ _ hq]; rfl
        have e2 : W2.cell? ⟨g, 2, none⟩ = some (.int .i64 z2) := by rw [cell_of_row W2 _ 2 _ _ _ hq]; rfl
        have e3 : W2.cell? ⟨g, 3, none⟩ = some (.int .u64 (setW st 0)) := by rw [cell_of_row W2 _ 3 _ _ _ hq]; rfl
        have e4 : W2.cell? ⟨g, 4, none⟩ = some (.int .u64 (setW st 1)) := by rw [cell_of_row W2 _ 4 _ _ _ hq]; rfl
        have e5 : W2.cell? ⟨g, 5, none⟩ = some (.int .u64 (setW st 2)) := by rw [cell_of_row W2 _ 5 _ _ _ hq]; rfl
        have e6 : W2.cell? ⟨g, 6, none⟩ = some (.int .u64 (setW st 3)) := by rw [cell_of_row W2 _ 6 _ _ _ hq]; rfl
        have HOw := Lib.hid (HO.out.up OF.out)
        have HDw := Lib.hid (HD.out.up OF.out)
        have hbW : w.heap.size ≤ W2.heap.size := HDw.out.size
        have hk36 : acc.length ≤ 68719476735 := by omega
        clear hq d0 d1 d2 f1 f2
        go_wp2_with (at_builtin; refine wpList_push (wr := W2) rfl _ _ 25 rfl _ 114 (.agg #[.int .i64 0, .int .i64 0, .int .i64 0, .int .u64 0, .int .u64 0, .int .u64 0, .int .u64 0]) 7 56 Try.underlying25 info_nd rfl (by decide) (by decide) _ _ _ rfl HOw.out 1 1 [.int .i64 kd, .int .i64 z1, .int .i64 z2, .int .u64 (setW st 0), .int .u64 (setW st 1), .int .u64 (setW st 2), .int .u64 (setW st 3)] rfl rfl rfl rfl ?pn1 hbW ?_)
        case pn1 => omega
        intro v' w5 ho5 hg5 hd5
        have HF : Hid (JoinRel w l r v' (.int .i64 ((i : Int) + 1)) w5) := ⟨i + 1, acc ++ [⟨kd, z1, z2, st⟩], rfl, hlt, Lib.hid (by rw [HS.out]), by simp; omega, by rw [ndsV_app, List.length_append]; exact ho5, Own.grown_old HDw.out HOw.out (Nat.le_refl _) hg5⟩
        clear ho5 hg5 hd5 hk36
        go_wp2_with fail
        go_roundw
        case rel => exact HF.out
        case measure => simp [intOf]; omega
      · intro listed a w1 K hs hcl hf hall hI hK
        obtain ⟨b0, b1, b2, b3, b4, b5, b6, b7, b8, b9, b10, b11, b12, b13, b14, b15, b16, b17, dummy, nov, rfl, rfl, hF⟩ := hI
        have hf' : b0 = false := hf
        subst hf'
        clear hall hcl hs hf
        go_simp
        exact hK _ _ ⟨true, b1, b2, b3, b4, b5, b6, b7, b8, b9, b10, b11, b12, b13, b14, b15, b16, b17, dummy, nov, rfl, rfl, hF⟩
      · intro listed a w1 K hs hcl hf hall hI hK
        obtain ⟨b0, b1, b2, b3, b4, b5, b6, b7, b8, b9, b10, b11, b12, b13, b14, b15, b16, b17, dummy, nov, rfl, rfl, hF⟩ := hI
        have hf' : b1 = false := hf
        subst hf'
        have hq0 : b0 = true := hall ⟨0, .data⟩ (by first | exact .head _ | simp) rfl
        subst hq0
        have hb6 : b6 = false := by
          cases b6
          · rfl
          · exact absurd (show false = true from hcl 6 _ rfl rfl ⟨1, .data⟩ (by first | exact .head _ | simp) rfl) (by decide)
        subst hb6
        have hb14 : b14 = false := by
          cases b14
          · rfl
          · exact absurd (show false = true from hcl 14 _ rfl rfl ⟨1, .phase⟩ (by first | exact .head _ | simp) rfl) (by decide)
        subst hb14
        have hb15 : b15 = false := by
          cases b15
          · rfl
          · exact absurd (show false = true from hcl 15 _ rfl rfl ⟨1, .phase⟩ (by first | exact .head _ | simp) rfl) (by decide)
        subst hb15
        have hb16 : b16 = false := by
          cases b16
          · rfl
          · exact absurd (show false = true from hcl 16 _ rfl rfl ⟨1, .phase⟩ (by first | exact .head _ | simp) rfl) (by decide)
        subst hb16
        have hb17 : b17 = false := by
          cases b17
          · rfl
          · exact absurd (show false = true from hcl 17 _ rfl rfl ⟨1, .phase⟩ (by first | exact .head _ | simp) rfl) (by decide)
        subst hb17
        have hb13 : b13 = false := by
          cases b13
          · rfl
          · exact absurd (show false = true from hcl 13 _ rfl rfl ⟨6, .chain⟩ (by first | exact .head _ | simp) rfl) (by decide)
        subst hb13
        clear hall hcl hs hf
        have hw : w1 = W.drew := hF.out
        subst hw
        go_simp
        exact hK _ _ ⟨true, true, b2, b3, b4, b5, false, b7, b8, b9, b10, b11, b12, false, false, false, false, false, dummy, nov, rfl, rfl, rfl⟩
      · intro listed a w1 K hs hcl hf hall hI hK
        obtain ⟨b0, b1, b2, b3, b4, b5, b6, b7, b8, b9, b10, b11, b12, b13, b14, b15, b16, b17, dummy, nov, rfl, rfl, hF⟩ := hI
        have hf' : b2 = false := hf
        subst hf'
        clear hall hcl hs hf
        go_simp
        exact hK _ _ ⟨b0, b1, true, b3, b4, b5, b6, b7, b8, b9, b10, b11, b12, b13, b14, b15, b16, b17, dummy, nov, rfl, rfl, hF⟩
      · intro listed a w1 K hs hcl hf hall hI hK
        obtain ⟨b0, b1, b2, b3, b4, b5, b6, b7, b8, b9, b10, b11, b12, b13, b14, b15, b16, b17, dummy, nov, rfl, rfl, hF⟩ := hI
        have hf' : b3 = false := hf
        subst hf'
        have hq2 : b2 = true := hall ⟨2, .data⟩ (by first | exact .head _ | simp) rfl
        subst hq2
        have hb6 : b6 = false := by
          cases b6
          · rfl
          · exact absurd (show false = true from hcl 6 _ rfl rfl ⟨3, .data⟩ (by first | exact .head _ | simp) rfl) (by decide)
        subst hb6
        have hb14 : b14 = false := by
          cases b14
          · rfl
          · exact absurd (show false = true from hcl 14 _ rfl rfl ⟨3, .phase⟩ (by first | exact .head _ | simp) rfl) (by decide)
        subst hb14
        have hb15 : b15 = false := by
          cases b15
          · rfl
          · exact absurd (show false = true from hcl 15 _ rfl rfl ⟨3, .phase⟩ (by first | exact .head _ | simp) rfl) (by decide)
        subst hb15
        have hb16 : b16 = false := by
          cases b16
          · rfl
          · exact absurd (show false = true from hcl 16 _ rfl rfl ⟨3, .phase⟩ (by first | exact .head _ | simp) rfl) (by decide)
        subst hb16
        have hb17 : b17 = false := by
          cases b17
          · rfl
          · exact absurd (show false = true from hcl 17 _ rfl rfl ⟨3, .phase⟩ (by first | exact .head _ | simp) rfl) (by decide)
        subst hb17
        have hb13 : b13 = false := by
          cases b13
          · rfl
          · exact absurd (show false = true from hcl 13 _ rfl rfl ⟨6, .chain⟩ (by first | exact .head _ | simp) rfl) (by decide)
        subst hb13
        clear hall hcl hs hf
        have hw : w1 = W.drew := hF.out
        subst hw
        go_simp
        exact hK _ _ ⟨b0, b1, true, true, b4, b5, false, b7, b8, b9, b10, b11, b12, false, false, false, false, false, dummy, nov, rfl, rfl, rfl⟩
      · intro listed a w1 K hs hcl hf hall hI hK
        obtain ⟨b0, b1, b2, b3, b4, b5, b6, b7, b8, b9, b10, b11, b12, b13, b14, b15, b16, b17, dummy, nov, rfl, rfl, hF⟩ := hI
        have hf' : b4 = false := hf
        subst hf'
        clear hall hcl hs hf
        go_simp
        exact hK _ _ ⟨b0, b1, b2, b3, true, b5, b6, b7, b8, b9, b10, b11, b12, b13, b14, b15, b16, b17, dummy, nov, rfl, rfl, hF⟩
      · intro listed a w1 K hs hcl hf hall hI hK
        obtain ⟨b0, b1, b2, b3, b4, b5, b6, b7, b8, b9, b10, b11, b12, b13, b14, b15, b16, b17, dummy, nov, rfl, rfl, hF⟩ := hI
        have hf' : b5 = false := hf
        subst hf'
        have hq4 : b4 = true := hall ⟨4, .data⟩ (by first | exact .head _ | simp) rfl
        subst hq4
        clear hall hcl hs hf
        go_simp
        exact hK _ _ ⟨b0, b1, b2, b3, true, true, b6, b7, b8, b9, b10, b11, b12, b13, b14, b15, b16, b17, dummy, nov, rfl, rfl, hF⟩
      · intro listed a w1 K hs hcl hf hall hI hK
        obtain ⟨b0, b1, b2, b3, b4, b5, b6, b7, b8, b9, b10, b11, b12, b13, b14, b15, b16, b17, dummy, nov, rfl, rfl, hF⟩ := hI
        have hf' : b6 = false := hf
        subst hf'
        have hq1 : b1 = true := hall ⟨1, .data⟩ (by first | exact .head _ | simp) rfl
        subst hq1
        have hq3 : b3 = true := hall ⟨3, .data⟩ (by first | exact .head _ | simp) rfl
        subst hq3
        have hq5 : b5 = true := hall ⟨5, .data⟩ (by first | exact .head _ | simp) rfl
        subst hq5
        have hq0 : b0 = true := hcl 1 _ rfl rfl ⟨0, .data⟩ (by first | exact .head _ | simp) rfl
        subst hq0
        have hq2 : b2 = true := hcl 3 _ rfl rfl ⟨2, .data⟩ (by first | exact .head _ | simp) rfl
        subst hq2
        have hq4 : b4 = true := hcl 5 _ rfl rfl ⟨4, .data⟩ (by first | exact .head _ | simp) rfl
        subst hq4
        have hb13 : b13 = false := by
          cases b13
          · rfl
          · exact absurd (show false = true from hcl 13 _ rfl rfl ⟨6, .chain⟩ (by first | exact .head _ | simp) rfl) (by decide)
        subst hb13
        have hb14 : b14 = false := by
          cases b14
          · rfl
          · exact absurd (show false = true from hcl 14 _ rfl rfl ⟨6, .phase⟩ (by first | exact .head _ | simp) rfl) (by decide)
        subst hb14
        have hb15 : b15 = false := by
          cases b15
          · rfl
          · exact absurd (show false = true from hcl 15 _ rfl rfl ⟨6, .data⟩ (by first | exact .head _ | simp) rfl) (by decide)
        subst hb15
        have hb16 : b16 = false := by
          cases b16
          · rfl
          · exact absurd (show false = true from hcl 16 _ rfl rfl ⟨6, .phase⟩ (by first | exact .head _ | simp) rfl) (by decide)
        subst hb16
        have hb17 : b17 = false := by
          cases b17
          · rfl
          · exact absurd (show false = true from hcl 17 _ rfl rfl ⟨6, .phase⟩ (by first | exact .head _ | simp) rfl) (by decide)
        subst hb17
        clear hall hcl hs hf
        have hw : w1 = W.drew := hF.out
        subst hw
        have hc := hs.out kd 0 lf l.length (by omega) (by omega) W.drew
        rw [z1h.out] at hc
        go_simp
        refine hc.mono ?_
        rintro e w2 ⟨rfl, rfl⟩
        exact hK _ _ ⟨true, true, true, true, true, true, true, b7, b8, b9, b10, b11, b12, false, false, false, false, false, dummy, nov, rfl, rfl, rfl⟩
      · intro listed a w1 K hs hcl hf hall hI hK
        obtain ⟨b0, b1, b2, b3, b4, b5, b6, b7, b8, b9, b10, b11, b12, b13, b14, b15, b16, b17, dummy, nov, rfl, rfl, hF⟩ := hI
        have hf' : b7 = false := hf
        subst hf'
        clear hall hcl hs hf
        go_simp
        exact hK _ _ ⟨b0, b1, b2, b3, b4, b5, b6, true, b8, b9, b10, b11, b12, b13, b14, b15, b16, b17, dummy, nov, rfl, rfl, hF⟩
      · intro listed a w1 K hs hcl hf hall hI hK
        obtain ⟨b0, b1, b2, b3, b4, b5, b6, b7, b8, b9, b10, b11, b12, b13, b14, b15, b16, b17, dummy, nov, rfl, rfl, hF⟩ := hI
        have hf' : b8 = false := hf
        subst hf'
        have hq7 : b7 = true := hall ⟨7, .data⟩ (by first | exact .head _ | simp) rfl
        subst hq7
        have hb13 : b13 = false := by
          cases b13
          · rfl
          · exact absurd (show false = true from hcl 13 _ rfl rfl ⟨8, .data⟩ (by first | exact .head _ | simp) rfl) (by decide)
        subst hb13
        have hb14 : b14 = false := by
          cases b14
          · rfl
          · exact absurd (show false = true from hcl 14 _ rfl rfl ⟨8, .phase⟩ (by first | exact .head _ | simp) rfl) (by decide)
        subst hb14
        have hb15 : b15 = false := by
          cases b15
          · rfl
          · exact absurd (show false = true from hcl 15 _ rfl rfl ⟨8, .phase⟩ (by first | exact .head _ | simp) rfl) (by decide)
        subst hb15
        have hb16 : b16 = false := by
          cases b16
          · rfl
          · exact absurd (show false = true from hcl 16 _ rfl rfl ⟨8, .phase⟩ (by first | exact .head _ | simp) rfl) (by decide)
        subst hb16
        have hb17 : b17 = false := by
          cases b17
          · rfl
          · exact absurd (show false = true from hcl 17 _ rfl rfl ⟨8, .phase⟩ (by first | exact .head _ | simp) rfl) (by decide)
        subst hb17
        clear hall hcl hs hf
        have hw : w1 = W.drew := hF.out
        subst hw
        go_simp
        exact hK _ _ ⟨b0, b1, b2, b3, b4, b5, b6, true, true, b9, b10, b11, b12, false, false, false, false, false, dummy, nov, rfl, rfl, rfl⟩
      · intro listed a w1 K hs hcl hf hall hI hK
        obtain ⟨b0, b1, b2, b3, b4, b5, b6, b7, b8, b9, b10, b11, b12, b13, b14, b15, b16, b17, dummy, nov, rfl, rfl, hF⟩ := hI
        have hf' : b9 = false := hf
        subst hf'
        clear hall hcl hs hf
        go_simp
        exact hK _ _ ⟨b0, b1, b2, b3, b4, b5, b6, b7, b8, true, b10, b11, b12, b13, b14, b15, b16, b17, dummy, nov, rfl, rfl, hF⟩
      · intro listed a w1 K hs hcl hf hall hI hK
        obtain ⟨b0, b1, b2, b3, b4, b5, b6, b7, b8, b9, b10, b11, b12, b13, b14, b15, b16, b17, dummy, nov, rfl, rfl, hF⟩ := hI
        have hf' : b10 = false := hf
        subst hf'
        have hq9 : b9 = true := hall ⟨9, .data⟩ (by first | exact .head _ | simp) rfl
        subst hq9
        have hb13 : b13 = false := by
          cases b13
          · rfl
          · exact absurd (show false = true from hcl 13 _ rfl rfl ⟨10, .data⟩ (by first | exact .head _ | simp) rfl) (by decide)
        subst hb13
        have hb14 : b14 = false := by
          cases b14
          · rfl
          · exact absurd (show false = true from hcl 14 _ rfl rfl ⟨10, .phase⟩ (by first | exact .head _ | simp) rfl) (by decide)
        subst hb14
        have hb15 : b15 = false := by
          cases b15
          · rfl
          · exact absurd (show false = true from hcl 15 _ rfl rfl ⟨10, .phase⟩ (by first | exact .head _ | simp) rfl) (by decide)
        subst hb15
        have hb16 : b16 = false := by
          cases b16
          · rfl
          · exact absurd (show false = true from hcl 16 _ rfl rfl ⟨10, .phase⟩ (by first | exact .head _ | simp) rfl) (by decide)
        subst hb16
        have hb17 : b17 = false := by
          cases b17
          · rfl
          · exact absurd (show false = true from hcl 17 _ rfl rfl ⟨10, .phase⟩ (by first | exact .head _ | simp) rfl) (by decide)
        subst hb17
        clear hall hcl hs hf
        have hw : w1 = W.drew := hF.out
        subst hw
        go_simp
        exact hK _ _ ⟨b0, b1, b2, b3, b4, b5, b6, b7, b8, true, true, b11, b12, false, false, false, false, false, dummy, nov, rfl, rfl, rfl⟩
      · intro listed a w1 K hs hcl hf hall hI hK
        obtain ⟨b0, b1, b2, b3, b4, b5, b6, b7, b8, b9, b10, b11, b12, b13, b14, b15, b16, b17, dummy, nov, rfl, rfl, hF⟩ := hI
        have hf' : b11 = false := hf
        subst hf'
        clear hall hcl hs hf
        go_simp
        exact hK _ _ ⟨b0, b1, b2, b3, b4, b5, b6, b7, b8, b9, b10, true, b12, b13, b14, b15, b16, b17, dummy, nov, rfl, rfl, hF⟩
      · intro listed a w1 K hs hcl hf hall hI hK
        obtain ⟨b0, b1, b2, b3, b4, b5, b6, b7, b8, b9, b10, b11, b12, b13, b14, b15, b16, b17, dummy, nov, rfl, rfl, hF⟩ := hI
        have hf' : b12 = false := hf
        subst hf'
        have hq11 : b11 = true := hall ⟨11, .data⟩ (by first | exact .head _ | simp) rfl
        subst hq11
        clear hall hcl hs hf
        go_simp
        exact hK _ _ ⟨b0, b1, b2, b3, b4, b5, b6, b7, b8, b9, b10, true, true, b13, b14, b15, b16, b17, dummy, nov, rfl, rfl, hF⟩
      · intro listed a w1 K hs hcl hf hall hI hK
        obtain ⟨b0, b1, b2, b3, b4, b5, b6, b7, b8, b9, b10, b11, b12, b13, b14, b15, b16, b17, dummy, nov, rfl, rfl, hF⟩ := hI
        have hf' : b13 = false := hf
        subst hf'
        have hq8 : b8 = true := hall ⟨8, .data⟩ (by first | exact .head _ | simp) rfl
        subst hq8
        have hq10 : b10 = true := hall ⟨10, .data⟩ (by first | exact .head _ | simp) rfl
        subst hq10
        have hq12 : b12 = true := hall ⟨12, .data⟩ (by first | exact .head _ | simp) rfl
        subst hq12
        have hq6 : b6 = true := hall ⟨6, .chain⟩ (by first | exact .head _ | simp) rfl
        subst hq6
        have hq7 : b7 = true := hcl 8 _ rfl rfl ⟨7, .data⟩ (by first | exact .head _ | simp) rfl
        subst hq7
        have hq9 : b9 = true := hcl 10 _ rfl rfl ⟨9, .data⟩ (by first | exact .head _ | simp) rfl
        subst hq9
        have hq11 : b11 = true := hcl 12 _ rfl rfl ⟨11, .data⟩ (by first | exact .head _ | simp) rfl
        subst hq11
        have hq1 : b1 = true := hcl 6 _ rfl rfl ⟨1, .data⟩ (by first | exact .head _ | simp) rfl
        subst hq1
        have hq3 : b3 = true := hcl 6 _ rfl rfl ⟨3, .data⟩ (by first | exact .head _ | simp) rfl
        subst hq3
        have hq5 : b5 = true := hcl 6 _ rfl rfl ⟨5, .data⟩ (by first | exact .head _ | simp) rfl
        subst hq5
        have hq0 : b0 = true := hcl 1 _ rfl rfl ⟨0, .data⟩ (by first | exact .head _ | simp) rfl
        subst hq0
        have hq2 : b2 = true := hcl 3 _ rfl rfl ⟨2, .data⟩ (by first | exact .head _ | simp) rfl
        subst hq2
        have hq4 : b4 = true := hcl 5 _ rfl rfl ⟨4, .data⟩ (by first | exact .head _ | simp) rfl
        subst hq4
        have hb15 : b15 = false := by
          cases b15
          · rfl
          · exact absurd (show false = true from hcl 15 _ rfl rfl ⟨13, .chain⟩ (by first | exact .head _ | simp) rfl) (by decide)
        subst hb15
        have hb16 : b16 = false := by
          cases b16
          · rfl
          · exact absurd (show false = true from hcl 16 _ rfl rfl ⟨13, .phase⟩ (by first | exact .head _ | simp) rfl) (by decide)
        subst hb16
        have hb17 : b17 = false := by
          cases b17
          · rfl
          · exact absurd (show false = true from hcl 17 _ rfl rfl ⟨13, .data⟩ (by first | exact .head _ | simp) rfl) (by decide)
        subst hb17
        clear hall hcl hs hf
        have hw : w1 = W.drew := hF.out
        subst hw
        have hc := hs.out kd 1 rt l.length (by omega) (by omega) W.drew
        rw [z2h.out] at hc
        go_simp
        refine hc.mono ?_
        rintro e w2 ⟨rfl, rfl⟩
        exact hK _ _ ⟨true, true, true, true, true, true, true, true, true, true, true, true, true, true, b14, false, false, false, dummy, nov, rfl, rfl, rfl⟩
      · intro listed a w1 K hs hcl hf hall hI hK
        obtain ⟨b0, b1, b2, b3, b4, b5, b6, b7, b8, b9, b10, b11, b12, b13, b14, b15, b16, b17, dummy, nov, rfl, rfl, hF⟩ := hI
        have hf' : b14 = false := hf
        subst hf'
        have hq0 : b0 = true := hall ⟨0, .phase⟩ (by first | exact .head _ | simp) rfl
        subst hq0
        have hq1 : b1 = true := hall ⟨1, .phase⟩ (by first | exact .head _ | simp) rfl
        subst hq1
        have hq2 : b2 = true := hall ⟨2, .phase⟩ (by first | exact .head _ | simp) rfl
        subst hq2
        have hq3 : b3 = true := hall ⟨3, .phase⟩ (by first | exact .head _ | simp) rfl
        subst hq3
        have hq4 : b4 = true := hall ⟨4, .phase⟩ (by first | exact .head _ | simp) rfl
        subst hq4
        have hq5 : b5 = true := hall ⟨5, .phase⟩ (by first | exact .head _ | simp) rfl
        subst hq5
        have hq6 : b6 = true := hall ⟨6, .phase⟩ (by first | exact .head _ | simp) rfl
        subst hq6
        have hq7 : b7 = true := hall ⟨7, .phase⟩ (by first | exact .head _ | simp) rfl
        subst hq7
        have hq8 : b8 = true := hall ⟨8, .phase⟩ (by first | exact .head _ | simp) rfl
        subst hq8
        have hq9 : b9 = true := hall ⟨9, .phase⟩ (by first | exact .head _ | simp) rfl
        subst hq9
        have hq10 : b10 = true := hall ⟨10, .phase⟩ (by first | exact .head _ | simp) rfl
        subst hq10
        clear hall hcl hs hf
        go_simp
        exact hK _ _ ⟨true, true, true, true, true, true, true, true, true, true, true, b11, b12, b13, true, b15, b16, b17, dummy, nov, rfl, rfl, hF⟩
      · intro listed a w1 K hs hcl hf hall hI hK
        obtain ⟨b0, b1, b2, b3, b4, b5, b6, b7, b8, b9, b10, b11, b12, b13, b14, b15, b16, b17, dummy, nov, rfl, rfl, hF⟩ := hI
        have hf' : b15 = false := hf
        subst hf'
        have hq14 : b14 = true := hall ⟨14, .data⟩ (by first | exact .head _ | simp) rfl
        subst hq14
        have hq6 : b6 = true := hall ⟨6, .data⟩ (by first | exact .head _ | simp) rfl
        subst hq6
        have hq13 : b13 = true := hall ⟨13, .chain⟩ (by first | exact .head _ | simp) rfl
        subst hq13
        have hq0 : b0 = true := hall ⟨0, .phase⟩ (by first | exact .head _ | simp) rfl
        subst hq0
        have hq1 : b1 = true := hall ⟨1, .phase⟩ (by first | exact .head _ | simp) rfl
        subst hq1
        have hq2 : b2 = true := hall ⟨2, .phase⟩ (by first | exact .head _ | simp) rfl
        subst hq2
        have hq3 : b3 = true := hall ⟨3, .phase⟩ (by first | exact .head _ | simp) rfl
        subst hq3
        have hq4 : b4 = true := hall ⟨4, .phase⟩ (by first | exact .head _ | simp) rfl
        subst hq4
        have hq5 : b5 = true := hall ⟨5, .phase⟩ (by first | exact .head _ | simp) rfl
        subst hq5
        have hq7 : b7 = true := hall ⟨7, .phase⟩ (by first | exact .head _ | simp) rfl
        subst hq7
        have hq8 : b8 = true := hall ⟨8, .phase⟩ (by first | exact .head _ | simp) rfl
        subst hq8
        have hq9 : b9 = true := hall ⟨9, .phase⟩ (by first | exact .head _ | simp) rfl
        subst hq9
        have hq10 : b10 = true := hall ⟨10, .phase⟩ (by first | exact .head _ | simp) rfl
        subst hq10
        have hq12 : b12 = true := hcl 13 _ rfl rfl ⟨12, .data⟩ (by first | exact .head _ | simp) rfl
        subst hq12
        have hq11 : b11 = true := hcl 12 _ rfl rfl ⟨11, .data⟩ (by first | exact .head _ | simp) rfl
        subst hq11
        have hb16 : b16 = false := by
          cases b16
          · rfl
          · exact absurd (show false = true from hcl 16 _ rfl rfl ⟨15, .phase⟩ (by first | exact .head _ | simp) rfl) (by decide)
        subst hb16
        have hb17 : b17 = false := by
          cases b17
          · rfl
          · exact absurd (show false = true from hcl 17 _ rfl rfl ⟨15, .chain⟩ (by first | exact .head _ | simp) rfl) (by decide)
        subst hb17
        clear hall hcl hs hf
        have hw : w1 = W.drew := hF.out
        subst hw
        go_simp
        exact hK _ _ ⟨true, true, true, true, true, true, true, true, true, true, true, true, true, true, true, true, false, false, dummy, nov, rfl, rfl, rfl⟩
      · intro listed a w1 K hs hcl hf hall hI hK
        obtain ⟨b0, b1, b2, b3, b4, b5, b6, b7, b8, b9, b10, b11, b12, b13, b14, b15, b16, b17, dummy, nov, rfl, rfl, hF⟩ := hI
        have hf' : b16 = false := hf
        subst hf'
        have hq0 : b0 = true := hall ⟨0, .phase⟩ (by first | exact .head _ | simp) rfl
        subst hq0
        have hq1 : b1 = true := hall ⟨1, .phase⟩ (by first | exact .head _ | simp) rfl
        subst hq1
        have hq2 : b2 = true := hall ⟨2, .phase⟩ (by first | exact .head _ | simp) rfl
        subst hq2
        have hq3 : b3 = true := hall ⟨3, .phase⟩ (by first | exact .head _ | simp) rfl
        subst hq3
        have hq4 : b4 = true := hall ⟨4, .phase⟩ (by first | exact .head _ | simp) rfl
        subst hq4
        have hq5 : b5 = true := hall ⟨5, .phase⟩ (by first | exact .head _ | simp) rfl
        subst hq5
        have hq6 : b6 = true := hall ⟨6, .phase⟩ (by first | exact .head _ | simp) rfl
        subst hq6
        have hq7 : b7 = true := hall ⟨7, .phase⟩ (by first | exact .head _ | simp) rfl
        subst hq7
        have hq8 : b8 = true := hall ⟨8, .phase⟩ (by first | exact .head _ | simp) rfl
        subst hq8
        have hq9 : b9 = true := hall ⟨9, .phase⟩ (by first | exact .head _ | simp) rfl
        subst hq9
        have hq10 : b10 = true := hall ⟨10, .phase⟩ (by first | exact .head _ | simp) rfl
        subst hq10
        have hq11 : b11 = true := hall ⟨11, .phase⟩ (by first | exact .head _ | simp) rfl
        subst hq11
        have hq12 : b12 = true := hall ⟨12, .phase⟩ (by first | exact .head _ | simp) rfl
        subst hq12
        have hq13 : b13 = true := hall ⟨13, .phase⟩ (by first | exact .head _ | simp) rfl
        subst hq13
        have hq14 : b14 = true := hall ⟨14, .phase⟩ (by first | exact .head _ | simp) rfl
        subst hq14
        have hq15 : b15 = true := hall ⟨15, .phase⟩ (by first | exact .head _ | simp) rfl
        subst hq15
        clear hall hcl hs hf
        go_simp
        exact hK _ _ ⟨true, true, true, true, true, true, true, true, true, true, true, true, true, true, true, true, true, b17, dummy, nov, rfl, rfl, hF⟩
      · intro listed a w1 K hs hcl hf hall hI hK
        obtain ⟨b0, b1, b2, b3, b4, b5, b6, b7, b8, b9, b10, b11, b12, b13, b14, b15, b16, b17, dummy, nov, rfl, rfl, hF⟩ := hI
        have hf' : b17 = false := hf
        subst hf'
        have hq16 : b16 = true := hall ⟨16, .data⟩ (by first | exact .head _ | simp) rfl
        subst hq16
        have hq13 : b13 = true := hall ⟨13, .data⟩ (by first | exact .head _ | simp) rfl
        subst hq13
        have hq15 : b15 = true := hall ⟨15, .chain⟩ (by first | exact .head _ | simp) rfl
        subst hq15
        have hq0 : b0 = true := hall ⟨0, .phase⟩ (by first | exact .head _ | simp) rfl
        subst hq0
        have hq1 : b1 = true := hall ⟨1, .phase⟩ (by first | exact .head _ | simp) rfl
        subst hq1
        have hq2 : b2 = true := hall ⟨2, .phase⟩ (by first | exact .head _ | simp) rfl
        subst hq2
        have hq3 : b3 = true := hall ⟨3, .phase⟩ (by first | exact .head _ | simp) rfl
        subst hq3
        have hq4 : b4 = true := hall ⟨4, .phase⟩ (by first | exact .head _ | simp) rfl
        subst hq4
        have hq5 : b5 = true := hall ⟨5, .phase⟩ (by first | exact .head _ | simp) rfl
        subst hq5
        have hq6 : b6 = true := hall ⟨6, .phase⟩ (by first | exact .head _ | simp) rfl
        subst hq6
        have hq7 : b7 = true := hall ⟨7, .phase⟩ (by first | exact .head _ | simp) rfl
        subst hq7
        have hq8 : b8 = true := hall ⟨8, .phase⟩ (by first | exact .head _ | simp) rfl
        subst hq8
        have hq9 : b9 = true := hall ⟨9, .phase⟩ (by first | exact .head _ | simp) rfl
        subst hq9
        have hq10 : b10 = true := hall ⟨10, .phase⟩ (by first | exact .head _ | simp) rfl
        subst hq10
        have hq11 : b11 = true := hall ⟨11, .phase⟩ (by first | exact .head _ | simp) rfl
        subst hq11
        have hq12 : b12 = true := hall ⟨12, .phase⟩ (by first | exact .head _ | simp) rfl
        subst hq12
        have hq14 : b14 = true := hall ⟨14, .phase⟩ (by first | exact .head _ | simp) rfl
        subst hq14
        clear hall hcl hs hf
        have hw : w1 = W.drew.setCell ⟨g, 1, none⟩ (.int .i64 z1) := hF.out
        subst hw
        go_simp
        exact hK _ _ ⟨true, true, true, true, true, true, true, true, true, true, true, true, true, true, true, true, true, true, dummy, nov, rfl, rfl, rfl⟩
    · obtain rfl : i = r.length := by omega
      have ha := HA.out
      rw [List.take_length] at ha
      have HA2 := Lib.hid ha
      have hk36 : acc.length ≤ 68719476735 := by omega
      clear ha
      by_cases hr0 : 0 < r.length
      · have hr1 : (0 : Int) < r.length := by omega
        go_upto_region 11 with fail
        have oW := (Old.refl wr).alloc (.cells #[.int .i64 k, .int .i64 (l.length - 1), .int .i64 (l.length + r.length - 1), .int .u64 0, .int .u64 0, .int .u64 0, .int .u64 0] 114)
        have hb9 := heap_alloc_new wr (.cells #[.int .i64 k, .int .i64 (l.length - 1), .int .i64 (l.length + r.length - 1), .int .u64 0, .int .u64 0, .int .u64 0, .int .u64 0] 114)
        generalize wr.alloc (.cells #[.int .i64 k, .int .i64 (l.length - 1), .int .i64 (l.length + r.length - 1), .int .u64 0, .int .u64 0, .int .u64 0, .int .u64 0] 114) = W at *
        have d0 : W.cell? ⟨wr.heap.size, 0, none⟩ = some (.int .i64 k) := by rw [cell_of_row W _ 0 _ _ _ hb9]; rfl
        have d1 : W.cell? ⟨wr.heap.size, 1, none⟩ = some (.int .i64 (l.length - 1)) := by rw [cell_of_row W _ 1 _ _ _ hb9]; rfl
        have d2 : W.cell? ⟨wr.heap.size, 2, none⟩ = some (.int .i64 (l.length + r.length - 1)) := by rw [cell_of_row W _ 2 _ _ _ hb9]; rfl
        have d3 : W.cell? ⟨wr.heap.size, 3, none⟩ = some (.int .u64 0) := by rw [cell_of_row W _ 3 _ _ _ hb9]; rfl
        have d4 : W.cell? ⟨wr.heap.size, 4, none⟩ = some (.int .u64 0) := by rw [cell_of_row W _ 4 _ _ _ hb9]; rfl
        have d5 : W.cell? ⟨wr.heap.size, 5, none⟩ = some (.int .u64 0) := by rw [cell_of_row W _ 5 _ _ _ hb9]; rfl
        have d6 : W.cell? ⟨wr.heap.size, 6, none⟩ = some (.int .u64 0) := by rw [cell_of_row W _ 6 _ _ _ hb9]; rfl
        have HOw := Lib.hid (HO.out.up oW)
        have HDw := Lib.hid (HD.out.up oW)
        have hbW : w.heap.size ≤ W.heap.size := HDw.out.size
        have HR0 := Lib.hid hr0
        clear hb9 oW hr0 hr1 hlt
        go_wp2_with (at_builtin; refine wpList_push (wr := W) rfl _ _ 25 rfl _ 114 (.agg #[.int .i64 0, .int .i64 0, .int .i64 0, .int .u64 0, .int .u64 0, .int .u64 0, .int .u64 0]) 7 56 Try.underlying25 info_nd rfl (by decide) (by decide) _ _ _ rfl HOw.out 1 1 [.int .i64 k, .int .i64 (l.length - 1), .int .i64 (l.length + r.length - 1), .int .u64 0, .int .u64 0, .int .u64 0, .int .u64 0] rfl rfl rfl rfl ?pn2 hbW ?_)
        case pn2 => omega
        intro v' w5 ho5 hg5 hd5
        have HF := Lib.hid (Own.grown_old HDw.out HOw.out (Nat.le_refl _) hg5)
        have HV := Lib.hid ho5
        have HE : Hid (joinN k l r = acc ++ [⟨k, (l.length : Int) - 1, (l.length + r.length - 1), 0⟩]) := Lib.hid (by rw [HA2.out]; unfold joinN; first | rw [if_pos HR0.out] | rw [if_neg HR0.out])
        clear ho5 hg5 hd5
        go_wp2_with fail
        go_ret
        refine ⟨v', rfl, ?_, HF.out⟩
        rw [HE.out, ndsV_app, List.length_append]
        have := HV.out
        simpa [ndsV, ndCells, setW_zero] using this
      · have hr1 : ¬ (0 : Int) < r.length := by omega
        go_upto_region 11 with fail
        have oW := (Old.refl wr).alloc (.cells #[.int .i64 k, .int .i64 (l.length - 1), .int .i64 0, .int .u64 0, .int .u64 0, .int .u64 0, .int .u64 0] 114)
        have hb9 := heap_alloc_new wr (.cells #[.int .i64 k, .int .i64 (l.length - 1), .int .i64 0, .int .u64 0, .int .u64 0, .int .u64 0, .int .u64 0] 114)
        generalize wr.alloc (.cells #[.int .i64 k, .int .i64 (l.length - 1), .int .i64 0, .int .u64 0, .int .u64 0, .int .u64 0, .int .u64 0] 114) = W at *
        have d0 : W.cell? ⟨wr.heap.size, 0, none⟩ = some (.int .i64 k) := by rw [cell_of_row W _ 0 _ _ _ hb9]; rfl
        have d1 : W.cell? ⟨wr.heap.size, 1, none⟩ = some (.int .i64 (l.length - 1)) := by rw [cell_of_row W _ 1 _ _ _ hb9]; rfl
        have d2 : W.cell? ⟨wr.heap.size, 2, none⟩ = some (.int .i64 0) := by rw [cell_of_row W _ 2 _ _ _ hb9]; rfl
        have d3 : W.cell? ⟨wr.heap.size, 3, none⟩ = some (.int .u64 0) := by rw [cell_of_row W _ 3 _ _ _ hb9]; rfl
        have d4 : W.cell? ⟨wr.heap.size, 4, none⟩ = some (.int .u64 0) := by rw [cell_of_row W _ 4 _ _ _ hb9]; rfl
        have d5 : W.cell? ⟨wr.heap.size, 5, none⟩ = some (.int .u64 0) := by rw [cell_of_row W _ 5 _ _ _ hb9]; rfl
        have d6 : W.cell? ⟨wr.heap.size, 6, none⟩ = some (.int .u64 0) := by rw [cell_of_row W _ 6 _ _ _ hb9]; rfl
        have HOw := Lib.hid (HO.out.up oW)
        have HDw := Lib.hid (HD.out.up oW)
        have hbW : w.heap.size ≤ W.heap.size := HDw.out.size
        have HR0 := Lib.hid hr0
        clear hb9 oW hr0 hr1 hlt
        go_wp2_with (at_builtin; refine wpList_push (wr := W) rfl _ _ 25 rfl _ 114 (.agg #[.int .i64 0, .int .i64 0, .int .i64 0, .int .u64 0, .int .u64 0, .int .u64 0, .int .u64 0]) 7 56 Try.underlying25 info_nd rfl (by decide) (by decide) _ _ _ rfl HOw.out 1 1 [.int .i64 k, .int .i64 (l.length - 1), .int .i64 0, .int .u64 0, .int .u64 0, .int .u64 0, .int .u64 0] rfl rfl rfl rfl ?pn3 hbW ?_)
        case pn3 => omega
        intro v' w5 ho5 hg5 hd5
        have HF := Lib.hid (Own.grown_old HDw.out HOw.out (Nat.le_refl _) hg5)
        have HV := Lib.hid ho5
        have HE : Hid (joinN k l r = acc ++ [⟨k, (l.length : Int) - 1, 0, 0⟩]) := Lib.hid (by rw [HA2.out]; unfold joinN; first | rw [if_pos HR0.out] | rw [if_neg HR0.out])
        clear ho5 hg5 hd5
        go_wp2_with fail
        go_ret
        refine ⟨v', rfl, ?_, HF.out⟩
        rw [HE.out, ndsV_app, List.length_append]
        have := HV.out
        simpa [ndsV, ndCells, setW_zero] using this
end Go.Proofs.Ythadkjgadhbidaa
