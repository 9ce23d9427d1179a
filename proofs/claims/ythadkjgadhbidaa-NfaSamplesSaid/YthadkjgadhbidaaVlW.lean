/-
  The walks of regex.kids, regex.Valid.
-/
import Derived.Test.YthadkjgadhbidaaVlP
import Derived.Test.YthadkjgadhbidaaVlE
import Derived.Laws.CopyOwn
namespace Go.Proofs.Ythadkjgadhbidaa
open Go.RowKit
set_option linter.unusedVariables false

theorem info_i64v : (Try.prog.info? 3).map (fun i => (i.zero, i.size, i.bytes)) = some (some (.int .i64 0), 1, 8) := by kernel_rfl
def intz (l : List Int) : List Value := l.map (Value.int .i64)
theorem intz_length (l : List Int) : (intz l).length = l.length := by simp [intz]
set_option maxHeartbeats 2000000 in
set_option maxRecDepth 100000 in
theorem kidsIC (k : Int) (w : World) : Calls Try.prog 60 #[.int .i64 k] w (ValSame (.int .i64 (kidsI k)) w) := by
  have hk : k = 1 ∨ k = 2 ∨ k = 8 ∨ k = 9 ∨ k = 3 ∨ k = 4 ∨ k = 5 ∨ k = 6 ∨ k = 7 ∨ (k ≠ 3 ∧ k ≠ 4 ∧ k ≠ 5 ∧ k ≠ 6 ∧ k ≠ 7 ∧ k ≠ 1 ∧ k ≠ 2 ∧ k ≠ 8 ∧ k ≠ 9) := by omega
  rcases hk with rfl | rfl | rfl | rfl | rfl | rfl | rfl | rfl | rfl | ⟨n3, n4, n5, n6, n7, n1, n2, n8, n9⟩
  case inr.inr.inr.inr.inr.inr.inr.inr.inr =>
    have e : kidsI k = -1 := by unfold kidsI; rw [if_neg (by omega), if_neg (by omega), if_neg (by omega)]
    rw [e]
    have b3 : (k == 3) = false := by simpa using n3
    have b4 : (k == 4) = false := by simpa using n4
    have b5 : (k == 5) = false := by simpa using n5
    have b6 : (k == 6) = false := by simpa using n6
    have b7 : (k == 7) = false := by simpa using n7
    have b1 : (k == 1) = false := by simpa using n1
    have b2 : (k == 2) = false := by simpa using n2
    have b8 : (k == 8) = false := by simpa using n8
    have b9 : (k == 9) = false := by simpa using n9
    clear e n3 n4 n5 n6 n7 n1 n2 n8 n9
    go_enter Try.func60, Try.ntmps60
    go_wp2_with fail
    go_ret
    exact ⟨rfl, rfl⟩
  all_goals
    go_enter Try.func60, Try.ntmps60
    go_wp2_with fail
    go_ret
    exact ⟨rfl, rfl⟩
theorem intz_get (l : List Int) (i : Nat) : (intz l)[i]? = (l[i]?).map (Value.int .i64) := by simp [intz]
theorem splice_pair (L : List Int) (h : L.length ≤ 2) : splice [Value.int .i64 0, Value.int .i64 0] 0 (intz L) = [Value.int .i64 (L.getD 0 0), Value.int .i64 (L.getD 1 0)] := by
  rcases L with _ | ⟨a, _ | ⟨b, _ | ⟨c, L⟩⟩⟩
  · rfl
  · rfl
  · rfl
  · simp at h
theorem tail_src {W : World} {B cr m q : Nat} {Ar : Option Addr} {rs : List Int} (h : Own W B 3 1 (.slice Ar rs.length cr) rs.length (intz rs)) (hn : rs.length = m + q) (hc : rs.length ≤ cr) (W' : World) (ho : Old W W') :
    0 < (intz (rs.drop m)).length → ∃ ad, (if cr = m then Ar else Option.map (fun x => x.add m) Ar) = some ad ∧ ∀ j v, (intz (rs.drop m))[j]? = some v → W'.cell? (ad.add j) = some v := by
  intro h0
  rw [intz_length, List.length_drop] at h0
  obtain ⟨g, c', hv, _, _, _, _⟩ := h.form (by omega)
  injection hv with hA hn' hc'
  subst hA
  rw [if_neg (by omega)]
  refine ⟨_, rfl, fun j v hv => ?_⟩
  have hj : (intz rs)[m + j]? = some v := by
    rw [← hv, intz_get, intz_get, List.getElem?_drop]
  have := (h.cellAt (by subst hc'; exact hj)).1
  have := ho.cell this
  have e : (((fun x : Addr => x.add m) ⟨g, 0, none⟩).add j) = ⟨g, m + j, none⟩ := by
    by_cases e1 : m = 0 <;> by_cases e2 : j = 0 <;> simp [Addr.add, e1, e2]
  rw [e]; exact this
def ValidRel (w : World) (l : List Nd) (v ix : Value) (wr : World) : Prop :=
  ∃ (k : Nat) (rs : List Int), ix = .int .i64 k ∧ k ≤ l.length ∧ Hid (vrun l k = some rs) ∧ rs.length ≤ k ∧ Hid (Own wr w.heap.size 3 1 v rs.length (intz rs)) ∧ Hid (Old w wr)
set_option maxHeartbeats 4000000 in
set_option maxRecDepth 100000 in
theorem validC (A : Option Addr) (c : Nat) (l : List Nd) (w : World) (hr : Rs w A (ndsV l)) (hm : l.length ≤ maxLen) (hso : ∀ x ∈ l, setOk x.set) :
    Calls Try.prog 31 #[.slice A l.length c] w (ValOld (.bool (validM l)) w) := by
  have HR := Lib.hid hr
  unfold maxLen at hm
  clear hr
  by_cases h256 : l.length ≤ 256
  · have hlt : ¬ (256 : Int) < (l.length : Int) := by omega
    go_enter Try.func31, Try.ntmps31
    go_wp2_with fail
    go_loopw [3, 14] (fun s3 s14 wr => ValidRel w l s3 s14 wr) (fun _ s14 _ => l.length - (intOf s14).toNat)
    case atStart => exact ⟨0, [], rfl, Nat.zero_le _, rfl, Nat.zero_le _, Own.nil_ _ _ _ _, Old.refl _⟩
    case round =>
      obtain ⟨k, rs, rfl, hk, HV, hrl, HO, HD⟩ := hrel
      by_cases hlk : k < l.length
      · obtain ⟨b, off, rfl, hbl, hcl⟩ := (HR.out.up HD.out).at_ (by rw [ndsV_length]; omega)
        have hx : l[k]? = some (nd l k) := by unfold nd; rw [List.getD_eq_getElem?_getD, List.getElem?_eq_getElem hlk]; rfl
        have hg := ndsV_get l k _ hx
        obtain ⟨Ar, cr, rfl, htr, hcr, _⟩ := HO.out.shape
        have hvn : vrun l (k + 1) = vstep rs k (nd l k) := by rw [vrun, HV.out]
        have HVN := Lib.hid hvn
        have c0 := hcl _ _ (hg 0 (by omega))
        have c1 := hcl _ _ (hg 1 (by omega))
        have c2 := hcl _ _ (hg 2 (by omega))
        have c3 := hcl _ _ (hg 3 (by omega))
        have c4 := hcl _ _ (hg 4 (by omega))
        have c5 := hcl _ _ (hg 5 (by omega))
        have c6 := hcl _ _ (hg 6 (by omega))
        rw [← Nat.add_assoc] at c0 c1 c2 c3 c4 c5 c6
        rw [Nat.add_zero] at c0
        have hst := hso _ (List.mem_of_getElem? hx)
        have HX := Lib.hid hx
        clear hx hg hcl hvn
        generalize nd l k = x at *
        obtain ⟨kd, lf, rt, st⟩ := x
        replace c0 : wr.cell? ⟨b, off + k * 7, none⟩ = some (.int .i64 kd) := c0
        replace c1 : wr.cell? ⟨b, off + k * 7 + 1, none⟩ = some (.int .i64 lf) := c1
        replace c2 : wr.cell? ⟨b, off + k * 7 + 2, none⟩ = some (.int .i64 rt) := c2
        replace c3 : wr.cell? ⟨b, off + k * 7 + 3, none⟩ = some (.int .u64 (setW st 0)) := c3
        replace c4 : wr.cell? ⟨b, off + k * 7 + 4, none⟩ = some (.int .u64 (setW st 1)) := c4
        replace c5 : wr.cell? ⟨b, off + k * 7 + 5, none⟩ = some (.int .u64 (setW st 2)) := c5
        replace c6 : wr.cell? ⟨b, off + k * 7 + 6, none⟩ = some (.int .u64 (setW st 3)) := c6
        have i1 : (0 : Int) ≤ (k : Int) := by omega
        have i2 : (k : Int) < (l.length : Int) := by omega
        go_upto_region 7 with fail
        have hb5 := heap_alloc_new wr (.cells #[.int .i64 kd, .int .i64 lf, .int .i64 rt, .int .u64 (setW st 0), .int .u64 (setW st 1), .int .u64 (setW st 2), .int .u64 (setW st 3)] 114)
        have oW := (Old.refl wr).alloc (.cells #[.int .i64 kd, .int .i64 lf, .int .i64 rt, .int .u64 (setW st 0), .int .u64 (setW st 1), .int .u64 (setW st 2), .int .u64 (setW st 3)] 114)
        generalize wr.alloc (.cells #[.int .i64 kd, .int .i64 lf, .int .i64 rt, .int .u64 (setW st 0), .int .u64 (setW st 1), .int .u64 (setW st 2), .int .u64 (setW st 3)] 114) = W at *
        clear c0 c1 c2 c3 c4 c5 c6
        have d0 : W.cell? ⟨wr.heap.size, 0, none⟩ = some (.int .i64 kd) := by rw [cell_of_row W _ 0 _ _ _ hb5]; rfl
        have d1 : W.cell? ⟨wr.heap.size, 1, none⟩ = some (.int .i64 lf) := by rw [cell_of_row W _ 1 _ _ _ hb5]; rfl
        have d2 : W.cell? ⟨wr.heap.size, 2, none⟩ = some (.int .i64 rt) := by rw [cell_of_row W _ 2 _ _ _ hb5]; rfl
        have d3 : W.cell? ⟨wr.heap.size, 3, none⟩ = some (.int .u64 (setW st 0)) := by rw [cell_of_row W _ 3 _ _ _ hb5]; rfl
        have d4 : W.cell? ⟨wr.heap.size, 4, none⟩ = some (.int .u64 (setW st 1)) := by rw [cell_of_row W _ 4 _ _ _ hb5]; rfl
        have d5 : W.cell? ⟨wr.heap.size, 5, none⟩ = some (.int .u64 (setW st 2)) := by rw [cell_of_row W _ 5 _ _ _ hb5]; rfl
        have d6 : W.cell? ⟨wr.heap.size, 6, none⟩ = some (.int .u64 (setW st 3)) := by rw [cell_of_row W _ 6 _ _ _ hb5]; rfl
        have HB5 := Lib.hid hb5
        have HOW := Lib.hid oW
        clear hb5 oW
        have hst' : setOk st := hst
        have hz := fun W => set_zero st hst' W
        clear hst
        by_cases hbad : kd ≠ 2 ∧ st ≠ 0
        · have n2 : (kd != 2) = true := by simpa using hbad.1
          have n3 : decide (st = 0) = false := decide_eq_false hbad.2
          simp only [n3] at hz
          have HN : Hid (validM l = false) := Lib.hid (by
            unfold validM
            rw [vrun_none (k := k + 1) (m := l.length) (by rw [HVN.out, vstep, if_pos hbad]) (by omega)]
            simp)
          go_wp2_with fail
          go_ret
          rw [HN.out]
          exact ⟨rfl, HD.out.up HOW.out⟩
        have hgood : (kd != 2) = false ∨ ((kd != 2) = true ∧ decide (st = 0) = true) := by
          by_cases e : kd = 2
          · exact Or.inl (by simp [e])
          · exact Or.inr ⟨by simpa using e, by
              by_cases e2 : st = 0
              · simp [e2]
              · exact absurd ⟨e, e2⟩ hbad⟩
        have HBD := Lib.hid hbad
        clear hbad
        have HOm := HO.out.up HOW.out
        have HDm := HD.out.up HOW.out
        have hww := HD.out.size
        have HOM := Lib.hid HOm
        have HDM := Lib.hid HDm
        have HWW := Lib.hid hww
        clear HOm HDm hww HO HD HR htr
        generalize hq0 : kidsI kd = q
        have hq : q ≤ 2 := by subst hq0; unfold kidsI; split; omega; split; omega; split <;> omega
        rcases hgood with n2 | ⟨n2, n3⟩
        all_goals
          try simp only [n3] at hz
          go_upto_region 9 with fail
          go_wp2_with fail
          refine (kidsIC kd _).mono ?_; rintro e V ⟨rfl, rfl⟩
          by_cases hneg : q < 0
          · have HN : Hid (validM l = false) := Lib.hid (by
              unfold validM
              rw [vrun_none (k := k + 1) (m := l.length) (by rw [HVN.out, vstep, if_neg HBD.out, if_pos (Or.inl (by rw [hq0]; exact hneg))]) (by omega)]
              simp)
            go_wp2_with fail
            go_ret
            rw [HN.out]
            exact ⟨rfl, HDM.out⟩
          · by_cases hlen : (rs.length : Int) < q
            · have HN : Hid (validM l = false) := Lib.hid (by
                unfold validM
                rw [vrun_none (k := k + 1) (m := l.length) (by rw [HVN.out, vstep, if_neg HBD.out, if_pos (Or.inr (by rw [hq0]; exact hlen))]) (by omega)]
                simp)
              go_wp2_with fail
              go_ret
              rw [HN.out]
              exact ⟨rfl, HDM.out⟩
            · obtain ⟨qn, rfl⟩ : ∃ qn : Nat, q = (qn : Int) := ⟨q.toNat, by omega⟩
              obtain ⟨m, hmq⟩ : ∃ m, rs.length = m + qn := ⟨rs.length - qn, by omega⟩
              have hE : (rs.length : Int) - (qn : Int) = (m : Int) := by omega
              have j1 : (0 : Int) ≤ (m : Int) := by omega
              have j2 : (m : Int) ≤ (rs.length : Int) := by omega
              have j3 : (m : Int) ≤ (m : Int) + (qn : Int) := by omega
              have hq2 : qn ≤ 2 := by omega
              have hH := heap_alloc_new W (.cells #[.int .i64 0, .int .i64 0] 115)
              have hOl := (Old.refl W).alloc (.cells #[.int .i64 0, .int .i64 0] 115)
              go_upto_region 14 with fail
              generalize hW1 : W.alloc (.cells #[.int .i64 0, .int .i64 0] 115) = W1 at *
              have HH := Lib.hid hH
              have HOL := Lib.hid hOl
              have HMQ := Lib.hid hmq
              have HCR := Lib.hid hcr
              clear hH hOl hW1 hcr
              go_region_law (refine step_copy_splice rfl (.tmp 43) (.tmp 46) 22 22 rfl 3 Try.underlying22 (by kernel_rfl) _ _ _ _ _ _ rfl rfl W.heap.size 0 [.int .i64 0, .int .i64 0] 115 HH.out (intz (rs.drop m)) (by rw [intz_length, List.length_drop, HMQ.out, Nat.add_sub_cancel_left]; exact (Nat.min_eq_left hq2).symm) (fun h0 => ⟨rfl, tail_src HOM.out HMQ.out HCR.out _ HOL.out.drew h0⟩) (by rw [intz_length, List.length_drop, HMQ.out]; simp; omega) (by intro v hv; obtain ⟨x, _, rfl⟩ := List.mem_map.mp hv; rfl) W.heap.size W HOL.out.drew (Nat.le_refl _) ?_; intro w4 hg4 hb4)
              generalize (if cr = m then Ar else Option.map (fun x => x.add m) Ar) = As
              rw [splice_pair _ (by rw [List.length_drop, HMQ.out]; omega)] at hg4
              have hg5 := hg4.out
              have hb5 : Old W w4 := hb4
              clear hg4 hb4
              have e1 := hb5.cell d1
              have e2 := hb5.cell d2
              have f0 : w4.cell? ⟨W.heap.size, 0, none⟩ = some (.int .i64 ((rs.drop m).getD 0 0)) := by rw [cell_of_row w4 _ 0 _ _ _ hg5]; rfl
              have f1 : w4.cell? ⟨W.heap.size, 1, none⟩ = some (.int .i64 ((rs.drop m).getD 1 0)) := by rw [cell_of_row w4 _ 1 _ _ _ hg5]; rfl
              have HVS : Hid (∀ b : Bool, b = (lf != (rs.drop m).getD 0 0 || rt != (rs.drop m).getD 1 0) → vrun l (k + 1) = if b then none else some (rs.take m ++ [(k : Int)])) := Lib.hid (by
                rintro b rfl
                rw [HVN.out, vstep, if_neg HBD.out, if_neg (by rw [hq0]; omega)]
                simp only [hq0, Int.toNat_natCast, HMQ.out, Nat.add_sub_cancel]
                simp)
              generalize (rs.drop m).getD 0 0 = p0 at *
              generalize (rs.drop m).getD 1 0 = p1 at *
              have HB5' := Lib.hid hb5
              clear d0 d1 d2 d3 d4 d5 d6 hg5 hb5 hz HVN
              by_cases g0 : lf = p0
              · have b0 : (lf != p0) = false := by simp [g0]
                by_cases g1 : rt = p1
                · have b1 : (rt != p1) = false := by simp [g1]
                  have HVV : Hid (vrun l (k + 1) = some (rs.take m ++ [(k : Int)])) := Lib.hid (by rw [HVS.out false (by rw [b0, b1]; rfl)]; rfl)
                  clear g0 g1
                  have HBS : Hid (Own w4 w.heap.size 3 1 (.slice Ar m cr) m (intz (rs.take m))) := Lib.hid (by
                    have h := (HOM.out.up HB5'.out).shrink (i := m) (by rw [HMQ.out]; omega)
                    rw [Nat.mul_one] at h
                    have e : (intz rs).take m = intz (rs.take m) := by unfold intz; rw [List.map_take]
                    rw [e] at h
                    exact h)
                  have HDE : Hid (Old w w4) := Lib.hid (HDM.out.up HB5'.out)
                  have HDS : Hid (w.heap.size ≤ w4.heap.size) := Lib.hid HDE.out.size
                  have hml : m ≤ 256 := by have := HMQ.out; omega
                  have j4 : (m : Int) ≤ (cr : Int) := by have := HMQ.out; have := HCR.out; omega
                  go_upto_region 17 with fail
                  go_wp2_with (at_builtin; refine wpList_push (wr := w4) rfl _ _ 22 rfl _ 3 (.int .i64 0) 1 8 Try.underlying22 info_i64v rfl (by decide) (by decide) _ _ _ rfl HBS.out 1 1 [.int .i64 (k : Int)] rfl rfl rfl rfl ?pn1 HDS.out ?_)
                  case pn1 => omega
                  intro v' w5 ho hg hd
                  have HF : Hid (ValidRel w l v' (.int .i64 ((k + 1 : Nat) : Int)) w5) := Lib.hid ⟨k + 1, rs.take m ++ [(k : Int)], rfl, by omega, HVV, by have := HMQ.out; simp; omega, Lib.hid (by
                    have e : intz (rs.take m ++ [(k : Int)]) = intz (rs.take m) ++ [.int .i64 (k : Int)] := by unfold intz; rw [List.map_append]; rfl
                    have e2 : (rs.take m ++ [(k : Int)]).length = m + 1 := by have := HMQ.out; simp; omega
                    rw [e, e2]
                    exact ho), Lib.hid (hd w HDE.out (Nat.le_refl _))⟩
                  clear ho hg hd
                  go_wp2_with fail
                  go_roundw
                  case rel => exact HF.out
                  case measure => simp [intOf]; omega
                · have b1 : (rt != p1) = true := by simpa using g1
                  have HN : Hid (validM l = false) := Lib.hid (by
                    unfold validM
                    rw [vrun_none (k := k + 1) (m := l.length) (by rw [HVS.out true (by rw [b0, b1]; rfl)]; rfl) (by omega)]
                    simp)
                  clear g0 g1
                  go_wp2_with fail
                  go_ret
                  rw [HN.out]
                  exact ⟨rfl, HDM.out.up HB5'.out⟩
              · have b0 : (lf != p0) = true := by simpa using g0
                have HN : Hid (validM l = false) := Lib.hid (by
                  unfold validM
                  rw [vrun_none (k := k + 1) (m := l.length) (by rw [HVS.out true (by rw [b0]; rfl)]; rfl) (by omega)]
                  simp)
                clear g0
                go_wp2_with fail
                go_ret
                rw [HN.out]
                exact ⟨rfl, HDM.out.up HB5'.out⟩
      · obtain rfl : k = l.length := by omega
        obtain ⟨Ar, cr, rfl, htr, hcr, _⟩ := HO.out.shape
        have HE : Hid (validM l = (rs.length == 1)) := Lib.hid (by unfold validM; rw [HV.out, decide_eq_true h256]; rfl)
        go_wp2_with fail
        go_ret
        rw [HE.out]
        exact ⟨ret_bool' (by rw [Bool.eq_iff_iff]; simp; omega), HD.out⟩
  · have hlt : (256 : Int) < (l.length : Int) := by omega
    have HE : Hid (validM l = false) := Lib.hid (by unfold validM; rw [decide_eq_false h256]; rfl)
    clear h256
    go_enter Try.func31, Try.ntmps31
    go_wp2_with fail
    go_ret
    rw [HE.out]
    exact ⟨rfl, Old.refl _⟩
end Go.Proofs.Ythadkjgadhbidaa
