/-
  The walks of the reference's SameInts and Same, on replies that read.
-/
import Derived.Test.YtlpaemlgmmmbmaaTqY
namespace Go.Proofs.Ytlpaemlgmmmbmaa
open Go.RowKit Go.Maps
set_option linter.unusedVariables false

theorem intv_get (l : List Int) (i : Nat) (h : i < l.length) : (intv l)[i]? = some (.int .i64 (l.getD i 0)) := by
  simp [intv, List.getElem?_map, List.getElem?_eq_getElem h, List.getD_eq_getElem?_getD]
theorem take_step {α : Type} {a b : List α} {k : Nat} (h : a.take k = b.take k) (ha : k < a.length) (hb : k < b.length) (he : a[k] = b[k]) : a.take (k + 1) = b.take (k + 1) := by
  rw [List.take_succ_eq_append_getElem ha, List.take_succ_eq_append_getElem hb, h, he]
theorem getD_at {α : Type} (l : List α) (k : Nat) (d : α) (h : k < l.length) : l.getD k d = l[k] := by
  rw [List.getD_eq_getElem?_getD, List.getElem?_eq_getElem h]; rfl

def BoolDraw (b : Bool) (w : World) (e : Ending) (w' : World) : Prop := e = .returned (.bool b) ∧ ∃ k, w' = w.drewN k
set_option maxRecDepth 100000 in
theorem sameInts (A A' : Option Addr) (c c' : Nat) (a b : List Int) (w : World) (ha : Rs w A (intv a)) (hb : Rs w A' (intv b)) (hm : a.length ≤ maxLen) (hm' : b.length ≤ maxLen) :
    Calls Try.prog 35 #[.slice A a.length c, .slice A' b.length c'] w (BoolDraw (decide (a = b)) w) := by
  unfold maxLen at hm hm'
  by_cases hl : a.length = b.length
  · have hne : ((a.length : Int) != (b.length : Int)) = false := by simp [hl]
    have HA := Lib.hid ha
    have HB := Lib.hid hb
    have HL := Lib.hid hl
    clear ha hb hl
    go_enter Try.func35, Try.ntmps35
    go_wp2_with fail
    go_loopw [5] (fun i wr => ∃ k m : Nat, k ≤ a.length ∧ i = .int .i64 k ∧ wr = w.drewN m ∧ Hid (a.take k = b.take k)) (fun i _ => a.length - (intOf i).toNat)
    case atStart => exact ⟨0, 0, Nat.zero_le _, rfl, rfl, by simp [Hid]⟩
    case round =>
      obtain ⟨k, m, hk, rfl, hwr, HE⟩ := hrel
      have HW := Lib.hid hwr
      clear hwr
      by_cases hlt : k < a.length
      · have hlt' : k < b.length := by have := HL.out; omega
        obtain ⟨ba, oa, rfl, _, hca⟩ := HA.out.at_ (by rw [intv_length]; omega)
        obtain ⟨bb, ob, rfl, _, hcb⟩ := HB.out.at_ (by rw [intv_length]; omega)
        have c1 : wr.cell? ⟨ba, oa + k, none⟩ = some (.int .i64 (a.getD k 0)) := by rw [HW.out]; exact hca _ _ (intv_get a k hlt)
        have c2 : wr.cell? ⟨bb, ob + k, none⟩ = some (.int .i64 (b.getD k 0)) := by rw [HW.out]; exact hcb _ _ (intv_get b k hlt')
        have i0 : (0 : Int) ≤ (k : Int) := by omega
        have i1 : (k : Int) < (a.length : Int) := by omega
        have i2 : (k : Int) < (b.length : Int) := by omega
        have hx : a.getD k 0 = a[k] := getD_at a k 0 hlt
        have hy : b.getD k 0 = b[k] := getD_at b k 0 hlt'
        generalize a.getD k 0 = x at *
        generalize b.getD k 0 = y at *
        have HX := Lib.hid hx
        have HY := Lib.hid hy
        clear hx hy hca hcb
        by_cases he : x = y
        · subst he
          go_wp2_with fail
          go_quiet (fail)
          go_wp2_with fail
          go_roundw
          case rel => exact ⟨k + 1, m + _, by omega, by go_num, by rw [HW.out, World.drewN_drewN], take_step HE.out hlt hlt' (HX.out.symm.trans HY.out)⟩
          case measure => simp [intOf]; omega
        · have hne2 : (x != y) = true := by simpa using he
          have hab : decide (a = b) = false := by
            apply decide_eq_false
            intro e
            subst e
            exact he (HX.out.trans HY.out.symm)
          have HAB := Lib.hid hab
          clear hab
          go_wp2_with fail
          go_quiet (fail)
          go_wp2_with fail
          go_ret
          rw [HAB.out]
          exact ⟨rfl, _, by rw [HW.out, World.drewN_drewN]⟩
      · obtain rfl : k = a.length := by omega
        have hab : decide (a = b) = true := by
          apply decide_eq_true
          have := HE.out
          rw [List.take_length, HL.out, List.take_length] at this
          exact this
        have HAB := Lib.hid hab
        clear hab
        go_wp2_with fail
        go_ret
        rw [HAB.out]
        exact ⟨rfl, _, HW.out⟩
  · have hne : ((a.length : Int) != (b.length : Int)) = true := by simpa using (show ¬ (a.length : Int) = (b.length : Int) by omega)
    have hab : decide (a = b) = false := by
      apply decide_eq_false
      intro e
      subst e
      exact hl rfl
    rw [hab]
    clear ha hb hab
    go_enter Try.func35, Try.ntmps35
    go_wp2_with fail
    go_ret
    exact ⟨rfl, 0, rfl⟩

/-- Replies that read. -/
def RepS (w : World) (rs : List Rep) (cs : List Value) : Prop := cs.length = rs.length * 3 ∧ ∀ i r, rs[i]? = some r → ∃ A c, cs[i * 3]? = some (.int .i64 r.code) ∧ cs[i * 3 + 1]? = some (.slice A r.fired.length c) ∧ cs[i * 3 + 2]? = some (.int .u64 r.at_) ∧ Rs w A (intv r.fired) ∧ r.fired.length ≤ c ∧ c ≤ maxLen
theorem RepL.repS {w : World} {base : Nat} : ∀ {rs : List Rep} {cs : List Value}, RepL w base rs cs → RepS w rs cs
  | [], cs, h => by
    have h' : cs = [] := h
    subst h'
    exact ⟨rfl, fun i r h => by simp at h⟩
  | r :: rs, cs, ⟨fv, cs', h1, h2, h3⟩ => by
    obtain ⟨k1, k2⟩ := RepL.repS h3
    refine ⟨by rw [h1]; simp; omega, ?_⟩
    intro i r' hr
    cases i with
    | zero =>
      simp at hr
      subst hr
      obtain ⟨A, c, rfl, ht, hn, hm⟩ := h2.shape
      exact ⟨A, c, by rw [h1]; rfl, by rw [h1]; rfl, by rw [h1]; rfl, ht.rs, hn, hm⟩
    | succ i =>
      obtain ⟨A, c, a1, a2, a3, a4⟩ := k2 i r' (by simpa using hr)
      refine ⟨A, c, ?_, ?_, ?_, a4⟩ <;> rw [h1]
      · rw [show (i + 1) * 3 = i * 3 + 1 + 1 + 1 by omega]; simpa using a1
      · rw [show (i + 1) * 3 + 1 = (i * 3 + 1) + 1 + 1 + 1 by omega]; simpa using a2
      · rw [show (i + 1) * 3 + 2 = (i * 3 + 2) + 1 + 1 + 1 by omega]; simpa using a3
theorem RepS.up {w w' : World} {rs : List Rep} {cs : List Value} (h : RepS w rs cs) (hk : ∀ p : Addr, ∀ u, w.cell? p = some u → w'.cell? p = some u) : RepS w' rs cs :=
  ⟨h.1, fun i r hr => by obtain ⟨A, c, a1, a2, a3, a4, a5⟩ := h.2 i r hr; exact ⟨A, c, a1, a2, a3, a4.keep hk, a5⟩⟩
deriving instance DecidableEq for Rep

set_option maxHeartbeats 1000000 in
set_option maxRecDepth 100000 in
theorem sameReps (A A' : Option Addr) (c c' : Nat) (a b : List Rep) (ca cb : List Value) (w : World) (ha : Rs w A ca) (hb : Rs w A' cb) (hra : RepS w a ca) (hrb : RepS w b cb) (hm : a.length ≤ maxLen) (hm' : b.length ≤ maxLen) :
    Calls Try.prog 32 #[.slice A a.length c, .slice A' b.length c'] w (BoolDraw (decide (a = b)) w) := by
  unfold maxLen at hm hm'
  by_cases hl : a.length = b.length
  · have hne : ((a.length : Int) != (b.length : Int)) = false := by simp [hl]
    have HA := Lib.hid ha
    have HB := Lib.hid hb
    have HRA := Lib.hid hra
    have HRB := Lib.hid hrb
    have HL := Lib.hid hl
    clear ha hb hl hra hrb
    go_enter Try.func32, Try.ntmps32
    go_wp2_with fail
    go_loopw [5] (fun i wr => ∃ k m : Nat, k ≤ a.length ∧ i = .int .i64 k ∧ wr = w.drewN m ∧ Hid (a.take k = b.take k)) (fun i _ => a.length - (intOf i).toNat)
    case atStart => exact ⟨0, 0, Nat.zero_le _, rfl, rfl, by simp [Hid]⟩
    case round =>
      obtain ⟨k, m, hk, rfl, hwr, HE⟩ := hrel
      have HW := Lib.hid hwr
      clear hwr
      by_cases hlt : k < a.length
      · have hlt' : k < b.length := by have := HL.out; omega
        obtain ⟨ba, oa, rfl, _, hca⟩ := HA.out.at_ (by rw [HRA.out.1]; omega)
        obtain ⟨bb, ob, rfl, _, hcb⟩ := HB.out.at_ (by rw [HRB.out.1]; omega)
        obtain ⟨Fa, da, x0, x1, x2, x3, x4, x5⟩ := HRA.out.2 k _ (List.getElem?_eq_getElem hlt)
        obtain ⟨Fb, db, y0, y1, y2, y3, y4, y5⟩ := HRB.out.2 k _ (List.getElem?_eq_getElem hlt')
        have c0 : wr.cell? ⟨ba, oa + k * 3, none⟩ = some (.int .i64 a[k].code) := by rw [HW.out]; exact hca _ _ x0
        have c1 : wr.cell? ⟨ba, oa + k * 3 + 1, none⟩ = some (.slice Fa a[k].fired.length da) := by rw [HW.out, Nat.add_assoc]; exact hca _ _ x1
        have c2 : wr.cell? ⟨ba, oa + k * 3 + 2, none⟩ = some (.int .u64 a[k].at_) := by rw [HW.out, Nat.add_assoc]; exact hca _ _ x2
        have d0 : wr.cell? ⟨bb, ob + k * 3, none⟩ = some (.int .i64 b[k].code) := by rw [HW.out]; exact hcb _ _ y0
        have d1 : wr.cell? ⟨bb, ob + k * 3 + 1, none⟩ = some (.slice Fb b[k].fired.length db) := by rw [HW.out, Nat.add_assoc]; exact hcb _ _ y1
        have d2 : wr.cell? ⟨bb, ob + k * 3 + 2, none⟩ = some (.int .u64 b[k].at_) := by rw [HW.out, Nat.add_assoc]; exact hcb _ _ y2
        have i0 : (0 : Int) ≤ (k : Int) := by omega
        have i1 : (k : Int) < (a.length : Int) := by omega
        have i2 : (k : Int) < (b.length : Int) := by omega
        have hS := fun n => sameInts Fa Fb da db a[k].fired b[k].fired (wr.drewN n) (by rw [HW.out]; exact x3) (by rw [HW.out]; exact y3) (Nat.le_trans x4 x5) (Nat.le_trans y4 y5)
        have hst := fun (h : a[k] = b[k]) => take_step HE.out hlt hlt' h
        have hab : ¬ a[k] = b[k] → decide (a = b) = false := fun h => by
          apply decide_eq_false
          intro e
          subst e
          exact h rfl
        have HST := Lib.hid hst
        have HAB := Lib.hid hab
        clear hca hcb x0 x1 x2 x3 x4 x5 y0 y1 y2 y3 y4 y5 hst hab
        generalize a[k] = ra at *
        generalize b[k] = rb at *
        obtain ⟨c0', f0', t0'⟩ := ra
        obtain ⟨c1', f1', t1'⟩ := rb
        simp only at *
        by_cases hc : c0' = c1'
        · subst hc
          by_cases ht : t0' = t1'
          · subst ht
            by_cases hf : f0' = f1'
            · have hd : decide (f0' = f1') = true := decide_eq_true hf
              rw [hd] at hS
              have HS := Lib.hid hS
              have HF := Lib.hid hf
              clear hS hd hf
              go_wp2_with fail
              go_quiet ((go_at_call 35; exact quiet_draws (HS.out _)))
              go_wp2_with fail
              go_roundw
              case rel => exact ⟨k + 1, m + _, by omega, by go_num, by rw [HW.out, World.drewN_drewN], HST.out (by rw [HF.out])⟩
              case measure => simp [intOf]; omega
            · have hd : decide (f0' = f1') = false := decide_eq_false hf
              rw [hd] at hS
              have HS := Lib.hid hS
              have hab := HAB.out (by intro e; injection e with _ e; exact hf e)
              have HAB2 := Lib.hid hab
              clear hS hd hf hab
              go_wp2_with fail
              go_quiet ((go_at_call 35; exact quiet_draws (HS.out _)))
              go_wp2_with fail
              go_ret
              rw [HAB2.out]
              exact ⟨rfl, _, by rw [HW.out, World.drewN_drewN]⟩
          · have hne2 : (t0' != t1') = true := by simpa using ht
            have HAB2 := Lib.hid (HAB.out (by intro e; injection e with _ _ e; exact ht e))
            clear hS
            go_wp2_with fail
            go_quiet (fail)
            go_wp2_with fail
            go_ret
            rw [HAB2.out]
            exact ⟨rfl, _, by rw [HW.out, World.drewN_drewN]⟩
        · have hne2 : (c0' != c1') = true := by simpa using hc
          have HAB2 := Lib.hid (HAB.out (by intro e; injection e with e; exact hc e))
          clear hS
          go_wp2_with fail
          go_quiet (fail)
          go_wp2_with fail
          go_ret
          rw [HAB2.out]
          exact ⟨rfl, _, by rw [HW.out, World.drewN_drewN]⟩
      · obtain rfl : k = a.length := by omega
        have hab : decide (a = b) = true := by
          apply decide_eq_true
          have := HE.out
          rw [List.take_length, HL.out, List.take_length] at this
          exact this
        have HAB := Lib.hid hab
        clear hab
        go_wp2_with fail
        go_ret
        rw [HAB.out]
        exact ⟨rfl, _, HW.out⟩
  · have hne : ((a.length : Int) != (b.length : Int)) = true := by simpa using (show ¬ (a.length : Int) = (b.length : Int) by omega)
    have hab : decide (a = b) = false := by
      apply decide_eq_false
      intro e
      subst e
      exact hl rfl
    rw [hab]
    clear ha hb hab hra hrb
    go_enter Try.func32, Try.ntmps32
    go_wp2_with fail
    go_ret
    exact ⟨rfl, 0, rfl⟩
end Go.Proofs.Ytlpaemlgmmmbmaa
