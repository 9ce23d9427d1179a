/-
  The walks of lang's lineStart and Ends.
-/
import Derived.Test.YtaajgdhoffhdcaaLnN
import Derived.Test.YtaajgdhoffhdcaaLnS
import Derived.Test.YtaajgdhoffhdcaaLnV
import Derived.Test.YtaajgdhoffhdcaaTxt
namespace Go.Proofs.Ytaajgdhoffhdcaa
open Go.RowKit
set_option linter.unusedVariables false

set_option maxHeartbeats 2000000 in
set_option maxRecDepth 100000 in
theorem lineStartC (A : Option Addr) (c : Nat) (t : List Nat) (w : World) (hr : Rs w A (txt t)) (hm : t.length ≤ maxLen) (i : Nat) (hi : i ≤ t.length) :
    Calls Try.prog 46 #[.slice A t.length c, .int .i64 (i : Int)] w (ValSame (.bool (bolT t i)) w) := by
  unfold maxLen at hm
  rcases Nat.eq_zero_or_pos i with rfl | h0
  · have e : bolT t 0 = true := rfl
    rw [e]
    clear e hr
    go_enter Try.func46, Try.ntmps46
    go_wp2_with fail
    go_ret
    exact ⟨rfl, rfl⟩
  · obtain ⟨j, rfl⟩ : ∃ j, i = j + 1 := ⟨i - 1, by omega⟩
    obtain ⟨b, off, rfl, hbl, hcl⟩ := hr.at_ (by rw [txt_length]; omega)
    have c0 := hcl _ _ (txt_get t j (by omega))
    have e : bolT t (j + 1) = (t.getD j 0 == 10) := by unfold bolT; simp
    rw [e]
    have e2 : ((((t.getD j 0 : Nat) : Int) == 10)) = (t.getD j 0 == 10) := by rw [Bool.eq_iff_iff, beq_iff_eq, beq_iff_eq]; omega
    rw [← e2]
    generalize t.getD j 0 = x at *
    have b0 : ((((j + 1 : Nat) : Int)) == 0) = false := by simp; omega
    have hp : ((j + 1 : Nat) : Int) - 1 = (j : Int) := by omega
    have i1 : (0 : Int) ≤ (j : Int) := by omega
    have i2 : (j : Int) < (t.length : Int) := by omega
    clear hcl hr e e2 h0
    go_enter Try.func46, Try.ntmps46
    go_wp2_with fail
    go_ret
    exact ⟨rfl, rfl⟩

/-- The row of places lies apart from the walker. -/
def Apart (v lv : Value) (g gp gm : Nat) : Prop := ∀ k, v.ownBlock = some k → k ≠ g ∧ k ≠ gp ∧ k ≠ gm ∧ lv.ownBlock ≠ some k
theorem Apart.kept {w w' : World} {v lv lv' : Value} {g gp gm base n s : Nat} {e : TypeId} {xs : List Value} (h : Apart v lv g gp gm) (ho : Own w base e s v n xs) (k : Kept w w' g gm lv lv') : Apart v lv' g gp gm ∧ Own w' base e s v n xs := by
  constructor
  · intro j hj
    obtain ⟨h1, h2, h3, h4⟩ := h j hj
    refine ⟨h1, h2, h3, fun e => ?_⟩
    rcases k.row j e with e | e
    · exact h4 e
    · have := (World.ownsRow.lt ho j hj).2
      omega
  · rcases ho with ⟨h1, ⟨rfl, rfl⟩ | ⟨g', cap, cur, rfl, hg, hh, hn, hm, hs, hx⟩⟩
    · exact ⟨h1, Or.inl ⟨rfl, rfl⟩⟩
    · obtain ⟨a1, a2, a3, a4⟩ := h g' rfl
      exact ⟨h1, Or.inr ⟨g', cap, cur, rfl, hg, k.block hh a1 a3 (fun e => a4 e.symm), hn, hm, hs, hx⟩⟩
theorem WK.far {w0 w w' : World} {B g gp gm : Nat} {l : List Nd} {A : Option Addr} {c : Nat} {ps : List Nat} {lv v : Value} {M L : List Nat} (h : WK w0 w B g gp gm l A c ps lv M L) (ha : Apart v lv g gp gm) {base n s : Nat} {e : TypeId} {xs : List Value} (ho : Own w base e s v n xs) (hb : w0.heap.size ≤ base) (hg : w.grownBy w' v.ownBlock) : WK w0 w' B g gp gm l A c ps lv M L := by
  refine ⟨Own.grown_old h.old ho hb hg, h.nodes, ?_, ?_, ?_, World.ownsRow.kept h.own hg ?_, h.bg, h.bp, h.bm, h.lg, h.lp, h.lm, h.n1, h.n2, h.n3, Nat.le_trans h.lB hg.size⟩
  · exact (hg.block g (lt_of_block h.blk) (fun e => (ha g e.symm).1 rfl)).trans h.blk
  · exact (hg.block gp (lt_of_block h.par) (fun e => (ha gp e.symm).2.1 rfl)).trans h.par
  · exact (hg.block gm (lt_of_block h.mks) (fun e => (ha gm e.symm).2.2.1 rfl)).trans h.mks
  · cases hv : lv.ownBlock with
    | none => exact Or.inl rfl
    | some k => exact Or.inr (fun e => (ha k e.symm).2.2.2 hv)
theorem Apart.stay {w0 w : World} {B g gp gm : Nat} {l : List Nd} {A : Option Addr} {c : Nat} {ps : List Nat} {lv v v' : Value} {M L : List Nat} (ha : Apart v lv g gp gm) (h : WK w0 w B g gp gm l A c ps lv M L) (hs : Stay w v v') : Apart v' lv g gp gm := by
  intro k hk
  rcases hs with e | ⟨j, e, hj⟩
  · exact ha k (e ▸ hk)
  · rw [e] at hk
    injection hk with hk
    subst hk
    have b1 := lt_of_block h.blk
    have b2 := lt_of_block h.par
    have b3 := lt_of_block h.mks
    refine ⟨by omega, by omega, by omega, fun e => ?_⟩
    have := (World.ownsRow.lt h.own _ e).2
    omega
theorem WK.from_ {a w0 w : World} {B g gp gm : Nat} {l : List Nd} {A : Option Addr} {c : Nat} {ps : List Nat} {lv : Value} {M L : List Nat} (h : WK w0 w B g gp gm l A c ps lv M L) (ho : Old a w0) (hr : Rs a A (ndsV l)) : WK a w B g gp gm l A c ps lv M L :=
  ⟨ho.up h.old, hr, h.blk, h.par, h.mks, h.own, Nat.le_trans ho.size h.bg, Nat.le_trans ho.size h.bp, Nat.le_trans ho.size h.bm, h.lg, h.lp, h.lm, h.n1, h.n2, h.n3, h.lB⟩
theorem spz_snoc (L : List Nat) (s : Nat) : spz (L ++ [s]) = spz L ++ [.int .i64 (s : Int)] := by unfold spz; rw [List.map_append]; rfl
theorem endsF_nil (l : List Nd) (t : List Nat) (f i : Nat) (L E : List Nat) (h : L.length = 0) : endsF l t f i L E = E := by
  cases f with
  | zero => rfl
  | succ f => rw [endsF, if_pos h]
theorem endsF_go (l : List Nd) (t : List Nat) (f i : Nat) (L E : List Nat) (h : ¬ L.length = 0) (hf : t.length < f + i) (hi : i ≤ t.length) :
    endsF l t f i L E = (if i = t.length then (if doneM l (spreadM l (bolT t i) (eolT t i) L) = true then E ++ [i] else E) else endsF l t (f - 1) (i + 1) (stepM l (t.getD i 0) (spreadM l (bolT t i) (eolT t i) L)) (if doneM l (spreadM l (bolT t i) (eolT t i) L) = true then E ++ [i] else E)) := by
  obtain ⟨g, rfl⟩ : ∃ g, f = g + 1 := ⟨f - 1, by omega⟩
  rw [endsF, if_neg h]
  rfl
def EndsRel (w : World) (B g gp gm : Nat) (l : List Nd) (A : Option Addr) (c : Nat) (t R : List Nat) (v ix : Value) (wr : World) : Prop :=
  ∃ (i f : Nat) (L E : List Nat) (lv : Value), ix = .int .i64 i ∧ i ≤ t.length ∧ t.length < f + i ∧ E.length ≤ i ∧ Hid (WK w wr B g gp gm l A c (parM l l.length) lv L L) ∧ Hid (Apart v lv g gp gm ∧ Own wr w.heap.size 3 1 v E.length (spz E)) ∧ Hid (Spots (2 * l.length) L) ∧ Hid (endsF l t f i L E = R)
set_option maxHeartbeats 8000000 in
set_option maxRecDepth 100000 in
theorem endsC (A : Option Addr) (c : Nat) (l : List Nd) (At : Option Addr) (ct : Nat) (t : List Nat) (at_ : Int) (w : World) (hr : Rs w A (ndsV l)) (hrt : Rs w At (txt t)) (hm : l.length ≤ maxLen) (ht : t.length ≤ 1000000) (hb : ∀ x ∈ t, x < 256) (hso : ∀ x ∈ l, setOk x.set) :
    Calls Try.prog 22 #[.slice A l.length c, .slice At t.length ct, .int .i64 at_] w (Made w 3 1 (endsM l t at_).length (spz (endsM l t at_))) := by
  have hV := validC A c l w hr hm hso
  have HR := Lib.hid hr
  have HRT := Lib.hid hrt
  have HBT := Lib.hid hb
  clear hr hrt hb hso
  cases hv : validM l with
  | false =>
    rw [hv] at hV
    have HV := Lib.hid hV
    clear hV
    have hm2 := hm
    unfold maxLen at hm2
    go_enter Try.func22, Try.ntmps22
    go_wp2_with fail
    refine (HV.out).mono ?_; rintro e V ⟨rfl, hd⟩
    have HE : Hid (endsM l t at_ = []) := Lib.hid (by unfold endsM; rw [if_neg (by simp [hv] <;> omega)])
    go_wp2_with fail
    go_ret
    rw [HE.out]
    exact ⟨_, rfl, Own.nil_ _ _ _ _, hd⟩
  | true =>
  rw [hv] at hV
  have HV := Lib.hid hV
  obtain ⟨h1, hl⟩ := validM_len hv
  have HKN := Lib.hid (validM_kin hv)
  have HPL : Hid (∀ x, x < l.length → (parM l l.length).getD x 0 < l.length) := Lib.hid (fun x _ => parM_lt l h1 _ (Nat.le_refl _) x)
  clear hV
  go_enter Try.func22, Try.ntmps22
  go_wp2_with fail
  refine (HV.out).mono ?_; rintro e V ⟨rfl, hd⟩
  by_cases ha0 : at_ < 0
  · have HE : Hid (endsM l t at_ = []) := Lib.hid (by unfold endsM; rw [if_neg (by simp [hv] <;> omega)])
    go_wp2_with fail
    go_ret
    rw [HE.out]
    exact ⟨_, rfl, Own.nil_ _ _ _ _, hd⟩
  by_cases ha1 : (t.length : Int) < at_
  · have HE : Hid (endsM l t at_ = []) := Lib.hid (by unfold endsM; rw [if_neg (by simp [hv] <;> omega)])
    go_wp2_with fail
    go_ret
    rw [HE.out]
    exact ⟨_, rfl, Own.nil_ _ _ _ _, hd⟩
  obtain ⟨a0, rfl⟩ : ∃ a0 : Nat, at_ = (a0 : Int) := ⟨at_.toNat, by omega⟩
  have ha2 : a0 ≤ t.length := by omega
  have HE : Hid (endsF l t (t.length + 1) a0 [2 * (l.length - 1)] [] = endsM l t a0) := Lib.hid (by unfold endsM; rw [if_pos ⟨hv, by omega, by omega⟩]; rfl)
  have HNW := Lib.hid (newWalkerC A c l V (HR.out.up hd) hl HKN.out)
  have HD := Lib.hid hd
  clear hd HV
  generalize endsM l t a0 = R at *
  go_wp2_with fail
  refine (HNW.out).mono ?_; rintro e W ⟨B, g, gp, gm, rfl, hw⟩
  have HW := Lib.hid (hw.from_ HD.out HR.out)
  clear hw HNW
  go_wp2_with fail
  refine (beginC w B g gp gm l A c (parM l l.length) _ [] _ HW.out hl h1 (Spots.nil _)).mono ?_; rintro e W1 ⟨rfl, lv1, hw, hk⟩
  rw [show enterM [] (2 * (l.length - 1)) = [2 * (l.length - 1)] by simp [enterM]] at hw
  have HW1 := Lib.hid hw
  have HS0 : Hid (Spots (2 * l.length) [2 * (l.length - 1)]) := Lib.hid (by
    have := (Spots.nil (2 * l.length)).enter (s := 2 * (l.length - 1)) (by omega)
    simpa [enterM] using this)
  clear hw hk HW
  generalize [2 * (l.length - 1)] = L0 at *
  go_wp2_with fail
  go_loopw [8, 9] (fun s8 s9 wr => EndsRel w B g gp gm l A c t R s8 s9 wr) (fun _ s9 _ => t.length + 1 - (intOf s9).toNat)
  case atStart => exact ⟨a0, t.length + 1, L0, [], lv1, rfl, ha2, by omega, Nat.zero_le _, HW1, Lib.hid ⟨(fun k hk => by cases hk), Own.nil_ _ _ _ _⟩, HS0, HE⟩
  case round =>
    clear HE HS0 HW1 ha0 ha1 ha2
    obtain ⟨i, f, L, E, lv, rfl, hi, hf, hE, HW, HA, HS, HU⟩ := hrel
    obtain ⟨Al, cl, hlv, _, _, _⟩ := HW.out.own.shape
    have c3 : wr.cell? ⟨g, 3, none⟩ = some (.slice Al L.length cl) := by rw [cell_of_row wr g 3 _ _ _ HW.out.blk, hlv]; rfl
    clear hlv
    by_cases hL0 : L.length = 0
    · have HR' : Hid (E = R) := Lib.hid ((endsF_nil l t f i L E hL0).symm.trans HU.out)
      rw [hL0] at c3
      go_wp2_with fail
      go_ret
      rw [← HR'.out]
      exact ⟨_, rfl, HA.out.2, HW.out.old⟩
    have hLp : (0 : Int) < (L.length : Int) := by omega
    have hun := (endsF_go l t f i L E hL0 hf hi).symm.trans HU.out
    have HLS := Lib.hid (lineStartC At ct t wr (HRT.out.up HW.out.old) (by unfold maxLen; omega) i hi)
    clear HU
    generalize hbl : bolT t i = bl at *
    by_cases hlt : i < t.length
    · have hxb := getD_bd HBT.out i
      rw [if_neg (show ¬ i = t.length by omega)] at hun
      have heol : eolT t i = (((t.getD i 0 : Nat) : Int) == 10) := by
        unfold eolT; rw [decide_eq_true hlt, Bool.true_and, Bool.eq_iff_iff, beq_iff_eq, beq_iff_eq]; omega
      rw [heol] at hun
      obtain ⟨b, off, rfl, hb8, hcl⟩ := (HRT.out.up HW.out.old).at_ (by rw [txt_length]; omega)
      have c8 := hcl _ _ (txt_get t i hlt)
      clear hcl heol
      generalize hx : t.getD i 0 = x at *
      have HU := Lib.hid hun
      have hlt2 : (i : Int) < (t.length : Int) := by omega
      have hne : ((i : Int) == (t.length : Int)) = false := by simp; omega
      clear hun hL0
      go_wp2_with fail
      refine (HLS.out).mono ?_; rintro e wr ⟨rfl, rfl⟩
      go_wp2_with fail
      refine (spreadC w B g gp gm l A c (parM l l.length) lv L _ HW.out hl HKN.out HS.out (parM_length _ _) HPL.out bl ((x : Int) == 10)).mono ?_; rintro e V ⟨rfl, lv1, hw, hk1⟩
      have HUU := HU.out
      rw [show spreadF l (parM l l.length) bl ((x : Int) == 10) (2 * l.length) 0 L = spreadM l bl ((x : Int) == 10) L from rfl] at hw
      have HS1 := Lib.hid (HS.out.spread hv bl ((x : Int) == 10))
      generalize spreadM l bl ((x : Int) == 10) L = L1 at *
      have HU := Lib.hid HUU
      have HW1 := Lib.hid hw
      have HA1 := Lib.hid (HA.out.1.kept HA.out.2 hk1)
      clear hw hk1 HUU
      have HD := Lib.hid (doneC w B g gp gm l A c (parM l l.length) lv1 L1 V HW1.out hl h1)
      generalize hdd : doneM l L1 = dd at *
      clear c8 c3
      cases dd with
      | true =>
        have HU2 : Hid (endsF l t (f - 1) (i + 1) (stepM l x L1) (E ++ [i]) = R) := Lib.hid (by have := HU.out; simpa using this)
        clear HU
        go_wp2_with fail
        refine (HD.out).mono ?_; rintro e V2 ⟨rfl, n2, rfl⟩
        have HW2 := Lib.hid (HW1.out.drewN n2)
        have HA2 : Hid (Apart u8 lv1 g gp gm ∧ Own (V.drewN n2) w.heap.size 3 1 u8 E.length (spz E)) := Lib.hid HA1.out
        have HB2 : Hid (w.heap.size ≤ (V.drewN n2).heap.size) := Lib.hid HW2.out.old.size
        clear HW1 HA1 HD
        generalize V.drewN n2 = W2 at *
        go_wp2_with (at_builtin; refine wpList_pushS (wr := W2) rfl _ _ 22 rfl _ 3 (.int .i64 0) 1 8 Try.underlying22 info_i64v rfl (by decide) (by decide) _ _ _ rfl HA2.out.2 1 1 [.int .i64 (i : Int)] rfl rfl rfl rfl ?pn1 HB2.out (by decide) ?_)
        case pn1 => omega
        intro v' w3 ho hg hst
        have HW3 := Lib.hid (HW2.out.far HA2.out.1 HA2.out.2 (Nat.le_refl _) hg)
        have HA3 : Hid (Apart v' lv1 g gp gm ∧ Own w3 w.heap.size 3 1 v' (E ++ [i]).length (spz (E ++ [i]))) := Lib.hid ⟨HA2.out.1.stay HW2.out hst, by rw [spz_snoc, List.length_append]; exact ho⟩
        have HB3 : Hid (w.heap.size ≤ w3.heap.size) := Lib.hid HW3.out.old.size
        clear ho hg hst
        have c9 := (HRT.out.up HW3.out.old).cellAt (txt_get t i hlt)
        rw [hx] at c9
        go_wp2_with fail
        refine (stepC w B g gp gm l A c (parM l l.length) lv1 L1 _ HW3.out hl h1 HS1.out x hxb).mono ?_; rintro e V4 ⟨rfl, lv4, hw4, hk4⟩
        have HW4 := Lib.hid hw4
        have HA4 := Lib.hid (HA3.out.1.kept HA3.out.2 hk4)
        have HS4 := Lib.hid (HS1.out.step x)
        clear hw4 hk4
        go_wp2_with fail
        go_roundw
        case rel => exact ⟨i + 1, f - 1, _, (E ++ [i]), lv4, by go_num, by omega, by omega, by (first | omega | (rw [List.length_append, List.length_singleton]; omega)), HW4, HA4, HS4, Lib.hid HU2.out⟩
        case measure => simp [intOf]; omega
      | false =>
        have HU2 : Hid (endsF l t (f - 1) (i + 1) (stepM l x L1) E = R) := Lib.hid (by have := HU.out; simpa using this)
        clear HU
        go_wp2_with fail
        refine (HD.out).mono ?_; rintro e V2 ⟨rfl, n2, rfl⟩
        have HW2 := Lib.hid (HW1.out.drewN n2)
        have HA2 : Hid (Apart u8 lv1 g gp gm ∧ Own (V.drewN n2) w.heap.size 3 1 u8 E.length (spz E)) := Lib.hid HA1.out
        have HB2 : Hid (w.heap.size ≤ (V.drewN n2).heap.size) := Lib.hid HW2.out.old.size
        clear HW1 HA1 HD
        generalize V.drewN n2 = W2 at *
        have c9 := (HRT.out.up HW2.out.old).cellAt (txt_get t i hlt)
        rw [hx] at c9
        go_wp2_with fail
        refine (stepC w B g gp gm l A c (parM l l.length) lv1 L1 _ HW2.out hl h1 HS1.out x hxb).mono ?_; rintro e V4 ⟨rfl, lv4, hw4, hk4⟩
        have HW4 := Lib.hid hw4
        have HA4 := Lib.hid (HA2.out.1.kept HA2.out.2 hk4)
        have HS4 := Lib.hid (HS1.out.step x)
        clear hw4 hk4
        go_wp2_with fail
        go_roundw
        case rel => exact ⟨i + 1, f - 1, _, E, lv4, by go_num, by omega, by omega, by (first | omega | (rw [List.length_append, List.length_singleton]; omega)), HW4, HA4, HS4, Lib.hid HU2.out⟩
        case measure => simp [intOf]; omega
    · obtain rfl : i = t.length := by omega
      rw [if_pos rfl] at hun
      have heol : eolT t t.length = false := by unfold eolT; simp
      rw [heol] at hun
      have HU := Lib.hid hun
      have hnl : ¬ (t.length : Int) < (t.length : Int) := by omega
      clear hun heol hlt hL0
      go_wp2_with fail
      refine (HLS.out).mono ?_; rintro e wr ⟨rfl, rfl⟩
      go_wp2_with fail
      refine (spreadC w B g gp gm l A c (parM l l.length) lv L _ HW.out hl HKN.out HS.out (parM_length _ _) HPL.out bl false).mono ?_; rintro e V ⟨rfl, lv1, hw, hk1⟩
      have HUU := HU.out
      rw [show spreadF l (parM l l.length) bl false (2 * l.length) 0 L = spreadM l bl false L from rfl] at hw
      have HS1 := Lib.hid (HS.out.spread hv bl false)
      generalize spreadM l bl false L = L1 at *
      have HU := Lib.hid HUU
      have HW1 := Lib.hid hw
      have HA1 := Lib.hid (HA.out.1.kept HA.out.2 hk1)
      clear hw hk1 HUU
      have HD := Lib.hid (doneC w B g gp gm l A c (parM l l.length) lv1 L1 V HW1.out hl h1)
      generalize hdd : doneM l L1 = dd at *
      clear c3
      cases dd with
      | true =>
        have HU2 : Hid (E ++ [t.length] = R) := Lib.hid (by have := HU.out; simpa using this)
        clear HU
        go_wp2_with fail
        refine (HD.out).mono ?_; rintro e V2 ⟨rfl, n2, rfl⟩
        have HW2 := Lib.hid (HW1.out.drewN n2)
        have HA2 : Hid (Apart u8 lv1 g gp gm ∧ Own (V.drewN n2) w.heap.size 3 1 u8 E.length (spz E)) := Lib.hid HA1.out
        have HB2 : Hid (w.heap.size ≤ (V.drewN n2).heap.size) := Lib.hid HW2.out.old.size
        clear HW1 HA1 HD
        generalize V.drewN n2 = W2 at *
        go_wp2_with (at_builtin; refine wpList_pushS (wr := W2) rfl _ _ 22 rfl _ 3 (.int .i64 0) 1 8 Try.underlying22 info_i64v rfl (by decide) (by decide) _ _ _ rfl HA2.out.2 1 1 [.int .i64 (t.length : Int)] rfl rfl rfl rfl ?pn2 HB2.out (by decide) ?_)
        case pn2 => omega
        intro v' w3 ho hg hst
        have HW3 := Lib.hid (HW2.out.far HA2.out.1 HA2.out.2 (Nat.le_refl _) hg)
        have HA3 : Hid (Apart v' lv1 g gp gm ∧ Own w3 w.heap.size 3 1 v' (E ++ [t.length]).length (spz (E ++ [t.length]))) := Lib.hid ⟨HA2.out.1.stay HW2.out hst, by rw [spz_snoc, List.length_append]; exact ho⟩
        have HB3 : Hid (w.heap.size ≤ w3.heap.size) := Lib.hid HW3.out.old.size
        clear ho hg hst
        go_wp2_with fail
        go_ret
        rw [← HU2.out]
        exact ⟨_, rfl, HA3.out.2, HW3.out.old⟩
      | false =>
        have HU2 : Hid (E = R) := Lib.hid (by have := HU.out; simpa using this)
        clear HU
        go_wp2_with fail
        refine (HD.out).mono ?_; rintro e V2 ⟨rfl, n2, rfl⟩
        have HW2 := Lib.hid (HW1.out.drewN n2)
        have HA2 : Hid (Apart u8 lv1 g gp gm ∧ Own (V.drewN n2) w.heap.size 3 1 u8 E.length (spz E)) := Lib.hid HA1.out
        have HB2 : Hid (w.heap.size ≤ (V.drewN n2).heap.size) := Lib.hid HW2.out.old.size
        clear HW1 HA1 HD
        generalize V.drewN n2 = W2 at *
        go_wp2_with fail
        go_ret
        rw [← HU2.out]
        exact ⟨_, rfl, HA2.out.2, HW2.out.old⟩
end Go.Proofs.Ytaajgdhoffhdcaa
