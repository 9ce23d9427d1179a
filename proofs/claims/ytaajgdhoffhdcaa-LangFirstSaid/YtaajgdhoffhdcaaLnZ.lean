/-
  The walker: spread.
-/
import Derived.Test.YtaajgdhoffhdcaaLnY
namespace Go.Proofs.Ytaajgdhoffhdcaa
open Go.RowKit
set_option linter.unusedVariables false

theorem Spots.intoM {l : List Nd} (hK : Kin l) {x : Nat} (hx : x < l.length) {L : List Nat} (h : Spots (2 * l.length) L) (bol eol : Bool) : Spots (2 * l.length) (intoM l x bol eol L) := by
  unfold Go.Proofs.Ytaajgdhoffhdcaa.intoM
  have k1 : ((nd l x).kind = 3 ∨ (nd l x).kind = 4 ∨ (nd l x).kind = 5 ∨ (nd l x).kind = 6 ∨ (nd l x).kind = 7) → lfN l x < l.length := fun hk => by
    obtain ⟨a, e, ha⟩ := hK.lf x hx hk
    unfold lfN; rw [e]; simpa using ha
  have k2 : ((nd l x).kind = 3 ∨ (nd l x).kind = 4) → rtN l x < l.length := fun hk => by
    obtain ⟨a, e, ha⟩ := hK.rt x hx hk
    unfold rtN; rw [e]; simpa using ha
  repeat' split
  all_goals first | exact h | exact h.enter (by omega) | exact (h.enter (by omega)).enter (by omega) | (have := k1 (by omega); first | exact h.enter (by omega) | exact (h.enter (by omega)).enter (by omega) | (have := k2 (by omega); exact (h.enter (by omega)).enter (by omega)))
theorem Spots.outOfM {l : List Nd} (hK : Kin l) {x up : Nat} (hx : x < l.length) (hu : up < l.length) {L : List Nat} (h : Spots (2 * l.length) L) : Spots (2 * l.length) (outOfM l up x L) := by
  unfold Go.Proofs.Ytaajgdhoffhdcaa.outOfM
  have k2 : ((nd l up).kind = 3 ∨ (nd l up).kind = 4) → rtN l up < l.length := fun hk => by
    obtain ⟨a, e, ha⟩ := hK.rt up hu hk
    unfold rtN; rw [e]; simpa using ha
  repeat' split
  all_goals first | exact h.enter (by omega) | exact (h.enter (by omega)).enter (by omega) | (have := k2 (by omega); exact h.enter (by omega))
theorem spreadF_end (l : List Nd) (ps : List Nat) (bol eol : Bool) (f i : Nat) (L : List Nat) (h : L.length ≤ i) : spreadF l ps bol eol f i L = L := by
  cases f with
  | zero => rfl
  | succ f => rw [spreadF, if_neg (by omega)]
def SpreadRel (w w0 : World) (B g gp gm : Nat) (l : List Nd) (A : Option Addr) (c : Nat) (ps : List Nat) (lv : Value) (bol eol : Bool) (L : List Nat) (v : Value) (wr : World) : Prop :=
  ∃ (k : Nat) (L1 : List Nat) (lv1 : Value), v = .int .i64 k ∧ k ≤ 2 * l.length ∧ Hid (WK w0 wr B g gp gm l A c ps lv1 L1 L1) ∧ Hid (Kept w wr g gm lv lv1) ∧ Hid (Spots (2 * l.length) L1) ∧ Hid (spreadF l ps bol eol (2 * l.length - k) k L1 = spreadF l ps bol eol (2 * l.length) 0 L)
set_option maxHeartbeats 4000000 in
set_option maxRecDepth 100000 in
theorem spreadC (w0 : World) (B g gp gm : Nat) (l : List Nd) (A : Option Addr) (c : Nat) (ps : List Nat) (lv : Value) (L : List Nat) (w : World) (h : WK w0 w B g gp gm l A c ps lv L L) (hl : l.length ≤ 256) (hK : Kin l) (hL : Spots (2 * l.length) L) (hps : ps.length = l.length) (hpl : ∀ x, x < l.length → ps.getD x 0 < l.length) (bol eol : Bool) :
    Calls Try.prog 47 #[.pointer (some ⟨g, 0, none⟩), .bool bol, .bool eol] w (WPost w lv w0 B g gp gm l A c ps (spreadF l ps bol eol (2 * l.length) 0 L)) := by
  have HH := Lib.hid h
  have HLL := Lib.hid hL
  have HPL := Lib.hid hpl
  clear h hL hpl
  go_enter Try.func47, Try.ntmps47
  go_wp2_with fail
  go_loopw [6] (fun s6 wr => SpreadRel w w0 B g gp gm l A c ps lv bol eol L s6 wr) (fun s6 _ => 2 * l.length - (intOf s6).toNat)
  case atStart => exact ⟨0, L, lv, rfl, Nat.zero_le _, HH, Lib.hid (Kept.refl _ _ _ _), HLL, Lib.hid rfl⟩
  case round =>
    obtain ⟨k, L1, lv1, rfl, hk, HW, HKW, HS, HE⟩ := hrel
    have hlen := HS.out.len
    obtain ⟨Al, cl, rfl, _, _, _⟩ := HW.out.own.shape
    have e3 : wr.cell? ⟨g, 3, none⟩ = some (.slice Al L1.length cl) := by rw [cell_of_row wr g 3 _ _ _ HW.out.blk]; rfl
    have e0 : wr.cell? ⟨g, 0, none⟩ = some (.slice A l.length c) := by rw [cell_of_row wr g 0 _ _ _ HW.out.blk]; rfl
    by_cases hkl : k < L1.length
    · obtain ⟨ga, ca, hv, _, _, _, _⟩ := HW.out.own.form (by omega)
      injection hv with hA _ hc
      subst hA
      subst hc
      have es := (HW.out.own.cellAt (spz_get L1 k hkl)).1
      have i1 : (0 : Int) ≤ (k : Int) := by omega
      have i2 : (k : Int) < (L1.length : Int) := by omega
      have hsl : L1.getD k 0 < 2 * l.length := HS.out.2 _ (by rw [List.getD_eq_getElem?_getD, List.getElem?_eq_getElem hkl]; exact List.getElem_mem hkl)
      have hun : spreadF l ps bol eol (2 * l.length - k) k L1 = spreadF l ps bol eol (2 * l.length - (k + 1)) (k + 1) (visitM l ps bol eol (L1.getD k 0) L1) := by
        obtain ⟨f, hf⟩ : ∃ f, 2 * l.length - k = f + 1 := ⟨2 * l.length - k - 1, by omega⟩
        rw [hf, spreadF, if_pos hkl, show 2 * l.length - (k + 1) = f by omega]
      have HU := Lib.hid (hun.symm.trans HE.out)
      clear HE hun
      generalize L1.getD k 0 = s at *
      have td : Int.tdiv (s : Int) 2 = ((s / 2 : Nat) : Int) := by rw [Int.tdiv_eq_ediv_of_nonneg (by omega)]; omega
      have tm : Int.tmod (s : Int) 2 = ((s % 2 : Nat) : Int) := by rw [Int.tmod_eq_emod_of_nonneg (by omega)]; omega
      have hy : s / 2 < l.length := by omega
      have HY := Lib.hid hy
      have HVd : Hid (visitM l ps bol eol s L1 = if s % 2 = 0 then intoM l (s / 2) bol eol L1 else if s / 2 ≠ l.length - 1 then outOfM l (ps.getD (s / 2) 0) (s / 2) L1 else L1) := Lib.hid rfl
      generalize hyd : s / 2 = y at *
      by_cases h2 : s % 2 = 0
      · have HVV : Hid (visitM l ps bol eol s L1 = intoM l y bol eol L1) := Lib.hid (by rw [HVd.out, if_pos h2])
        rw [h2] at tm
        clear h2 HVd
        go_upto_region 5 with fail
        go_wp2_with fail
        refine (intoC w0 B g gp gm l A c ps _ L1 _ HW.out hl hK HS.out y HY.out bol eol).mono ?_; rintro e V ⟨rfl, lv', hw, hk'⟩
        have HV := Lib.hid hw
        have HKV := Lib.hid (HKW.out.trans hk')
        have HSV := Lib.hid (HS.out.intoM hK HY.out bol eol)
        clear hw hk'
        go_wp2_with fail
        go_roundw
        case rel => exact ⟨k + 1, _, lv', rfl, by omega, HV, HKV, HSV, Lib.hid (by rw [← HVV.out]; exact HU.out)⟩
        case measure => simp [intOf]; omega
      · have h1 : s % 2 = 1 := by omega
        rw [h1] at tm
        by_cases hr : y = l.length - 1
        · have HVV : Hid (visitM l ps bol eol s L1 = L1) := Lib.hid (by rw [HVd.out, if_neg h2, if_neg (by omega)])
          have bn : ((y : Int) != (l.length : Int) - 1) = false := by simp; omega
          clear h2 h1 HVd hr
          go_wp2_with fail
          go_roundw
          case rel => exact ⟨k + 1, _, _, rfl, by omega, HW, HKW, HS, Lib.hid (by rw [← HVV.out]; exact HU.out)⟩
          case measure => simp [intOf]; omega
        · have HVV : Hid (visitM l ps bol eol s L1 = outOfM l (ps.getD y 0) y L1) := Lib.hid (by rw [HVd.out, if_neg h2, if_pos hr])
          have bn : ((y : Int) != (l.length : Int) - 1) = true := by simp; omega
          clear h2 h1 HVd hr
          go_upto_region 8 with fail
          go_wp2_with fail
          refine (outOfC w0 B g gp gm l A c ps _ L1 _ HW.out hl hK HS.out y HY.out hps _ rfl (HPL.out y HY.out)).mono ?_; rintro e V ⟨rfl, lv', hw, hk'⟩
          have HV := Lib.hid hw
          have HKV := Lib.hid (HKW.out.trans hk')
          have HSV := Lib.hid (HS.out.outOfM hK HY.out (HPL.out y HY.out))
          clear hw hk'
          go_wp2_with fail
          go_roundw
          case rel => exact ⟨k + 1, _, lv', rfl, by omega, HV, HKV, HSV, Lib.hid (by rw [← HVV.out]; exact HU.out)⟩
          case measure => simp [intOf]; omega
    · have HR : Hid (spreadF l ps bol eol (2 * l.length) 0 L = L1) := Lib.hid (by rw [← HE.out]; exact spreadF_end _ _ _ _ _ _ _ (by omega))
      go_wp2_with fail
      go_end0
      rw [HR.out]
      exact ⟨rfl, _, HW.out, HKW.out⟩
end Go.Proofs.Ytaajgdhoffhdcaa
