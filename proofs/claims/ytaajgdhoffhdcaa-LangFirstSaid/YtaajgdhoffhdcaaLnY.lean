/-
  The walker: into, outOf.
-/
import Derived.Test.YtaajgdhoffhdcaaLnX
namespace Go.Proofs.Ytaajgdhoffhdcaa
open Go.RowKit
set_option linter.unusedVariables false

/-- The kids lie in the list. -/
structure Kin (l : List Nd) : Prop where
  lf : ∀ x, x < l.length → ((nd l x).kind = 3 ∨ (nd l x).kind = 4 ∨ (nd l x).kind = 5 ∨ (nd l x).kind = 6 ∨ (nd l x).kind = 7) → ∃ a : Nat, (nd l x).left = a ∧ a < l.length
  rt : ∀ x, x < l.length → ((nd l x).kind = 3 ∨ (nd l x).kind = 4) → ∃ a : Nat, (nd l x).right = a ∧ a < l.length
theorem afterN (n : Nat) (hn : n < 1000) (w : World) : Calls Try.prog 81 #[.int .i64 (n : Int)] w (ValSame (.int .i64 ((2 * n + 1 : Nat) : Int)) w) := by
  have := afterC (n : Int) w (by omega) (by omega)
  have e : (2 * (n : Int) + 1) = ((2 * n + 1 : Nat) : Int) := by omega
  rw [e] at this
  exact this
theorem beforeN (n : Nat) (hn : n < 1000) (w : World) : Calls Try.prog 78 #[.int .i64 (n : Int)] w (ValSame (.int .i64 ((2 * n : Nat) : Int)) w) := by
  have := beforeC (n : Int) w (by omega) (by omega)
  have e : (2 * (n : Int)) = ((2 * n : Nat) : Int) := by omega
  rw [e] at this
  exact this
/-- One mark. -/
theorem enterW {w0 : World} {B g gp gm : Nat} {l : List Nd} {A : Option Addr} {c : Nat} {ps : List Nat} {lv : Value} {L : List Nat} {w : World} (h : WK w0 w B g gp gm l A c ps lv L L) (hl : l.length ≤ 256) (hL : Spots (2 * l.length) L) (s : Nat) (hs : s < 2 * l.length) :
    Calls Try.prog 77 #[.pointer (some ⟨g, 0, none⟩), .int .i64 (s : Int)] w (WPost w lv w0 B g gp gm l A c ps (enterM L s)) := enterC w0 B g gp gm l A c ps lv L w h hl hL s hs
set_option maxHeartbeats 4000000 in
set_option maxRecDepth 100000 in
theorem intoC (w0 : World) (B g gp gm : Nat) (l : List Nd) (A : Option Addr) (c : Nat) (ps : List Nat) (lv : Value) (L : List Nat) (w : World) (h : WK w0 w B g gp gm l A c ps lv L L) (hl : l.length ≤ 256) (hK : Kin l) (hL : Spots (2 * l.length) L) (x : Nat) (hx0 : x < l.length) (bol eol : Bool) :
    Calls Try.prog 79 #[.pointer (some ⟨g, 0, none⟩), .int .i64 (x : Int), .bool bol, .bool eol] w (WPost w lv w0 B g gp gm l A c ps (intoM l x bol eol L)) := by
  have HH := Lib.hid h
  clear h
  have e0 : w.cell? ⟨g, 0, none⟩ = some (.slice A l.length c) := by rw [cell_of_row w g 0 _ _ _ HH.out.blk]; rfl
  have i1 : (0 : Int) ≤ (x : Int) := by omega
  have i2 : (x : Int) < (l.length : Int) := by omega
  have kl := hK.lf x hx0
  have kr := hK.rt x hx0
  have hI : intoM l x bol eol L = intoM l x bol eol L := rfl
  conv at hI => rhs; unfold intoM
  unfold lfN rtN at hI
  have HB := Lib.hid beforeN
  have HA := Lib.hid afterN
  have HLL := Lib.hid hL
  have HX := Lib.hid hx0
  have hx : l[x]? = some (nd l x) := by unfold nd; rw [List.getD_eq_getElem?_getD, List.getElem?_eq_getElem hx0]; rfl
  have hg := ndsV_get l x _ hx
  obtain ⟨b, off, rfl, hbl, hcl⟩ := (HH.out.nodes.up HH.out.old).at_ (by rw [ndsV_length]; omega)
  have c0 := hcl _ _ (hg 0 (by omega))
  have c1 := hcl _ _ (hg 1 (by omega))
  have c2 := hcl _ _ (hg 2 (by omega))
  have c3 := hcl _ _ (hg 3 (by omega))
  have c4 := hcl _ _ (hg 4 (by omega))
  have c5 := hcl _ _ (hg 5 (by omega))
  have c6 := hcl _ _ (hg 6 (by omega))
  rw [← Nat.add_assoc] at c0 c1 c2 c3 c4 c5 c6
  rw [Nat.add_zero] at c0
  clear hx hg hcl
  generalize hnd : nd l x = nx at *
  obtain ⟨kd, lf, rt, st⟩ := nx
  replace c0 : w.cell? ⟨b, off + x * 7, none⟩ = some (.int .i64 kd) := c0
  replace c1 : w.cell? ⟨b, off + x * 7 + 1, none⟩ = some (.int .i64 lf) := c1
  replace c2 : w.cell? ⟨b, off + x * 7 + 2, none⟩ = some (.int .i64 rt) := c2
  replace c3 : w.cell? ⟨b, off + x * 7 + 3, none⟩ = some (.int .u64 (setW st 0)) := c3
  replace c4 : w.cell? ⟨b, off + x * 7 + 4, none⟩ = some (.int .u64 (setW st 1)) := c4
  replace c5 : w.cell? ⟨b, off + x * 7 + 5, none⟩ = some (.int .u64 (setW st 2)) := c5
  replace c6 : w.cell? ⟨b, off + x * 7 + 6, none⟩ = some (.int .u64 (setW st 3)) := c6
  simp only at kl kr hI
  have HI := Lib.hid hI
  have KL := Lib.hid kl
  have KR := Lib.hid kr
  clear hI kl kr hK hnd hL hx0
  go_enter Try.func79, Try.ntmps79
  go_upto_region 1 with fail
  have hb5 := heap_alloc_new w (.cells #[.int .i64 kd, .int .i64 lf, .int .i64 rt, .int .u64 (setW st 0), .int .u64 (setW st 1), .int .u64 (setW st 2), .int .u64 (setW st 3)] 48)
  have HO_ := Lib.hid ((Old.refl w).alloc (.cells #[.int .i64 kd, .int .i64 lf, .int .i64 rt, .int .u64 (setW st 0), .int .u64 (setW st 1), .int .u64 (setW st 2), .int .u64 (setW st 3)] 48))
  generalize w.alloc (.cells #[.int .i64 kd, .int .i64 lf, .int .i64 rt, .int .u64 (setW st 0), .int .u64 (setW st 1), .int .u64 (setW st 2), .int .u64 (setW st 3)] 48) = W at *
  have HW := Lib.hid (HH.out.up HO_.out)
  have HKW := Lib.hid (Kept.of_old HO_.out g gm lv)
  have NB : Hid (w.heap.size ≠ g ∧ w.heap.size ≠ gm ∧ some w.heap.size ≠ lv.ownBlock) := Lib.hid ⟨fun e => absurd (lt_of_block HH.out.blk) (by omega), fun e => absurd (lt_of_block HH.out.mks) (by omega), fun e => absurd (World.ownsRow.lt HH.out.own _ e.symm).2 (by omega)⟩
  have d0 : W.cell? ⟨w.heap.size, 0, none⟩ = some (.int .i64 kd) := by rw [cell_of_row W _ 0 _ _ _ hb5]; rfl
  have d1 : W.cell? ⟨w.heap.size, 1, none⟩ = some (.int .i64 lf) := by rw [cell_of_row W _ 1 _ _ _ hb5]; rfl
  have d2 : W.cell? ⟨w.heap.size, 2, none⟩ = some (.int .i64 rt) := by rw [cell_of_row W _ 2 _ _ _ hb5]; rfl
  have HB5 := Lib.hid hb5
  clear c0 c1 c2 c3 c4 c5 c6 hb5
  have hk : kd = 1 ∨ kd = 8 ∨ kd = 9 ∨ kd = 5 ∨ kd = 7 ∨ kd = 3 ∨ kd = 6 ∨ kd = 4 ∨ (kd ≠ 3 ∧ kd ≠ 4 ∧ kd ≠ 5 ∧ kd ≠ 6 ∧ kd ≠ 7 ∧ kd ≠ 1 ∧ kd ≠ 8 ∧ kd ≠ 9) := by omega
  rcases hk with rfl | rfl | rfl | rfl | rfl | rfl | rfl | rfl | ⟨n3, n4, n5, n6, n7, n1, n8, n9⟩
  · have HE : Hid (intoM l x bol eol L = enterM L (2 * x + 1)) := Lib.hid (by rw [HI.out, if_pos rfl])
    go_wp2_with fail
    refine (HA.out x (by omega) _).mono ?_; rintro e V ⟨rfl, rfl⟩
    go_wp2_with fail
    refine (enterW HW.out hl HLL.out (2 * x + 1) (by omega)).mono ?_; rintro e V ⟨rfl, lv', hw, hk'⟩
    have HV := Lib.hid hw
    have HKV := Lib.hid (HKW.out.trans hk')
    clear hw hk'
    go_wp2_with fail
    go_end0
    exact ⟨rfl, _, by rw [HE.out]; exact HV.out, HKV.out⟩
  · cases bol
    · have HE : Hid (intoM l x false eol L = L) := Lib.hid (by rw [HI.out, if_neg (by decide), if_pos rfl, if_neg (by decide)])
      go_wp2_with fail
      go_end0
      exact ⟨rfl, _, by rw [HE.out]; exact HW.out, HKW.out⟩
    · have HE : Hid (intoM l x true eol L = enterM L (2 * x + 1)) := Lib.hid (by rw [HI.out, if_neg (by decide), if_pos rfl, if_pos rfl])
      go_wp2_with fail
      refine (HA.out x (by omega) _).mono ?_; rintro e V ⟨rfl, rfl⟩
      go_wp2_with fail
      refine (enterW HW.out hl HLL.out (2 * x + 1) (by omega)).mono ?_; rintro e V ⟨rfl, lv', hw, hk'⟩
      have HV := Lib.hid hw
      have HKV := Lib.hid (HKW.out.trans hk')
      clear hw hk'
      go_wp2_with fail
      go_end0
      exact ⟨rfl, _, by rw [HE.out]; exact HV.out, HKV.out⟩
  · cases eol
    · have HE : Hid (intoM l x bol false L = L) := Lib.hid (by rw [HI.out, if_neg (by decide), if_neg (by decide), if_pos rfl, if_neg (by decide)])
      go_wp2_with fail
      go_end0
      exact ⟨rfl, _, by rw [HE.out]; exact HW.out, HKW.out⟩
    · have HE : Hid (intoM l x bol true L = enterM L (2 * x + 1)) := Lib.hid (by rw [HI.out, if_neg (by decide), if_neg (by decide), if_pos rfl, if_pos rfl])
      go_wp2_with fail
      refine (HA.out x (by omega) _).mono ?_; rintro e V ⟨rfl, rfl⟩
      go_wp2_with fail
      refine (enterW HW.out hl HLL.out (2 * x + 1) (by omega)).mono ?_; rintro e V ⟨rfl, lv', hw, hk'⟩
      have HV := Lib.hid hw
      have HKV := Lib.hid (HKW.out.trans hk')
      clear hw hk'
      go_wp2_with fail
      go_end0
      exact ⟨rfl, _, by rw [HE.out]; exact HV.out, HKV.out⟩
  · obtain ⟨a, rfl, ha⟩ := KL.out (by decide)
    have HE : Hid (intoM l x bol eol L = enterM (enterM L (2 * x + 1)) (2 * a)) := Lib.hid (by rw [HI.out, if_neg (by decide), if_neg (by decide), if_neg (by decide), if_pos (by decide)]; rfl)
    go_wp2_with fail
    refine (HA.out x (by omega) _).mono ?_; rintro e V ⟨rfl, rfl⟩
    go_wp2_with fail
    refine (enterW HW.out hl HLL.out (2 * x + 1) (by omega)).mono ?_; rintro e V ⟨rfl, lv', hw, hk'⟩
    have hbV := hk'.block HB5.out NB.out.1 NB.out.2.1 NB.out.2.2
    have o1 : V.cell? ⟨w.heap.size, 1, none⟩ = some (.int .i64 (a : Int)) := by rw [cell_of_row V _ 1 _ _ _ hbV]; rfl
    have o2 : V.cell? ⟨w.heap.size, 2, none⟩ = some (.int .i64 rt) := by rw [cell_of_row V _ 2 _ _ _ hbV]; rfl
    have HV := Lib.hid hw
    have HKV := Lib.hid (HKW.out.trans hk')
    clear hw hk' hbV
    go_wp2_with fail
    refine (HB.out a (by omega) _).mono ?_; rintro e V2 ⟨rfl, rfl⟩
    go_wp2_with fail
    refine (enterW HV.out hl (HLL.out.enter (by omega)) (2 * a) (by omega)).mono ?_; rintro e V2 ⟨rfl, lv2, hw, hk'⟩
    have HV2 := Lib.hid hw
    have HKV2 := Lib.hid (HKV.out.trans hk')
    clear hw hk'
    go_wp2_with fail
    go_end0
    exact ⟨rfl, _, by rw [HE.out]; exact HV2.out, HKV2.out⟩
  · obtain ⟨a, rfl, ha⟩ := KL.out (by decide)
    have HE : Hid (intoM l x bol eol L = enterM (enterM L (2 * x + 1)) (2 * a)) := Lib.hid (by rw [HI.out, if_neg (by decide), if_neg (by decide), if_neg (by decide), if_pos (by decide)]; rfl)
    go_wp2_with fail
    refine (HA.out x (by omega) _).mono ?_; rintro e V ⟨rfl, rfl⟩
    go_wp2_with fail
    refine (enterW HW.out hl HLL.out (2 * x + 1) (by omega)).mono ?_; rintro e V ⟨rfl, lv', hw, hk'⟩
    have hbV := hk'.block HB5.out NB.out.1 NB.out.2.1 NB.out.2.2
    have o1 : V.cell? ⟨w.heap.size, 1, none⟩ = some (.int .i64 (a : Int)) := by rw [cell_of_row V _ 1 _ _ _ hbV]; rfl
    have o2 : V.cell? ⟨w.heap.size, 2, none⟩ = some (.int .i64 rt) := by rw [cell_of_row V _ 2 _ _ _ hbV]; rfl
    have HV := Lib.hid hw
    have HKV := Lib.hid (HKW.out.trans hk')
    clear hw hk' hbV
    go_wp2_with fail
    refine (HB.out a (by omega) _).mono ?_; rintro e V2 ⟨rfl, rfl⟩
    go_wp2_with fail
    refine (enterW HV.out hl (HLL.out.enter (by omega)) (2 * a) (by omega)).mono ?_; rintro e V2 ⟨rfl, lv2, hw, hk'⟩
    have HV2 := Lib.hid hw
    have HKV2 := Lib.hid (HKV.out.trans hk')
    clear hw hk'
    go_wp2_with fail
    go_end0
    exact ⟨rfl, _, by rw [HE.out]; exact HV2.out, HKV2.out⟩
  · obtain ⟨a, rfl, ha⟩ := KL.out (by decide)
    have HE : Hid (intoM l x bol eol L = enterM L (2 * a)) := Lib.hid (by rw [HI.out, if_neg (by decide), if_neg (by decide), if_neg (by decide), if_neg (by decide), if_pos (by decide)]; rfl)
    go_wp2_with fail
    refine (HB.out a (by omega) _).mono ?_; rintro e V ⟨rfl, rfl⟩
    go_wp2_with fail
    refine (enterW HW.out hl HLL.out (2 * a) (by omega)).mono ?_; rintro e V ⟨rfl, lv', hw, hk'⟩
    have HV := Lib.hid hw
    have HKV := Lib.hid (HKW.out.trans hk')
    clear hw hk'
    go_wp2_with fail
    go_end0
    exact ⟨rfl, _, by rw [HE.out]; exact HV.out, HKV.out⟩
  · obtain ⟨a, rfl, ha⟩ := KL.out (by decide)
    have HE : Hid (intoM l x bol eol L = enterM L (2 * a)) := Lib.hid (by rw [HI.out, if_neg (by decide), if_neg (by decide), if_neg (by decide), if_neg (by decide), if_pos (by decide)]; rfl)
    go_wp2_with fail
    refine (HB.out a (by omega) _).mono ?_; rintro e V ⟨rfl, rfl⟩
    go_wp2_with fail
    refine (enterW HW.out hl HLL.out (2 * a) (by omega)).mono ?_; rintro e V ⟨rfl, lv', hw, hk'⟩
    have HV := Lib.hid hw
    have HKV := Lib.hid (HKW.out.trans hk')
    clear hw hk'
    go_wp2_with fail
    go_end0
    exact ⟨rfl, _, by rw [HE.out]; exact HV.out, HKV.out⟩
  · obtain ⟨a, rfl, ha⟩ := KL.out (by decide)
    obtain ⟨b2, rfl, hb2⟩ := KR.out (by decide)
    have HE : Hid (intoM l x bol eol L = enterM (enterM L (2 * a)) (2 * b2)) := Lib.hid (by rw [HI.out, if_neg (by decide), if_neg (by decide), if_neg (by decide), if_neg (by decide), if_neg (by decide), if_pos (by decide)]; rfl)
    go_wp2_with fail
    refine (HB.out a (by omega) _).mono ?_; rintro e V ⟨rfl, rfl⟩
    go_wp2_with fail
    refine (enterW HW.out hl HLL.out (2 * a) (by omega)).mono ?_; rintro e V ⟨rfl, lv', hw, hk'⟩
    have hbV := hk'.block HB5.out NB.out.1 NB.out.2.1 NB.out.2.2
    have o1 : V.cell? ⟨w.heap.size, 1, none⟩ = some (.int .i64 (a : Int)) := by rw [cell_of_row V _ 1 _ _ _ hbV]; rfl
    have o2 : V.cell? ⟨w.heap.size, 2, none⟩ = some (.int .i64 ↑b2) := by rw [cell_of_row V _ 2 _ _ _ hbV]; rfl
    have HV := Lib.hid hw
    have HKV := Lib.hid (HKW.out.trans hk')
    clear hw hk' hbV
    go_wp2_with fail
    refine (HB.out b2 (by omega) _).mono ?_; rintro e V2 ⟨rfl, rfl⟩
    go_wp2_with fail
    refine (enterW HV.out hl (HLL.out.enter (by omega)) (2 * b2) (by omega)).mono ?_; rintro e V2 ⟨rfl, lv2, hw, hk'⟩
    have HV2 := Lib.hid hw
    have HKV2 := Lib.hid (HKV.out.trans hk')
    clear hw hk'
    go_wp2_with fail
    go_end0
    exact ⟨rfl, _, by rw [HE.out]; exact HV2.out, HKV2.out⟩
  · have HE : Hid (intoM l x bol eol L = L) := Lib.hid (by rw [HI.out, if_neg n1, if_neg n8, if_neg n9, if_neg (by omega), if_neg (by omega), if_neg n4])
    have b3 : (kd == 3) = false := by simpa using n3
    have b4 : (kd == 4) = false := by simpa using n4
    have b5 : (kd == 5) = false := by simpa using n5
    have b6 : (kd == 6) = false := by simpa using n6
    have b7 : (kd == 7) = false := by simpa using n7
    have b1 : (kd == 1) = false := by simpa using n1
    have b8 : (kd == 8) = false := by simpa using n8
    have b9 : (kd == 9) = false := by simpa using n9
    clear n3 n4 n5 n6 n7 n1 n8 n9
    go_wp2_with fail
    go_end0
    exact ⟨rfl, _, by rw [HE.out]; exact HW.out, HKW.out⟩
set_option maxHeartbeats 4000000 in
set_option maxRecDepth 100000 in
theorem outOfC (w0 : World) (B g gp gm : Nat) (l : List Nd) (A : Option Addr) (c : Nat) (ps : List Nat) (lv : Value) (L : List Nat) (w : World) (h : WK w0 w B g gp gm l A c ps lv L L) (hl : l.length ≤ 256) (hK : Kin l) (hL : Spots (2 * l.length) L) (x : Nat) (hx0 : x < l.length) (hps : ps.length = l.length) (up : Nat) (hup : ps.getD x 0 = up) (hu0 : up < l.length) :
    Calls Try.prog 80 #[.pointer (some ⟨g, 0, none⟩), .int .i64 (x : Int)] w (WPost w lv w0 B g gp gm l A c ps (outOfM l up x L)) := by
  have HH := Lib.hid h
  clear h
  have e0 : w.cell? ⟨g, 0, none⟩ = some (.slice A l.length c) := by rw [cell_of_row w g 0 _ _ _ HH.out.blk]; rfl
  have e1 : w.cell? ⟨g, 1, none⟩ = some (.slice (some ⟨gp, 0, none⟩) l.length l.length) := by rw [cell_of_row w g 1 _ _ _ HH.out.blk]; rfl
  have ep : w.cell? ⟨gp, x, none⟩ = some (.int .i64 (up : Int)) := by rw [cell_of_row w gp x _ _ _ HH.out.par, List.getElem?_toArray, spz_get _ _ (by omega), hup]
  have i1 : (0 : Int) ≤ (x : Int) := by omega
  have i2 : (x : Int) < (l.length : Int) := by omega
  have j1 : (0 : Int) ≤ (up : Int) := by omega
  have j2 : (up : Int) < (l.length : Int) := by omega
  have kl := hK.lf up hu0
  have kr := hK.rt up hu0
  have hI : outOfM l up x L = outOfM l up x L := rfl
  conv at hI => rhs; unfold outOfM
  unfold rtN at hI
  have HB := Lib.hid beforeN
  have HA := Lib.hid afterN
  have HLL := Lib.hid hL
  have HX := Lib.hid hx0
  have HU := Lib.hid hu0
  have hx : l[up]? = some (nd l up) := by unfold nd; rw [List.getD_eq_getElem?_getD, List.getElem?_eq_getElem hu0]; rfl
  have hg := ndsV_get l up _ hx
  obtain ⟨b, off, rfl, hbl, hcl⟩ := (HH.out.nodes.up HH.out.old).at_ (by rw [ndsV_length]; omega)
  have c0 := hcl _ _ (hg 0 (by omega))
  have c1 := hcl _ _ (hg 1 (by omega))
  have c2 := hcl _ _ (hg 2 (by omega))
  have c3 := hcl _ _ (hg 3 (by omega))
  have c4 := hcl _ _ (hg 4 (by omega))
  have c5 := hcl _ _ (hg 5 (by omega))
  have c6 := hcl _ _ (hg 6 (by omega))
  rw [← Nat.add_assoc] at c0 c1 c2 c3 c4 c5 c6
  rw [Nat.add_zero] at c0
  clear hx hg hcl
  generalize hnd : nd l up = nx at *
  obtain ⟨kd, lf, rt, st⟩ := nx
  replace c0 : w.cell? ⟨b, off + up * 7, none⟩ = some (.int .i64 kd) := c0
  replace c1 : w.cell? ⟨b, off + up * 7 + 1, none⟩ = some (.int .i64 lf) := c1
  replace c2 : w.cell? ⟨b, off + up * 7 + 2, none⟩ = some (.int .i64 rt) := c2
  replace c3 : w.cell? ⟨b, off + up * 7 + 3, none⟩ = some (.int .u64 (setW st 0)) := c3
  replace c4 : w.cell? ⟨b, off + up * 7 + 4, none⟩ = some (.int .u64 (setW st 1)) := c4
  replace c5 : w.cell? ⟨b, off + up * 7 + 5, none⟩ = some (.int .u64 (setW st 2)) := c5
  replace c6 : w.cell? ⟨b, off + up * 7 + 6, none⟩ = some (.int .u64 (setW st 3)) := c6
  simp only at kl kr hI
  have HI := Lib.hid hI
  have KL := Lib.hid kl
  have KR := Lib.hid kr
  clear hI kl kr hK hnd hL hx0 hup
  go_enter Try.func80, Try.ntmps80
  go_upto_region 2 with fail
  have hb5 := heap_alloc_new w (.cells #[.int .i64 kd, .int .i64 lf, .int .i64 rt, .int .u64 (setW st 0), .int .u64 (setW st 1), .int .u64 (setW st 2), .int .u64 (setW st 3)] 48)
  have HO_ := Lib.hid ((Old.refl w).alloc (.cells #[.int .i64 kd, .int .i64 lf, .int .i64 rt, .int .u64 (setW st 0), .int .u64 (setW st 1), .int .u64 (setW st 2), .int .u64 (setW st 3)] 48))
  generalize w.alloc (.cells #[.int .i64 kd, .int .i64 lf, .int .i64 rt, .int .u64 (setW st 0), .int .u64 (setW st 1), .int .u64 (setW st 2), .int .u64 (setW st 3)] 48) = W at *
  have HW := Lib.hid (HH.out.up HO_.out)
  have HKW := Lib.hid (Kept.of_old HO_.out g gm lv)
  have NB : Hid (w.heap.size ≠ g ∧ w.heap.size ≠ gm ∧ some w.heap.size ≠ lv.ownBlock) := Lib.hid ⟨fun e => absurd (lt_of_block HH.out.blk) (by omega), fun e => absurd (lt_of_block HH.out.mks) (by omega), fun e => absurd (World.ownsRow.lt HH.out.own _ e.symm).2 (by omega)⟩
  have d0 : W.cell? ⟨w.heap.size, 0, none⟩ = some (.int .i64 kd) := by rw [cell_of_row W _ 0 _ _ _ hb5]; rfl
  have d1 : W.cell? ⟨w.heap.size, 1, none⟩ = some (.int .i64 lf) := by rw [cell_of_row W _ 1 _ _ _ hb5]; rfl
  have d2 : W.cell? ⟨w.heap.size, 2, none⟩ = some (.int .i64 rt) := by rw [cell_of_row W _ 2 _ _ _ hb5]; rfl
  have HB5 := Lib.hid hb5
  clear c0 c1 c2 c3 c4 c5 c6 hb5
  have hk : kd = 3 ∨ kd = 5 ∨ kd = 6 ∨ (kd ≠ 3 ∧ kd ≠ 5 ∧ kd ≠ 6) := by omega
  rcases hk with rfl | rfl | rfl | ⟨n3, n5, n6⟩
  · obtain ⟨a, rfl, ha⟩ := KL.out (by decide)
    obtain ⟨b2, rfl, hb2⟩ := KR.out (by decide)
    by_cases hxa : x = a
    · have HE : Hid (outOfM l up x L = enterM L (2 * b2)) := Lib.hid (by rw [HI.out, if_pos rfl, if_pos (by omega)]; rfl)
      have bx : ((x : Int) == (a : Int)) = true := beq_iff_eq.mpr (by omega)
      clear hxa
      go_wp2_with fail
      refine (HB.out b2 (by omega) _).mono ?_; rintro e V ⟨rfl, rfl⟩
      go_wp2_with fail
      refine (enterW HW.out hl HLL.out (2 * b2) (by omega)).mono ?_; rintro e V ⟨rfl, lv', hw, hk'⟩
      have HV := Lib.hid hw
      have HKV := Lib.hid (HKW.out.trans hk')
      clear hw hk'
      go_wp2_with fail
      go_end0
      exact ⟨rfl, _, by rw [HE.out]; exact HV.out, HKV.out⟩
    · have HE : Hid (outOfM l up x L = enterM L (2 * up + 1)) := Lib.hid (by rw [HI.out, if_pos rfl, if_neg (by omega)])
      have bx : ((x : Int) == (a : Int)) = false := beq_eq_false_iff_ne.mpr (by omega)
      clear hxa
      go_wp2_with fail
      refine (HA.out up (by omega) _).mono ?_; rintro e V ⟨rfl, rfl⟩
      go_wp2_with fail
      refine (enterW HW.out hl HLL.out (2 * up + 1) (by omega)).mono ?_; rintro e V ⟨rfl, lv', hw, hk'⟩
      have HV := Lib.hid hw
      have HKV := Lib.hid (HKW.out.trans hk')
      clear hw hk'
      go_wp2_with fail
      go_end0
      exact ⟨rfl, _, by rw [HE.out]; exact HV.out, HKV.out⟩
  · have HE : Hid (outOfM l up x L = enterM L (2 * up)) := Lib.hid (by rw [HI.out, if_neg (by decide), if_pos rfl])
    go_wp2_with fail
    refine (HB.out up (by omega) _).mono ?_; rintro e V ⟨rfl, rfl⟩
    go_wp2_with fail
    refine (enterW HW.out hl HLL.out (2 * up) (by omega)).mono ?_; rintro e V ⟨rfl, lv', hw, hk'⟩
    have HV := Lib.hid hw
    have HKV := Lib.hid (HKW.out.trans hk')
    clear hw hk'
    go_wp2_with fail
    go_end0
    exact ⟨rfl, _, by rw [HE.out]; exact HV.out, HKV.out⟩
  · obtain ⟨a, rfl, ha⟩ := KL.out (by decide)
    have HE : Hid (outOfM l up x L = enterM (enterM L (2 * up + 1)) (2 * x)) := Lib.hid (by rw [HI.out, if_neg (by decide), if_neg (by decide), if_pos rfl])
    go_wp2_with fail
    refine (HA.out up (by omega) _).mono ?_; rintro e V ⟨rfl, rfl⟩
    go_wp2_with fail
    refine (enterW HW.out hl HLL.out (2 * up + 1) (by omega)).mono ?_; rintro e V ⟨rfl, lv', hw, hk'⟩
    have hbV := hk'.block HB5.out NB.out.1 NB.out.2.1 NB.out.2.2
    have o1 : V.cell? ⟨w.heap.size, 1, none⟩ = some (.int .i64 (a : Int)) := by rw [cell_of_row V _ 1 _ _ _ hbV]; rfl
    have o2 : V.cell? ⟨w.heap.size, 2, none⟩ = some (.int .i64 rt) := by rw [cell_of_row V _ 2 _ _ _ hbV]; rfl
    have HV := Lib.hid hw
    have HKV := Lib.hid (HKW.out.trans hk')
    clear hw hk' hbV
    go_wp2_with fail
    refine (HB.out x (by omega) _).mono ?_; rintro e V2 ⟨rfl, rfl⟩
    go_wp2_with fail
    refine (enterW HV.out hl (HLL.out.enter (by omega)) (2 * x) (by omega)).mono ?_; rintro e V2 ⟨rfl, lv2, hw, hk'⟩
    have HV2 := Lib.hid hw
    have HKV2 := Lib.hid (HKV.out.trans hk')
    clear hw hk'
    go_wp2_with fail
    go_end0
    exact ⟨rfl, _, by rw [HE.out]; exact HV2.out, HKV2.out⟩
  · have HE : Hid (outOfM l up x L = enterM L (2 * up + 1)) := Lib.hid (by rw [HI.out, if_neg n3, if_neg n5, if_neg n6])
    have b3 : (kd == 3) = false := by simpa using n3
    have b5 : (kd == 5) = false := by simpa using n5
    have b6 : (kd == 6) = false := by simpa using n6
    clear n3 n5 n6
    go_wp2_with fail
    refine (HA.out up (by omega) _).mono ?_; rintro e V ⟨rfl, rfl⟩
    go_wp2_with fail
    refine (enterW HW.out hl HLL.out (2 * up + 1) (by omega)).mono ?_; rintro e V ⟨rfl, lv', hw, hk'⟩
    have HV := Lib.hid hw
    have HKV := Lib.hid (HKW.out.trans hk')
    clear hw hk'
    go_wp2_with fail
    go_end0
    exact ⟨rfl, _, by rw [HE.out]; exact HV.out, HKV.out⟩
end Go.Proofs.Ytaajgdhoffhdcaa
