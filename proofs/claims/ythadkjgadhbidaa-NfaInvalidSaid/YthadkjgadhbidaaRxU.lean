/-
  The walks of the reference's cat, alt.
-/
import Derived.Test.YthadkjgadhbidaaRxT
namespace Go.Proofs.Ythadkjgadhbidaa
open Go.RowKit
set_option linter.unusedVariables false

theorem Good.cat_ {n : Nat} {p0 q q2 : Ps} {l x : List Nd} (hs : Start n p0) (hg : l = [] ∧ q = p0 ∨ Good n p0 l q 2 ∧ q.e = 0) (hx : Good n q x q2 2) (he2 : q2.e = 0) :
    Good n p0 (if l.length = 0 then x else joinN 3 l x) q2 2 := by
  obtain ⟨x1, x2, x3, x4, x5⟩ := hx.ok he2
  have hst : q.deep = p0.deep ∧ p0.at_ ≤ q.at_ ∧ Nb l ∧ (l.length = 0 ∧ q.at_ = p0.at_ ∨ 0 < l.length ∧ l.length + 2 ≤ 2 * (q.at_ - p0.at_) + 1) := by
    rcases hg with ⟨rfl, rfl⟩ | ⟨hg, he⟩
    · exact ⟨rfl, Nat.le_refl _, Nb.nil_, Or.inl ⟨rfl, rfl⟩⟩
    · obtain ⟨g1, g2, g3, g4, g5⟩ := hg.ok he
      exact ⟨g1, g2, hg.nb, Or.inr ⟨g4, g5⟩⟩
  obtain ⟨s1, s2, s4, s5⟩ := hst
  refine ⟨by omega, ?_, fun _ => ⟨by omega, by omega, x3, ?_, ?_⟩, fun he => absurd he2 he⟩
  · split
    · exact hx.nb
    · exact s4.join hx.nb (by omega)
  · split
    · exact x4
    · rw [join_len]; omega
  · split
    · omega
    · rw [join_len]; omega
theorem Good.alt_ {n : Nat} {p0 q q2 : Ps} {l x : List Nd} (hg : Good n p0 l q 0) (he : q.e = 0) (hx : Good n (upP q) x q2 0) (he2 : q2.e = 0) : Good n p0 (joinN 4 l x) q2 0 := by
  obtain ⟨g1, g2, g3, g4, g5⟩ := hg.ok he
  obtain ⟨x1, x2, x3, x4, x5⟩ := hx.ok he2
  rw [upP_at] at x2 x5
  rw [upP_deep] at x1
  exact ⟨by omega, hg.nb.join hx.nb g4, fun _ => ⟨by omega, by omega, x3, by rw [join_len]; omega, by rw [join_len]; omega⟩, fun he => absurd he2 he⟩
def CatRel2 (w : World) (s : ByteArray) (g : Nat) (p0 : Ps) (R : List Nd × Ps) (F : Nat) (v : Value) (wr : World) : Prop :=
  ∃ (f : Nat) (l : List Nd) (q : Ps), f ≤ F ∧ (l = [] ∧ q = p0 ∨ Good s.size p0 l q 2 ∧ q.e = 0) ∧ LB w s g q v l wr ∧ Hid (catLoop (bs s) f l q = some R)
set_option maxHeartbeats 4000000 in
set_option maxRecDepth 100000 in
theorem catC (f : Nat) (ih : ∀ k, k ≤ f → PartOK k) : CatOK (f + 1) := by
  intro g s p R w h hs hst hR
  have hgl := lt_of_block h
  rw [catP] at hR
  have HR := Lib.hid hR
  have HLB : LB w s g p (.slice none 0 0) [] w := ⟨h, Own.nil_ _ _ _ _, grown_refl _ _⟩
  have HS := Lib.hid hst
  have IH := Lib.hid ih
  clear hR h hst ih
  generalize p = p0 at *
  go_enter Try.func75, Try.ntmps75
  go_wp2_with fail
  go_loopw [3] (fun s3 wr => CatRel2 w s g p0 R f s3 wr) (fun _ wr => s.size + 100 - atOf g wr)
  case atStart => exact ⟨f, [], p0, Nat.le_refl _, Or.inl ⟨rfl, rfl⟩, HLB, HR⟩
  case round =>
    clear HLB HR
    obtain ⟨f1, l, q, hf1, hgd, hL, HP⟩ := hrel
    have hq0 : q.e = 0 ∧ q.at_ ≤ s.size ∧ q.deep ≤ 24 ∧ l.length ≤ 2 * s.size + 1 := by
      rcases hgd with ⟨rfl, rfl⟩ | ⟨hg, he⟩
      · exact ⟨HS.out.1, HS.out.2.1, HS.out.2.2, by simp⟩
      · obtain ⟨g1, g2, g3, g4, g5⟩ := hg.ok he
        exact ⟨he, g3, by rw [g1]; exact HS.out.2.2, by omega⟩
    obtain ⟨a, d, e⟩ := q
    have HMEAS : Hid (atOf g wr = a) := Lib.hid (atOf_eq hL.pz)
    simp only at hq0
    obtain ⟨rfl, ha, hd24, hlen⟩ := hq0
    cases f1 with
    | zero => exact absurd HP.out (by intro h; simp [catLoop] at h)
    | succ f1 =>
    have hP := HP.out
    rw [catLoop] at hP
    have hM := fun n => moreC g s ⟨a, d, 0⟩ (wr.drewN n) hL.pz (by omega) (by simp only; omega)
    unfold BDraw at hM
    have HGD := Lib.hid hgd
    clear HP hgd
    by_cases hm : moreP (bs s) ⟨a, d, 0⟩ = true
    · rw [hm] at hM
      have HM := Lib.hid hM
      obtain ⟨_, hlt⟩ := more_at hm
      simp only at hlt
      have hbb : bAt (bs s) ⟨a, d, 0⟩ = s[a].toNat := bs_get s a hlt
      rw [hbb] at hP
      have i1 : (0 : Int) ≤ (a : Int) := by omega
      have i2 : (a : Int) < (s.size : Int) := by omega
      obtain ⟨c0, c1, c2, c3, f1', f2', f3'⟩ := PzC_cells hL.pz
      simp only at c0 c1 c2 c3
      clear c2 c3 f1' f2' f3' hM hbb
      by_cases h124 : s[a].toNat = 124
      · have b1 : ((s[a].toNat : Int) != 124) = false := by simp; omega
        have HST := Lib.hid hP
        rw [if_neg (fun h => h.2.1 h124)] at HST
        clear hP hm h124
        go_upto_region 2 with fail
        go_quiet ((go_at_call 76; exact Calls.quiet_of (HM.out _)))
        have hLz := hL.drewN nq
        clear c0 c1 hL
        generalize wr.drewN nq = Z at *
        have HE : Hid (R = (if l.length = 0 then leafN 1 0 else l, ⟨a, d, 0⟩)) := Lib.hid (Option.some.inj HST.out).symm
        obtain ⟨Al, cl, rfl, hts, _⟩ := hLz.ow.shape
        clear hts HST
        by_cases hl0 : l.length = 0
        · have HE2 : Hid (R = (leafN 1 0, ⟨a, d, 0⟩)) := Lib.hid (by rw [HE.out, if_pos hl0])
          have HLF := Lib.hid (leaf0C 1 Z)
          have hlb : ((l.length : Int) == 0) = true := by rw [beq_iff_eq]; omega
          clear hl0 HE
          go_wp2_with fail
          refine HLF.out.mono ?_
          rintro e wl ⟨v, rfl, hol, ol⟩
          have HLB : Hid (LB w s g ⟨a, d, 0⟩ v (leafN 1 0) wl) := ⟨ol.block hLz.pz, hol.base hLz.gr.size, grown_old_ hLz.gr ol⟩
          clear hol ol
          go_wp2_with fail
          go_ret
          rw [HE2.out]
          exact ⟨v, rfl, HLB.out⟩
        · have HE2 : Hid (R = (l, ⟨a, d, 0⟩)) := Lib.hid (by rw [HE.out, if_neg hl0])
          have hlb : ((l.length : Int) == 0) = false := by rw [beq_eq_false_iff_ne]; omega
          clear hl0 HE
          go_wp2_with fail
          go_ret
          rw [HE2.out]
          exact ⟨_, rfl, hLz⟩
      have n124 : ((s[a].toNat : Int) != 124) = true := by simp; omega
      by_cases h41 : s[a].toNat = 41
      · have b1 : ((s[a].toNat : Int) != 41) = false := by simp; omega
        have HST := Lib.hid hP
        rw [if_neg (fun h => h.2.2 h41)] at HST
        clear hP hm h41 h124
        go_upto_region 2 with fail
        go_quiet ((go_at_call 76; exact Calls.quiet_of (HM.out _)))
        have hLz := hL.drewN nq
        clear c0 c1 hL
        generalize wr.drewN nq = Z at *
        have HE : Hid (R = (if l.length = 0 then leafN 1 0 else l, ⟨a, d, 0⟩)) := Lib.hid (Option.some.inj HST.out).symm
        obtain ⟨Al, cl, rfl, hts, _⟩ := hLz.ow.shape
        clear hts HST
        by_cases hl0 : l.length = 0
        · have HE2 : Hid (R = (leafN 1 0, ⟨a, d, 0⟩)) := Lib.hid (by rw [HE.out, if_pos hl0])
          have HLF := Lib.hid (leaf0C 1 Z)
          have hlb : ((l.length : Int) == 0) = true := by rw [beq_iff_eq]; omega
          clear hl0 HE
          go_wp2_with fail
          refine HLF.out.mono ?_
          rintro e wl ⟨v, rfl, hol, ol⟩
          have HLB : Hid (LB w s g ⟨a, d, 0⟩ v (leafN 1 0) wl) := ⟨ol.block hLz.pz, hol.base hLz.gr.size, grown_old_ hLz.gr ol⟩
          clear hol ol
          go_wp2_with fail
          go_ret
          rw [HE2.out]
          exact ⟨v, rfl, HLB.out⟩
        · have HE2 : Hid (R = (l, ⟨a, d, 0⟩)) := Lib.hid (by rw [HE.out, if_neg hl0])
          have hlb : ((l.length : Int) == 0) = false := by rw [beq_eq_false_iff_ne]; omega
          clear hl0 HE
          go_wp2_with fail
          go_ret
          rw [HE2.out]
          exact ⟨_, rfl, hLz⟩
      have n41 : ((s[a].toNat : Int) != 41) = true := by simp; omega
      rw [if_pos ⟨hm, h124, h41⟩] at hP
      cases hq : partP (bs s) f1 ⟨a, d, 0⟩ with
      | none => rw [hq] at hP; cases hP
      | some xq =>
        rw [hq] at hP
        obtain ⟨x, q2⟩ := xq
        have hst2 : Start s.size ⟨a, d, 0⟩ := ⟨rfl, ha, hd24⟩
        have hA := fun W (hp : W.heap[g]? = some (PzC s ⟨a, d, 0⟩)) => IH.out f1 (by omega) g s ⟨a, d, 0⟩ (x, q2) W hp hs hst2 hlt hq
        have hGx : Good (bs s).length ⟨a, d, 0⟩ x q2 2 := (parse_good (bs s) f1).2.2.2.2.1 ⟨a, d, 0⟩ (x, q2) (by rw [bs_length]; exact hst2) (by rw [bs_length]; exact hlt) hq
        rw [bs_length] at hGx
        have HA := Lib.hid hA
        have HGX := Lib.hid hGx
        have HNX := Lib.hid hP
        clear hA hGx hP hm h124 h41 hst2 hq
        go_upto_region 2 with fail
        go_quiet ((go_at_call 76; exact Calls.quiet_of (HM.out _)))
        have hLz := hL.drewN nq
        clear c0 c1 hL HM
        generalize wr.drewN nq = Z at *
        have HAZ := Lib.hid (HA.out Z hLz.pz)
        clear HA n124 n41
        go_wp2_with fail
        refine (HAZ.out).mono ?_; rintro e V ⟨vx, rfl, hLx⟩
        have hLk := hLz.keep hLx.pz hLx.gr
        have hLx2 : LB w s g q2 vx x V := ⟨hLx.pz, hLx.ow.base hLz.gr.size, World.grownBy.trans hLz.gr hLx.gr⟩
        clear hLx hLz HAZ
        go_upto_region 4 with fail
        obtain ⟨a2, d2, e2⟩ := q2
        obtain ⟨c0, c1, c2, c3, f1', f2', f3'⟩ := PzC_cells hLk.pz
        simp only at c0 c1 c2 c3
        clear c0 c1 c2 f1' f2' f3'
        by_cases he2 : e2 = 0
        · subst he2
          have HNX2 := HNX.out
          rw [if_pos rfl] at HNX2
          have HNX3 := Lib.hid HNX2
          have hGN := Good.cat_ (l := l) (q := ⟨a, d, 0⟩) HS.out (HGD.out.imp id (fun h => ⟨h.1, rfl⟩)) HGX.out rfl
          have HGN := Lib.hid hGN
          have hat : a < a2 ∧ a2 ≤ s.size ∧ x.length ≤ 2 * s.size + 1 := by
            obtain ⟨x1, x2, x3, x4, x5⟩ := HGX.out.ok rfl
            simp only at x2 x3 x5
            omega
          obtain ⟨hat1, hat2, hxl⟩ := hat
          have HNBX := Lib.hid HGX.out.nb
          obtain ⟨Al, cl, rfl, htl, _⟩ := hLk.ow.shape
          obtain ⟨Ax, cx, rfl, htx, _⟩ := hLx2.ow.shape
          clear HNX2 HNX hGN
          by_cases hl0 : l.length = 0
          · have hlb : ((l.length : Int) == 0) = true := by rw [beq_iff_eq]; omega
            have HNX4 := HNX3.out
            have HGN4 := HGN.out
            rw [if_pos hl0] at HNX4 HGN4
            have HNX5 := Lib.hid HNX4
            have HGN5 := Lib.hid HGN4
            have HME : Hid (atOf g V = a2) := Lib.hid (atOf_eq hLx2.pz)
            clear hl0 HNX4 HGN4 HNX3 HGN htl htx hLk
            go_wp2_with fail
            go_roundw
            case rel => exact ⟨f1, x, ⟨a2, d2, 0⟩, by omega, Or.inr ⟨HGN5.out, rfl⟩, hLx2, HNX5⟩
            case measure => rw [HME.out, HMEAS.out]; omega
          · have hlb : ((l.length : Int) == 0) = false := by rw [beq_eq_false_iff_ne]; omega
            have HNX4 := HNX3.out
            have HGN4 := HGN.out
            rw [if_neg hl0] at HNX4 HGN4
            have HNX5 := Lib.hid HNX4
            have HGN5 := Lib.hid HGN4
            have HJ := Lib.hid (joinC 3 Al Ax cl cx l x V htl.rs htx.rs (by omega) (by omega) (HNBX.out.ndB (by omega)))
            clear hl0 HNX4 HGN4 HNX3 HGN htl htx hLx2
            go_wp2_with fail
            refine (HJ.out).mono ?_; rintro e Y ⟨v, rfl, hoj, oj⟩
            have hL2 : LB w s g ⟨a2, d2, 0⟩ v (joinN 3 l x) Y := ⟨oj.block hLk.pz, hoj.base hLk.gr.size, grown_old_ hLk.gr oj⟩
            have HME : Hid (atOf g Y = a2) := Lib.hid (atOf_eq hL2.pz)
            clear hoj oj HJ hLk c3
            go_wp2_with fail
            go_roundw
            case rel => exact ⟨f1, joinN 3 l x, ⟨a2, d2, 0⟩, by omega, Or.inr ⟨HGN5.out, rfl⟩, hL2, HNX5⟩
            case measure => rw [HME.out, HMEAS.out]; omega
        · have hd1 : (e2 != 0) = true := by simpa using he2
          have HNX2 := HNX.out
          rw [if_neg he2] at HNX2
          have HE := Lib.hid (Option.some.inj HNX2).symm
          have HF : Hid (LB w s g ⟨a2, d2, e2⟩ (.slice none 0 0) [] V) := ⟨hLk.pz, Own.nil_ _ _ _ _, hLk.gr⟩
          clear HNX2 HNX he2 hLk hLx2
          go_wp2_with fail
          go_ret
          rw [HE.out]
          exact ⟨_, rfl, HF.out⟩
    · have hm2 : moreP (bs s) ⟨a, d, 0⟩ = false := by simpa using hm
      rw [hm2] at hM
      have HM := Lib.hid hM
      have HST := Lib.hid hP
      rw [if_neg (fun h => hm h.1)] at HST
      clear hM hP hm hm2
      go_upto_region 2 with fail
      go_quiet ((go_at_call 76; exact Calls.quiet_of (HM.out _)))
      have hLz := hL.drewN nq
      clear hL
      generalize wr.drewN nq = Z at *
      have HE : Hid (R = (if l.length = 0 then leafN 1 0 else l, ⟨a, d, 0⟩)) := Lib.hid (Option.some.inj HST.out).symm
      obtain ⟨Al, cl, rfl, hts, _⟩ := hLz.ow.shape
      clear hts HST
      by_cases hl0 : l.length = 0
      · have HE2 : Hid (R = (leafN 1 0, ⟨a, d, 0⟩)) := Lib.hid (by rw [HE.out, if_pos hl0])
        have HLF := Lib.hid (leaf0C 1 Z)
        have hlb : ((l.length : Int) == 0) = true := by rw [beq_iff_eq]; omega
        clear hl0 HE
        go_wp2_with fail
        refine HLF.out.mono ?_
        rintro e wl ⟨v, rfl, hol, ol⟩
        have HLB : Hid (LB w s g ⟨a, d, 0⟩ v (leafN 1 0) wl) := ⟨ol.block hLz.pz, hol.base hLz.gr.size, grown_old_ hLz.gr ol⟩
        clear hol ol
        go_wp2_with fail
        go_ret
        rw [HE2.out]
        exact ⟨v, rfl, HLB.out⟩
      · have HE2 : Hid (R = (l, ⟨a, d, 0⟩)) := Lib.hid (by rw [HE.out, if_neg hl0])
        have hlb : ((l.length : Int) == 0) = false := by rw [beq_eq_false_iff_ne]; omega
        clear hl0 HE
        go_wp2_with fail
        go_ret
        rw [HE2.out]
        exact ⟨_, rfl, hLz⟩
def AltRel (w : World) (s : ByteArray) (g : Nat) (p0 : Ps) (R : List Nd × Ps) (F : Nat) (v : Value) (wr : World) : Prop :=
  ∃ (f : Nat) (l : List Nd) (q : Ps), f ≤ F ∧ Good s.size p0 l q 0 ∧ LB w s g q v l wr ∧ Hid (altLoop (bs s) f l q = some R)
set_option maxHeartbeats 4000000 in
set_option maxRecDepth 100000 in
theorem altC (f : Nat) (ih : ∀ k, k ≤ f → CatOK k) : AltOK (f + 1) := by
  intro g s p R w h hs hst hR
  have hgl := lt_of_block h
  rw [altP] at hR
  cases hq0 : catP (bs s) f p with
  | none => rw [hq0] at hR; cases hR
  | some lq =>
  rw [hq0] at hR
  obtain ⟨l0, q0⟩ := lq
  have hA := ih f (Nat.le_refl _) g s p (l0, q0) w h hs hst hq0
  have hG0 : Good (bs s).length p l0 q0 0 := (parse_good (bs s) f).2.2.1 p (l0, q0) (by rw [bs_length]; exact hst) hq0
  rw [bs_length] at hG0
  have HR : Hid (altLoop (bs s) f l0 q0 = some R) := Lib.hid hR
  have HA := Lib.hid hA
  have HG0 := Lib.hid hG0
  have HS := Lib.hid hst
  have IH := Lib.hid ih
  clear hR h hst ih hA hG0 hq0
  generalize p = p0 at *
  go_enter Try.func53, Try.ntmps53
  go_wp2_with fail
  refine (HA.out).mono ?_; rintro e V0 ⟨v0, rfl, hLB⟩
  go_wp2_with fail
  go_loopw [3] (fun s3 wr => AltRel w s g p0 R f s3 wr) (fun _ wr => s.size + 100 - atOf g wr)
  case atStart => exact ⟨f, l0, q0, Nat.le_refl _, HG0.out, hLB, HR⟩
  case round =>
    clear hLB HR HA HG0
    obtain ⟨f1, l, q, hf1, hgd, hL, HP⟩ := hrel
    have hatb := hgd.atb
    have hlen := hgd.len
    obtain ⟨a, d, e⟩ := q
    have HMEAS : Hid (atOf g wr = a) := Lib.hid (atOf_eq hL.pz)
    simp only at hatb
    cases f1 with
    | zero => exact absurd HP.out (by intro h; simp [altLoop] at h)
    | succ f1 =>
    have hP := HP.out
    rw [altLoop] at hP
    have hM := fun n => moreC g s ⟨a, d, e⟩ (wr.drewN n) hL.pz (by omega) (by simp only; omega)
    unfold BDraw at hM
    have HGD := Lib.hid hgd
    clear HP hgd
    by_cases hm : moreP (bs s) ⟨a, d, e⟩ = true
    · rw [hm] at hM
      have HM := Lib.hid hM
      obtain ⟨he0, hlt⟩ := more_at hm
      simp only at hlt he0
      subst he0
      have hbb : bAt (bs s) ⟨a, d, 0⟩ = s[a].toNat := bs_get s a hlt
      rw [hbb] at hP
      have i1 : (0 : Int) ≤ (a : Int) := by omega
      have i2 : (a : Int) < (s.size : Int) := by omega
      obtain ⟨c0, c1, c2, c3, f1', f2', f3'⟩ := PzC_cells hL.pz
      simp only at c0 c1 c2 c3
      clear c2 c3 f1' f2' f3' hM hbb
      by_cases h124 : s[a].toNat = 124
      · have b1 : ((s[a].toNat : Int) == 124) = true := by simp; omega
        rw [if_pos ⟨hm, h124⟩] at hP
        have hu : upP ⟨a, d, 0⟩ = ⟨a + 1, d, 0⟩ := rfl
        rw [hu] at hP
        cases hq : catP (bs s) f1 ⟨a + 1, d, 0⟩ with
        | none => rw [hq] at hP; cases hP
        | some xq =>
        rw [hq] at hP
        obtain ⟨x, q2⟩ := xq
        obtain ⟨g1, g2, g3, g4, g5⟩ := HGD.out.ok rfl
        simp only at g1 g2 g3 g5
        have hl0 : 0 < l.length := g4
        have hst2 : Start s.size ⟨a + 1, d, 0⟩ := ⟨rfl, hlt, by simp only; rw [g1]; exact HS.out.2.2⟩
        have hA := fun W (hp : W.heap[g]? = some (PzC s ⟨a + 1, d, 0⟩)) => IH.out f1 (by omega) g s ⟨a + 1, d, 0⟩ (x, q2) W hp hs hst2 hq
        have hGx : Good (bs s).length ⟨a + 1, d, 0⟩ x q2 0 := (parse_good (bs s) f1).2.2.1 ⟨a + 1, d, 0⟩ (x, q2) (by rw [bs_length]; exact hst2) hq
        rw [bs_length] at hGx
        have HA := Lib.hid hA
        have HGX := Lib.hid hGx
        have HNX := Lib.hid hP
        clear hA hGx hP hm h124 hst2 hq g1 g2 g3 g4 g5
        go_upto_region 2 with fail
        go_quiet ((go_at_call 76; exact Calls.quiet_of (HM.out _)))
        have hLy := hL.drewN nq
        clear c0 c1 hL HM
        generalize wr.drewN nq = Z0 at *
        obtain ⟨c0, c1, c2, c3, f1', f2', f3'⟩ := PzC_cells hLy.pz
        simp only at c0 c1 c2 c3
        clear c0 c2 c3 f2' f3'
        have hLz := hLy.up
        simp only [upP] at hLz
        clear hLy
        go_upto_region 4 with fail
        generalize Z0.setCell ⟨g, 1, none⟩ (.int .i64 ((a : Int) + 1)) = Z at *
        clear c1 f1'
        have HAZ := Lib.hid (HA.out Z hLz.pz)
        clear HA
        go_wp2_with fail
        refine (HAZ.out).mono ?_; rintro e V ⟨vx, rfl, hLx⟩
        have hLk := hLz.keep hLx.pz hLx.gr
        have hLx2 : LB w s g q2 vx x V := ⟨hLx.pz, hLx.ow.base hLz.gr.size, World.grownBy.trans hLz.gr hLx.gr⟩
        clear hLx hLz HAZ
        go_upto_region 5 with fail
        obtain ⟨a2, d2, e2⟩ := q2
        obtain ⟨c0, c1, c2, c3, f1', f2', f3'⟩ := PzC_cells hLk.pz
        simp only at c0 c1 c2 c3
        clear c0 c1 c2 f1' f2' f3'
        by_cases he2 : e2 = 0
        · subst he2
          have HNX2 := HNX.out
          rw [if_pos rfl] at HNX2
          have HNX3 := Lib.hid HNX2
          have HGN := Lib.hid (Good.alt_ (l := l) (q := ⟨a, d, 0⟩) HGD.out rfl HGX.out rfl)
          have hat : a + 1 ≤ a2 ∧ a2 ≤ s.size ∧ x.length ≤ 2 * s.size + 1 := by
            obtain ⟨x1, x2, x3, x4, x5⟩ := HGX.out.ok rfl
            simp only at x2 x3 x5
            omega
          obtain ⟨hat1, hat2, hxl⟩ := hat
          have HNBX := Lib.hid HGX.out.nb
          obtain ⟨Al, cl, rfl, htl, _⟩ := hLk.ow.shape
          obtain ⟨Ax, cx, rfl, htx, _⟩ := hLx2.ow.shape
          have HJ := Lib.hid (joinC 4 Al Ax cl cx l x V htl.rs htx.rs hl0 (by omega) (HNBX.out.ndB (by omega)))
          clear HNX2 HNX htl htx hLx2
          go_wp2_with fail
          refine (HJ.out).mono ?_; rintro e Y ⟨v, rfl, hoj, oj⟩
          have hL2 : LB w s g ⟨a2, d2, 0⟩ v (joinN 4 l x) Y := ⟨oj.block hLk.pz, hoj.base hLk.gr.size, grown_old_ hLk.gr oj⟩
          have HME : Hid (atOf g Y = a2) := Lib.hid (atOf_eq hL2.pz)
          clear hoj oj HJ hLk c3
          go_wp2_with fail
          go_roundw
          case rel => exact ⟨f1, joinN 4 l x, ⟨a2, d2, 0⟩, by omega, HGN.out, hL2, HNX3⟩
          case measure => rw [HME.out, HMEAS.out]; omega
        · have hd1 : (e2 != 0) = true := by simpa using he2
          have HNX2 := HNX.out
          rw [if_neg he2] at HNX2
          have HE := Lib.hid (Option.some.inj HNX2).symm
          have HF : Hid (LB w s g ⟨a2, d2, e2⟩ (.slice none 0 0) [] V) := ⟨hLk.pz, Own.nil_ _ _ _ _, hLk.gr⟩
          clear HNX2 HNX he2 hLk hLx2
          go_wp2_with fail
          go_ret
          rw [HE.out]
          exact ⟨_, rfl, HF.out⟩
      · have b1 : ((s[a].toNat : Int) == 124) = false := by simp; omega
        have HST := Lib.hid hP
        rw [if_neg (fun h => h124 h.2)] at HST
        clear hP hm h124
        go_upto_region 2 with fail
        go_quiet ((go_at_call 76; exact Calls.quiet_of (HM.out _)))
        have hLz := hL.drewN nq
        clear c0 c1 hL
        generalize wr.drewN nq = Z at *
        have HE : Hid (R = (l, ⟨a, d, 0⟩)) := Lib.hid (Option.some.inj HST.out).symm
        clear HST
        go_wp2_with fail
        go_ret
        rw [HE.out]
        exact ⟨_, rfl, hLz⟩
    · have hm2 : moreP (bs s) ⟨a, d, e⟩ = false := by simpa using hm
      rw [hm2] at hM
      have HM := Lib.hid hM
      have HST := Lib.hid hP
      rw [if_neg (fun h => hm h.1)] at HST
      clear hM hP hm hm2
      go_upto_region 2 with fail
      go_quiet ((go_at_call 76; exact Calls.quiet_of (HM.out _)))
      have hLz := hL.drewN nq
      clear hL
      generalize wr.drewN nq = Z at *
      have HE : Hid (R = (l, ⟨a, d, e⟩)) := Lib.hid (Option.some.inj HST.out).symm
      clear HST
      go_wp2_with fail
      go_ret
      rw [HE.out]
      exact ⟨_, rfl, hLz⟩
end Go.Proofs.Ythadkjgadhbidaa
