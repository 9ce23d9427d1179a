/-
  The walk of the reference's atom, given alt.
-/
import Derived.Test.YthadkjgadhbidaaRxL
import Derived.Test.YthadkjgadhbidaaRxB
namespace Go.Proofs.Ythadkjgadhbidaa
open Go.RowKit
set_option linter.unusedVariables false

theorem Own.kept_ {w w' : World} {base size n : Nat} {e : TypeId} {v : Value} {xs : List Value} (hown : Own w base e size v n xs) {g : Nat} (hg : w.grownBy w' (some g)) {cs : Array Value} {t : TypeId} {fz : Nat × Nat} (h1 : w.heap[g]? = some (.cells cs t fz)) (hne : e ≠ t) : Own w' base e size v n xs := by
  refine World.ownsRow.kept hown hg ?_
  rcases hown with ⟨_, ⟨rfl, _⟩ | ⟨g', cap, cu, rfl, _, hgg, _⟩⟩
  · exact Or.inl rfl
  · refine Or.inr ?_
    intro hk
    simp [Value.ownBlock] at hk
    subst hk
    rw [hgg] at h1
    simp at h1
    exact hne h1.2.1
/-- The parser, and a list of nodes of the call's own. -/
structure LB (w : World) (s : ByteArray) (g : Nat) (q : Ps) (v : Value) (l : List Nd) (ww : World) : Prop where
  pz : ww.heap[g]? = some (PzC s q)
  ow : Own ww w.heap.size 114 7 v l.length (ndsV l)
  gr : w.grownBy ww (some g)
theorem LB.old {w : World} {s : ByteArray} {g : Nat} {q : Ps} {v : Value} {l : List Nd} {ww w2 : World} (h : LB w s g q v l ww) (o : Old ww w2) : LB w s g q v l w2 := ⟨o.block h.pz, h.ow.up o, grown_old_ h.gr o⟩
theorem LB.drewN {w : World} {s : ByteArray} {g : Nat} {q : Ps} {v : Value} {l : List Nd} {ww : World} (h : LB w s g q v l ww) (n : Nat) : LB w s g q v l (ww.drewN n) := h.old ((Old.refl _).drewN n)
theorem LB.keep {w : World} {s : ByteArray} {g : Nat} {q q' : Ps} {v : Value} {l : List Nd} {ww w2 : World} (h : LB w s g q v l ww) (hp : w2.heap[g]? = some (PzC s q')) (hg : ww.grownBy w2 (some g)) : LB w s g q' v l w2 :=
  ⟨hp, h.ow.kept_ hg h.pz (by decide), World.grownBy.trans h.gr hg⟩
theorem LB.up {w : World} {s : ByteArray} {g : Nat} {q : Ps} {v : Value} {l : List Nd} {ww : World} (h : LB w s g q v l ww) : LB w s g (upP q) v l (ww.setCell ⟨g, 1, none⟩ (.int .i64 ((q.at_ : Int) + 1))) := by
  have := PzC_at h.pz (q.at_ + 1)
  rw [show ((q.at_ + 1 : Nat) : Int) = (q.at_ : Int) + 1 by omega] at this
  exact h.keep this (grown_store (grown_refl ww _) 1 _)
def NPost (w : World) (g : Nat) (s : ByteArray) (R : List Nd × Ps) (e : Ending) (w' : World) : Prop := ∃ v, e = .returned v ∧ LB w s g R.2 v R.1 w'
def AltOK (f : Nat) : Prop := ∀ (g : Nat) (s : ByteArray) (p : Ps) (R : List Nd × Ps) (w : World), w.heap[g]? = some (PzC s p) → s.size ≤ 100000 → Start s.size p → altP (bs s) f p = some R → Calls Try.prog 53 #[.pointer (some ⟨g, 0, none⟩)] w (NPost w g s R)
theorem leaf0C (k : Int) (w : World) : Calls Try.prog 85 #[.int .i64 k, .agg #[.int .u64 0, .int .u64 0, .int .u64 0, .int .u64 0]] w (NodesOld (leafN k 0) w) := by
  have := leafC k 0 w
  rw [setA_zero] at this
  exact this
set_option maxHeartbeats 4000000 in
set_option maxRecDepth 100000 in
theorem atomC (f : Nat) (ih : AltOK f) (g : Nat) (s : ByteArray) (p : Ps) (R : List Nd × Ps) (w : World) (h : w.heap[g]? = some (PzC s p)) (hs : s.size ≤ 100000) (hst : Start s.size p) (hlt : p.at_ < s.size) (hR : atomP (bs s) (f + 1) p = some R) :
    Calls Try.prog 89 #[.pointer (some ⟨g, 0, none⟩)] w (NPost w g s R) := by
  obtain ⟨he, ha, hd⟩ := hst
  obtain ⟨a, d, e⟩ := p
  simp only at he ha hd hlt
  subst he
  have hgl := lt_of_block h
  obtain ⟨c0, c1, c2, c3, f1, f2, f3⟩ := PzC_cells h
  simp only at c0 c1 c2 c3
  clear c2 c3 f2 f3
  have HP := Lib.hid h
  have i1 : (0 : Int) ≤ (a : Int) := by omega
  have i2 : (a : Int) < (s.size : Int) := by omega
  have hb2 := bs_lt s a
  have hbg := bs_get s a hlt
  rw [hbg] at hb2
  have hbb : bAt (bs s) ⟨a, d, 0⟩ = s[a].toNat := hbg
  have HB2 := Lib.hid hb2
  have IH := Lib.hid ih
  have z0 : (0 : Int) ≤ (s[a].toNat : Int) := by omega
  have z1 : (s[a].toNat : Int) ≤ 255 := by omega
  rw [atomP] at hR
  simp only [hbb] at hR
  clear h ih hb2 hbg hbb
  by_cases h46 : s[a].toNat = 46
  · rw [if_pos h46] at hR
    have HE := Lib.hid (Option.some.inj hR).symm
    have b1 : ((s[a].toNat : Int) == 46) = true := by simp; omega
    clear hR h46
    go_enter Try.func89, Try.ntmps89
    go_wp2_with fail
    go_quiet (fail)
    have P1 : (w.drewN nq).heap[g]? = some (PzC s ⟨a, d, 0⟩) := HP.out
    have hP2 := PzC_at P1 (a + 1)
    have hG2 := grown_store (grown_drewN (grown_refl w (some g)) nq) 1 (.int .i64 ((a + 1 : Nat) : Int))
    rw [show ((a + 1 : Nat) : Int) = (a : Int) + 1 by omega] at hP2 hG2
    have HP2 := Lib.hid hP2
    have HG2 := Lib.hid hG2
    clear hP2 hG2 P1 c0
    go_upto_region 3 with fail
    generalize (w.drewN nq).setCell ⟨g, 1, none⟩ (.int .i64 ((a : Int) + 1)) = W2 at *
    clear c1 f1
    have hC := with0C 10 (by decide) W2
    unfold ValOld setA at hC
    have HC := Lib.hid hC
    clear hC
    go_wp2_with fail
    refine (HC.out).mono ?_; rintro e X2 ⟨rfl, o2⟩
    have hN := notC (withB 0 10) X2
    generalize withB 0 10 = z at *
    unfold ValOld setA at hN
    have HN := Lib.hid hN
    clear hN
    go_wp2_with fail
    refine (HN.out).mono ?_; rintro e X3 ⟨rfl, o3⟩
    have HPX := Lib.hid ((o2.up o3).block HP2.out)
    have HGX := Lib.hid (grown_old_ HG2.out (o2.up o3))
    have hl := leafC 2 (notB z) X3
    generalize notB z = zn at *
    unfold setA at hl
    have HLF := Lib.hid hl
    clear hl o2 o3
    go_wp2_with fail
    refine HLF.out.mono ?_
    rintro e wl ⟨v, rfl, hol, ol⟩
    have HLB : Hid (LB w s g ⟨a + 1, d, 0⟩ v (leafN 2 zn) wl) := ⟨ol.block HPX.out, hol.base HGX.out.size, grown_old_ HGX.out ol⟩
    clear hol ol
    go_wp2_with fail
    go_ret
    rw [HE.out]
    exact ⟨v, rfl, HLB.out⟩
  have n46 : ((s[a].toNat : Int) == 46) = false := by simp; omega
  rw [if_neg h46] at hR
  clear h46
  by_cases h94 : s[a].toNat = 94
  · rw [if_pos h94] at hR
    have HE := Lib.hid (Option.some.inj hR).symm
    have b1 : ((s[a].toNat : Int) == 94) = true := by simp; omega
    clear hR h94
    go_enter Try.func89, Try.ntmps89
    go_wp2_with fail
    go_quiet (fail)
    have P1 : (w.drewN nq).heap[g]? = some (PzC s ⟨a, d, 0⟩) := HP.out
    have hP2 := PzC_at P1 (a + 1)
    have hG2 := grown_store (grown_drewN (grown_refl w (some g)) nq) 1 (.int .i64 ((a + 1 : Nat) : Int))
    rw [show ((a + 1 : Nat) : Int) = (a : Int) + 1 by omega] at hP2 hG2
    have HP2 := Lib.hid hP2
    have HG2 := Lib.hid hG2
    clear hP2 hG2 P1 c0
    go_upto_region 3 with fail
    generalize (w.drewN nq).setCell ⟨g, 1, none⟩ (.int .i64 ((a : Int) + 1)) = W2 at *
    clear c1 f1
    have HPX := HP2
    have HGX := HG2
    have HLF := Lib.hid (leaf0C 8 W2)
    go_wp2_with fail
    refine HLF.out.mono ?_
    rintro e wl ⟨v, rfl, hol, ol⟩
    have HLB : Hid (LB w s g ⟨a + 1, d, 0⟩ v (leafN 8 0) wl) := ⟨ol.block HPX.out, hol.base HGX.out.size, grown_old_ HGX.out ol⟩
    clear hol ol
    go_wp2_with fail
    go_ret
    rw [HE.out]
    exact ⟨v, rfl, HLB.out⟩
  have n94 : ((s[a].toNat : Int) == 94) = false := by simp; omega
  rw [if_neg h94] at hR
  clear h94
  by_cases h36 : s[a].toNat = 36
  · rw [if_pos h36] at hR
    have HE := Lib.hid (Option.some.inj hR).symm
    have b1 : ((s[a].toNat : Int) == 36) = true := by simp; omega
    clear hR h36
    go_enter Try.func89, Try.ntmps89
    go_wp2_with fail
    go_quiet (fail)
    have P1 : (w.drewN nq).heap[g]? = some (PzC s ⟨a, d, 0⟩) := HP.out
    have hP2 := PzC_at P1 (a + 1)
    have hG2 := grown_store (grown_drewN (grown_refl w (some g)) nq) 1 (.int .i64 ((a + 1 : Nat) : Int))
    rw [show ((a + 1 : Nat) : Int) = (a : Int) + 1 by omega] at hP2 hG2
    have HP2 := Lib.hid hP2
    have HG2 := Lib.hid hG2
    clear hP2 hG2 P1 c0
    go_upto_region 3 with fail
    generalize (w.drewN nq).setCell ⟨g, 1, none⟩ (.int .i64 ((a : Int) + 1)) = W2 at *
    clear c1 f1
    have HPX := HP2
    have HGX := HG2
    have HLF := Lib.hid (leaf0C 9 W2)
    go_wp2_with fail
    refine HLF.out.mono ?_
    rintro e wl ⟨v, rfl, hol, ol⟩
    have HLB : Hid (LB w s g ⟨a + 1, d, 0⟩ v (leafN 9 0) wl) := ⟨ol.block HPX.out, hol.base HGX.out.size, grown_old_ HGX.out ol⟩
    clear hol ol
    go_wp2_with fail
    go_ret
    rw [HE.out]
    exact ⟨v, rfl, HLB.out⟩
  have n36 : ((s[a].toNat : Int) == 36) = false := by simp; omega
  rw [if_neg h36] at hR
  clear h36
  by_cases h92 : s[a].toNat = 92
  · rw [if_pos h92] at hR
    have b1 : ((s[a].toNat : Int) == 92) = true := by simp; omega
    go_enter Try.func89, Try.ntmps89
    go_wp2_with fail
    go_quiet (fail)
    have P1 : (w.drewN nq).heap[g]? = some (PzC s ⟨a, d, 0⟩) := HP.out
    have hP2 := PzC_at P1 (a + 1)
    have hG2 := grown_store (grown_drewN (grown_refl w (some g)) nq) 1 (.int .i64 ((a + 1 : Nat) : Int))
    rw [show ((a + 1 : Nat) : Int) = (a : Int) + 1 by omega] at hP2 hG2
    have HP2 := Lib.hid hP2
    have HG2 := Lib.hid hG2
    clear hP2 hG2 P1 c0
    go_upto_region 3 with fail
    generalize (w.drewN nq).setCell ⟨g, 1, none⟩ (.int .i64 ((a : Int) + 1)) = W2 at *
    clear c1 f1
    have hC := escC g s ⟨a + 1, d, 0⟩ W2 HP2.out (by omega) (by simp only; omega)
    have hu : upP ⟨a, d, 0⟩ = ⟨a + 1, d, 0⟩ := rfl
    rw [hu] at hR
    obtain ⟨⟨⟨z, one⟩, q⟩, hQ⟩ : ∃ r, escP (bs s) ⟨a + 1, d, 0⟩ = r := ⟨_, rfl⟩
    rw [hQ] at hC hR
    have HE := Lib.hid (Option.some.inj hR).symm
    unfold EPost setA at hC
    simp only at hC
    have HC := Lib.hid hC
    clear hC hR h92 hQ hu
    go_wp2_with fail
    refine (HC.out).mono ?_; rintro e X ⟨rfl, hp, hg2⟩
    have hgr := World.grownBy.trans HG2.out hg2
    have oX := (Old.refl X).alloc (.cells #[.int .u64 (setW z 0), .int .u64 (setW z 1), .int .u64 (setW z 2), .int .u64 (setW z 3)] 40)
    have HPX := Lib.hid (oX.block hp)
    have HGX := Lib.hid (grown_old_ hgr oX)
    clear oX hp hgr hg2
    go_upto_region 12 with fail
    have HKX := Lib.hid (heap_alloc_new X (.cells #[.int .u64 (setW z 0), .int .u64 (setW z 1), .int .u64 (setW z 2), .int .u64 (setW z 3)] 40))
    generalize X.alloc (.cells #[.int .u64 (setW z 0), .int .u64 (setW z 1), .int .u64 (setW z 2), .int .u64 (setW z 3)] 40) = X2 at *
    obtain ⟨m0, m1, m2, m3, _, _, _, _⟩ := setC_cells (s := z) HKX.out
    have hl := leafC 2 z X2
    unfold setA at hl
    have HLF := Lib.hid hl
    clear hl
    go_wp2_with fail
    refine HLF.out.mono ?_
    rintro e wl ⟨v, rfl, hol, ol⟩
    have HLB : Hid (LB w s g q v (leafN 2 z) wl) := ⟨ol.block HPX.out, hol.base HGX.out.size, grown_old_ HGX.out ol⟩
    clear hol ol
    go_wp2_with fail
    go_ret
    rw [HE.out]
    exact ⟨v, rfl, HLB.out⟩
  have n92 : ((s[a].toNat : Int) == 92) = false := by simp; omega
  rw [if_neg h92] at hR
  clear h92
  have hu : upP ⟨a, d, 0⟩ = ⟨a + 1, d, 0⟩ := rfl
  by_cases h91 : s[a].toNat = 91
  · rw [if_pos h91, hu] at hR
    have b1 : ((s[a].toNat : Int) == 91) = true := by simp; omega
    clear h91 hu
    cases hq : classP (bs s) f ⟨a + 1, d, 0⟩ with
    | none => rw [hq] at hR; cases hR
    | some r =>
      rw [hq] at hR
      obtain ⟨z, q⟩ := r
      have HE : Hid (R = (leafN 2 z, q)) := Lib.hid (Option.some.inj hR).symm
      have HQ := Lib.hid hq
      clear hR hq
      go_enter Try.func89, Try.ntmps89
      go_wp2_with fail
      go_quiet (fail)
      have P1 : (w.drewN nq).heap[g]? = some (PzC s ⟨a, d, 0⟩) := HP.out
      have hP2 := PzC_at P1 (a + 1)
      have hG2 := grown_store (grown_drewN (grown_refl w (some g)) nq) 1 (.int .i64 ((a + 1 : Nat) : Int))
      rw [show ((a + 1 : Nat) : Int) = (a : Int) + 1 by omega] at hP2 hG2
      have HP2 := Lib.hid hP2
      have HG2 := Lib.hid hG2
      clear hP2 hG2 P1 c0
      go_upto_region 3 with fail
      generalize (w.drewN nq).setCell ⟨g, 1, none⟩ (.int .i64 ((a : Int) + 1)) = W2 at *
      clear c1 f1
      have hC := classC g s f ⟨a + 1, d, 0⟩ (z, q) W2 HP2.out (by omega) (by simp only; omega) HQ.out
      unfold VPost setA at hC
      simp only at hC
      have HC := Lib.hid hC
      clear hC
      go_wp2_with fail
      refine (HC.out).mono ?_; rintro e X ⟨rfl, hp, hg2⟩
      have HGX := Lib.hid (World.grownBy.trans HG2.out hg2)
      have HPX := Lib.hid hp
      have hl := leafC 2 z X
      unfold setA at hl
      have HLF := Lib.hid hl
      clear hl hp hg2
      go_wp2_with fail
      refine HLF.out.mono ?_
      rintro e wl ⟨v, rfl, hol, ol⟩
      have HLB : Hid (LB w s g q v (leafN 2 z) wl) := ⟨ol.block HPX.out, hol.base HGX.out.size, grown_old_ HGX.out ol⟩
      clear hol ol
      go_wp2_with fail
      go_ret
      rw [HE.out]
      exact ⟨v, rfl, HLB.out⟩
  have n91 : ((s[a].toNat : Int) == 91) = false := by simp; omega
  rw [if_neg h91] at hR
  clear h91
  by_cases h93 : s[a].toNat = 93
  · rw [if_pos h93, hu] at hR
    have b1 : ((s[a].toNat : Int) == 93) = true := by simp; omega
    have HE := Lib.hid (Option.some.inj hR).symm
    clear hR h93 hu
    go_enter Try.func89, Try.ntmps89
    go_wp2_with fail
    go_quiet (fail)
    have P1 : (w.drewN nq).heap[g]? = some (PzC s ⟨a, d, 0⟩) := HP.out
    have hP2 := PzC_at P1 (a + 1)
    have hG2 := grown_store (grown_drewN (grown_refl w (some g)) nq) 1 (.int .i64 ((a + 1 : Nat) : Int))
    rw [show ((a + 1 : Nat) : Int) = (a : Int) + 1 by omega] at hP2 hG2
    have HP2 := Lib.hid hP2
    have HG2 := Lib.hid hG2
    clear hP2 hG2 P1 c0
    go_upto_region 3 with fail
    generalize (w.drewN nq).setCell ⟨g, 1, none⟩ (.int .i64 ((a : Int) + 1)) = W2 at *
    clear c1 f1
    have HFL := Lib.hid (failC g s ⟨a + 1, d, 0⟩ 80 W2 HP2.out)
    go_wp2_with fail
    refine (HFL.out).mono ?_; rintro e X ⟨rfl, hp, hg2⟩
    have hgr := World.grownBy.trans HG2.out hg2
    clear hg2
    have hC := with0C s[a].toNat HB2.out X
    generalize withB 0 s[a].toNat = z at *
    unfold ValOld setA at hC
    have HC := Lib.hid hC
    clear hC
    go_wp2_with fail
    refine (HC.out).mono ?_; rintro e X2 ⟨rfl, o2⟩
    have HPX := Lib.hid (o2.block hp)
    have HGX := Lib.hid (grown_old_ hgr o2)
    have hl := leafC 2 z X2
    unfold setA at hl
    have HLF := Lib.hid hl
    clear hl o2 hp hgr
    go_wp2_with fail
    refine HLF.out.mono ?_
    rintro e wl ⟨v, rfl, hol, ol⟩
    have HLB : Hid (LB w s g (failP ⟨a + 1, d, 0⟩ 80) v (leafN 2 z) wl) := ⟨ol.block HPX.out, hol.base HGX.out.size, grown_old_ HGX.out ol⟩
    clear hol ol
    go_wp2_with fail
    go_ret
    rw [HE.out]
    exact ⟨v, rfl, HLB.out⟩
  have n93 : ((s[a].toNat : Int) == 93) = false := by simp; omega
  rw [if_neg h93] at hR
  clear h93
  by_cases hrep : s[a].toNat = 42 ∨ s[a].toNat = 43 ∨ s[a].toNat = 63
  · rw [if_pos hrep, hu] at hR
    have HE := Lib.hid (Option.some.inj hR).symm
    clear hR hu
    rcases hrep with h | h | h
    · have b1 : ((s[a].toNat : Int) == 42) = true := by simp; omega
      clear h
      go_enter Try.func89, Try.ntmps89
      go_wp2_with fail
      go_quiet (fail)
      have P1 : (w.drewN nq).heap[g]? = some (PzC s ⟨a, d, 0⟩) := HP.out
      have hP2 := PzC_at P1 (a + 1)
      have hG2 := grown_store (grown_drewN (grown_refl w (some g)) nq) 1 (.int .i64 ((a + 1 : Nat) : Int))
      rw [show ((a + 1 : Nat) : Int) = (a : Int) + 1 by omega] at hP2 hG2
      have HP2 := Lib.hid hP2
      have HG2 := Lib.hid hG2
      clear hP2 hG2 P1 c0
      go_upto_region 3 with fail
      generalize (w.drewN nq).setCell ⟨g, 1, none⟩ (.int .i64 ((a : Int) + 1)) = W2 at *
      clear c1 f1
      have HFL := Lib.hid (failC g s ⟨a + 1, d, 0⟩ 81 W2 HP2.out)
      go_wp2_with fail
      refine (HFL.out).mono ?_; rintro e X ⟨rfl, hp, hg2⟩
      have hgr := World.grownBy.trans HG2.out hg2
      clear hg2
      have hC := with0C s[a].toNat HB2.out X
      generalize withB 0 s[a].toNat = z at *
      unfold ValOld setA at hC
      have HC := Lib.hid hC
      clear hC
      go_wp2_with fail
      refine (HC.out).mono ?_; rintro e X2 ⟨rfl, o2⟩
      have HPX := Lib.hid (o2.block hp)
      have HGX := Lib.hid (grown_old_ hgr o2)
      have hl := leafC 2 z X2
      unfold setA at hl
      have HLF := Lib.hid hl
      clear hl o2 hp hgr
      go_wp2_with fail
      refine HLF.out.mono ?_
      rintro e wl ⟨v, rfl, hol, ol⟩
      have HLB : Hid (LB w s g (failP ⟨a + 1, d, 0⟩ 81) v (leafN 2 z) wl) := ⟨ol.block HPX.out, hol.base HGX.out.size, grown_old_ HGX.out ol⟩
      clear hol ol
      go_wp2_with fail
      go_ret
      rw [HE.out]
      exact ⟨v, rfl, HLB.out⟩
    · have b1 : ((s[a].toNat : Int) == 42) = false := by simp; omega
      have b2 : ((s[a].toNat : Int) == 43) = true := by simp; omega
      clear h
      go_enter Try.func89, Try.ntmps89
      go_wp2_with fail
      go_quiet (fail)
      have P1 : (w.drewN nq).heap[g]? = some (PzC s ⟨a, d, 0⟩) := HP.out
      have hP2 := PzC_at P1 (a + 1)
      have hG2 := grown_store (grown_drewN (grown_refl w (some g)) nq) 1 (.int .i64 ((a + 1 : Nat) : Int))
      rw [show ((a + 1 : Nat) : Int) = (a : Int) + 1 by omega] at hP2 hG2
      have HP2 := Lib.hid hP2
      have HG2 := Lib.hid hG2
      clear hP2 hG2 P1 c0
      go_upto_region 3 with fail
      generalize (w.drewN nq).setCell ⟨g, 1, none⟩ (.int .i64 ((a : Int) + 1)) = W2 at *
      clear c1 f1
      have HFL := Lib.hid (failC g s ⟨a + 1, d, 0⟩ 81 W2 HP2.out)
      go_wp2_with fail
      refine (HFL.out).mono ?_; rintro e X ⟨rfl, hp, hg2⟩
      have hgr := World.grownBy.trans HG2.out hg2
      clear hg2
      have hC := with0C s[a].toNat HB2.out X
      generalize withB 0 s[a].toNat = z at *
      unfold ValOld setA at hC
      have HC := Lib.hid hC
      clear hC
      go_wp2_with fail
      refine (HC.out).mono ?_; rintro e X2 ⟨rfl, o2⟩
      have HPX := Lib.hid (o2.block hp)
      have HGX := Lib.hid (grown_old_ hgr o2)
      have hl := leafC 2 z X2
      unfold setA at hl
      have HLF := Lib.hid hl
      clear hl o2 hp hgr
      go_wp2_with fail
      refine HLF.out.mono ?_
      rintro e wl ⟨v, rfl, hol, ol⟩
      have HLB : Hid (LB w s g (failP ⟨a + 1, d, 0⟩ 81) v (leafN 2 z) wl) := ⟨ol.block HPX.out, hol.base HGX.out.size, grown_old_ HGX.out ol⟩
      clear hol ol
      go_wp2_with fail
      go_ret
      rw [HE.out]
      exact ⟨v, rfl, HLB.out⟩
    · have b1 : ((s[a].toNat : Int) == 42) = false := by simp; omega
      have b2 : ((s[a].toNat : Int) == 43) = false := by simp; omega
      have b3 : ((s[a].toNat : Int) == 63) = true := by simp; omega
      clear h
      go_enter Try.func89, Try.ntmps89
      go_wp2_with fail
      go_quiet (fail)
      have P1 : (w.drewN nq).heap[g]? = some (PzC s ⟨a, d, 0⟩) := HP.out
      have hP2 := PzC_at P1 (a + 1)
      have hG2 := grown_store (grown_drewN (grown_refl w (some g)) nq) 1 (.int .i64 ((a + 1 : Nat) : Int))
      rw [show ((a + 1 : Nat) : Int) = (a : Int) + 1 by omega] at hP2 hG2
      have HP2 := Lib.hid hP2
      have HG2 := Lib.hid hG2
      clear hP2 hG2 P1 c0
      go_upto_region 3 with fail
      generalize (w.drewN nq).setCell ⟨g, 1, none⟩ (.int .i64 ((a : Int) + 1)) = W2 at *
      clear c1 f1
      have HFL := Lib.hid (failC g s ⟨a + 1, d, 0⟩ 81 W2 HP2.out)
      go_wp2_with fail
      refine (HFL.out).mono ?_; rintro e X ⟨rfl, hp, hg2⟩
      have hgr := World.grownBy.trans HG2.out hg2
      clear hg2
      have hC := with0C s[a].toNat HB2.out X
      generalize withB 0 s[a].toNat = z at *
      unfold ValOld setA at hC
      have HC := Lib.hid hC
      clear hC
      go_wp2_with fail
      refine (HC.out).mono ?_; rintro e X2 ⟨rfl, o2⟩
      have HPX := Lib.hid (o2.block hp)
      have HGX := Lib.hid (grown_old_ hgr o2)
      have hl := leafC 2 z X2
      unfold setA at hl
      have HLF := Lib.hid hl
      clear hl o2 hp hgr
      go_wp2_with fail
      refine HLF.out.mono ?_
      rintro e wl ⟨v, rfl, hol, ol⟩
      have HLB : Hid (LB w s g (failP ⟨a + 1, d, 0⟩ 81) v (leafN 2 z) wl) := ⟨ol.block HPX.out, hol.base HGX.out.size, grown_old_ HGX.out ol⟩
      clear hol ol
      go_wp2_with fail
      go_ret
      rw [HE.out]
      exact ⟨v, rfl, HLB.out⟩
  rw [if_neg hrep] at hR
  have n42 : ((s[a].toNat : Int) == 42) = false := by simp; omega
  have n43 : ((s[a].toNat : Int) == 43) = false := by simp; omega
  have n63 : ((s[a].toNat : Int) == 63) = false := by simp; omega
  clear hrep
  by_cases h40 : s[a].toNat = 40
  · rw [if_pos h40, hu] at hR
    have b1 : ((s[a].toNat : Int) == 40) = true := by simp; omega
    clear h40 hu
    go_enter Try.func89, Try.ntmps89
    go_wp2_with fail
    go_quiet (fail)
    have P1 : (w.drewN nq).heap[g]? = some (PzC s ⟨a, d, 0⟩) := HP.out
    have hP2 := PzC_at P1 (a + 1)
    have hG2 := grown_store (grown_drewN (grown_refl w (some g)) nq) 1 (.int .i64 ((a + 1 : Nat) : Int))
    rw [show ((a + 1 : Nat) : Int) = (a : Int) + 1 by omega] at hP2 hG2
    have HP2 := Lib.hid hP2
    have HG2 := Lib.hid hG2
    clear hP2 hG2 P1 c0
    go_upto_region 3 with fail
    generalize (w.drewN nq).setCell ⟨g, 1, none⟩ (.int .i64 ((a : Int) + 1)) = W2 at *
    clear c1 f1
    obtain ⟨c0, c1, c2, c3, f1, f2, f3⟩ := PzC_cells HP2.out
    simp only at c0 c1 c2 c3
    clear c0 c1 c3 f1 f3
    have hP3 := PzC_deep HP2.out (d + 1)
    have hG3 := grown_store HG2.out 2 (.int .i64 ((d + 1 : Nat) : Int))
    rw [show ((d + 1 : Nat) : Int) = (d : Int) + 1 by omega] at hP3 hG3
    simp only at hP3
    have HP3 := Lib.hid hP3
    have HG3 := Lib.hid hG3
    clear hP3 hG3 HP2 HG2
    go_upto_region 23 with fail
    generalize W2.setCell ⟨g, 2, none⟩ (.int .i64 ((d : Int) + 1)) = W3 at *
    clear c2 f2
    obtain ⟨c0, c1, c2, c3, f1, f2, f3⟩ := PzC_cells HP3.out
    simp only at c0 c1 c2 c3
    rw [show ((d + 1 : Nat) : Int) = (d : Int) + 1 by omega] at c2
    clear c0 c1 c3 f1 f2 f3
    by_cases hd24 : 24 < d + 1
    · have hE : R = ([], failP ⟨a + 1, d + 1, 0⟩ 84) := by rw [if_pos hd24] at hR; exact (Option.some.inj hR).symm
      have HE := Lib.hid hE
      have hdd : (24 : Int) < (d : Int) + 1 := by omega
      have HFL := Lib.hid (failC g s ⟨a + 1, d + 1, 0⟩ 84 W3 HP3.out)
      clear hE hR hd24
      go_wp2_with fail
      refine (HFL.out).mono ?_; rintro e X ⟨rfl, hp, hg2⟩
      have HLB : Hid (LB w s g (failP ⟨a + 1, d + 1, 0⟩ 84) (.slice none 0 0) [] X) := ⟨hp, Own.nil_ _ _ _ _, World.grownBy.trans HG3.out hg2⟩
      clear hp hg2 c2
      go_wp2_with fail
      go_ret
      rw [HE.out]
      exact ⟨_, rfl, HLB.out⟩
    · have hdd : ¬ (24 : Int) < (d : Int) + 1 := by omega
      rw [if_neg hd24] at hR
      have hq' : ({ at_ := ({ at_ := a + 1, deep := d, e := 0 } : Ps).at_, deep := ({ at_ := a + 1, deep := d, e := 0 } : Ps).deep + 1, e := ({ at_ := a + 1, deep := d, e := 0 } : Ps).e } : Ps) = ⟨a + 1, d + 1, 0⟩ := rfl
      rw [hq'] at hR
      cases hq : altP (bs s) f ⟨a + 1, d + 1, 0⟩ with
      | none => rw [hq] at hR; cases hR
      | some lr =>
        rw [hq] at hR
        obtain ⟨l, r⟩ := lr
        have hst2 : Start s.size ⟨a + 1, d + 1, 0⟩ := ⟨rfl, hlt, by simp only; omega⟩
        have hGood := (parse_good (bs s) f).1 ⟨a + 1, d + 1, 0⟩ (l, r) (by rw [bs_length]; exact hst2) hq
        rw [bs_length] at hGood
        have hA := IH.out g s ⟨a + 1, d + 1, 0⟩ (l, r) W3 HP3.out hs hst2 hq
        obtain ⟨ra, rd, re⟩ := r
        have hdp : d + 1 ≤ rd := hGood.dp
        have hab : ra ≤ s.size + 26 ∧ rd ≤ 25 := by
          by_cases h0 : re = 0
          · obtain ⟨y1, y2, y3, _⟩ := hGood.ok h0
            simp only at y1 y3
            omega
          · obtain ⟨y1, y2, _⟩ := hGood.er h0
            simp only at y1 y2
            omega
        obtain ⟨hab1, hab2⟩ := hab
        have hRE : R = (l, { at_ := (if re = 0 ∧ s.size ≤ ra then failP ⟨ra, rd, re⟩ 83 else ⟨ra, rd, re⟩ : Ps).at_ + 1, deep := (if re = 0 ∧ s.size ≤ ra then failP ⟨ra, rd, re⟩ 83 else ⟨ra, rd, re⟩ : Ps).deep - 1, e := (if re = 0 ∧ s.size ≤ ra then failP ⟨ra, rd, re⟩ 83 else ⟨ra, rd, re⟩ : Ps).e }) := by
          have := (Option.some.inj hR).symm
          rw [bs_length] at this
          exact this
        have HRE := Lib.hid hRE
        have HA := Lib.hid hA
        clear hA hRE hR hGood hst2 hq hq'
        go_wp2_with fail
        refine (HA.out).mono ?_; rintro e V ⟨v, rfl, hLB⟩
        have hL : LB w s g ⟨ra, rd, re⟩ v l V := ⟨hLB.pz, hLB.ow.base HG3.out.size, World.grownBy.trans HG3.out hLB.gr⟩
        clear hLB c2
        go_upto_region 27 with fail
        obtain ⟨c0, c1, c2, c3, f1, f2, f3⟩ := PzC_cells hL.pz
        simp only at c0 c1 c2 c3
        clear c2 f1 f2 f3
        by_cases h0 : re = 0
        · subst h0
          by_cases hl : s.size ≤ ra
          · have hd1 : decide (s.size ≤ ra) = true := decide_eq_true hl
            have hRE := HRE.out
            rw [if_pos ⟨rfl, hl⟩] at hRE
            obtain ⟨d2, e2, hfe⟩ : ∃ d2 e2, failP ⟨ra, rd, 0⟩ 83 = ⟨ra, d2, e2⟩ ∧ d2 = rd := by unfold failP; split <;> exact ⟨_, _, rfl, rfl⟩
            obtain ⟨hfe, rfl⟩ := hfe
            rw [hfe] at hRE
            have HE := Lib.hid hRE
            have HFE := Lib.hid hfe
            clear hRE HRE hl hfe
            go_quiet (fail)
            have hL2 := hL.drewN nq
            clear c0 c1 c3 hL
            have HFL := Lib.hid (failC g s ⟨ra, d2, 0⟩ 83 _ hL2.pz)
            go_wp2_with fail
            refine (HFL.out).mono ?_; rintro e X ⟨rfl, hp, hg2⟩
            rw [HFE.out] at hp
            have hL3 := hL2.keep hp hg2
            clear hL2 hp hg2 HFL hd1
            obtain ⟨c0, c1, c2, c3, f1, f2, f3⟩ := PzC_cells hL3.pz
            simp only at c0 c1 c2 c3
            clear c0 c2 c3 f2 f3
            have hL4 := hL3.up
            simp only [upP] at hL4
            clear hL3
            go_upto_region 30 with fail
            generalize X.setCell ⟨g, 1, none⟩ (.int .i64 ((ra : Int) + 1)) = X4 at *
            clear c1 f1
            obtain ⟨c0, c1, c2, c3, f1, f2, f3⟩ := PzC_cells hL4.pz
            simp only at c0 c1 c2 c3
            clear c0 c1 c3 f1 f3
            have hP5 := PzC_deep hL4.pz (d2 - 1)
            rw [show ((d2 - 1 : Nat) : Int) = (d2 : Int) - 1 by omega] at hP5
            simp only at hP5
            have HL5 := Lib.hid (hL4.keep hP5 (grown_store (grown_refl X4 _) 2 (.int .i64 ((d2 : Int) - 1))))
            clear hP5 hL4
            go_wp2_with fail
            go_ret
            rw [HE.out]
            exact ⟨v, rfl, HL5.out⟩
          · have hd1 : decide (s.size ≤ ra) = false := decide_eq_false hl
            have hRE := HRE.out
            rw [if_neg (fun h => hl h.2)] at hRE
            have HE := Lib.hid hRE
            clear hRE HRE hl
            go_quiet (fail)
            have hL3 := hL.drewN nq
            clear c0 c1 c3 hL
            generalize V.drewN nq = X at *
            clear hd1
            obtain ⟨c0, c1, c2, c3, f1, f2, f3⟩ := PzC_cells hL3.pz
            simp only at c0 c1 c2 c3
            clear c0 c2 c3 f2 f3
            have hL4 := hL3.up
            simp only [upP] at hL4
            clear hL3
            go_upto_region 30 with fail
            generalize X.setCell ⟨g, 1, none⟩ (.int .i64 ((ra : Int) + 1)) = X4 at *
            clear c1 f1
            obtain ⟨c0, c1, c2, c3, f1, f2, f3⟩ := PzC_cells hL4.pz
            simp only at c0 c1 c2 c3
            clear c0 c1 c3 f1 f3
            have hP5 := PzC_deep hL4.pz (rd - 1)
            rw [show ((rd - 1 : Nat) : Int) = (rd : Int) - 1 by omega] at hP5
            simp only at hP5
            have HL5 := Lib.hid (hL4.keep hP5 (grown_store (grown_refl X4 _) 2 (.int .i64 ((rd : Int) - 1))))
            clear hP5 hL4
            go_wp2_with fail
            go_ret
            rw [HE.out]
            exact ⟨v, rfl, HL5.out⟩
        · have hd1 : (re == 0) = false := by simpa using h0
          have hRE := HRE.out
          rw [if_neg (fun h => h0 h.1)] at hRE
          have HE := Lib.hid hRE
          clear hRE HRE h0
          go_quiet (fail)
          have hL3 := hL.drewN nq
          clear c0 c1 c3 hL
          generalize V.drewN nq = X at *
          clear hd1
          obtain ⟨c0, c1, c2, c3, f1, f2, f3⟩ := PzC_cells hL3.pz
          simp only at c0 c1 c2 c3
          clear c0 c2 c3 f2 f3
          have hL4 := hL3.up
          simp only [upP] at hL4
          clear hL3
          go_upto_region 30 with fail
          generalize X.setCell ⟨g, 1, none⟩ (.int .i64 ((ra : Int) + 1)) = X4 at *
          clear c1 f1
          obtain ⟨c0, c1, c2, c3, f1, f2, f3⟩ := PzC_cells hL4.pz
          simp only at c0 c1 c2 c3
          clear c0 c1 c3 f1 f3
          have hP5 := PzC_deep hL4.pz (rd - 1)
          rw [show ((rd - 1 : Nat) : Int) = (rd : Int) - 1 by omega] at hP5
          simp only at hP5
          have HL5 := Lib.hid (hL4.keep hP5 (grown_store (grown_refl X4 _) 2 (.int .i64 ((rd : Int) - 1))))
          clear hP5 hL4
          go_wp2_with fail
          go_ret
          rw [HE.out]
          exact ⟨v, rfl, HL5.out⟩
  have n40 : ((s[a].toNat : Int) == 40) = false := by simp; omega
  rw [if_neg h40, hu] at hR
  have HE := Lib.hid (Option.some.inj hR).symm
  clear hR h40 hu
  go_enter Try.func89, Try.ntmps89
  go_wp2_with fail
  go_quiet (fail)
  have P1 : (w.drewN nq).heap[g]? = some (PzC s ⟨a, d, 0⟩) := HP.out
  have hP2 := PzC_at P1 (a + 1)
  have hG2 := grown_store (grown_drewN (grown_refl w (some g)) nq) 1 (.int .i64 ((a + 1 : Nat) : Int))
  rw [show ((a + 1 : Nat) : Int) = (a : Int) + 1 by omega] at hP2 hG2
  have HP2 := Lib.hid hP2
  have HG2 := Lib.hid hG2
  clear hP2 hG2 P1 c0
  go_upto_region 3 with fail
  generalize (w.drewN nq).setCell ⟨g, 1, none⟩ (.int .i64 ((a : Int) + 1)) = W2 at *
  clear c1 f1
  have hp := HP2.out
  have hgr := HG2.out
  generalize W2 = X at *
  have hC := with0C s[a].toNat HB2.out X
  generalize withB 0 s[a].toNat = z at *
  unfold ValOld setA at hC
  have HC := Lib.hid hC
  clear hC
  go_wp2_with fail
  refine (HC.out).mono ?_; rintro e X2 ⟨rfl, o2⟩
  have HPX := Lib.hid (o2.block hp)
  have HGX := Lib.hid (grown_old_ hgr o2)
  have hl := leafC 2 z X2
  unfold setA at hl
  have HLF := Lib.hid hl
  clear hl o2 hp hgr
  go_wp2_with fail
  refine HLF.out.mono ?_
  rintro e wl ⟨v, rfl, hol, ol⟩
  have HLB : Hid (LB w s g ⟨a + 1, d, 0⟩ v (leafN 2 z) wl) := ⟨ol.block HPX.out, hol.base HGX.out.size, grown_old_ HGX.out ol⟩
  clear hol ol
  go_wp2_with fail
  go_ret
  rw [HE.out]
  exact ⟨v, rfl, HLB.out⟩
end Go.Proofs.Ythadkjgadhbidaa
